/- The engine, part G: the soundness of the operations that touch no memory. -/
import Derived.Test.YtehnjdcahbehjaaGreatDoorEngF
import Derived.ChangeKeysEq
namespace Go.Eng
open Go
set_option linter.unusedSimpArgs false
set_option linter.unusedVariables false

theorem intOf?_conc {ρ : Names} {v : AV} {k : IntKind} {n : Int} {l : Bool} {u : Value} (h : intOf? v = some (k, n, l)) (hc : conc ρ v = some u) : u = .int k n := by
  cases v <;> simp_all [intOf?, conc]
theorem boolOf?_conc {ρ : Names} {v : AV} {b l : Bool} {u : Value} (h : boolOf? v = some (b, l)) (hc : conc ρ v = some u) : u = .bool b := by
  cases v <;> simp_all [boolOf?, conc]
theorem mkInt_conc (ρ : Names) (l : Bool) (k : IntKind) (n : Int) : conc ρ (mkInt l k n) = some (.int k n) := by cases l <;> rfl
theorem mkBool_conc (ρ : Names) (l b : Bool) : conc ρ (mkBool l b) = some (.bool b) := by cases l <;> first | rfl | exact conc_ofBool ρ b

theorem pickAV_conc {ρ : Names} {c x y v : AV} {uc ux uy : Value} (h : pickAV c x y = some v) (hc : conc ρ c = some uc) (hx : conc ρ x = some ux) (hy : conc ρ y = some uy) :
    ∃ b, uc = .bool b ∧ conc ρ v = some (if b then ux else uy) := by
  cases c with
  | tt => simp only [pickAV, Option.some.injEq] at h; subst h; simp only [conc, Option.some.injEq] at hc; exact ⟨true, hc.symm, by simpa using hx⟩
  | ff => simp only [pickAV, Option.some.injEq] at h; subst h; simp only [conc, Option.some.injEq] at hc; exact ⟨false, hc.symm, by simpa using hy⟩
  | bool b =>
    simp only [conc, Option.some.injEq] at hc
    refine ⟨b, hc.symm, ?_⟩
    simp only [pickAV, pickB] at h
    split at h
    · rename_i e1 e2
      cases h
      rw [boolOf?_conc e1 hx, boolOf?_conc e2 hy]
      cases b <;> rfl
    · split at h
      · rename_i k a _ k' b' _ e1 e2
        split at h
        · rename_i e3
          cases h
          have e3 : k = k' := by simpa using e3
          subst e3
          rw [intOf?_conc e1 hx, intOf?_conc e2 hy]
          cases b <;> rfl
        · cases h
      · split at h
        · cases h
          simp only [conc, Option.some.injEq] at hx hy
          subst hx hy
          cases b <;> rfl
        · cases h
  | _ => simp [pickAV] at h

section
variable {P : Program} {E : TT} {o : Oper} {t : List (Nat × AV)} {h : List (Nat × Ent)} {nn : Nat} {K : Con → Prop}

theorem ok_move (hb : ∀ i e, get h i = some e → i < nn) {x : Operand} (ho : o.op = .move x ∨ o.op = .assign x) (hv : withV t x fun v => K (conPure nn v)) : ∃ c, Good P o t h nn c ∧ K c := by
  obtain ⟨v, hv, hk⟩ := withV_elim hv
  refine ⟨_, good_pure hb fun ρ a w hop => ?_, hk⟩
  obtain ⟨u, hu, he⟩ := hop x (by rcases ho with ho | ho <;> simp [ho, Op.operands]) v hv
  refine ⟨u, hu, ?_⟩
  rcases ho with ho | ho <;> simp [execOp, ho, he]

theorem ok_pick (hb : ∀ i e, get h i = some e → i < nn) {c a b : Operand} (ho : o.op = .pick c a b)
    (hv : match evS t c, evS t a, evS t b with
      | some c, some x, some y => match pickAV c x y with
        | some v => K (conPure nn v)
        | none => False
      | _, _, _ => False) : ∃ c, Good P o t h nn c ∧ K c := by
  split at hv
  · rename_i cv x y hc hx hy
    split at hv
    · rename_i v hp
      refine ⟨_, good_pure hb fun ρ act w hop => ?_, hv⟩
      obtain ⟨uc, huc, ec⟩ := hop c (by simp [ho, Op.operands]) _ hc
      obtain ⟨ux, hux, ex⟩ := hop a (by simp [ho, Op.operands]) _ hx
      obtain ⟨uy, huy, ey⟩ := hop b (by simp [ho, Op.operands]) _ hy
      obtain ⟨bb, rfl, hcv⟩ := pickAV_conc hp huc hux huy
      refine ⟨_, hcv, ?_⟩
      simp [execOp, ho, ec, ex, ey, asBool]
    · exact hv.elim
  · exact hv.elim

theorem nilVC_ok {v : AV} {K : AV → Prop} (hv : nilVC v K) : K v ∧ ∀ ρ u, conc ρ v = some u → (∃ a, u = .pointer (some a)) ∨ ∃ f c, u = .func (.func f) #[] c := by
  cases v with
  | ptr i o => exact ⟨hv, fun ρ u hc => by simp only [conc] at hc; split at hc <;> cases hc; exact .inl ⟨_, rfl⟩⟩
  | ep i a b d => exact ⟨hv, fun ρ u hc => by simp only [conc] at hc; split at hc <;> cases hc; exact .inl ⟨_, rfl⟩⟩
  | ip i a b d => exact ⟨hv, fun ρ u hc => by simp only [conc] at hc; split at hc <;> cases hc; exact .inl ⟨_, rfl⟩⟩
  | fn f cs => exact ⟨hv, fun ρ u hc => by simp only [conc] at hc; split at hc <;> cases hc; exact .inr ⟨_, _, rfl⟩⟩
  | _ => exact hv.elim

theorem ok_nil (hb : ∀ i e, get h i = some e → i < nn) {x : Operand} (ho : o.op = .nilCheck x) (hv : withV t x fun v => nilVC v fun v => K (conPure nn v)) : ∃ c, Good P o t h nn c ∧ K c := by
  obtain ⟨v, hv, hk⟩ := withV_elim hv
  obtain ⟨hk, hsh⟩ := nilVC_ok hk
  refine ⟨_, good_pure hb fun ρ a w hop => ?_, hk⟩
  obtain ⟨u, hu, he⟩ := hop x (by simp [ho, Op.operands]) v hv
  refine ⟨u, hu, ?_⟩
  rcases hsh ρ u hu with ⟨ad, rfl⟩ | ⟨f, c, rfl⟩ <;> simp [execOp, ho, he]

/-! ### integers, texts, bools -/
theorem intBin_ok {op : BinOp} {k k' : IntKind} {l : Bool} {a b : Int} {K : AV → Prop} (hk : op = .shl ∨ op = .shr ∨ k = k') (hv : intBin op k l a b K) :
    ∃ v, K v ∧ ∀ ρ T w, ∃ u, conc ρ v = some u ∧ (binOp op T (.int k a) (.int k' b)).run P w = .ok u w := by
  cases op <;> simp only [intBin] at hv
  case shl => exact ⟨_, hv.2, fun ρ T w => ⟨_, mkInt_conc .., by simp [binOp, Op.shift, show ¬ b < 0 by omega]⟩⟩
  case shr => exact ⟨_, hv.2, fun ρ T w => ⟨_, mkInt_conc .., by simp [binOp, Op.shift, show ¬ b < 0 by omega]⟩⟩
  all_goals
    obtain rfl : k = k' := by simpa using hk
    first
      | exact ⟨_, hv, fun ρ T w => ⟨_, mkInt_conc .., by simp [binOp, Op.intArith, Op.intBits]⟩⟩
      | exact ⟨_, hv.2, fun ρ T w => ⟨_, mkInt_conc .., by simp [binOp, Op.intDiv, hv.1]⟩⟩
      | exact ⟨_, hv, fun ρ T w => ⟨_, mkBool_conc .., by simp [binOp, Op.intCmp]⟩⟩

theorem strBin_ok {op : BinOp} {a b : ByteArray} {K : AV → Prop} (hv : strBin op a b K) :
    ∃ v, K v ∧ ∀ ρ T w, ∃ u, conc ρ v = some u ∧ (binOp op T (.string a) (.string b)).run P w = .ok u w := by
  cases op <;> simp only [strBin] at hv
  case add =>
    refine ⟨_, hv.2, fun ρ T w => ⟨_, rfl, ?_⟩⟩
    have h1 := hv.1
    have : ¬ (((a.size + b.size : Nat) : Int) > IntKind.i64.max) := by
      have : IntKind.i64.max = 9223372036854775807 := by decide
      omega
    simp [binOp, Op.stringOp, this]
    omega
  all_goals first
    | exact hv.elim
    | exact ⟨_, hv, fun ρ T w => ⟨_, rfl, by simp [binOp, Op.stringOp]⟩⟩
end

def wrapV (agg : Bool) (cs : List Value) : Value := match agg with
  | true => .agg cs.toArray
  | false => cs.headD undef
theorem zeroCells_length : ∀ {a : List AV} {v : List Value}, zeroCells a v = true → a.length = v.length
  | [], [], _ => rfl
  | [], _ :: _, h => by simp [zeroCells] at h
  | _ :: _, [], h => by simp [zeroCells] at h
  | a :: r, v :: s, h => by
    simp only [zeroCells, Bool.and_eq_true] at h
    simp [zeroCells_length h.2]
theorem oneCell_cells {z : Value} (h : z.oneCell' = true) : z.cells = #[z] := by
  cases z <;> simp_all [Value.oneCell', Value.cells]
section
variable {P : Program} {T : Nat} {i : TI}
theorem TFacts.one (f : TFacts P T i) (h : i.kind.agg = false) : i.size = 1 := by
  obtain ⟨z, _, h1, _, h2⟩ := f.zero
  have h3 := zeroCells_length h1
  rw [oneCell_cells (h2 h)] at h3
  rw [f.zlen] at h3
  simpa using h3
theorem TFacts.part (f : TFacts P T i) {cs : List Value} {off : Nat} (h : off + i.size ≤ cs.length) (w : World) :
    (Go.part T cs.toArray off).run P w = .ok (wrapV i.kind.agg ((cs.drop off).take i.size)) w := by
  simp only [Go.part, Sem.run_bind, f.isAgg, Result.andThen_ok]
  cases ha : i.kind.agg with
  | true => simp [f.size, wrapV, List.extract_toArray]
  | false =>
    have h1 := f.one ha
    have hlt : off < cs.length := by omega
    have e1 : (cs.drop off).take 1 = [cs[off]] := by
      rw [List.drop_eq_getElem_cons hlt]; rfl
    simp [wrapV, h1, hlt, e1]
theorem TFacts.cells (f : TFacts P T i) : P.cellsOf T = i.size := by
  obtain ⟨ti, h1, h2, _⟩ := f.info
  simp [Program.cellsOf, h1, h2]
end

theorem eqCell_ok {k : TK} {x y : AV} {e : Bool} (h : eqCell k x y = some e) {d : TypeDesc} (hk : k.is d = true) {P : Program} {T : Nat} (hu : P.underlying T = some d) {ρ : Names} {ux uy : Value}
    (hx : conc ρ x = some ux) (hy : conc ρ y = some uy) (D : Nat) (w : World) : (Op.equalIn (D + 1) T ux uy).run P w = .ok e w := by
  cases k with
  | bool =>
    cases d <;> simp [TK.is] at hk
    simp only [eqCell] at h
    split at h
    · rename_i e1 e2
      cases h
      rw [boolOf?_conc e1 hx, boolOf?_conc e2 hy]
      exact run_equalIn_bool' w D T _ _ hu
    · cases h
  | int k =>
    cases d <;> simp [TK.is] at hk
    subst hk
    simp only [eqCell] at h
    split at h
    · rename_i k1 a1 _ k2 b1 _ e1 e2
      split at h
      · rename_i e3
        cases h
        have e3 : k1 = k2 := by simpa using e3
        subst e3
        rw [intOf?_conc e1 hx, intOf?_conc e2 hy]
        exact run_equalIn_int w D T _ _ _ _ hu
      · cases h
    · cases h
  | string =>
    cases d <;> simp [TK.is] at hk
    simp only [eqCell] at h
    split at h <;> simp_all
    subst h
    simp only [conc, Option.some.injEq] at hx hy
    subst hx hy
    rw [beq_toListBytes]
    exact run_equalIn_string w D T _ _ hu
  | _ => simp [eqCell] at h

theorem eqTy_ok {P : Program} {E : TT} (hE : E.Ok P) {ρ : Names} : ∀ (d T : Nat) (xs ys : List AV) (e : Bool) (i : TI), eqTy E d T xs ys = some e → E.look T = some i → ∀ (cx cy : List Value), concL ρ xs = some cx → concL ρ ys = some cy →
    ∀ D, d ≤ D → ∀ w, (Op.equalIn D T (wrapV i.kind.agg cx) (wrapV i.kind.agg cy)).run P w = .ok e w := by
  intro d
  induction d with
  | zero => intro T xs ys e i h; simp [eqTy] at h
  | succ d ih =>
    intro T xs ys e i h hl cx cy hcx hcy D hD w
    obtain ⟨D, rfl⟩ : ∃ D', D = D' + 1 := ⟨D - 1, by omega⟩
    have f := TI.facts (TT.look_ok hE hl)
    obtain ⟨ds, hk, hu, _⟩ := f.und
    simp only [eqTy, hl] at h
    cases hkk : i.kind with
    | struct fs =>
      rw [hkk] at hk
      obtain ⟨gs, rfl⟩ : ∃ gs, ds = .struct gs := by cases ds <;> simp [TK.is] at hk; exact ⟨_, rfl⟩
      simp only [TK.is] at hk
      have hfo : P.fieldsOf T = gs := by simp [Program.fieldsOf, hu]
      simp only [hkk] at h
      simp only [TK.agg, wrapV]
      rw [run_equalIn_struct w D T _ _ (by rw [hfo]; exact hu) (f.held ⟨fs, hkk⟩), hfo]
      generalize gs.toList = gl at hk
      clear hkk hu hfo
      induction fs generalizing gl e w with
      | nil =>
        cases gl with
        | nil => simp only [eqFields, Option.some.injEq] at h; subst h; simp [Op.eqFields]
        | cons g gl => simp [fieldsIn] at hk
      | cons x fs ihf =>
        obtain ⟨o, ft⟩ := x
        cases gl with
        | nil => simp [fieldsIn] at hk
        | cons g gl =>
          simp only [fieldsIn, Bool.and_eq_true] at hk
          obtain ⟨⟨⟨h1, h2⟩, h3⟩, h4⟩ := hk
          have h1 := Nat.eq_of_beq_eq_true h1
          have h2 := Nat.eq_of_beq_eq_true h2
          have h3 : g.name ≠ "_" := by simpa using h3
          simp only [eqFields] at h
          cases hfl : E.look ft with
          | none => simp [hfl] at h
          | some fi =>
            simp only [hfl] at h
            split at h
            · rename_i a b ha hb
              split at h
              · rename_i ea hea
                split at h
                · rename_i r hr
                  cases h
                  have ff := TI.facts (TT.look_ok hE hfl)
                  obtain ⟨ca, la⟩ := part?_conc hcx ha
                  obtain ⟨cb, lb⟩ := part?_conc hcy hb
                  simp only [Op.eqFields, if_pos h3, Sem.run_bind, ← h1, ← h2, ff.part la, ff.part lb, Result.andThen_ok,
                    ih ft a b ea fi hea hfl _ _ ca cb D (by omega)]
                  cases ea
                  · simp
                  · simp only [Bool.not_true, Bool.false_eq_true, if_false, Bool.true_and]
                    exact ihf r w hr gl h4
                · cases h
              · cases h
            · cases h
    | array len elem =>
      rw [hkk] at hk
      obtain ⟨len', elem', rfl⟩ : ∃ a b, ds = .array a b := by cases ds <;> simp [TK.is] at hk; exact ⟨_, _, rfl⟩
      simp only [TK.is, Bool.and_eq_true] at hk
      have e1 := Nat.eq_of_beq_eq_true hk.1
      have e2 := Nat.eq_of_beq_eq_true hk.2
      subst e1 e2
      simp only [hkk] at h
      cases hel : E.look elem with
      | none => simp [hel] at h
      | some ie =>
        simp only [hel] at h
        have fe := TI.facts (TT.look_ok hE hel)
        obtain ⟨ti, hti, hs, _⟩ := fe.info
        simp only [TK.agg, wrapV]
        rw [run_equalIn_array w D _ _ hu hti, fe.cells, List.range_eq_range']
        -- items from k on, over what is left
        have key : ∀ n k xs' ys' e, eqElems (eqTy E d elem) ie.size n xs' ys' = some e → xs' = xs.drop (k * ie.size) → ys' = ys.drop (k * ie.size) → ∀ w,
            (Op.eqItems D elem ie.size cx.toArray cy.toArray (List.range' k n)).run P w = .ok e w := by
          intro n
          induction n with
          | zero => intro k xs' ys' e h _ _ w; simp only [eqElems, Option.some.injEq] at h; subst h; simp [Op.eqItems]
          | succ n ihn =>
            intro k xs' ys' e h hx hy w
            simp only [eqElems] at h
            split at h
            · rename_i a b xs2 ys2 ha hb hx2 hy2
              split at h
              · rename_i ea hea
                split at h
                · rename_i r hr
                  cases h
                  obtain ⟨ha1, ha2⟩ := takeE_spec ha
                  obtain ⟨hb1, hb2⟩ := takeE_spec hb
                  obtain ⟨hx3, _⟩ := dropE_spec hx2
                  obtain ⟨hy3, _⟩ := dropE_spec hy2
                  subst hx hy
                  have ca : concL ρ a = some ((cx.drop (k * ie.size)).take ie.size) := by rw [ha1]; exact concL_take (concL_drop hcx _) _
                  have cb : concL ρ b = some ((cy.drop (k * ie.size)).take ie.size) := by rw [hb1]; exact concL_take (concL_drop hcy _) _
                  have lx := concL_length hcx
                  have ly := concL_length hcy
                  have la : k * ie.size + ie.size ≤ cx.length := by simp at ha2; by_cases hz : ie.size = 0 <;> simp_all <;> omega
                  have lb : k * ie.size + ie.size ≤ cy.length := by simp at hb2; by_cases hz : ie.size = 0 <;> simp_all <;> omega
                  simp only [List.range'_succ, Op.eqItems, Sem.run_bind, fe.part la, fe.part lb, Result.andThen_ok, ih elem a b ea ie hea hel _ _ ca cb D (by omega)]
                  cases ea
                  · simp
                  · simp only [Bool.not_true, Bool.false_eq_true, if_false, Bool.true_and]
                    refine ihn (k + 1) xs2 ys2 r hr ?_ ?_ w
                    · rw [hx3, List.drop_drop, Nat.succ_mul]
                    · rw [hy3, List.drop_drop, Nat.succ_mul]
                · cases h
              · cases h
            · cases h
        exact key len 0 xs ys e h (by simp) (by simp) w
    | _ =>
      simp only [hkk] at h
      split at h
      · rename_i x y
        obtain ⟨ux, vx, hux, hvx, rfl⟩ := concL_cons.1 hcx
        obtain ⟨uy, vy, huy, hvy, rfl⟩ := concL_cons.1 hcy
        rw [hkk] at hk
        simpa [TK.agg, wrapV] using eqCell_ok h hk hu hux huy D w
      · cases h

theorem boolK_ok {op : BinOp} {lit e : Bool} {K : AV → Prop} (h : boolK op lit e K) : (op = .eql ∧ K (mkBool lit e)) ∨ (op = .neq ∧ K (mkBool lit (!e))) := by
  cases op <;> simp [boolK] at h <;> simp [h]

theorem run_eqGuard_plain {P : Program} (op : BinOp) (T : Nat) (xo yo : Operand) (x y : Value) (w : World) (h1 : x ≠ .nilIface) (h2 : ∀ a, x ≠ .agg a) : (eqGuard op T xo yo x y).run P w = .ok () w := by
  unfold eqGuard
  cases op <;> simp <;> cases x <;> simp_all

theorem run_eqIn_ptr1 {P : Program} {T el : Nat} (hu : ∀ w, (underlying T).run P w = .ok (.pointer el) w) (D : Nat) (b : Option Addr) (w : World) : (Op.equalIn (D + 1) T (.pointer none) (.pointer b)).run P w = .ok b.isNone w := by
  simp [Op.equalIn, hu]
theorem run_eqIn_ptr2 {P : Program} {T el : Nat} (hu : ∀ w, (underlying T).run P w = .ok (.pointer el) w) (D : Nat) (a : Addr) (w : World) : (Op.equalIn (D + 1) T (.pointer (some a)) (.pointer none)).run P w = .ok false w := by
  simp [Op.equalIn, hu]

theorem eqPtr_ok {P : Program} {T el : Nat} (hu : ∀ w, (underlying T).run P w = .ok (.pointer el) w) {x y : AV} {e : Bool} (he : eqPtr x y = some e) {ρ : Names} {ux uy : Value} (hx : conc ρ x = some ux) (hy : conc ρ y = some uy) :
    (∃ a b, ux = .pointer a ∧ uy = .pointer b) ∧ ∀ w, (Op.equal T ux uy).run P w = .ok e w := by
  unfold eqPtr at he
  split at he
  · cases he
    simp only [conc, Option.some.injEq] at hx hy
    subst hx hy
    exact ⟨⟨_, _, rfl, rfl⟩, fun w => run_eqIn_ptr1 hu 9999 none w⟩
  · cases he
    simp only [conc, Option.some.injEq] at hx hy
    split at hx <;> cases hx
    subst hy
    exact ⟨⟨_, _, rfl, rfl⟩, fun w => run_eqIn_ptr2 hu 9999 _ w⟩
  · cases he
    simp only [conc, Option.some.injEq] at hx hy
    split at hy <;> cases hy
    subst hx
    exact ⟨⟨_, _, rfl, rfl⟩, fun w => run_eqIn_ptr1 hu 9999 _ w⟩
  · cases he

theorem binVC_ok {P : Program} {E : TT} (hE : E.Ok P) {op : BinOp} {T : Nat} {x y : AV} {K : AV → Prop} (hv : binVC E op T x y K) :
    ∃ v, K v ∧ ∀ ρ ux uy, conc ρ x = some ux → conc ρ y = some uy → ∀ (w : World) (xo yo : Operand), ∃ u, conc ρ v = some u ∧
      (eqGuard op T xo yo ux uy).run P w = .ok () w ∧ (binOp op T ux uy).run P w = .ok u w := by
  unfold binVC at hv
  split at hv
  · rename_i a b
    obtain ⟨v, hk, hr⟩ := strBin_ok (P := P) hv
    refine ⟨v, hk, fun ρ ux uy hx hy w xo yo => ?_⟩
    simp only [conc, Option.some.injEq] at hx hy
    subst hx hy
    obtain ⟨u, hu, hrun⟩ := hr ρ T w
    exact ⟨u, hu, run_eqGuard_plain _ _ _ _ _ _ _ (by simp) (by simp), hrun⟩
  · rename_i a b
    split at hv
    · rename_i i hl
      split at hv
      · rename_i e hag he
        have f := TI.facts (TT.look_ok hE hl)
        have fin : ∀ ρ ux uy, conc ρ (.agg a) = some ux → conc ρ (.agg b) = some uy → ∃ cx cy : Array Value, ux = .agg cx ∧ uy = .agg cy ∧ ∀ w, (Op.equalIn 10000 T ux uy).run P w = .ok e w := by
          intro ρ ux uy hx hy
          simp only [conc] at hx hy
          split at hx
          · rename_i cx hcx
            split at hy
            · rename_i cy hcy
              cases hx; cases hy
              refine ⟨_, _, rfl, rfl, fun w => ?_⟩
              have := eqTy_ok hE (ρ := ρ) 100 T a b e i he hl cx cy hcx hcy 10000 (by omega) w
              rw [hag] at this
              exact this
            · cases hy
          · cases hx
        rcases boolK_ok hv with ⟨rfl, hk⟩ | ⟨rfl, hk⟩
        · refine ⟨_, hk, fun ρ ux uy hx hy w xo yo => ?_⟩
          obtain ⟨cx, cy, rfl, rfl, hrun⟩ := fin ρ ux uy hx hy
          exact ⟨_, mkBool_conc .., run_eqGuard_agg w _ T xo yo cx cy f.guard, by rw [run_eql_struct, hrun]; rfl⟩
        · refine ⟨_, hk, fun ρ ux uy hx hy w xo yo => ?_⟩
          obtain ⟨cx, cy, rfl, rfl, hrun⟩ := fin ρ ux uy hx hy
          exact ⟨_, mkBool_conc .., run_eqGuard_agg w _ T xo yo cx cy f.guard, by rw [run_neq_struct, hrun]; rfl⟩
      · exact hv.elim
    · exact hv.elim
  · split at hv
    · rename_i k a la k' b lb e1 e2
      split at hv
      · rename_i hs
        have hkk : op = .shl ∨ op = .shr ∨ k = k' := by
          cases op <;> simp_all [isShift]
        obtain ⟨v, hk, hr⟩ := intBin_ok (P := P) hkk hv
        refine ⟨v, hk, fun ρ ux uy hx hy w xo yo => ?_⟩
        obtain rfl := intOf?_conc e1 hx
        obtain rfl := intOf?_conc e2 hy
        obtain ⟨u, hu, hrun⟩ := hr ρ T w
        exact ⟨u, hu, run_eqGuard_plain _ _ _ _ _ _ _ (by simp) (by simp), hrun⟩
      · exact hv.elim
    · split at hv
      · rename_i a la b lb i e1 e2 hl
        split at hv
        · rename_i hkk
          have f := TI.facts (TT.look_ok hE hl)
          obtain ⟨d, hd, hu, _⟩ := f.und
          rw [hkk] at hd
          have hu : P.underlying T = some .bool := by cases d <;> simp [TK.is] at hd; exact hu
          rcases boolK_ok hv with ⟨rfl, hk⟩ | ⟨rfl, hk⟩
          · refine ⟨_, hk, fun ρ ux uy hx hy w xo yo => ?_⟩
            obtain rfl := boolOf?_conc e1 hx
            obtain rfl := boolOf?_conc e2 hy
            exact ⟨_, mkBool_conc .., run_eqGuard_plain _ _ _ _ _ _ _ (by simp) (by simp), by simp [binOp, run_equal_bool w T a b hu]⟩
          · refine ⟨_, hk, fun ρ ux uy hx hy w xo yo => ?_⟩
            obtain rfl := boolOf?_conc e1 hx
            obtain rfl := boolOf?_conc e2 hy
            exact ⟨_, mkBool_conc .., run_eqGuard_plain _ _ _ _ _ _ _ (by simp) (by simp), by simp [binOp, run_equal_bool w T a b hu]⟩
        · exact hv.elim
      · split at hv
        · rename_i e i he hl
          split at hv
          · rename_i el hkk
            have f := TI.facts (TT.look_ok hE hl)
            obtain ⟨d, hd, _, hu⟩ := f.und
            rw [hkk] at hd
            obtain ⟨el', rfl⟩ : ∃ el', d = .pointer el' := by cases d <;> simp [TK.is] at hd; exact ⟨_, rfl⟩
            rcases boolK_ok hv with ⟨rfl, hk⟩ | ⟨rfl, hk⟩
            · refine ⟨_, hk, fun ρ ux uy hx hy w xo yo => ?_⟩
              obtain ⟨⟨a, b, rfl, rfl⟩, h3⟩ := eqPtr_ok hu he hx hy
              refine ⟨_, mkBool_conc .., run_eqGuard_plain _ _ _ _ _ _ _ (by simp) (by simp), ?_⟩
              simp only [binOp, Sem.run_bind, h3, Result.andThen_ok, Sem.run_pure]
            · refine ⟨_, hk, fun ρ ux uy hx hy w xo yo => ?_⟩
              obtain ⟨⟨a, b, rfl, rfl⟩, h3⟩ := eqPtr_ok hu he hx hy
              refine ⟨_, mkBool_conc .., run_eqGuard_plain _ _ _ _ _ _ _ (by simp) (by simp), ?_⟩
              simp only [binOp, Sem.run_bind, h3, Result.andThen_ok, Sem.run_pure]
          · exact hv.elim
        · exact hv.elim

theorem unVC_ok {op : UnOp} {x : AV} {K : AV → Prop} (hv : unVC op x K) : ∃ v, K v ∧ ∀ (P : Program) ρ ux, conc ρ x = some ux → ∀ w, ∃ u, conc ρ v = some u ∧ (Op.unary op ux).run P w = .ok u w := by
  unfold unVC at hv
  split at hv
  · exact ⟨_, hv, fun P ρ ux hx w => by simp only [conc, Option.some.injEq] at hx; subst hx; exact ⟨_, rfl, by simp [Op.unary]⟩⟩
  · exact ⟨_, hv, fun P ρ ux hx w => by simp only [conc, Option.some.injEq] at hx; subst hx; exact ⟨_, rfl, by simp [Op.unary]⟩⟩
  · exact ⟨_, hv, fun P ρ ux hx w => by simp only [conc, Option.some.injEq] at hx; subst hx; exact ⟨_, rfl, by simp [Op.unary]⟩⟩
  · split at hv
    · rename_i e1
      exact ⟨_, hv, fun P ρ ux hx w => by obtain rfl := intOf?_conc e1 hx; exact ⟨_, mkInt_conc .., by simp [Op.unary, Op.intArith]⟩⟩
    · exact hv.elim
  · split at hv
    · rename_i e1
      exact ⟨_, hv, fun P ρ ux hx w => by obtain rfl := intOf?_conc e1 hx; exact ⟨_, mkInt_conc .., by simp [Op.unary, Op.intBits]⟩⟩
    · exact hv.elim
  · exact hv.elim

section
variable {P : Program} {E : TT} {o : Oper} {t : List (Nat × AV)} {h : List (Nat × Ent)} {nn : Nat} {K : Con → Prop}
theorem ok_bin (hE : E.Ok P) (hb : ∀ i e, get h i = some e → i < nn) {op : BinOp} {T yT : Nat} {x y : Operand} (ho : o.op = .binOp op T x y yT)
    (hv : withV t x fun a => withV t y fun b => binVC E op T a b fun v => K (conPure nn v)) : ∃ c, Good P o t h nn c ∧ K c := by
  obtain ⟨a, ha, hv⟩ := withV_elim hv
  obtain ⟨b, hbv, hv⟩ := withV_elim hv
  obtain ⟨v, hk, hr⟩ := binVC_ok hE hv
  refine ⟨_, good_pure hb fun ρ act w hop => ?_, hk⟩
  obtain ⟨ux, hux, ex⟩ := hop x (by simp [ho, Op.operands]) _ ha
  obtain ⟨uy, huy, ey⟩ := hop y (by simp [ho, Op.operands]) _ hbv
  obtain ⟨u, hu, h1, h2⟩ := hr ρ ux uy hux huy w x y
  refine ⟨u, hu, ?_⟩
  simp [execOp, ho, ex, ey, h1, h2]
theorem ok_un (hb : ∀ i e, get h i = some e → i < nn) {op : UnOp} {T : Nat} {x : Operand} (ho : o.op = .unOp op T x)
    (hv : withV t x fun a => unVC op a fun v => K (conPure nn v)) : ∃ c, Good P o t h nn c ∧ K c := by
  obtain ⟨a, ha, hv⟩ := withV_elim hv
  obtain ⟨v, hk, hr⟩ := unVC_ok hv
  refine ⟨_, good_pure hb fun ρ act w hop => ?_, hk⟩
  obtain ⟨ux, hux, ex⟩ := hop x (by simp [ho, Op.operands]) _ ha
  obtain ⟨u, hu, h1⟩ := hr P ρ ux hux w
  refine ⟨u, hu, ?_⟩
  simp [execOp, ho, ex, h1]
end
end Go.Eng
