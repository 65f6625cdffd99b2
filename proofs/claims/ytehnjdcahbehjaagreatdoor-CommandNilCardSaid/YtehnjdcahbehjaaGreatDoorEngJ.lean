/- The engine, part J: the soundness of parts, lengths, literals. -/
import Derived.Test.YtehnjdcahbehjaaGreatDoorEngI
namespace Go.Eng
open Go
set_option linter.unusedSimpArgs false
set_option linter.unusedVariables false

theorem fieldsIn_get : ∀ {fs : List (Nat × Nat)} {gs : List Field}, fieldsIn fs gs = true → ∀ {k o T : Nat} {r : List (Nat × Nat)}, dropE fs k = some ((o, T) :: r) → ∃ g, gs[k]? = some g ∧ g.offset = o ∧ g.type = T
  | [], [], _, k, o, T, r, hd => by cases k <;> simp [dropE] at hd
  | [], _ :: _, h, _, _, _, _, _ => by simp [fieldsIn] at h
  | _ :: _, [], h, _, _, _, _, _ => by simp [fieldsIn] at h
  | (a, b) :: fs, g :: gs, h, k, o, T, r, hd => by
    simp only [fieldsIn, Bool.and_eq_true] at h
    obtain ⟨⟨⟨h1, h2⟩, _⟩, h4⟩ := h
    cases k with
    | zero =>
      simp only [dropE, Option.some.injEq, List.cons.injEq, Prod.mk.injEq] at hd
      obtain ⟨⟨rfl, rfl⟩, _⟩ := hd
      exact ⟨g, rfl, (Nat.eq_of_beq_eq_true h1).symm, (Nat.eq_of_beq_eq_true h2).symm⟩
    | succ k => simp only [dropE] at hd; simpa using fieldsIn_get h4 hd

section
variable {P : Program} {E : TT} {o : Oper} {t : List (Nat × AV)} {h : List (Nat × Ent)} {nn : Nat} {K : Con → Prop}

theorem fieldOff_ok (hE : E.Ok P) {T f off ft : Nat} (hf : fieldOff E T f = some (off, ft)) : ∃ gs g, (∀ w, (underlying T).run P w = .ok (.struct gs) w) ∧ gs[f]? = some g ∧ g.offset = off ∧ g.type = ft := by
  unfold fieldOff at hf
  split at hf
  · rename_i i hl
    have tf := TI.facts (TT.look_ok hE hl)
    obtain ⟨d, hd, _, hu⟩ := tf.und
    split at hf
    · rename_i fs hk
      rw [hk] at hd
      obtain ⟨gs, rfl⟩ : ∃ gs, d = .struct gs := by cases d <;> simp [TK.is] at hd; exact ⟨_, rfl⟩
      split at hf
      · rename_i x r hdr
        cases hf
        obtain ⟨g, hg, h1, h2⟩ := fieldsIn_get (show fieldsIn fs gs.toList = true from hd) hdr
        exact ⟨gs, g, hu, by simpa using hg, h1, h2⟩
      · cases hf
    · cases hf
  · cases hf

theorem ok_fieldAddr (hE : E.Ok P) (hb : ∀ i e, get h i = some e → i < nn) {T f : Nat} {x : Operand} (ho : o.op = .fieldAddr T x f)
    (hv : withV t x fun v => fieldAddrVC E T f v fun v => K (conPure nn v)) : ∃ c, Good P o t h nn c ∧ K c := by
  obtain ⟨v, hv, hk⟩ := withV_elim hv
  unfold fieldAddrVC at hk
  split at hk
  · rename_i off ft hf
    obtain ⟨gs, g, hu, hg, h1, h2⟩ := fieldOff_ok hE hf
    split at hk
    · rename_i fi hfl
      have ff := TI.facts (TT.look_ok hE hfl)
      split at hk
      · exact hk.elim
      · rename_i sz hsz
        have fin : ∀ (a : Addr), a.spot = none → ∀ w, (Instr.fieldAt T (.pointer (some a)) f).run P w = .ok (.pointer (some (a.add off))) w := by
          intro a hs w
          simp [Instr.fieldAt, hu, hg, Instr.sureAddr, fieldPlace, h2, ff.size, hsz, h1]
        split at hk
        · rename_i i o'
          refine ⟨_, good_pure hb fun ρ a w hop => ?_, hk⟩
          obtain ⟨u, huu, he⟩ := hop x (by simp [ho, Op.operands]) _ hv
          simp only [conc] at huu ⊢
          split at huu
          · rename_i b' o2 hr
            cases huu
            refine ⟨_, rfl, ?_⟩
            simp [execOp, ho, he, fin ⟨b', o2 + o', none⟩ rfl, add_eq, Nat.add_assoc]
          · cases huu
        · rename_i i idx sz' o'
          refine ⟨_, good_pure hb fun ρ a w hop => ?_, hk⟩
          obtain ⟨u, huu, he⟩ := hop x (by simp [ho, Op.operands]) _ hv
          simp only [conc] at huu ⊢
          split at huu
          · rename_i b' o2 _ _ hr
            cases huu
            refine ⟨_, rfl, ?_⟩
            simp [execOp, ho, he, fin ⟨b', o2 + (idx * sz' + o'), none⟩ rfl, add_eq, Nat.add_assoc]
          · cases huu
        · exact hk.elim
    · exact hk.elim
  · exact hk.elim

theorem ok_field (hE : E.Ok P) (hb : ∀ i e, get h i = some e → i < nn) {T f : Nat} {x : Operand} (ho : o.op = .field T x f)
    (hv : withV t x fun v => fieldVC E T f v fun v => K (conPure nn v)) : ∃ c, Good P o t h nn c ∧ K c := by
  obtain ⟨v, hv, hk⟩ := withV_elim hv
  unfold fieldVC at hk
  split at hk
  · rename_i off ft hf
    obtain ⟨gs, g, hu, hg, h1, h2⟩ := fieldOff_ok hE hf
    split at hk
    · rename_i fi cs hfl
      have ff := TI.facts (TT.look_ok hE hfl)
      split at hk
      · rename_i p hp
        split at hk
        · rename_i r hm
          refine ⟨_, good_pure hb fun ρ a w hop => ?_, hk⟩
          obtain ⟨u, huu, he⟩ := hop x (by simp [ho, Op.operands]) _ hv
          simp only [conc] at huu
          split at huu
          · rename_i l hl
            cases huu
            obtain ⟨hpc, hlen⟩ := part?_conc hl hp
            refine ⟨_, mkAV_wrap hm hpc, ?_⟩
            simp [execOp, ho, he, Instr.field, hu, hg, asAgg, h2, h1, ff.part hlen]
          · cases huu
        · exact hk.elim
      · exact hk.elim
    · exact hk.elim
  · exact hk.elim

theorem indexAddrVC_ok (hE : E.Ok P) {T : Nat} {x ix : AV} {K : AV → Prop} (hk : indexAddrVC E T x ix h K) :
    ∃ v, K v ∧ ((∃ id e, get h id = some e ∧ v matches .ep id' _ _ _ ∧ (∀ id' a b c, v = .ep id' a b c → id' = id) ∧ ∀ ρ F w ux ui, HeapOk ρ (get [(id, e)]) F w → conc ρ x = some ux → conc ρ ix = some ui → ∃ u, conc ρ v = some u ∧ (Instr.indexAt T ux ui).run P w = .ok u w) ∨
      ((∀ id a b c, v ≠ .ep id a b c) ∧ ∀ ρ w ux ui, conc ρ x = some ux → conc ρ ix = some ui → ∃ u, conc ρ v = some u ∧ (Instr.indexAt T ux ui).run P w = .ok u w)) := by
  unfold indexAddrVC at hk
  split at hk
  · rename_i i k n l hl hi
    have tf := TI.facts (TT.look_ok hE hl)
    obtain ⟨d, hd, _, hu⟩ := tf.und
    split at hk
    · rename_i len elem hkk
      rw [hkk] at hd
      obtain ⟨len', elem', rfl⟩ : ∃ a b, d = .array a b := by cases d <;> simp [TK.is] at hd; exact ⟨_, _, rfl⟩
      simp only [TK.is, Bool.and_eq_true] at hd
      obtain rfl := Nat.eq_of_beq_eq_true hd.1
      obtain rfl := Nat.eq_of_beq_eq_true hd.2
      split at hk
      · rename_i ie hle
        have te := TI.facts (TT.look_ok hE hle)
        split at hk
        · rename_i id off
          obtain ⟨hbd, hk⟩ := hk
          refine ⟨_, hk, .inr ⟨fun _ _ _ _ => by cases l <;> simp, fun ρ w ux ui hx hix => ?_⟩⟩
          obtain rfl := intOf?_conc hi hix
          simp only [conc] at hx
          split at hx
          · rename_i b o2 hr
            cases hx
            refine ⟨.pointer (some ⟨b, o2 + (off + n.toNat * ie.size), none⟩), by cases l <;> simp [conc, hr], ?_⟩
            have hlt : n < (len : Int) := hbd.2
            simp [Instr.indexAt, asIntOf, hu, Instr.sureAddr, hbd.1, hlt, te.size, add_eq, Nat.add_assoc]
          · cases hx
        · exact hk.elim
      · exact hk.elim
    · rename_i elem hkk
      rw [hkk] at hd
      obtain ⟨elem', rfl⟩ : ∃ b, d = .slice b := by cases d <;> simp [TK.is] at hd; exact ⟨_, rfl⟩
      obtain rfl := Nat.eq_of_beq_eq_true (show Nat.beq elem elem' = true from hd)
      split at hk
      · rename_i ie hle
        have te := TI.facts (TT.look_ok hE hle)
        split at hk
        · rename_i id
          split at hk
          · rename_i wr T' sz α enc xs hg
            obtain ⟨⟨h0, hlt, hsz⟩, hk⟩ := hk
            refine ⟨_, hk, .inl ⟨id, _, hg, by simp, fun id' a b c e => by cases e; rfl, fun ρ F w ux ui hh hx hix => ?_⟩⟩
            obtain rfl := intOf?_conc hi hix
            obtain ⟨vr, hvr, hrow⟩ := hh.ents id _ (by rw [get_single, if_pos rfl])
            obtain ⟨_, ao, cap, cs, rfl, _, hr, _, hcell⟩ := row_at hrow
            obtain ⟨ad, rfl, hs, _, _⟩ := hcell (by omega)
            simp only [conc, hvr, Value.oneCell', if_true, Option.some.injEq] at hx
            subst hx
            obtain ⟨b0, o0, s0⟩ := ad
            simp only at hs
            subst hs
            refine ⟨.pointer (some ⟨b0, o0 + (n.toNat * sz + 0), none⟩), by simp only [conc, hvr], ?_⟩
            simp [Instr.indexAt, asIntOf, hu, h0, hlt, te.size, add_eq, hsz]
          · exact hk.elim
        · rename_i id off len cap
          obtain ⟨hbd, hk⟩ := hk
          refine ⟨_, hk, .inr ⟨fun _ _ _ _ => by cases l <;> simp, fun ρ w ux ui hx hix => ?_⟩⟩
          obtain rfl := intOf?_conc hi hix
          simp only [conc] at hx
          split at hx
          · rename_i b o2 hr
            cases hx
            refine ⟨.pointer (some ⟨b, o2 + (off + n.toNat * ie.size), none⟩), by cases l <;> simp [conc, hr], ?_⟩
            have hlt : n < (len : Int) := hbd.2
            simp [Instr.indexAt, asIntOf, hu, hbd.1, hlt, te.size, add_eq, Nat.add_assoc]
          · cases hx
        · rename_i id lo k0 sz0
          split at hk
          · rename_i wr T' sz' α enc xs hg
            obtain ⟨⟨h0, hlt, hsz0, hsz, hfit⟩, hk⟩ := hk
            refine ⟨_, hk, .inl ⟨id, _, hg, by simp, fun id' a b c e => by cases e; rfl, fun ρ F w ux ui hh hx hix => ?_⟩⟩
            obtain rfl := intOf?_conc hi hix
            obtain ⟨vr, hvr, hrow⟩ := hh.ents id _ (by rw [get_single, if_pos rfl])
            obtain ⟨_, ao, cap, cs, rfl, hnc, hr, _, hcell⟩ := row_at hrow
            obtain ⟨ad, rfl, hs, _, _⟩ := hcell (by omega)
            simp only [conc, hvr, Option.some.injEq] at hx
            rw [if_neg (by omega)] at hx
            subst hx
            obtain ⟨b0, o0, s0⟩ := ad
            simp only at hs
            subst hs
            subst hsz0
            refine ⟨.pointer (some ⟨b0, o0 + ((lo + n.toNat) * ie.size + 0), none⟩), by simp only [conc, hvr], ?_⟩
            simp [Instr.indexAt, asIntOf, hu, h0, hlt, te.size, add_eq, Nat.add_mul, Nat.add_assoc]
          · exact hk.elim
        · exact hk.elim
      · exact hk.elim
    · exact hk.elim
  · exact hk.elim

theorem ok_indexAddr (hE : E.Ok P) (hb : ∀ i e, get h i = some e → i < nn) {T : Nat} {x ix : Operand} (ho : o.op = .indexAddr T x ix)
    (hv : withV t x fun v => withV t ix fun j => indexAddrVC E T v j h fun v => K (match v with
    | .ep id _ _ _ => match get h id with
      | some e => ⟨[(id, e)], nn, nn, v, []⟩
      | none => conPure nn v
    | v => conPure nn v)) : ∃ c, Good P o t h nn c ∧ K c := by
  obtain ⟨v, hv, hk⟩ := withV_elim hv
  obtain ⟨j, hj, hk⟩ := withV_elim hk
  obtain ⟨r, hk, hr⟩ := indexAddrVC_ok hE hk
  rcases hr with ⟨id, e, hg, hm, hid, hr⟩ | ⟨hne, hr⟩
  · cases r <;> simp at hm
    rename_i id' a b c
    obtain rfl := hid _ _ _ _ rfl
    simp only [hg] at hk
    refine ⟨_, good_read hb (single_sub hg) fun ρ F a w hop hh => ?_, hk⟩
    obtain ⟨ux, hux, ex⟩ := hop x (by simp [ho, Op.operands]) _ hv
    obtain ⟨ui, hui, ei⟩ := hop ix (by simp [ho, Op.operands]) _ hj
    obtain ⟨u, hu, hrun⟩ := hr ρ F w ux ui hh hux hui
    exact ⟨u, hu, by simp [execOp, ho, ex, ei, hrun]⟩
  · have hk' : K (conPure nn r) := by
      cases r <;> first | exact hk | exact absurd rfl (hne _ _ _ _)
    refine ⟨_, good_pure hb fun ρ a w hop => ?_, hk'⟩
    obtain ⟨ux, hux, ex⟩ := hop x (by simp [ho, Op.operands]) _ hv
    obtain ⟨ui, hui, ei⟩ := hop ix (by simp [ho, Op.operands]) _ hj
    obtain ⟨u, hu, hrun⟩ := hr ρ w ux ui hux hui
    exact ⟨u, hu, by simp [execOp, ho, ex, ei, hrun]⟩

theorem ok_index (hE : E.Ok P) (hb : ∀ i e, get h i = some e → i < nn) {T : Nat} {x ix : Operand} (ho : o.op = .index T x ix)
    (hv : withV t x fun v => withV t ix fun j => indexVC E T v j fun v => K (conPure nn v)) : ∃ c, Good P o t h nn c ∧ K c := by
  obtain ⟨v, hv, hk⟩ := withV_elim hv
  obtain ⟨j, hj, hk⟩ := withV_elim hk
  unfold indexVC at hk
  split at hk
  · rename_i i k n l hl hi
    have tf := TI.facts (TT.look_ok hE hl)
    obtain ⟨d, hd, _, hu⟩ := tf.und
    split at hk
    · rename_i s hkk _
      rw [hkk] at hd
      obtain rfl : d = .string := by cases d <;> simp [TK.is] at hd; rfl
      obtain ⟨⟨h0, hlt⟩, hk⟩ := hk
      refine ⟨_, good_pure hb fun ρ a w hop => ?_, hk⟩
      obtain ⟨ux, hux, ex⟩ := hop x (by simp [ho, Op.operands]) _ hv
      obtain ⟨ui, hui, ei⟩ := hop ix (by simp [ho, Op.operands]) _ hj
      obtain rfl := intOf?_conc hi hui
      simp only [conc, Option.some.injEq] at hux
      subst hux
      refine ⟨_, rfl, ?_⟩
      have hn : n.toNat < s.size := by omega
      have hn2 : n.toNat < s.data.size := hn
      have e1 : s[n.toNat]? = some (bAt s n.toNat) := by
        rw [getElem?_pos s n.toNat hn]
        congr 1
        show s.data[n.toNat] = _
        unfold bAt
        rw [List.getD_eq_getElem?_getD, Array.getElem?_toList, Array.getElem?_eq_getElem hn2, Option.getD_some]
      simp [execOp, ho, ex, ei, Instr.index, asIntOf, hu, h0, e1]
    · rename_i len elem cs hkk _
      rw [hkk] at hd
      obtain ⟨len', elem', rfl⟩ : ∃ a b, d = .array a b := by cases d <;> simp [TK.is] at hd; exact ⟨_, _, rfl⟩
      simp only [TK.is, Bool.and_eq_true] at hd
      obtain rfl := Nat.eq_of_beq_eq_true hd.1
      obtain rfl := Nat.eq_of_beq_eq_true hd.2
      split at hk
      · rename_i ie hle
        have te := TI.facts (TT.look_ok hE hle)
        obtain ⟨⟨h0, hlt⟩, p, hp, hk⟩ := hk
        split at hk
        · rename_i r hm
          refine ⟨_, good_pure hb fun ρ a w hop => ?_, hk⟩
          obtain ⟨ux, hux, ex⟩ := hop x (by simp [ho, Op.operands]) _ hv
          obtain ⟨ui, hui, ei⟩ := hop ix (by simp [ho, Op.operands]) _ hj
          obtain rfl := intOf?_conc hi hui
          simp only [conc] at hux
          split at hux
          · rename_i l2 hl2
            cases hux
            obtain ⟨hpc, hlen⟩ := part?_conc hl2 hp
            refine ⟨_, mkAV_wrap hm hpc, ?_⟩
            simp [execOp, ho, ex, ei, Instr.index, asIntOf, hu, h0, hlt, te.size, te.part hlen]
          · cases hux
        · exact hk.elim
      · exact hk.elim
    · exact hk.elim
  · exact hk.elim

theorem ok_extract (hb : ∀ i e, get h i = some e → i < nn) {x : Operand} {k : Nat} (ho : o.op = .extract x k)
    (hv : match evS t x with
    | some (.tup vs) => match dropE vs k with
      | some (v :: _) => K (conPure nn v)
      | _ => False
    | _ => False) : ∃ c, Good P o t h nn c ∧ K c := by
  split at hv
  · rename_i vs hx
    split at hv
    · rename_i v r hd
      refine ⟨_, good_pure hb fun ρ a w hop => ?_, hv⟩
      obtain ⟨u, huu, he⟩ := hop x (by simp [ho, Op.operands]) _ hx
      simp only [conc] at huu
      split at huu
      · rename_i l hl
        cases huu
        obtain ⟨h1, h2⟩ := dropE_spec hd
        have h3 := concL_drop hl k
        rw [← h1] at h3
        obtain ⟨u, us, hu, _, h4⟩ := concL_cons.1 h3
        refine ⟨u, hu, ?_⟩
        have h5 : l[k]? = some u := by
          have := congrArg (fun z => z[0]?) h4
          simpa using this
        simp [execOp, ho, he, Instr.extract, h5]
      · cases huu
    · exact hv.elim
  · exact hv.elim

theorem maxL_ok {ρ : Names} : ∀ {r : List AV} {x v : AV} {ux : Value} {us : List Value}, maxL x r = some v → conc ρ x = some ux → concL ρ r = some us → ∃ u, conc ρ v = some u ∧ ∀ w, (us.foldlM Builtin.max2 ux : Sem Value).run P w = .ok u w
  | [], x, v, ux, us, hm, hx, hr => by
    simp only [maxL, Option.some.injEq] at hm; subst hm
    simp only [concL, Option.some.injEq] at hr; subst hr
    exact ⟨ux, hx, fun w => by simp⟩
  | y :: r, x, v, ux, us, hm, hx, hr => by
    obtain ⟨uy, vs, huy, hvs, rfl⟩ := concL_cons.1 hr
    simp only [maxL] at hm
    split at hm
    · rename_i k a la k' b lb e1 e2
      obtain rfl := intOf?_conc e1 hx
      obtain rfl := intOf?_conc e2 huy
      obtain ⟨u, hu, hrun⟩ := maxL_ok hm (mkInt_conc ..) hvs
      refine ⟨u, hu, fun w => ?_⟩
      simp [List.foldlM, Builtin.max2, hrun]
    · cases hm
theorem minL_ok {ρ : Names} : ∀ {r : List AV} {x v : AV} {ux : Value} {us : List Value}, minL x r = some v → conc ρ x = some ux → concL ρ r = some us → ∃ u, conc ρ v = some u ∧ ∀ w, (us.foldlM Builtin.min2 ux : Sem Value).run P w = .ok u w
  | [], x, v, ux, us, hm, hx, hr => by
    simp only [minL, Option.some.injEq] at hm; subst hm
    simp only [concL, Option.some.injEq] at hr; subst hr
    exact ⟨ux, hx, fun w => by simp⟩
  | y :: r, x, v, ux, us, hm, hx, hr => by
    obtain ⟨uy, vs, huy, hvs, rfl⟩ := concL_cons.1 hr
    simp only [minL] at hm
    split at hm
    · rename_i k a la k' b lb e1 e2
      obtain rfl := intOf?_conc e1 hx
      obtain rfl := intOf?_conc e2 huy
      obtain ⟨u, hu, hrun⟩ := minL_ok hm (mkInt_conc ..) hvs
      refine ⟨u, hu, fun w => ?_⟩
      simp [List.foldlM, Builtin.min2, hrun]
    · cases hm

theorem evL_conc {ρ : Names} {a : Act} {t : List (Nat × AV)} : ∀ {xs : List Operand} {vs : List AV}, evL t xs = some vs → (∀ x ∈ xs, ∀ v, evS t x = some v → ∃ u, conc ρ v = some u ∧ a.eval x = u) →
    concL ρ vs = some (xs.map a.eval)
  | [], vs, he, _ => by simp only [evL, Option.some.injEq] at he; subst he; rfl
  | x :: xs, vs, he, ho => by
    simp only [evL] at he
    split at he
    · rename_i v hv
      split at he
      · rename_i ws hws
        cases he
        obtain ⟨u, hu, e⟩ := ho x List.mem_cons_self v hv
        have := evL_conc hws (fun y hy => ho y (List.mem_cons_of_mem _ hy))
        exact concL_cons.2 ⟨u, _, hu, this, by rw [List.map_cons, e]⟩
      · cases he
    · cases he
end
end Go.Eng
