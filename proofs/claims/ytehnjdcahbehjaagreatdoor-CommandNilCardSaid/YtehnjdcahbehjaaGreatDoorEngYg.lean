/- The engine, part Yg: other words for the same memory. -/
import Derived.Test.YtehnjdcahbehjaaGreatDoorEngYe
namespace Go.Eng
open Go
set_option linter.unusedSimpArgs false
set_option linter.unusedVariables false

section
variable {m : Nat} {s s' : St}

/-- entries of one's own are turned into others, by a law on what they say -/
theorem Shift.ghost {c : Con} (hn : c.n = s.n) (hpre : ∀ i e, get c.pre i = some e → get s.h i = some e) (wf : c.Wf)
    (hg : ∀ ρ F w, PreOk c ρ F w → ∃ ρ' F', PostOk c ρ F w ρ' F' w) : Shift m s ⟨s.t, c.up ++ s.h, c.n'⟩ := by
  intro B hB h0 a w hat
  obtain ⟨⟨ρ, F, r, hf⟩, hids⟩ := hat
  have hpo : PreOk c ρ F w := ⟨⟨fun i e hi => r.heap.ents i e (hpre i e hi), fun i j ei ej hij hi hj => r.heap.apart i j ei ej hij (hpre i ei hi) (hpre j ej hj), fun i e hi => r.heap.low i e (hpre i e hi)⟩,
    fun i hi _ => hf i (by omega)⟩
  obtain ⟨ρ', F', hp⟩ := hg ρ F w hpo
  have hr := Rep.step (c := { c with res := .tt }) r ⟨wf.le, wf.turns, wf.news, wf.olds⟩ hpre (fun i hi _ => hf i (by rw [← hn]; exact hi))
    ⟨hp.names, hp.os, hp.tape, hp.output, hp.size, hp.same, hp.ups, hp.foot⟩ none (fun y hy => by cases hy) (.bool true) rfl
  refine ⟨⟨ρ', fun i b => match get c.up i with | some _ => F' i b | none => F i b, ?_, fun i hi => ?_⟩, fun i e hi => ?_⟩
  · have e1 : (fun i => (get c.up i).or (get s.h i)) = get (c.up ++ s.h) := by funext i; rw [get_append]
    have e2 : putT (get s.t) none AV.tt = get s.t := by funext x; simp [putT]
    rw [e2] at hr
    rw [← e1]
    exact hr
  · have hi' : c.n' ≤ i := hi
    rw [hp.names i (.inr hi')]
    exact hf i (by have := wf.le; omega)
  · simp only [get_append] at hi
    have hle := wf.le
    cases hu : get c.up i with
    | some eu => exact wf.news i eu hu
    | none =>
      rw [hu, Option.none_or] at hi
      have := hids i e hi
      simp only; omega

/-- a slot, and entries, in other words; a new name for a value that has no memory -/
theorem Shift.nameGen (v0 : Value) (e0 : Ent) (hn : s'.n = s.n + 1) (he : ∀ ρ w, e0.holds ρ v0 w fun _ => False)
    (ht : ∀ x v', get s'.t x = some v' → ∃ v, get s.t x = some v ∧ ∀ ρ u, ρ s.n = some v0 → conc ρ v = some u → conc ρ v' = some u)
    (hh : ∀ i e', get s'.h i = some e' → (i = s.n ∧ e' = e0) ∨ (∃ e, get s.h i = some e ∧ (e'.wr = true → e.wr = true) ∧ ∀ ρ v w F, ρ s.n = some v0 → e.holds ρ v w F → e'.holds ρ v w F)) : Shift m s s' := by
  intro B hB h0 a w hat
  obtain ⟨⟨ρ, F, r, hf⟩, hids⟩ := hat
  have hnone : ρ s.n = none := hf _ (Nat.le_refl _)
  have hle : Names.le ρ (fun i => if i = s.n then some v0 else ρ i) := fun i v hv => by
    simp only
    split
    · rename_i e; subst e; rw [hnone] at hv; cases hv
    · exact hv
  have h1 : (fun i => if i = s.n then some v0 else ρ i) s.n = some v0 := if_pos rfl
  have hlt : ∀ i e, get s.h i = some e → i ≠ s.n := fun i e hi he' => by have := hids i e hi; omega
  have low : ∀ i e', get s'.h i = some e' → ∀ b, (if i = s.n then False else F i b) → ∃ e, get s.h i = some e ∧ F i b ∧ (e'.wr = true → e.wr = true) := fun i e' hi b hb => by
    rcases hh i e' hi with ⟨rfl, rfl⟩ | ⟨e, hie, hwr, _⟩
    · simp at hb
    · rw [if_neg (hlt i e hie)] at hb
      exact ⟨e, hie, hb, hwr⟩
  refine ⟨⟨fun i => if i = s.n then some v0 else ρ i, fun i b => if i = s.n then False else F i b, ⟨r.size, r.defers, fun x v hx => ?_, ⟨fun i e' hi => ?_, fun i j ei ej hij hi hj hw b hb hb' => ?_, fun i e' hi b hb => ?_⟩,
    r.ctx, fun i e' hi hw b hb => ?_, r.os, r.tape, r.output, r.grown, fun i v hv => ?_, fun i e' hi b hb => ?_⟩, fun i hi => ?_⟩, fun i e' hi => ?_⟩
  · obtain ⟨v1, hv1, hc⟩ := ht x v hx
    obtain ⟨u, hu, hg⟩ := r.tmps x v1 hv1
    exact ⟨u, hc _ u h1 (conc_mono hle v1 u hu), hg⟩
  · rcases hh i e' hi with ⟨rfl, rfl⟩ | ⟨e, hie, hwr, hc⟩
    · refine ⟨v0, if_pos rfl, ?_⟩
      have e1 : (fun b => if s.n = s.n then False else F s.n b) = fun _ => False := by funext b; rw [if_pos rfl]
      rw [e1]
      exact he _ w
    · obtain ⟨v, hv, hhold⟩ := r.heap.ents i e hie
      have hne := hlt i e hie
      refine ⟨v, by rw [if_neg hne]; exact hv, ?_⟩
      have : (fun b => if i = s.n then False else F i b) = F i := by funext b; rw [if_neg hne]
      rw [this]
      exact hc _ v w (F i) h1 (Ent.holds_mono hle hhold)
  · obtain ⟨e1, g1, f1, w1⟩ := low i ei hi b hb
    obtain ⟨e2, g2, f2, w2⟩ := low j ej hj b hb'
    exact r.heap.apart i j e1 e2 hij g1 g2 (w1 hw) b f1 f2
  · obtain ⟨e1, g1, f1, w1⟩ := low i e' hi b hb
    exact r.heap.low i e1 g1 b f1
  · obtain ⟨e1, g1, f1, w1⟩ := low i e' hi b hb
    exact r.apart i e1 g1 (w1 hw) b f1
  · exact hle i v (r.keep i v hv)
  · obtain ⟨e1, g1, f1, w1⟩ := low i e' hi b hb
    exact r.near i e1 g1 b f1
  · simp only
    rw [hn] at hi
    rw [if_neg (by omega)]
    exact hf i (by omega)
  · rw [hn]
    rcases hh i e' hi with ⟨rfl, _⟩ | ⟨e, hie, _⟩
    · omega
    · have := hids i e hie; omega

theorem row_nil_holds (T : TypeId) (sz : Nat) (α : Type) (enc : α → List AV) (ρ : Names) (w : World) : (Ent.row true T sz α enc []).holds ρ (.slice none 0 0) w fun _ => False := by
  refine .inl ⟨[], ⟨rfl, by simp⟩, by simp, ⟨by simp, .inl ⟨rfl, rfl⟩⟩, fun b => ?_⟩
  simp [Value.ownBlock]

/-- nil, in a slot, is a slice of one's own -/
theorem Shift.nilTmp {x : Nat} (T : TypeId) (sz : Nat) (α : Type) (enc : α → List AV) (hx : get s.t x = some (.val (.slice none 0 0))) :
    Shift m s ⟨(x, .ref s.n) :: s.t, (s.n, .row true T sz α enc []) :: s.h, s.n + 1⟩ := by
  refine Shift.nameGen (.slice none 0 0) (.row true T sz α enc []) rfl (row_nil_holds T sz α enc) (fun y v' hy => ?_) (fun i e' hi => ?_)
  · rw [get_cons] at hy
    split at hy
    · rename_i e; subst e; cases hy
      refine ⟨_, hx, fun ρ u hρ hu => ?_⟩
      simp only [conc, Option.some.injEq] at hu
      subst hu
      simp [conc, hρ, Value.oneCell']
    · exact ⟨v', hy, fun _ _ _ h => h⟩
  · rw [get_cons] at hi
    split at hi
    · rename_i e; subst e; cases hi; exact .inl ⟨rfl, rfl⟩
    · exact .inr ⟨e', hi, id, fun _ _ _ _ _ h => h⟩

def isNilS : AV → Bool
  | .val (.slice none 0 0) => true
  | _ => false
/-- the cells with a name in the place of nil -/
def namedAt (k : Nat) : List AV → Nat → Option (List AV)
  | [], _ => none
  | c :: cs, 0 => match isNilS c with
    | true => some (.ref k :: cs)
    | false => none
  | c :: cs, j + 1 => match namedAt k cs j with
    | some r => some (c :: r)
    | none => none
theorem namedAt_conc {k : Nat} {ρ : Names} (hρ : ρ k = some (.slice none 0 0)) : ∀ {C : List AV} {j : Nat} {C' : List AV}, namedAt k C j = some C' → concL ρ C' = concL ρ C
  | [], j, C', h => by simp [namedAt] at h
  | c :: cs, 0, C', h => by
    simp only [namedAt] at h
    split at h
    · rename_i hc
      cases h
      have : c = .val (.slice none 0 0) := by
        unfold isNilS at hc
        split at hc
        · rfl
        · cases hc
      subst this
      simp [concL, conc, hρ, Value.oneCell']
    · cases h
  | c :: cs, j + 1, C', h => by
    simp only [namedAt] at h
    split at h
    · rename_i r hr
      cases h
      simp only [concL, namedAt_conc hρ hr]
    · cases h
/-- nil, in a cell, is a slice of one's own -/
theorem Shift.nilCell {i j : Nat} {wr : Bool} {C C' : List AV} (T : TypeId) (sz : Nat) (α : Type) (enc : α → List AV) (hi : get s.h i = some (.cells wr C)) (hj : namedAt s.n C j = some C') :
    Shift m s ⟨s.t, (i, .cells wr C') :: (s.n, .row true T sz α enc []) :: s.h, s.n + 1⟩ := by
  by_cases hin : i = s.n
  · -- the entry's name lies below
    intro B hB h0 a w hat
    have := hat.ids i _ hi
    omega
  · refine Shift.nameGen (.slice none 0 0) (.row true T sz α enc []) rfl (row_nil_holds T sz α enc) (fun y v' hy => ⟨v', hy, fun _ _ _ h => h⟩) (fun k e' hk => ?_)
    rw [get_cons] at hk
    split at hk
    · rename_i e; subst e; cases hk
      refine .inr ⟨_, hi, id, fun ρ v w F hρ hh => ?_⟩
      obtain ⟨b, T', cs, hv, hc, r⟩ := hh
      exact ⟨b, T', cs, hv, by rw [namedAt_conc hρ hj]; exact hc, r⟩
    · rw [get_cons] at hk
      split at hk
      · rename_i e; subst e; cases hk; exact .inl ⟨rfl, rfl⟩
      · exact .inr ⟨e', hk, id, fun _ _ _ _ _ h => h⟩

/-- an entry in other words -/
theorem Shift.ent {i : Nat} {e e' : Ent} (hi : get s.h i = some e) (hw : e'.wr = true → e.wr = true) (hh : ∀ ρ v w F, e.holds ρ v w F → e'.holds ρ v w F) :
    Shift m s ⟨s.t, (i, e') :: s.h, s.n⟩ := by
  intro B hB h0 a w hat
  obtain ⟨⟨ρ, F, r, hf⟩, hids⟩ := hat
  have key : ∀ k e1, get ((i, e') :: s.h) k = some e1 → ∃ e2, get s.h k = some e2 ∧ (e1.wr = true → e2.wr = true) ∧ ∀ ρ v w F, e2.holds ρ v w F → e1.holds ρ v w F := fun k e1 hk => by
    rw [get_cons] at hk
    split at hk
    · rename_i e; subst e; cases hk; exact ⟨_, hi, hw, hh⟩
    · exact ⟨e1, hk, id, fun _ _ _ _ h => h⟩
  refine ⟨⟨ρ, F, ⟨r.size, r.defers, r.tmps, ⟨fun k e1 hk => ?_, fun k j ek ej hkj hk hj hwk b hb hb' => ?_, fun k e1 hk b hb => ?_⟩, r.ctx, fun k e1 hk hwk b hb => ?_, r.os, r.tape, r.output, r.grown, r.keep, fun k e1 hk b hb => ?_⟩, hf⟩, fun k e1 hk => ?_⟩
  · obtain ⟨e2, g, _, k2⟩ := key k e1 hk
    obtain ⟨v, hv, hhold⟩ := r.heap.ents k e2 g
    exact ⟨v, hv, k2 _ _ _ _ hhold⟩
  · obtain ⟨e2, g, w2, _⟩ := key k ek hk
    obtain ⟨e3, g3, _, _⟩ := key j ej hj
    exact r.heap.apart k j e2 e3 hkj g g3 (w2 hwk) b hb hb'
  · obtain ⟨e2, g, _, _⟩ := key k e1 hk
    exact r.heap.low k e2 g b hb
  · obtain ⟨e2, g, w2, _⟩ := key k e1 hk
    exact r.apart k e2 g (w2 hwk) b hb
  · obtain ⟨e2, g, _, _⟩ := key k e1 hk
    exact r.near k e2 g b hb
  · obtain ⟨e2, g, _, _⟩ := key k e1 hk
    exact hids k e2 g
/-- a slot in other words -/
theorem Shift.tmp {x : Nat} {v v' : AV} (hx : get s.t x = some v) (hh : ∀ ρ u, conc ρ v = some u → conc ρ v' = some u) : Shift m s ⟨(x, v') :: s.t, s.h, s.n⟩ := by
  intro B hB h0 a w hat
  obtain ⟨⟨ρ, F, r, hf⟩, hids⟩ := hat
  refine ⟨⟨ρ, F, ⟨r.size, r.defers, fun y u hy => ?_, r.heap, r.ctx, r.apart, r.os, r.tape, r.output, r.grown, r.keep, r.near⟩, hf⟩, hids⟩
  rw [get_cons] at hy
  split at hy
  · rename_i e; subst e; cases hy
    obtain ⟨u', hu', hg⟩ := r.tmps _ _ hx
    exact ⟨u', hh _ _ hu', hg⟩
  · exact r.tmps y u hy
end

/-- A contract in other words. -/
theorem FnOk.conseq {P : Program} {f : FuncId} {args args' : List AV} {c c' : Con} (h : FnOk P f args c) (wf : c'.Wf) (ha : belowL c'.n args' = true) (hp : belowH c'.n c'.pre = true)
    (hrun : ∀ (ρ : Names) (F : Nat → Nat → Prop) (w : World) (vs : List Value), concL ρ args' = some vs → PreOk c' ρ F w → (∀ i, c'.n' ≤ i → ρ i = none) →
      ∃ ρ1 F1, concL ρ1 args = some vs ∧ PreOk c ρ1 F1 w ∧ (∀ i, c.n' ≤ i → ρ1 i = none) ∧
        ∀ ρ2 F2 r w', PostOk c ρ1 F1 w ρ2 F2 w' → conc ρ2 c.res = some r → ∃ ρ' F', conc ρ' c'.res = some r ∧ PostOk c' ρ F w ρ' F' w') : FnOk P f args' c' :=
  ⟨h.call, wf, ha, hp, fun ρ F w vs hvs hpo hhi => by
    obtain ⟨ρ1, F1, hv1, hp1, hh1, hpost⟩ := hrun ρ F w vs hvs hpo hhi
    refine Calls.mono (h.run ρ1 F1 w vs hv1 hp1 hh1) fun e w' ⟨ρ2, F2, r, he, hr, hpo2⟩ => ?_
    obtain ⟨ρ', F', hr', hpo'⟩ := hpost ρ2 F2 r w' hpo2 hr
    exact ⟨ρ', F', r, he, hr', hpo'⟩⟩

/-! ### equations between words, part by part -/
theorem eqB {a b : Bool} (h : a = b) : AV.bool a = AV.bool b := by rw [h]
theorem eqI {k : IntKind} {a b : Int} (h : a = b) : AV.int k a = AV.int k b := by rw [h]
theorem eqS {a b : ByteArray} (h : a = b) : AV.str a = AV.str b := by rw [h]
theorem eqA {a b : List AV} (h : a = b) : AV.agg a = AV.agg b := by rw [h]
theorem eqT {a b : List AV} (h : a = b) : AV.tup a = AV.tup b := by rw [h]
theorem eqC {x y : AV} {a b : List AV} (h : x = y) (k : a = b) : x :: a = y :: b := by rw [h, k]
theorem eqRow {wr : Bool} {T sz : Nat} {α : Type} {enc : α → List AV} {l l' : List α} (h : l = l') : Ent.row wr T sz α enc l = Ent.row wr T sz α enc l' := by rw [h]
theorem eqCells {wr : Bool} {C C' : List AV} (h : C = C') : Ent.cells wr C = Ent.cells wr C' := by rw [h]
/-- the body's names for a contract's new ones, found by holding its words against the body's -/
def idsN : Nat → List (Nat × Nat)
  | 0 => []
  | n + 1 => (n, n) :: idsN n
def solveD (res act : AV) (up h : List (Nat × Ent)) (n n' : Nat) : List Nat := pickR (matchH h up (matchH h up (matchAV res act (idsN n)))) (n' - n) n
theorem doneVC_mk {E : TT} {rs : List ResultVar} {c : Con} {t : List (Nat × AV)} {h : List (Nat × Ent)} (R : List Nat) {vs : List AV} (hR : lenIs R (c.n' - c.n) = true ∧ nodupN R = true ∧ allGe c.n R = true)
    (hv : resultsAV E t h rs = some vs) (he : norm (packRes vs) = norm (ren (back c.n R) c.res)) (hu : upsIn (back c.n R) c.n h c.up) :
    Tag 14 (∃ R : List Nat, (lenIs R (c.n' - c.n) = true ∧ nodupN R = true ∧ allGe c.n R = true) ∧ (∃ vs, resultsAV E t h rs = some vs ∧ norm (packRes vs) = norm (ren (back c.n R) c.res)) ∧ upsIn (back c.n R) c.n h c.up) :=
  ⟨R, hR, ⟨vs, hv, he⟩, hu⟩

/-! ### loops -/
def matchT (t : List (Nat × AV)) : List (Nat × AV) → List (Nat × Nat) → List (Nat × Nat)
  | [], a => a
  | (x, v) :: r, a => match get t x with
    | some u => matchT t r (matchAV v u a)
    | none => matchT t r a
def solveS (m : Nat) (t t' : List (Nat × AV)) (h h' : List (Nat × Ent)) (n' : Nat) : List Nat := pickR (matchH h h' (matchH h h' (matchT t t' (idsN m)))) n' 0
theorem sub_mk {m : Nat} {s s' : St} (R : List Nat) (h : lenIs R s'.n = true ∧ nodupN R = true ∧ idPre m 0 R = true ∧ belowT s'.n s'.t = true ∧ belowH s'.n s'.h = true)
    (hT : subT (nthD R) s.t s'.t) (hH : subH (nthD R) s.h s'.h) : Shift m s s' := Shift.sub ⟨R, h, hT, hH⟩
theorem loop_mk {m : Nat} {B : V} {t : List (Nat × AV)} {h : List (Nat × Ent)} {n : Nat} {K : Kont} {X : Type} (I : X → Prop) (inv : X → St) (μ : X → Nat) (x0 : X) (h0 : I x0) (hs : Shift m ⟨t, h, n⟩ (inv x0))
    (hr : ∀ x (hx : I x), fromSt B (inv x) (loopK m (fun y : { x // I x } => inv y.1) (fun y => μ y.1) ⟨x, hx⟩ K)) : Tag 13 (∃ u, loopU m B u t h n K) := ⟨0, { x // I x }, fun y => inv y.1, fun y => μ y.1, ⟨x0, h0⟩, hs, fun y => hr y.1 y.2⟩
theorem unroll_mk {m : Nat} {B : V} {t : List (Nat × AV)} {h : List (Nat × Ent)} {n : Nat} {K : Kont} (u : Nat) (hu : loopU m B u t h n K) : Tag 13 (∃ u, loopU m B u t h n K) := ⟨u, hu⟩
theorem again_mk {m : Nat} {X : Type} {I : X → Prop} {inv : X → St} {μ : X → Nat} {x : X} {t : List (Nat × AV)} {h : List (Nat × Ent)} {n : Nat} (x' : X) (hx : I x') (hs : Shift m ⟨t, h, n⟩ (inv x')) (hl : μ x' < μ x) :
    Tag 15 (∃ y : { x // I x }, Shift m ⟨t, h, n⟩ (inv y.1) ∧ μ y.1 < μ x) := ⟨⟨x', hx⟩, hs, hl⟩

/-! ### laws of one's own -/
theorem law_mk {P : Program} {o : Oper} {t : List (Nat × AV)} {h : List (Nat × Ent)} {nn : Nat} {K : Con → Prop} {c : Con} (hc : Good P o t h nn c) (hk : K c) : Tag 2 (∃ c, Good P o t h nn c ∧ K c) := ⟨c, hc, hk⟩
theorem good_pure0 {P : Program} {o : Oper} {t : List (Nat × AV)} {h : List (Nat × Ent)} {nn : Nat} {v : AV}
    (hr : ∀ ρ a w, Opnds o t ρ a → ∃ u, conc ρ v = some u ∧ (execOp a.eval o).run P w = .ok (.value u) w) : Good P o t h nn (conPure nn v) := by
  refine good_of_run (wf_read fun i e he => by simp [get] at he) (fun _ _ he => by simp [conPure, get] at he) rfl fun ρ F a w ho hp => ?_
  obtain ⟨u, hu, hrun⟩ := hr ρ a w ho
  exact ⟨u, w, ρ, F, hrun, post_same ρ F w, hu⟩
/-- no error, held against nil -/
theorem good_nilIface {P : Program} {o : Oper} {t : List (Nat × AV)} {h : List (Nat × Ent)} {nn : Nat} {op : BinOp} {T yT : Nat} {x : Operand} {ms : Array (String × TypeId)} {v : AV}
    (ho : o.op = .binOp op T x (.const .nilIface) yT) (hx : evS t x = some (.val .nilIface)) (hu : P.underlying T = some (.interface ms)) (hv : (op = .eql ∧ v = .tt) ∨ (op = .neq ∧ v = .ff)) : Good P o t h nn (conPure nn v) := by
  refine good_pure0 fun ρ a w hop => ?_
  obtain ⟨u, hu', he⟩ := hop x (by simp [ho, Op.operands]) _ hx
  simp only [conc, Option.some.injEq] at hu'
  subst hu'
  have hc : a.eval (.const .nilIface) = .nilIface := rfl
  have hr : ∀ w, (underlying T).run P w = .ok (.interface ms) w := fun w => by simp [underlying, hu]
  have hq : ∀ D w, (Op.equalIn (D + 1) T .nilIface .nilIface).run P w = .ok true w := fun D w => by simp [Op.equalIn, hr]
  have hq' : ∀ w, (Op.equal T .nilIface .nilIface).run P w = .ok true w := fun w => hq 9999 w
  have hg : ∀ w, (eqGuard op T x (.const .nilIface) .nilIface .nilIface).run P w = .ok () w := fun w => by
    unfold eqGuard
    rcases hv with ⟨rfl, rfl⟩ | ⟨rfl, rfl⟩ <;> simp
  rcases hv with ⟨rfl, rfl⟩ | ⟨rfl, rfl⟩
  · refine ⟨.bool true, rfl, ?_⟩
    have hb : ∀ w, (binOp .eql T .nilIface .nilIface).run P w = .ok (.bool true) w := fun w => by simp only [binOp, Sem.run_bind, hq', Result.andThen_ok, Sem.run_pure]
    simp [execOp, ho, he, hc, hg, hb]
  · refine ⟨.bool false, rfl, ?_⟩
    have hb : ∀ w, (binOp .neq T .nilIface .nilIface).run P w = .ok (.bool false) w := fun w => by simp only [binOp, Sem.run_bind, hq', Result.andThen_ok, Sem.run_pure, Bool.not_true]
    simp [execOp, ho, he, hc, hg, hb]

/-! ### literals of slices -/
def strAV (s : ByteArray) : List AV := [.str s]
def strsOf : List AV → List ByteArray
  | .str s :: r => s :: strsOf r
  | _ => []
def intAV (n : Int) : List AV := [.int .i64 n]
def intsOf : List AV → List Int
  | .int _ n :: r => n :: intsOf r
  | .lit _ n :: r => n :: intsOf r
  | _ => []
theorem tag4_strs {C : List AV} {len sz nn elem : Nat} {K : Con → Prop} (h1 : normL ((strsOf C).flatMap strAV) = normL C) (h2 : (strsOf C).length = len) (h3 : 1 = sz)
    (hk : K ⟨[], nn, nn + 1, .ref nn, [(nn, .row true elem sz ByteArray strAV (strsOf C))]⟩) : Tag 4 (litVC elem sz len C nn K) :=
  ⟨ByteArray, strAV, strsOf C, ⟨h1, h2, fun _ _ => h3⟩, hk⟩
theorem tag4_ints {C : List AV} {len sz nn elem : Nat} {K : Con → Prop} (h1 : normL ((intsOf C).flatMap intAV) = normL C) (h2 : (intsOf C).length = len) (h3 : 1 = sz)
    (hk : K ⟨[], nn, nn + 1, .ref nn, [(nn, .row true elem sz Int intAV (intsOf C))]⟩) : Tag 4 (litVC elem sz len C nn K) :=
  ⟨Int, intAV, intsOf C, ⟨h1, h2, fun _ _ => h3⟩, hk⟩
theorem tag4_row {C : List AV} {len sz nn elem : Nat} {K : Con → Prop} (α : Type) (enc : α → List AV) (g : List α) (h1 : normL (g.flatMap enc) = normL C) (h2 : g.length = len) (h3 : ∀ x ∈ g, (enc x).length = sz)
    (hk : K ⟨[], nn, nn + 1, .ref nn, [(nn, .row true elem sz α enc g)]⟩) : Tag 4 (litVC elem sz len C nn K) :=
  ⟨α, enc, g, ⟨h1, h2, h3⟩, hk⟩
/-- an append, where the elements' kind is given -/
theorem tag3_row {elem sz by_ : Nat} {x : AV} {C1 C2 : List AV} {p1 u1 p2 : List (Nat × Ent)} {nn : Nat} {K : Con → Prop} {α : Type} (enc : α → List AV) (l1 l2 : List α)
    (h1 : normL (l1.flatMap enc) = normL C1) (h2 : normL (l2.flatMap enc) = normL C2) (h3 : ∀ z, (enc z).length = sz) (h4 : (l1.length + l2.length) * by_ ≤ 140737488355328 ∧ l1.length + l2.length ≤ maxLen)
    (h5 : match x with | .sl _ _ _ _ => 0 < l2.length | _ => True)
    (hk : K ⟨p1 ++ p2, nn, nn + 1, .ref nn, u1 ++ [(nn, .row true elem sz α enc (l1 ++ l2))]⟩) : Tag 3 (appVC elem sz by_ x C1 C2 p1 u1 p2 nn K) :=
  ⟨α, enc, l1, l2, ⟨h1, h2, h3, h4.1, h4.2, h5⟩, hk⟩

/-! ### a contract, its words in another form -/
theorem FnOk.like {P : Program} {f : FuncId} {args : List AV} {pre up : List (Nat × Ent)} {n n' : Nat} {res res' : AV} (h : FnOk P f args ⟨pre, n, n', res, up⟩) (hr : norm res = norm res') : FnOk P f args ⟨pre, n, n', res', up⟩ :=
  ⟨h.call, ⟨h.wf.le, h.wf.turns, h.wf.news, h.wf.olds⟩, h.args_below, h.pre_below, fun ρ F w vs hvs hp hhi => by
    refine Calls.mono (h.run ρ F w vs hvs ⟨hp.heap, hp.fresh⟩ hhi) fun e w' ⟨ρ', F', r, he, hr', hpo⟩ => ⟨ρ', F', r, he, ?_, ⟨hpo.names, hpo.os, hpo.tape, hpo.output, hpo.size, hpo.same, hpo.ups, hpo.foot⟩⟩
    rw [like_conc hr.symm]; exact hr'⟩
theorem below_norm (n : Nat) : ∀ (c : AV), below n (norm c) = below n c := by
  intro c
  refine AV.rec (motive_1 := fun c => below n (norm c) = below n c) (motive_2 := fun l => belowL n (normL l) = belowL n l) ?_ ?_ ?_ ?_ ?_ ?_ ?_ ?_ ?_ ?_ ?_ ?_ ?_ ?_ ?_ ?_ ?_ ?_ c
  all_goals intros; try rfl
  all_goals simp_all [norm, below, normL, belowL]
theorem belowL_norm (n : Nat) : ∀ (l : List AV), belowL n (normL l) = belowL n l
  | [] => rfl
  | c :: l => by simp only [normL, belowL, below_norm, belowL_norm n l]
theorem FnOk.likeArgs {P : Program} {f : FuncId} {args args' : List AV} {c : Con} (h : FnOk P f args c) (hr : normL args = normL args') : FnOk P f args' c :=
  ⟨h.call, h.wf, by rw [← belowL_norm, ← hr, belowL_norm]; exact h.args_below, h.pre_below, fun ρ F w vs hvs hp hhi => h.run ρ F w vs (by rw [like_concL hr]; exact hvs) hp hhi⟩
end Go.Eng
