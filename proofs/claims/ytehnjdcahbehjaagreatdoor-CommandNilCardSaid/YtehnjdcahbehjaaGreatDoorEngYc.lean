/- The engine, part Yc: the soundness of a body. -/
import Derived.Test.YtehnjdcahbehjaaGreatDoorEngYb
import Derived.Test.YtehnjdcahbehjaaGreatDoorEngLp
namespace Go.Eng
open Go
set_option linter.unusedSimpArgs false
set_option linter.unusedVariables false

def exitOf : XK → Exit
  | .normal => .normal
  | .exit id => .exit id
  | .ret => .ret

section
variable {P : Program} {E : TT} {B : Base}

theorem subT_get {r : Nat → Nat} {t : List (Nat × AV)} : ∀ {l : List (Nat × AV)}, subT r t l → ∀ {x : Nat} {v : AV}, get l x = some v → ∃ v', get t x = some v' ∧ norm v' = norm (ren r v)
  | [], _, x, v, h => by simp [get] at h
  | (k, u) :: l, hs, x, v, h => by
    obtain ⟨h1, h2⟩ := hs
    rw [get_cons] at h
    split at h
    · rename_i e; subst e; cases h
      split at h1
      · rename_i v' hv'; exact ⟨v', hv', h1⟩
      · exact h1.elim
    · exact subT_get h2 h
theorem subH_get {r : Nat → Nat} {h : List (Nat × Ent)} : ∀ {l : List (Nat × Ent)}, subH r h l → ∀ {i : Nat} {e : Ent}, get l i = some e → ∃ e', get h (r i) = some e' ∧ (normE e' = normE (renE r e) ∨ normE e'.ro = normE (renE r e))
  | [], _, x, v, h => by simp [get] at h
  | (k, u) :: l, hs, x, v, h => by
    obtain ⟨h1, h2⟩ := hs
    rw [get_cons] at h
    split at h
    · rename_i e; subst e; cases h
      split at h1
      · rename_i v' hv'; exact ⟨v', hv', h1⟩
      · exact h1.elim
    · exact subH_get h2 h
theorem belowT_get {n : Nat} : ∀ {l : List (Nat × AV)}, belowT n l = true → ∀ {x : Nat} {v : AV}, get l x = some v → below n v = true
  | [], _, x, v, h => by simp [get] at h
  | (k, u) :: l, hb, x, v, h => by
    simp only [belowT] at hb
    split at hb
    · rename_i h1
      rw [get_cons] at h
      split at h
      · cases h; exact h1
      · exact belowT_get hb h
    · cases hb

theorem idPre_spec : ∀ {m k : Nat} {R : List Nat}, idPre m k R = true → ∀ i, i < m → nthD R i = k + i ∧ i < R.length
  | 0, _, _, _, i, hi => by omega
  | m + 1, k, [], h, i, hi => by simp [idPre] at h
  | m + 1, k, x :: r, h, i, hi => by
    simp only [idPre] at h
    split at h
    · rename_i hx
      cases i with
      | zero => exact ⟨Nat.eq_of_beq_eq_true hx, by simp⟩
      | succ i =>
        obtain ⟨h1, h2⟩ := idPre_spec h i (by omega)
        exact ⟨by simp only [nthD]; omega, by simp; omega⟩
    · cases h
theorem At.sub {s s' : St} {a : Act} {w : World} (h0 : ∀ i, B.n0 ≤ i → B.ρ0 i = none) (hs : Sub B.n0 s s') (hat : At B s.t s.h s.n a w) : At B s'.t s'.h s'.n a w := by
  obtain ⟨R, ⟨h1, h2, hid, h3, h4⟩, hT, hH⟩ := hs
  obtain ⟨⟨ρ, F, r, hf⟩, hids⟩ := hat
  have hl := lenIs_spec h1
  have hnd := nodupN_spec h2
  have hag : ∀ i, i < s'.n → (fun i => ρ (nthD R i)) i = (fun i => if i < s'.n then ρ (nthD R i) else none) i := fun i hi => by simp [hi]
  have hin : ∀ i e, get s'.h i = some e → i < s'.n ∧ e.below s'.n = true := fun i e hi => belowH_spec h4 (get_mem hi)
  have hfoot : ∀ i, ∃ G : Nat → Prop, (∀ e, get s'.h i = some e → ∃ v, (if i < s'.n then ρ (nthD R i) else none) = some v ∧ Ent.holds (fun i => if i < s'.n then ρ (nthD R i) else none) e v w G) ∧ ∀ b, G b → F (nthD R i) b := by
    intro i
    cases hi : get s'.h i with
    | none => exact ⟨fun _ => False, (fun e he => by cases he), fun b hb' => hb'.elim⟩
    | some e =>
      obtain ⟨hi1, hi2⟩ := hin i e hi
      obtain ⟨e', g1, g3⟩ := subH_get hH hi
      obtain ⟨v, hv, hhold⟩ := r.heap.ents _ _ g1
      obtain ⟨G, hG, hsub⟩ : ∃ G : Nat → Prop, Ent.holds ρ (renE (nthD R) e) v w G ∧ ∀ b, G b → F (nthD R i) b := by
        rcases g3 with g3 | g3
        · exact ⟨_, like_hold g3 hhold, fun _ h => h⟩
        · obtain ⟨G, k1, k2⟩ := holds_ro hhold
          exact ⟨G, like_hold g3 k1, k2⟩
      refine ⟨G, fun e2 he2 => ?_, hsub⟩
      cases he2
      exact ⟨v, by rw [if_pos hi1]; exact hv, holds_below hag hi2 (holds_ren.1 hG)⟩
  obtain ⟨Fc, hFc⟩ := Classical.skolem.1 hfoot
  have wr' : ∀ i e, get s'.h i = some e → e.wr = true → ∃ e', get s.h (nthD R i) = some e' ∧ e'.wr = true := fun i e hi hw => by
    obtain ⟨e', g1, g3⟩ := subH_get hH hi
    refine ⟨e', g1, ?_⟩
    rcases g3 with g3 | g3
    · rw [like_wr g3, renE_wr]; exact hw
    · exact ro_wr (by rw [like_wr g3, renE_wr]; exact hw)
  refine ⟨⟨_, Fc, ⟨r.size, r.defers, fun x v hx => ?_, ⟨fun i e hi => (hFc i).1 e hi, fun i j ei ej hij hi hj hwi b hbi hbj => ?_, fun i e hi b hbb => ?_⟩, r.ctx, fun i e hi hw b hbb => ?_, r.os, r.tape, r.output, r.grown, fun i v hv => ?_, fun i e hi b hbb => ?_⟩, fun i hi => by simp; omega⟩, fun i e hi => (hin i e hi).1⟩
  · obtain ⟨v', hv', hn'⟩ := subT_get hT hx
    obtain ⟨u, hu, hg⟩ := r.tmps x _ hv'
    rw [like_conc hn', conc_ren] at hu
    exact ⟨u, by rw [← conc_below hag v (belowT_get h3 hx)]; exact hu, hg⟩
  · obtain ⟨ei', g1, hw'⟩ := wr' i ei hi hwi
    obtain ⟨ej', k1, _⟩ := subH_get hH hj
    have a1 := (hin i ei hi).1
    have a2 := (hin j ej hj).1
    exact r.heap.apart _ _ ei' ej' (fun e => hij (nthD_inj hnd (by omega) (by omega) e)) g1 k1 hw' b ((hFc i).2 b hbi) ((hFc j).2 b hbj)
  · obtain ⟨e', g1, _⟩ := subH_get hH hi
    exact r.heap.low _ _ g1 b ((hFc i).2 b hbb)
  · obtain ⟨e', g1, hw'⟩ := wr' i e hi hw
    exact r.apart _ _ g1 hw' b ((hFc i).2 b hbb)
  · by_cases hi : i < B.n0
    · obtain ⟨e1, e2⟩ := idPre_spec hid i hi
      rw [Nat.zero_add] at e1
      rw [if_pos (by omega), e1]
      exact r.keep i v hv
    · rw [h0 i (by omega)] at hv; cases hv
  · obtain ⟨e', g1, _⟩ := subH_get hH hi
    exact r.near _ _ g1 b ((hFc i).2 b hbb)

theorem Shift.sub {m : Nat} {s s' : St} (h : Sub m s s') : Shift m s s' := fun B hB h0 a w hat => by
  subst hB
  exact At.sub h0 h hat
theorem Shift.refl {m : Nat} {s : St} : Shift m s s := fun _ _ _ _ _ h => h
theorem Shift.trans {m : Nat} {s s' s'' : St} (h : Shift m s s') (k : Shift m s' s'') : Shift m s s'' := fun B hB h0 a w hat => k B hB h0 a w (h B hB h0 a w hat)

theorem At.fork {t : List (Nat × AV)} {h : List (Nat × Ent)} {n : Nat} {a : Act} {w : World} (hat : At B t h n a w) {x : Nat} {b : Bool} (hx : get t x = some (.bool b)) (v : AV) (hv : ∀ ρ, conc ρ v = some (.bool b)) :
    At B ((x, v) :: t) h n a w := by
  obtain ⟨⟨ρ, F, r, hf⟩, hids⟩ := hat
  refine ⟨⟨ρ, F, ⟨r.size, r.defers, fun y u hy => ?_, r.heap, r.ctx, r.apart, r.os, r.tape, r.output, r.grown, r.keep, r.near⟩, hf⟩, hids⟩
  rw [get_cons] at hy
  split at hy
  · rename_i e; subst e; cases hy
    obtain ⟨u', hu', hg⟩ := r.tmps _ _ hx
    exact ⟨u', by rw [hv]; exact hu', hg⟩
  · exact r.tmps y u hy

theorem At.eval {t : List (Nat × AV)} {h : List (Nat × Ent)} {n : Nat} {a : Act} {w : World} (hat : At B t h n a w) {c : Operand} {v : AV} (hc : evS t c = some v) {u : Value} (hu : ∀ ρ, conc ρ v = some u) : a.eval c = u := by
  obtain ⟨⟨ρ, F, r, hf⟩, hids⟩ := hat
  obtain ⟨u', h1, h2⟩ := eval_of_tmps r c v (by rw [evO_get]; exact hc)
  rw [hu] at h1
  cases h1
  exact h2

theorem den_ok (hE : E.Ok P) (hm : P.follows .mixedOrders = true) (h0 : ∀ i, B.n0 ≤ i → B.ρ0 i = none) : ∀ (c : Code) (t : List (Nat × AV)) (h : List (Nat × Ent)) (n : Nat) (K : Kont) (Q : Exit → Act → World → Prop) (a : Act) (w : World),
    den E P B.N B.n0 c t h n K → At B t h n a w → (∀ k t' h' n' a' w', K k t' h' n' → At B t' h' n' a' w' → Q (exitOf k) a' w') → c.wp P Q a w := by
  intro c
  induction c with
  | skip => intro t h n K Q a w hd hat hK; exact wp_skip (hK .normal _ _ _ _ _ hd hat)
  | ret => intro t h n K Q a w hd hat hK; exact wp_ret (hK .ret _ _ _ _ _ hd hat)
  | exit id => intro t h n K Q a w hd hat hK; exact wp_exit (hK (.exit id) _ _ _ _ _ hd hat)
  | seq x y ihx ihy =>
    intro t h n K Q a w hd hat hK
    refine wp_seq (ihx t h n _ _ a w hd hat fun k t' h' n' a' w' hk hat' => ?_)
    cases k with
    | normal => exact ihy t' h' n' K Q a' w' hk hat' hK
    | exit id => exact hK (.exit id) _ _ _ _ _ hk hat'
    | ret => exact hK .ret _ _ _ _ _ hk hat'
  | block id x ih =>
    intro t h n K Q a w hd hat hK
    refine wp_block (ih t h n _ _ a w hd hat fun k t' h' n' a' w' hk hat' => ?_)
    cases k with
    | normal => exact hK .normal _ _ _ _ _ hk hat'
    | exit id' =>
      simp only at hk
      simp only [exitOf, Exit.inBlock]
      split at hk
      · rename_i he
        rw [if_pos (Nat.eq_of_beq_eq_true he)]
        exact hK .normal _ _ _ _ _ hk hat'
      · rename_i he
        rw [if_neg (fun e => by subst e; simp at he)]
        exact hK (.exit id') _ _ _ _ _ hk hat'
    | ret => exact hK .ret _ _ _ _ _ hk hat'
  | cond c x y ihx ihy =>
    intro t h n K Q a w hd hat hK
    simp only [den, condV] at hd
    split at hd
    · rename_i hc
      exact wp_cond_true (hat.eval hc fun _ => rfl) (ihx t h n K Q a w hd hat hK)
    · rename_i hc
      exact wp_cond_false (hat.eval hc fun _ => rfl) (ihy t h n K Q a w hd hat hK)
    · rename_i z b hc
      obtain ⟨h1, h2⟩ := hd
      have hg : get t z = some (.bool b) := hc
      cases b with
      | true => exact wp_cond_true (hat.eval hc fun _ => rfl) (ihx _ h n K Q a w (h1 rfl) (hat.fork hg .tt fun _ => rfl) hK)
      | false => exact wp_cond_false (hat.eval hc fun _ => rfl) (ihy _ h n K Q a w (h2 rfl) (hat.fork hg .ff fun _ => rfl) hK)
    · exact hd.elim
  | loop x ih =>
    intro t h n K Q a w hd hat hK
    obtain ⟨u, hd⟩ := hd
    refine wp_of_loopWp ?_
    induction u generalizing t h n a w with
    | zero =>
      obtain ⟨X, inv, μ, x0, hsub, hround⟩ := hd
      refine loopWp_inv (fun k a w => ∃ x, μ x = k ∧ At B (inv x).t (inv x).h (inv x).n a w) ?_ (μ x0) a w ⟨x0, rfl, hsub B rfl h0 a w hat⟩
      rintro k a1 w1 ⟨x1, rfl, hat1⟩
      refine ih _ _ _ _ _ a1 w1 (hround x1) hat1 fun k t' h' n' a' w' hk hat' => ?_
      cases k with
      | normal =>
        obtain ⟨x', hs', hlt⟩ := hk
        exact ⟨μ x', hlt, x', rfl, hs' B rfl h0 a' w' hat'⟩
      | exit id => exact hK (.exit id) _ _ _ _ _ hk hat'
      | ret => exact hK .ret _ _ _ _ _ hk hat'
    | succ u ihu =>
      refine loopWp_round (ih t h n _ _ a w hd hat fun k t' h' n' a' w' hk hat' => ?_)
      cases k with
      | normal => exact ihu t' h' n' a' w' hat' hk
      | exit id => exact hK (.exit id) _ _ _ _ _ hk hat'
      | ret => exact hK .ret _ _ _ _ _ hk hat'
  | region id ops draw =>
    intro t h n K Q a w hd hat hK
    obtain ⟨⟨ρ, F, r, hf⟩, hids⟩ := hat
    obtain ⟨tl, T', n', t', h', hrun, hsim, hids', hk⟩ := ops_ok hE ops.toList (get t) t h n [] _ hd (fun x v hx => ⟨v, hx, fun _ => rfl⟩) hids
    have hlen := run_length hrun
    obtain ⟨hok, e1, e2, e3, e4⟩ := run_ok hrun
    have earr : ops.toList.toArray = ops := rfl
    rw [earr] at hok e1 e2 e4
    have fin : K .normal t' h' n' → ∀ ρ F a w, Rep B ρ (foldS (fun _ => true) ((traceOf tl n').wrT ops) (get t) ops.size) (foldS (fun _ => true) (traceOf tl n').wrH (get h) ops.size) F a w →
        (∀ i, (traceOf tl n').ns ops.size ≤ i → ρ i = none) → Q .normal a w := fun hk ρ F a w r hf => by
      rw [e1, e2] at r
      rw [e4] at hf
      exact hK .normal _ _ _ _ _ hk ⟨⟨ρ, F, Sim.rep r hsim, hf⟩, hids'⟩
    cases draw with
    | false => exact region_text hok (fin hk) r (by rw [e3]; exact hf) id
    | true =>
      obtain ⟨hlog, hk⟩ := hk
      obtain ⟨hlow, hord⟩ := okLog_spec hlen n' hlog
      rw [earr] at hlow hord
      exact region_any hm hok hlow hord (fin hk) r (by rw [e3]; exact hf) id
  | _ => intro t h n K Q a w hd; exact hd.elim
end
end Go.Eng
