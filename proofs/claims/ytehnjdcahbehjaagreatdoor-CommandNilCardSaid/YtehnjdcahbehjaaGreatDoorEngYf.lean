/- The engine, part Yf: a body in pieces, with other words for the same memory between them; the door for such bodies. -/
import Derived.Test.YtehnjdcahbehjaaGreatDoorEngYc
namespace Go.Eng
open Go
set_option linter.unusedSimpArgs false
set_option linter.unusedVariables false

def WpS (P : Program) (N m : Nat) (c : Code) (t : List (Nat × AV)) (h : List (Nat × Ent)) (n : Nat) (K : Kont) : Prop :=
  ∀ B : Base, B.N = N → B.n0 = m → (∀ i, m ≤ i → B.ρ0 i = none) → ∀ (Q : Exit → Act → World → Prop) a w, At B t h n a w →
    (∀ k t' h' n' a' w', K k t' h' n' → At B t' h' n' a' w' → Q (exitOf k) a' w') → c.wp P Q a w

section
variable {P : Program} {E : TT} {N m : Nat} {t : List (Nat × AV)} {h : List (Nat × Ent)} {n : Nat} {K : Kont}

theorem WpS.den (hE : E.Ok P) (hm : P.follows .mixedOrders = true) {c : Code} (hd : den E P N m c t h n K) : WpS P N m c t h n K :=
  fun B hN hB h0 Q a w hat hK => den_ok hE hm (by rw [hB]; exact h0) c t h n K Q a w (by rw [hN, hB]; exact hd) hat hK
theorem WpS.shift {c : Code} {t' : List (Nat × AV)} {h' : List (Nat × Ent)} {n' : Nat} (hs : Shift m ⟨t, h, n⟩ ⟨t', h', n'⟩) (hw : WpS P N m c t' h' n' K) : WpS P N m c t h n K :=
  fun B hN hB h0 Q a w hat hK => hw B hN hB h0 Q a w (hs B hB h0 a w hat) hK
theorem WpS.post {c : Code} {K' : Kont} (hw : WpS P N m c t h n K) (hk : ∀ k t h n, K k t h n → ∃ t' h' n', Shift m ⟨t, h, n⟩ ⟨t', h', n'⟩ ∧ K' k t' h' n') : WpS P N m c t h n K' :=
  fun B hN hB h0 Q a w hat hK => hw B hN hB h0 Q a w hat fun k t h n a w hk1 hat1 => by
    obtain ⟨t', h', n', hs, hk2⟩ := hk k t h n hk1
    exact hK k t' h' n' a w hk2 (hs B hB h0 a w hat1)
theorem WpS.seq {x y : Code} (hw : WpS P N m x t h n fun k t h n => match k with
    | .normal => WpS P N m y t h n K
    | .exit id => K (.exit id) t h n
    | .ret => K .ret t h n) : WpS P N m (.seq x y) t h n K :=
  fun B hN hB h0 Q a w hat hK => wp_seq (hw B hN hB h0 _ a w hat fun k t' h' n' a' w' hk hat' => by
    cases k with
    | normal => exact hk B hN hB h0 Q a' w' hat' hK
    | exit id => exact hK (.exit id) _ _ _ _ _ hk hat'
    | ret => exact hK .ret _ _ _ _ _ hk hat')
theorem WpS.block {id : Nat} {x : Code} (hw : WpS P N m x t h n fun k t h n => match k with
    | .normal => K .normal t h n
    | .exit id' => match Nat.beq id' id with
      | true => K .normal t h n
      | false => K (.exit id') t h n
    | .ret => K .ret t h n) : WpS P N m (.block id x) t h n K :=
  fun B hN hB h0 Q a w hat hK => wp_block (hw B hN hB h0 _ a w hat fun k t' h' n' a' w' hk hat' => by
    cases k with
    | normal => exact hK .normal _ _ _ _ _ hk hat'
    | exit id' =>
      simp only at hk
      simp only [exitOf, Exit.inBlock]
      split at hk
      · rename_i he
        rw [if_pos (Nat.eq_of_beq_eq_true he)]
        exact hK .normal _ _ _ _ _ hk hat'
      · rename_i he
        rw [if_neg (fun e => by subst e; simp at he)]
        exact hK (.exit id') _ _ _ _ _ hk hat'
    | ret => exact hK .ret _ _ _ _ _ hk hat')
theorem WpS.cond {c : Operand} {x y : Code} (hc : match c, evS t c with
  | _, some .tt => WpS P N m x t h n K
  | _, some .ff => WpS P N m y t h n K
  | .tmp z, some (.bool v) => Fork v (WpS P N m x ((z, .tt) :: t) h n K) (WpS P N m y ((z, .ff) :: t) h n K)
  | _, _ => False) : WpS P N m (.cond c x y) t h n K :=
  fun B hN hB h0 Q a w hat hK => by
    split at hc
    · rename_i hv
      exact wp_cond_true (hat.eval hv fun _ => rfl) (hc B hN hB h0 Q a w hat hK)
    · rename_i hv
      exact wp_cond_false (hat.eval hv fun _ => rfl) (hc B hN hB h0 Q a w hat hK)
    · rename_i z b hv
      obtain ⟨h1, h2⟩ := hc
      have hg : get t z = some (.bool b) := hv
      cases b with
      | true => exact wp_cond_true (hat.eval hv fun _ => rfl) (h1 rfl B hN hB h0 Q a w (hat.fork hg .tt fun _ => rfl) hK)
      | false => exact wp_cond_false (hat.eval hv fun _ => rfl) (h2 rfl B hN hB h0 Q a w (hat.fork hg .ff fun _ => rfl) hK)
    · exact hc.elim
/-- a loop whose rounds are given in pieces -/
theorem WpS.loop {x : Code} (X : Type) (inv : X → St) (μ : X → Nat) (x0 : X) (hs : Shift m ⟨t, h, n⟩ (inv x0))
    (hr : ∀ y, WpS P N m x (inv y).t (inv y).h (inv y).n (loopK m inv μ y K)) : WpS P N m (.loop x) t h n K :=
  fun B hN hB h0 Q a w hat hK => by
    refine wp_of_loopWp (loopWp_inv (fun k a w => ∃ y, μ y = k ∧ At B (inv y).t (inv y).h (inv y).n a w) ?_ (μ x0) a w ⟨x0, rfl, hs B hB h0 a w hat⟩)
    rintro k a1 w1 ⟨x1, rfl, hat1⟩
    refine hr x1 B hN hB h0 _ a1 w1 hat1 fun k t' h' n' a' w' hk hat' => ?_
    cases k with
    | normal =>
      obtain ⟨x', hs', hlt⟩ := hk
      exact ⟨μ x', hlt, x', rfl, hs' B hB h0 a' w' hat'⟩
    | exit id => exact hK (.exit id) _ _ _ _ _ hk hat'
    | ret => exact hK .ret _ _ _ _ _ hk hat'
end
end Go.Eng
