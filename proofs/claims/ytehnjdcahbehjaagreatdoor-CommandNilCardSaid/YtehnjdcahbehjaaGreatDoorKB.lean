import Derived.Test.YtehnjdcahbehjaaGreatDoorKA
namespace Go.Proofs.YtehnjdcahbehjaaGreatDoor
open Go Go.Eng Go.Proofs
set_option maxRecDepth 100000
set_option linter.unusedVariables false
set_option linter.unusedSimpArgs false
/-- strings.Trim, where the letters to be cut off are ASCII -/
def trimL (p : UInt8 → Bool) (l : Bs) : Bs := (dropWhileEndL p l).dropWhile p
theorem str_empty {s : ByteArray} (h : L s = []) : s = bs [] := by rw [← bs_L s, h]
theorem strings_Trim (s p : ByteArray) (hs : s.size ≤ maxLen) (q2 : 2 ≤ p.size) (hp : p.size ≤ 1000) (ha : ∀ b ∈ L p, b < 128) : FnOk Tryz.prog 171 [.str s, .str p] (conPure 0 (.str (bs (trimL (fun c => (L p).any fun b => b.toNat == c.toNat) (L s))))) := by
  refine fnOk_of_den tab_ok mixed look171 rfl rfl (by kernel_rfl) fun hb => ?_
  simp only [den, denOps]
  have hz : ∀ f, (bs (dropWhileEndL f (L s))).size ≤ maxLen := fun f => by
    have := (List.dropWhile_sublist f (l := (L s).reverse)).length_le
    simp only [List.length_reverse, L_length] at this
    simp only [bs_size, dropWhileEndL, List.length_reverse]
    omega
  refine Fork.mk (fun h1 => ?_) (fun h1 => ?_)
  · simp at h1
    refine doneVC_mk [] ⟨by kernel_rfl, by kernel_rfl, by kernel_rfl⟩ rfl (eqS ?_) trivial
    · have e : L s = [] := by simpa using h1
      rw [e, ← bs_L s, e]; rfl
  · simp at h1
    refine Fork.mk (fun h2 => ?_) (fun h2 => ?_)
    · simp at h2
      refine doneVC_mk [] ⟨by kernel_rfl, by kernel_rfl, by kernel_rfl⟩ rfl (eqS ?_) trivial
      · exfalso
        have e : L p = [] := by simpa using h2
        rw [← L_length, e] at q2
        simp at q2
    · simp at h2
      refine Fork.mk (fun h3 => ?_) (fun h3 => ?_)
      · simp at h3
        (exfalso; omega)
      · simp at h3
        refine callVC_mk [] (strings_makeASCIISet _ ?_ ?_) ⟨rfl, rfl, rfl⟩ rfl trivial ?_
        · assumption
        · assumption
        refine callVC_mk [0] (strings_trimRightASCII _ (fun k => (L p).any fun b => b.toNat == k) ?_) ⟨rfl, rfl, rfl⟩ rfl ⟨Or.inr ⟨rfl, rfl⟩, trivial⟩ ?_
        · assumption
        refine callVC_mk [0] (strings_trimLeftASCII _ (fun k => (L p).any fun b => b.toNat == k) ?_) ⟨rfl, rfl, rfl⟩ rfl ⟨Or.inr ⟨rfl, rfl⟩, trivial⟩ ?_
        · (simp_all; done)
        refine doneVC_mk [] ⟨by kernel_rfl, by kernel_rfl, by kernel_rfl⟩ rfl (by kernel_rfl) trivial

/-- what strconv.Atoi makes of decimal digits -/
def digitsL (l : Bs) : Int := l.foldl (fun n c => n * 10 + ((c.toNat : Int) - 48)) 0
def isDigit (c : UInt8) : Bool := decide (48 ≤ c.toNat) && decide (c.toNat ≤ 57)
@[simp] theorem bAt_bs (l : Bs) (n : Nat) : bAt (bs l) n = l.getD n 0 := rfl
theorem sign_cases (l : Bs) : (∃ d, l = 45 :: d ∧ trimPrefixL l [45] = d) ∨ (trimPrefixL l [45] = l ∧ ∀ r, l ≠ 45 :: r) := by
  cases l with
  | nil => exact .inr ⟨rfl, by simp⟩
  | cons c r =>
    by_cases h : c = 45
    · subst h; exact .inl ⟨r, rfl, by simp [trimPrefixL]⟩
    · refine .inr ⟨?_, fun r' e => h (by cases e; rfl)⟩
      simp [trimPrefixL, List.isPrefixOf, Ne.symm h]
theorem digitsL_snoc (l : Bs) (c : UInt8) : digitsL (l ++ [c]) = digitsL l * 10 + ((c.toNat : Int) - 48) := by simp [digitsL]
theorem isDigit_iff {c : UInt8} : isDigit c = true ↔ 48 ≤ c.toNat ∧ c.toNat ≤ 57 := by simp [isDigit]
theorem digitsL_bound : ∀ (n : Nat) (l : Bs), l.length = n → (∀ c ∈ l, isDigit c = true) → 0 ≤ digitsL l ∧ digitsL l < 10 ^ n
  | 0, l, hl, _ => by
    have : l = [] := List.length_eq_zero_iff.1 hl
    subst this; simp [digitsL]
  | n + 1, l, hl, h => by
    rcases List.eq_nil_or_concat l with rfl | ⟨r, c, rfl⟩
    · simp at hl
    · rw [List.concat_eq_append] at hl h ⊢
      have := digitsL_bound n r (by simp at hl; omega) fun c hc => h c (by simp [hc])
      have hc := isDigit_iff.1 (h c (by simp))
      rw [digitsL_snoc, Int.pow_succ]
      omega
theorem digitsL_small {l : Bs} (hl : l.length ≤ 15) (h : ∀ c ∈ l, isDigit c = true) : 0 ≤ digitsL l ∧ digitsL l < 1000000000000000 := by
  have := digitsL_bound _ l rfl h
  refine ⟨this.1, Int.lt_of_lt_of_le this.2 ?_⟩
  have : (10 : Int) ^ l.length ≤ 10 ^ 15 := by exact_mod_cast Nat.pow_le_pow_right (by omega) hl
  omega
theorem take_snoc {α : Type} {l : List α} {i : Nat} (h : i < l.length) : l.take (i + 1) = l.take i ++ [l[i]] := by
  rw [List.take_add_one, List.getElem?_eq_getElem h]; rfl
theorem atoi_neg (d : Bs) (q0 : 0 < d.length) (q15 : d.length ≤ 15) (hd : ∀ c ∈ d, isDigit c = true) : FnOk Tryz.prog 248 [.str (bs (45 :: d))] (conPure 0 (.tup [.int .i64 (- digitsL d), .val .nilIface])) := by
  refine fnOk_of_den tab_ok mixed look248 rfl rfl (by kernel_rfl) fun hb => ?_
  simp only [den, denOps]
  refine Fork.mk (fun h1 => ?_) (fun h1 => ?_)
  · simp at h1
    refine Fork.mk (fun h2 => ?_) (fun h2 => ?_)
    · simp at h2
      replace h2 := of_decide_eq_true h2
      refine ⟨by simp_all; done, ?_⟩
      refine Fork.mk (fun h3 => ?_) (fun h3 => ?_)
      · simp at h3
        refine ⟨by simp; omega, ?_⟩
        refine Fork.mk (fun h4 => ?_) (fun h4 => ?_)
        · simp at h4
          (exfalso; omega)
        · simp at h4
          have hx : L ((bs (45 :: d)).extract (bndI (some (1, true)) 0).toNat (bndI none (bs (45 :: d)).size).toNat) = d := by simp
          refine ⟨by rw [← L_length, hx]; simp only [maxLen]; omega, ?_⟩
          refine loop_mk (fun i => i ≤ d.length) (fun i => ⟨[(5, .str (bs (45 :: d))), (6, .int .i64 (digitsL (d.take i))), (47, .ref 0), (48, .int .i64 (d.length : Nat)), (49, .int .i64 (i : Nat))], [(0, .row true 5 1 UInt8 byteAV d)], 1⟩) (fun i => d.length - i) 0 (Nat.zero_le _) ?_ ?_
          · refine sub_mk [0] ⟨by kernel_rfl, by kernel_rfl, by kernel_rfl, by kernel_rfl, by kernel_rfl⟩ ⟨rfl, ⟨rfl, ⟨rfl, ⟨(eqI ?_), ⟨rfl, trivial⟩⟩⟩⟩⟩ ⟨Or.inl (eqRow ?_), trivial⟩
            · (simp_all; done)
            · assumption
          · intro i hi
            refine Fork.mk (fun h5 => ?_) (fun h5 => ?_)
            · simp at h5
              refine ⟨⟨by omega, by omega, rfl⟩, ?_⟩
              refine ⟨_, ⟨rfl, List.getElem?_eq_getElem (by first | omega | (simp; omega))⟩, ?_⟩
              refine Fork.mk (fun h6 => ?_) (fun h6 => ?_)
              · simp at h6
                exfalso
                have hq := isDigit_iff.1 (hd d[i] (List.getElem_mem _))
                rw [IntKind.wrap_u8] at h6
                omega
              · simp at h6
                refine ⟨⟨i + 1, ?_⟩, ?_, ?_⟩
                · assumption
                · refine sub_mk [0] ⟨by kernel_rfl, by kernel_rfl, by kernel_rfl, by kernel_rfl, by kernel_rfl⟩ ⟨rfl, ⟨(eqI ?_), ⟨rfl, ⟨rfl, ⟨(eqI ?_), trivial⟩⟩⟩⟩⟩ ⟨Or.inl (by kernel_rfl), trivial⟩
                  · have hq := isDigit_iff.1 (hd d[i] (List.getElem_mem _))
                    have hr := digitsL_small (l := d.take i) (by simp; omega) fun c hc => hd c (List.mem_of_mem_take hc)
                    simp only [take_snoc h5, digitsL_snoc, Int.toNat_natCast, IntKind.wrap_i64, IntKind.wrap_u8]
                    omega
                  · (simp only [IntKind.wrap_i64]; omega)
                · (simp_all; omega)
            · simp at h5
              refine ⟨by simp_all; done, ?_⟩
              refine Fork.mk (fun h6 => ?_) (fun h6 => ?_)
              · simp at h6
                refine doneVC_mk [] ⟨by kernel_rfl, by kernel_rfl, by kernel_rfl⟩ rfl (eqT (eqC (eqI ?_) (by kernel_rfl))) trivial
                · have hr := digitsL_small q15 hd
                  have e : d.take i = d := List.take_of_length_le h5
                  rw [e, IntKind.wrap_i64]
                  omega
              · exact absurd h6 (by simp)
      · exact absurd h3 (by simp)
    · simp at h2
      replace h2 := of_decide_eq_false h2
      (exfalso; omega)
  · exact absurd h1 (by simp)

theorem atoi_pos (d : Bs) (q0 : 0 < d.length) (q15 : d.length ≤ 15) (hd : ∀ c ∈ d, isDigit c = true) : FnOk Tryz.prog 248 [.str (bs d)] (conPure 0 (.tup [.int .i64 (digitsL d), .val .nilIface])) := by
  refine fnOk_of_den tab_ok mixed look248 rfl rfl (by kernel_rfl) fun hb => ?_
  simp only [den, denOps]
  have q45 : 48 ≤ (d[0]?.getD 0).toNat ∧ (d[0]?.getD 0).toNat ≤ 57 := by
    cases d with
    | nil => simp at q0
    | cons c r => exact isDigit_iff.1 (hd c (by simp))
  refine Fork.mk (fun h1 => ?_) (fun h1 => ?_)
  · simp at h1
    refine Fork.mk (fun h2 => ?_) (fun h2 => ?_)
    · simp at h2
      replace h2 := of_decide_eq_true h2
      refine ⟨by simp; omega, ?_⟩
      refine Fork.mk (fun h3 => ?_) (fun h3 => ?_)
      · simp at h3
        (exfalso; omega)
      · simp at h3
        refine ⟨by simp; omega, ?_⟩
        refine Fork.mk (fun h4 => ?_) (fun h4 => ?_)
        · simp at h4
          (exfalso; omega)
        · simp at h4
          refine ⟨by simp only [bs_size, maxLen]; omega, ?_⟩
          refine loop_mk (fun i => i ≤ d.length) (fun i => ⟨[(5, .str (bs d)), (6, .int .i64 (digitsL (d.take i))), (47, .ref 0), (48, .int .i64 (d.length : Nat)), (49, .int .i64 (i : Nat))], [(0, .row true 5 1 UInt8 byteAV d)], 1⟩) (fun i => d.length - i) 0 (Nat.zero_le _) ?_ ?_
          · refine sub_mk [0] ⟨by kernel_rfl, by kernel_rfl, by kernel_rfl, by kernel_rfl, by kernel_rfl⟩ ⟨rfl, ⟨rfl, ⟨rfl, ⟨rfl, ⟨rfl, trivial⟩⟩⟩⟩⟩ ⟨Or.inl (by kernel_rfl), trivial⟩
          · intro i hi
            refine Fork.mk (fun h5 => ?_) (fun h5 => ?_)
            · simp at h5
              refine ⟨⟨by omega, by omega, rfl⟩, ?_⟩
              refine ⟨_, ⟨rfl, List.getElem?_eq_getElem (by first | omega | (simp; omega))⟩, ?_⟩
              refine Fork.mk (fun h6 => ?_) (fun h6 => ?_)
              · simp at h6
                exfalso
                have hq := isDigit_iff.1 (hd d[i] (List.getElem_mem _))
                rw [IntKind.wrap_u8] at h6
                omega
              · simp at h6
                refine ⟨⟨i + 1, ?_⟩, ?_, ?_⟩
                · assumption
                · refine sub_mk [0] ⟨by kernel_rfl, by kernel_rfl, by kernel_rfl, by kernel_rfl, by kernel_rfl⟩ ⟨rfl, ⟨(eqI ?_), ⟨rfl, ⟨rfl, ⟨(eqI ?_), trivial⟩⟩⟩⟩⟩ ⟨Or.inl (by kernel_rfl), trivial⟩
                  · have hq := isDigit_iff.1 (hd d[i] (List.getElem_mem _))
                    have hr := digitsL_small (l := d.take i) (by simp; omega) fun c hc => hd c (List.mem_of_mem_take hc)
                    simp only [take_snoc h5, digitsL_snoc, Int.toNat_natCast, IntKind.wrap_i64, IntKind.wrap_u8]
                    omega
                  · (simp only [IntKind.wrap_i64]; omega)
                · (simp_all; omega)
            · simp at h5
              refine ⟨by simp; omega, ?_⟩
              refine Fork.mk (fun h6 => ?_) (fun h6 => ?_)
              · simp at h6
                (exfalso; omega)
              · simp at h6
                refine doneVC_mk [] ⟨by kernel_rfl, by kernel_rfl, by kernel_rfl⟩ rfl (eqT (eqC (eqI ?_) (by kernel_rfl))) trivial
                · have e : d.take i = d := List.take_of_length_le h5
                  rw [e]
    · simp at h2
      replace h2 := of_decide_eq_false h2
      (exfalso; omega)
  · simp at h1
    (exfalso; simp_all; done)


theorem strconv_Atoi_neg (d : Bs) (q0 : 0 < d.length) (q15 : d.length ≤ 15) (hd : ∀ c ∈ d, isDigit c = true) : FnOk Tryz.prog 172 [.str (bs (45 :: d))] (conPure 0 (.tup [.int .i64 (- digitsL d), .val .nilIface])) := by
  refine fnOk_of_den tab_ok mixed look172 rfl rfl (by kernel_rfl) fun hb => ?_
  simp only [den, denOps]
  refine callVC_mk [] (atoi_neg _ ?_ ?_ ?_) ⟨rfl, rfl, rfl⟩ rfl trivial ?_
  · assumption
  · assumption
  · assumption
  refine law_mk (good_nilIface rfl rfl Tryz.underlying274 (.inr ⟨rfl, rfl⟩)) ?_
  refine doneVC_mk [] ⟨by kernel_rfl, by kernel_rfl, by kernel_rfl⟩ rfl (by kernel_rfl) trivial

theorem strconv_Atoi_pos (d : Bs) (q0 : 0 < d.length) (q15 : d.length ≤ 15) (hd : ∀ c ∈ d, isDigit c = true) : FnOk Tryz.prog 172 [.str (bs d)] (conPure 0 (.tup [.int .i64 (digitsL d), .val .nilIface])) := by
  refine fnOk_of_den tab_ok mixed look172 rfl rfl (by kernel_rfl) fun hb => ?_
  simp only [den, denOps]
  refine callVC_mk [] (atoi_pos _ ?_ ?_ ?_) ⟨rfl, rfl, rfl⟩ rfl trivial ?_
  · assumption
  · assumption
  · assumption
  refine law_mk (good_nilIface rfl rfl Tryz.underlying274 (.inr ⟨rfl, rfl⟩)) ?_
  refine doneVC_mk [] ⟨by kernel_rfl, by kernel_rfl, by kernel_rfl⟩ rfl (by kernel_rfl) trivial

end Go.Proofs.YtehnjdcahbehjaaGreatDoor
