import Derived.Test.YtehnjdcahbehjaaGreatDoorLooks
import Derived.Laws.Strings
import Derived.Test.YtehnjdcahbehjaaGreatDoorEngZ
namespace Go.Proofs.YtehnjdcahbehjaaGreatDoor
open Go Go.Eng Go.Proofs
set_option maxRecDepth 100000
set_option linter.unusedVariables false
set_option linter.unusedSimpArgs false
/-! ### texts as lists of bytes -/
abbrev Bs := List UInt8
/-- a text out of its bytes -/
def bs (l : Bs) : ByteArray := ⟨l.toArray⟩
/-- a text's bytes -/
def L (s : ByteArray) : Bs := s.data.toList
@[simp] theorem L_bs (l : Bs) : L (bs l) = l := rfl
@[simp] theorem lit_empty : L ⟨#[]⟩ = [] := rfl
@[simp] theorem lit_minus : L ⟨#[45]⟩ = [45] := rfl
@[simp] theorem lit_zero : L ⟨#[48]⟩ = [48] := rfl
@[simp] theorem bs_L (s : ByteArray) : bs (L s) = s := rfl
theorem L_inj {a b : ByteArray} (h : L a = L b) : a = b := by rw [← bs_L a, h, bs_L]
theorem L_length (s : ByteArray) : (L s).length = s.size := rfl
@[simp] theorem bs_size (l : Bs) : (bs l).size = l.length := rfl
theorem bAt_L (s : ByteArray) (n : Nat) : bAt s n = (L s).getD n 0 := rfl
@[simp] theorem toList_L (s : ByteArray) : s.toList = L s := ByteArray.toList_eq s
@[simp] theorem L_extract (s : ByteArray) (a b : Nat) : L (s.extract a b) = ((L s).take b).drop a := by
  simp [L, ByteArray.data_extract, List.extract_eq_take_drop, List.drop_take]
theorem extract_eq (s : ByteArray) (a b : Nat) : s.extract a b = bs (((L s).take b).drop a) := L_inj (by rw [L_extract, L_bs])
@[simp] theorem L_append (a b : ByteArray) : L (a ++ b) = L a ++ L b := by simp [L, ByteArray.data_append]
theorem append_eq (a b : ByteArray) : a ++ b = bs (L a ++ L b) := L_inj (by rw [L_append, L_bs])
theorem toList_beq (a b : ByteArray) : (a.toList == b.toList) = (L a == L b) := by rw [toList_L, toList_L]
@[simp] theorem ba_beq (a b : ByteArray) : (a == b) = (L a == L b) := by
  rw [beq_toListBytes, toList_L, toList_L]

@[simp] theorem bndI_none (d : Nat) : bndI none d = d := rfl
@[simp] theorem bndI_some (n : Int) (b : Bool) (d : Nat) : bndI (some (n, b)) d = n := rfl
theorem prefix_take {a b : Bs} : (a.take b.length == b) = b.isPrefixOf a := by
  rw [Bool.eq_iff_iff, beq_iff_eq, List.isPrefixOf_iff_prefix, List.prefix_iff_eq_take]
  exact eq_comm
theorem i_stringslite_HasPrefix (s p : ByteArray) : FnOk Tryz.prog 300 [.str s, .str p] (conPure 0 (.bool ((L p).isPrefixOf (L s)))) := by
  refine fnOk_of_den tab_ok mixed look300 rfl rfl (by kernel_rfl) fun hb => ?_
  simp only [den, denOps]
  refine Fork.mk (fun h1 => ?_) (fun h1 => ?_)
  · simp at h1
    refine ⟨by simp only [bndI]; omega, ?_⟩
    refine doneVC_mk [] ⟨by kernel_rfl, by kernel_rfl, by kernel_rfl⟩ rfl (eqB ?_) trivial
    · simp [← prefix_take, L_length]
  · simp at h1
    refine doneVC_mk [] ⟨by kernel_rfl, by kernel_rfl, by kernel_rfl⟩ rfl (eqB ?_) trivial
    · symm
      rw [← Bool.not_eq_true, List.isPrefixOf_iff_prefix]
      intro h
      have := h.length_le
      simp only [L_length] at this
      omega

def trimPrefixL (s p : Bs) : Bs := if p.isPrefixOf s then s.drop p.length else s
theorem i_stringslite_TrimPrefix (s p : ByteArray) : FnOk Tryz.prog 240 [.str s, .str p] (conPure 0 (.str (bs (trimPrefixL (L s) (L p))))) := by
  refine fnOk_of_den tab_ok mixed look240 rfl rfl (by kernel_rfl) fun hb => ?_
  simp only [den, denOps]
  refine callVC_mk [] (i_stringslite_HasPrefix _ _) ⟨rfl, rfl, rfl⟩ rfl trivial ?_
  refine Fork.mk (fun h1 => ?_) (fun h1 => ?_)
  · simp at h1
    have := h1.length_le
    simp only [L_length] at this
    refine ⟨by simp only [bndI]; omega, ?_⟩
    refine doneVC_mk [] ⟨by kernel_rfl, by kernel_rfl, by kernel_rfl⟩ rfl (eqS ?_) trivial
    · simp [extract_eq, trimPrefixL, h1, L_length]
      rw [List.take_of_length_le (by simp [L_length])]
  · refine doneVC_mk [] ⟨by kernel_rfl, by kernel_rfl, by kernel_rfl⟩ rfl (eqS ?_) trivial
    · simp [trimPrefixL, h1]

theorem strings_TrimPrefix (s p : ByteArray) : FnOk Tryz.prog 170 [.str s, .str p] (conPure 0 (.str (bs (trimPrefixL (L s) (L p))))) := by
  refine fnOk_of_den tab_ok mixed look170 rfl rfl (by kernel_rfl) fun hb => ?_
  simp only [den, denOps]
  refine callVC_mk [] (i_stringslite_TrimPrefix _ _) ⟨rfl, rfl, rfl⟩ rfl trivial ?_
  refine doneVC_mk [] ⟨by kernel_rfl, by kernel_rfl, by kernel_rfl⟩ rfl (by kernel_rfl) trivial

/-! ### sets of bytes -/
def setC (f : Nat → Bool) : List AV := (List.range 256).map fun i => .bool (f i)
theorem setC_get (f : Nat → Bool) (i : Nat) (h : i < 256) : part? (setC f) (i * 1) 1 = some [.bool (f i)] := by
  have h1 : ∀ (l : List AV) (k : Nat) (v : AV), l[k]? = some v → part? l k 1 = some [v] := by
    intro l
    induction l with
    | nil => intro k v hk; simp at hk
    | cons x r ih =>
      intro k v hk
      cases k with
      | zero => simp only [List.getElem?_cons_zero, Option.some.injEq] at hk; subst hk; simp [part?, dropE, takeE]
      | succ k =>
        have := ih k v (by simpa using hk)
        simpa [part?, dropE] using this
  rw [Nat.mul_one]
  exact h1 _ _ _ (by simp [setC, h])
theorem setC_set (f : Nat → Bool) (i : Nat) (h : i < 256) : setE (setC f) (i * 1) [.tt] = some ((setC f).set i .tt) := by
  have h1 : ∀ (l : List AV) (k : Nat) (v : AV), k < l.length → setE l k [v] = some (l.set k v) := by
    intro l
    induction l with
    | nil => intro k v hk; simp at hk
    | cons x r ih =>
      intro k v hk
      cases k with
      | zero => simp [setE, overlay]
      | succ k =>
        have := ih k v (by simpa using hk)
        simp [setE, this]
  rw [Nat.mul_one]
  exact h1 _ _ _ (by simp [setC, h])
theorem normL_map (l : List AV) : normL l = l.map norm := by
  induction l with
  | nil => rfl
  | cons x r ih => rw [normL, ih]; rfl
theorem setC_norm (f : Nat → Bool) (i : Nat) : normL ((setC f).set i .tt) = normL (setC fun k => k == i || f k) := by
  rw [normL_map, normL_map, List.map_set]
  apply List.ext_getElem
  · simp [setC]
  · intro k h1 h2
    simp only [setC, List.getElem_set, List.getElem_map, List.getElem_range, norm]
    by_cases hk : i = k
    · subst hk; simp
    · simp [hk, Ne.symm hk]
theorem setC_get0 (f : Nat → Bool) (i : Nat) (h : i < 256) : part? (setC f) (0 + i * 1) 1 = some [.bool (f i)] := by rw [Nat.zero_add]; exact setC_get f i h
theorem setC_set0 (f : Nat → Bool) (i : Nat) (h : i < 256) : setE (setC f) (0 + i * 1) [.tt] = some ((setC f).set i .tt) := by rw [Nat.zero_add]; exact setC_set f i h
theorem strings_asciiSet_contains (f : Nat → Bool) (c : Int) (hc : 0 ≤ c ∧ c < 256) : FnOk Tryz.prog 301 [.ptr 0 0, .int .u8 c] (⟨[(0, .cells false (setC f))], 1, 1, .bool (f c.toNat), []⟩) := by
  refine fnOk_of_den tab_ok mixed look301 rfl rfl (by kernel_rfl) fun hb => ?_
  simp only [den, denOps]
  refine ⟨by omega, ?_⟩
  refine ⟨_, setC_get0 _ _ (by first | omega | (simp; omega)), ?_⟩
  refine doneVC_mk [] ⟨by kernel_rfl, by kernel_rfl, by kernel_rfl⟩ rfl (by kernel_rfl) trivial

theorem byte_lt (b : UInt8) : (b.toNat : Int) < 256 := by have := b.toNat_lt; omega
theorem getD_mem {l : Bs} {i : Nat} (h : i < l.length) : l.getD i 0 ∈ l := by
  rw [List.getD_eq_getElem?_getD, List.getElem?_eq_getElem h]; exact List.getElem_mem h
theorem any_take_succ {l : Bs} {i : Nat} (h : i < l.length) (p : UInt8 → Bool) : (l.take (i + 1)).any p = (p (l.getD i 0) || (l.take i).any p) := by
  rw [List.take_add_one, List.any_append, List.getElem?_eq_getElem h, Bool.or_comm]
  simp [List.getD_eq_getElem?_getD, h]
theorem strings_makeASCIISet (s : ByteArray) (hs : ∀ b ∈ L s, b < 128) (hl : s.size ≤ 1000) : FnOk Tryz.prog 243 [.str s] (⟨[], 0, 0, .tup [.agg (setC fun k => (L s).any fun b => b.toNat == k), .tt], []⟩) := by
  refine fnOk_of_den tab_ok mixed look243 rfl rfl (by kernel_rfl) fun hb => ?_
  simp only [den, denOps]
  refine loop_mk (fun i => i ≤ s.size) (fun i => ⟨[(0, .str s), (2, .ptr 0 0), (4, .int .i64 (i : Nat))], [(0, .cells true (setC fun k => ((L s).take i).any fun b => b.toNat == k))], 1⟩) (fun i => s.size - i) 0 (Nat.zero_le _) ?_ ?_
  · refine sub_mk [0] ⟨by kernel_rfl, by kernel_rfl, by kernel_rfl, by kernel_rfl, by kernel_rfl⟩ ⟨rfl, ⟨rfl, ⟨rfl, trivial⟩⟩⟩ ⟨Or.inl (by kernel_rfl), trivial⟩
  intro i hi
  refine Fork.mk (fun h1 => ?_) (fun h1 => ?_)
  · simp at h1
    have f : (bAt s i).toNat < 128 := hs _ (getD_mem (by rw [L_length]; exact h1))
    refine ⟨by omega, ?_⟩
    refine Fork.mk (fun h2 => ?_) (fun h2 => ?_)
    · simp at h2
      (exfalso; omega)
    · simp at h2
      refine ⟨by simp; omega, ?_⟩
      refine ⟨_, _, ⟨setC_set0 _ _ (by first | omega | (simp; omega)), setC_norm _ _⟩, ?_⟩
      refine ⟨⟨i + 1, ?_⟩, ?_, ?_⟩
      · assumption
      · refine sub_mk [0] ⟨by kernel_rfl, by kernel_rfl, by kernel_rfl, by kernel_rfl, by kernel_rfl⟩ ⟨rfl, ⟨rfl, ⟨(eqI ?_), trivial⟩⟩⟩ ⟨Or.inl (eqCells ?_), trivial⟩
        · (simp only [IntKind.wrap_i64]; omega)
        · refine Eq.trans (b := normL (setC fun k => ((L s).take (i + 1)).any fun b => b.toNat == k)) ?_ (by kernel_rfl)
          congr 2
          funext k
          rw [any_take_succ (by rw [L_length]; exact h1)]
          congr 1
          rw [Bool.eq_iff_iff, beq_iff_eq, beq_iff_eq, bAt_L]
          exact eq_comm
      · (simp_all; omega)
  · simp at h1
    have e : (L s).take i = L s := List.take_of_length_le (by rw [L_length]; omega)
    refine doneVC_mk [] ⟨by kernel_rfl, by kernel_rfl, by kernel_rfl⟩ rfl (eqT (eqC (eqA ?_) (by kernel_rfl))) trivial
    · exact Eq.trans (b := normL (setC fun k => ((L s).take i).any fun b => b.toNat == k)) (by kernel_rfl) (Eq.trans (b := normL (setC fun k => (L s).any fun b => b.toNat == k)) (by rw [e]) (by kernel_rfl))

def dropWhileEndL (p : UInt8 → Bool) (l : Bs) : Bs := (l.reverse.dropWhile p).reverse
theorem strings_trimLeftASCII (s : ByteArray) (f : Nat → Bool) (hs : s.size ≤ maxLen) : FnOk Tryz.prog 244 [.str s, .ptr 0 0] (⟨[(0, .cells false (setC f))], 1, 1, .str (bs ((L s).dropWhile fun b => f b.toNat)), []⟩) := by
  refine fnOk_of_den tab_ok mixed look244 rfl rfl (by kernel_rfl) fun hb => ?_
  simp only [den, denOps]
  refine loop_mk (fun l : Bs => l.length ≤ s.size ∧ l.dropWhile (fun b => f b.toNat) = (L s).dropWhile (fun b => f b.toNat)) (fun l => ⟨[(0, .str (bs l)), (1, .ptr 0 0)], [(0, .cells false (setC f))], 1⟩) (fun l => l.length) (L s) ⟨Nat.le_refl _, rfl⟩ ?_ ?_
  · refine sub_mk [0] ⟨by kernel_rfl, by kernel_rfl, by kernel_rfl, by kernel_rfl, by kernel_rfl⟩ ⟨rfl, ⟨rfl, trivial⟩⟩ ⟨Or.inl (by kernel_rfl), trivial⟩
  intro l ⟨hl, he⟩
  refine Fork.mk (fun h1 => ?_) (fun h1 => ?_)
  · obtain ⟨c, r, rfl⟩ : ∃ c r, l = c :: r := by cases l with
      | nil => simp [bs_size] at h1
      | cons c r => exact ⟨c, r, rfl⟩
    have hc := byte_lt c
    refine ⟨by simp_all; done, ?_⟩
    refine callVC_mk [0] (strings_asciiSet_contains f _ ?_) ⟨rfl, rfl, rfl⟩ rfl ⟨Or.inl (by kernel_rfl), trivial⟩ ?_
    · exact ⟨Int.natCast_nonneg _, byte_lt _⟩
    refine Fork.mk (fun h2 => ?_) (fun h2 => ?_)
    · simp at h2
      refine doneVC_mk [] ⟨by kernel_rfl, by kernel_rfl, by kernel_rfl⟩ rfl (eqS ?_) trivial
      · rw [← he, List.dropWhile_cons_of_neg (by rw [show f c.toNat = false from h2]; simp)]
    · simp at h2
      refine ⟨by simp; omega, ?_⟩
      refine ⟨⟨r, ?_⟩, ?_, ?_⟩
      · exact ⟨by simp at hl; omega, by rw [← he, List.dropWhile_cons_of_pos (p := fun b : UInt8 => f b.toNat) (a := c) (l := r) h2]⟩
      · refine sub_mk [0] ⟨by kernel_rfl, by kernel_rfl, by kernel_rfl, by kernel_rfl, by kernel_rfl⟩ ⟨(eqS ?_), ⟨rfl, trivial⟩⟩ ⟨Or.inl (by kernel_rfl), trivial⟩
        · rw [extract_eq]; simp
      · (simp_all; done)
  · have : l = [] := by cases l with
      | nil => rfl
      | cons c r => simp [bs_size] at h1
    subst this
    refine doneVC_mk [] ⟨by kernel_rfl, by kernel_rfl, by kernel_rfl⟩ rfl (eqS ?_) trivial
    · (simp_all; done)

theorem strings_trimRightASCII (s : ByteArray) (f : Nat → Bool) (hs : s.size ≤ maxLen) : FnOk Tryz.prog 245 [.str s, .ptr 0 0] (⟨[(0, .cells false (setC f))], 1, 1, .str (bs (dropWhileEndL (fun b => f b.toNat) (L s))), []⟩) := by
  refine fnOk_of_den tab_ok mixed look245 rfl rfl (by kernel_rfl) fun hb => ?_
  simp only [den, denOps]
  refine loop_mk (fun l : Bs => l.length ≤ s.size ∧ dropWhileEndL (fun b => f b.toNat) l = dropWhileEndL (fun b => f b.toNat) (L s)) (fun l => ⟨[(0, .str (bs l)), (1, .ptr 0 0)], [(0, .cells false (setC f))], 1⟩) (fun l => l.length) (L s) ⟨Nat.le_refl _, rfl⟩ ?_ ?_
  · refine sub_mk [0] ⟨by kernel_rfl, by kernel_rfl, by kernel_rfl, by kernel_rfl, by kernel_rfl⟩ ⟨rfl, ⟨rfl, trivial⟩⟩ ⟨Or.inl (by kernel_rfl), trivial⟩
  intro l ⟨hl, he⟩
  refine Fork.mk (fun h1 => ?_) (fun h1 => ?_)
  · obtain ⟨r, c, rfl⟩ : ∃ r c, l = r ++ [c] := by
      rcases List.eq_nil_or_concat l with rfl | ⟨r, c, rfl⟩
      · simp [bs_size] at h1
      · exact ⟨r, c, by simp⟩
    have hc := byte_lt c
    have hw : IntKind.i64.wrap (r.length : Int) = r.length := by
      simp only [bs_size, List.length_append, List.length_singleton] at hl ⊢
      simp only [maxLen] at hs
      rw [IntKind.wrap_i64]; omega
    have hz : IntKind.i64.wrap (((bs (r ++ [c])).size : Int) - 1) = r.length := by
      rw [← hw]
      congr 1
      simp only [bs_size, List.length_append, List.length_singleton]; omega
    refine ⟨by rw [hz]; simp; omega, ?_⟩
    have hb : bAt (bs (r ++ [c])) (IntKind.i64.wrap (r.length : Int)).toNat = c := by rw [hw]; simp [bAt_L]
    refine callVC_mk [0] (strings_asciiSet_contains f _ ?_) ⟨rfl, rfl, rfl⟩ rfl ⟨Or.inl (by kernel_rfl), trivial⟩ ?_
    · exact ⟨Int.natCast_nonneg _, byte_lt _⟩
    refine Fork.mk (fun h2 => ?_) (fun h2 => ?_)
    · simp at h2
      refine doneVC_mk [] ⟨by kernel_rfl, by kernel_rfl, by kernel_rfl⟩ rfl (eqS ?_) trivial
      · rw [hb] at h2
        rw [← he]; simp [dropWhileEndL, h2]
    · simp at h2
      refine ⟨by simp; omega, ?_⟩
      refine ⟨⟨r, ?_⟩, ?_, ?_⟩
      · rw [hb] at h2
        exact ⟨by simp at hl; omega, by rw [← he]; simp [dropWhileEndL, h2]⟩
      · refine sub_mk [0] ⟨by kernel_rfl, by kernel_rfl, by kernel_rfl, by kernel_rfl, by kernel_rfl⟩ ⟨(eqS ?_), ⟨rfl, trivial⟩⟩ ⟨Or.inl (by kernel_rfl), trivial⟩
        · rw [extract_eq, bndI_some, hz]; simp
      · (simp_all; done)
  · have : l = [] := by cases l with
      | nil => rfl
      | cons c r => simp [bs_size] at h1
    subst this
    refine doneVC_mk [] ⟨by kernel_rfl, by kernel_rfl, by kernel_rfl⟩ rfl (eqS ?_) trivial
    · rw [← he]; rfl

end Go.Proofs.YtehnjdcahbehjaaGreatDoor
