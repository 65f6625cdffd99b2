import Derived.Test.YtehnjdcahbehjaaGreatDoorKF
import Derived.Test.YtehnjdcahbehjaaGreatDoorKM
import Derived.Test.YtehnjdcahbehjaaGreatDoorEngZ
namespace Go.Proofs.YtehnjdcahbehjaaGreatDoor
open Go Go.Eng Go.Proofs
set_option maxRecDepth 100000
set_option linter.unusedVariables false
set_option linter.unusedSimpArgs false
theorem maps_Keys_M  : FnOk Tryz.prog 315 [.ref 0] (⟨[(0, noMap)], 1, 2, .fn 354 [.ptr 1 0], [(0, noMap), (1, .cells true [.ref 0])]⟩) := by
  refine fnOk_of_den tab_ok mixed look315 rfl rfl (by kernel_rfl) fun hb => ?_
  simp only [den, denOps]
  refine doneVC_mk [1] ⟨by kernel_rfl, by kernel_rfl, by kernel_rfl⟩ rfl (by kernel_rfl) ⟨⟨_, rfl, Or.inl (by kernel_rfl)⟩, ⟨⟨_, rfl, Or.inl (by kernel_rfl)⟩, trivial⟩⟩
theorem maps_Keys_E  : FnOk Tryz.prog 317 [.ref 0] (⟨[(0, noMap)], 1, 2, .fn 355 [.ptr 1 0], [(0, noMap), (1, .cells true [.ref 0])]⟩) := by
  refine fnOk_of_den tab_ok mixed look317 rfl rfl (by kernel_rfl) fun hb => ?_
  simp only [den, denOps]
  refine doneVC_mk [1] ⟨by kernel_rfl, by kernel_rfl, by kernel_rfl⟩ rfl (by kernel_rfl) ⟨⟨_, rfl, Or.inl (by kernel_rfl)⟩, ⟨⟨_, rfl, Or.inl (by kernel_rfl)⟩, trivial⟩⟩
theorem bits_Len64_0  : FnOk Tryz.prog 226 [.lit .u64 0] (conPure 0 (.lit .i64 0)) := by
  refine fnOk_of_den tab_ok mixed look226 rfl rfl (by kernel_rfl) fun hb => ?_
  simp only [den, denOps]
  refine ⟨by decide, ?_⟩
  refine doneVC_mk [] ⟨by kernel_rfl, by kernel_rfl, by kernel_rfl⟩ rfl (by kernel_rfl) trivial
theorem bits_Len_0  : FnOk Tryz.prog 357 [.lit .u64 0] (conPure 0 (.lit .i64 0)) := by
  refine fnOk_of_den tab_ok mixed look357 rfl rfl (by kernel_rfl) fun hb => ?_
  simp only [den, denOps]
  refine callVC_mk [] bits_Len64_0 ⟨rfl, rfl, rfl⟩ rfl trivial ?_
  refine doneVC_mk [] ⟨by kernel_rfl, by kernel_rfl, by kernel_rfl⟩ rfl (by kernel_rfl) trivial
theorem slices_insertionSortOrdered_string  : FnOk Tryz.prog 395 [nilS, .lit .i64 0, .lit .i64 0] (conPure 0 (.tup [])) := by
  refine fnOk_of_den tab_ok mixed look395 rfl rfl (by kernel_rfl) fun hb => ?_
  simp only [den, denOps]
  refine unroll_mk 1 ?_
  refine doneVC_mk [] ⟨by kernel_rfl, by kernel_rfl, by kernel_rfl⟩ rfl (by kernel_rfl) trivial
theorem slices_pdqsortOrdered_string (n : Int) : FnOk Tryz.prog 367 [nilS, .lit .i64 0, .lit .i64 0, .int .i64 n] (conPure 0 (.tup [])) := by
  refine fnOk_of_den tab_ok mixed look367 rfl rfl (by kernel_rfl) fun hb => ?_
  simp only [den, denOps]
  refine unroll_mk 1 ?_
  refine callVC_mk [] slices_insertionSortOrdered_string ⟨rfl, rfl, rfl⟩ rfl trivial ?_
  refine doneVC_mk [] ⟨by kernel_rfl, by kernel_rfl, by kernel_rfl⟩ rfl (by kernel_rfl) trivial
theorem slices_Sort_string  : FnOk Tryz.prog 328 [nilS] (conPure 0 (.tup [])) := by
  refine fnOk_of_den tab_ok mixed look328 rfl rfl (by kernel_rfl) fun hb => ?_
  simp only [den, denOps]
  refine callVC_mk [] bits_Len_0 ⟨rfl, rfl, rfl⟩ rfl trivial ?_
  refine callVC_mk [] (slices_pdqsortOrdered_string _) ⟨rfl, rfl, rfl⟩ rfl trivial ?_
  refine doneVC_mk [] ⟨by kernel_rfl, by kernel_rfl, by kernel_rfl⟩ rfl (by kernel_rfl) trivial
theorem slices_Sorted_M  : FnOk Tryz.prog 263 [.fn 354 [.ptr 1 0]] (⟨noKeys, 2, 2, nilS, noKeys⟩) := by
  refine fnOk_of_den tab_ok mixed look263 rfl rfl (by kernel_rfl) fun hb => ?_
  simp only [den, denOps]
  refine callVC_mk [0, 1] slices_Collect_354 ⟨rfl, rfl, rfl⟩ rfl ⟨Or.inl (by kernel_rfl), ⟨Or.inl (by kernel_rfl), trivial⟩⟩ ?_
  refine callVC_mk [] slices_Sort_string ⟨rfl, rfl, rfl⟩ rfl trivial ?_
  refine doneVC_mk [] ⟨by kernel_rfl, by kernel_rfl, by kernel_rfl⟩ rfl (by kernel_rfl) ⟨⟨_, rfl, Or.inl (by kernel_rfl)⟩, ⟨⟨_, rfl, Or.inl (by kernel_rfl)⟩, trivial⟩⟩
theorem slices_Sorted_E  : FnOk Tryz.prog 263 [.fn 355 [.ptr 1 0]] (⟨noKeys, 2, 2, nilS, noKeys⟩) := by
  refine fnOk_of_den tab_ok mixed look263 rfl rfl (by kernel_rfl) fun hb => ?_
  simp only [den, denOps]
  refine callVC_mk [0, 1] slices_Collect_355 ⟨rfl, rfl, rfl⟩ rfl ⟨Or.inl (by kernel_rfl), ⟨Or.inl (by kernel_rfl), trivial⟩⟩ ?_
  refine callVC_mk [] slices_Sort_string ⟨rfl, rfl, rfl⟩ rfl trivial ?_
  refine doneVC_mk [] ⟨by kernel_rfl, by kernel_rfl, by kernel_rfl⟩ rfl (by kernel_rfl) ⟨⟨_, rfl, Or.inl (by kernel_rfl)⟩, ⟨⟨_, rfl, Or.inl (by kernel_rfl)⟩, trivial⟩⟩
theorem slices_insertionSortCmpFunc_score_Pair (f : Nat) : FnOk Tryz.prog 381 [nilS, .lit .i64 0, .lit .i64 0, .fn f []] (conPure 0 (.tup [])) := by
  refine fnOk_of_den tab_ok mixed look381 rfl rfl (by kernel_rfl) fun hb => ?_
  simp only [den, denOps]
  refine unroll_mk 1 ?_
  refine doneVC_mk [] ⟨by kernel_rfl, by kernel_rfl, by kernel_rfl⟩ rfl (by kernel_rfl) trivial
theorem slices_pdqsortCmpFunc_score_Pair (f : Nat) (n : Int) : FnOk Tryz.prog 356 [nilS, .lit .i64 0, .lit .i64 0, .int .i64 n, .fn f []] (conPure 0 (.tup [])) := by
  refine fnOk_of_den tab_ok mixed look356 rfl rfl (by kernel_rfl) fun hb => ?_
  simp only [den, denOps]
  refine unroll_mk 1 ?_
  refine callVC_mk [] (slices_insertionSortCmpFunc_score_Pair _) ⟨rfl, rfl, rfl⟩ rfl trivial ?_
  refine doneVC_mk [] ⟨by kernel_rfl, by kernel_rfl, by kernel_rfl⟩ rfl (by kernel_rfl) trivial
theorem slices_SortFunc_score_Pair (f : Nat) : FnOk Tryz.prog 319 [nilS, .fn f []] (conPure 0 (.tup [])) := by
  refine fnOk_of_den tab_ok mixed look319 rfl rfl (by kernel_rfl) fun hb => ?_
  simp only [den, denOps]
  refine callVC_mk [] bits_Len_0 ⟨rfl, rfl, rfl⟩ rfl trivial ?_
  refine callVC_mk [] (slices_pdqsortCmpFunc_score_Pair _ _) ⟨rfl, rfl, rfl⟩ rfl trivial ?_
  refine doneVC_mk [] ⟨by kernel_rfl, by kernel_rfl, by kernel_rfl⟩ rfl (by kernel_rfl) trivial
theorem member_All  : FnOk Tryz.prog 255 [nilS] (conPure 0 nilS) := by
  refine fnOk_of_den tab_ok mixed look255 rfl rfl (by kernel_rfl) fun hb => ?_
  simp only [den, denOps]
  refine law_mk (good_makeMap rfl) ?_
  refine unroll_mk 1 ?_
  refine callVC_mk [0] maps_Keys_M ⟨rfl, rfl, rfl⟩ rfl ⟨Or.inl (by kernel_rfl), trivial⟩ ?_
  refine callVC_mk [0, 1] slices_Sorted_M ⟨rfl, rfl, rfl⟩ rfl ⟨Or.inl (by kernel_rfl), ⟨Or.inl (by kernel_rfl), trivial⟩⟩ ?_
  refine doneVC_mk [] ⟨by kernel_rfl, by kernel_rfl, by kernel_rfl⟩ rfl (by kernel_rfl) trivial
theorem field_by  : FnOk Tryz.prog 316 [nilS] (⟨[], 0, 1, .ref 0, [(0, noMap)]⟩) := by
  refine fnOk_of_den tab_ok mixed look316 rfl rfl (by kernel_rfl) fun hb => ?_
  simp only [den, denOps]
  refine law_mk (good_makeMap rfl) ?_
  refine unroll_mk 1 ?_
  refine doneVC_mk [0] ⟨by kernel_rfl, by kernel_rfl, by kernel_rfl⟩ rfl (by kernel_rfl) ⟨⟨_, rfl, Or.inl (by kernel_rfl)⟩, trivial⟩
theorem field_All  : FnOk Tryz.prog 257 [nilS] (conPure 0 nilS) := by
  refine fnOk_of_den tab_ok mixed look257 rfl rfl (by kernel_rfl) fun hb => ?_
  simp only [den, denOps]
  refine callVC_mk [] field_by ⟨rfl, rfl, rfl⟩ rfl trivial ?_
  refine callVC_mk [0] maps_Keys_E ⟨rfl, rfl, rfl⟩ rfl ⟨Or.inl (by kernel_rfl), trivial⟩ ?_
  refine callVC_mk [0, 1] slices_Sorted_E ⟨rfl, rfl, rfl⟩ rfl ⟨Or.inl (by kernel_rfl), ⟨Or.inl (by kernel_rfl), trivial⟩⟩ ?_
  refine unroll_mk 1 ?_
  refine doneVC_mk [] ⟨by kernel_rfl, by kernel_rfl, by kernel_rfl⟩ rfl (by kernel_rfl) trivial
theorem score_latest  : FnOk Tryz.prog 318 [nilS] (⟨[], 0, 1, .ref 0, [(0, noMap)]⟩) := by
  refine fnOk_of_den tab_ok mixed look318 rfl rfl (by kernel_rfl) fun hb => ?_
  simp only [den, denOps]
  refine law_mk (good_makeMap rfl) ?_
  refine unroll_mk 1 ?_
  refine doneVC_mk [0] ⟨by kernel_rfl, by kernel_rfl, by kernel_rfl⟩ rfl (by kernel_rfl) ⟨⟨_, rfl, Or.inl (by kernel_rfl)⟩, trivial⟩
theorem score_All  : FnOk Tryz.prog 258 [nilS] (conPure 0 nilS) := by
  refine fnOk_of_den tab_ok mixed look258 rfl rfl (by kernel_rfl) fun hb => ?_
  simp only [den, denOps]
  refine callVC_mk [] score_latest ⟨rfl, rfl, rfl⟩ rfl trivial ?_
  refine law_mk (good_range rfl rfl rfl (Nat.le_of_ble_eq_true rfl) (by kernel_rfl : Tryz.prog.underlying 409 = some (.map 9 121))) ?_
  refine unroll_mk 1 ?_
  refine law_mk (good_next rfl rfl rfl (Nat.le_of_ble_eq_true rfl)) ?_
  refine callVC_mk [] (slices_SortFunc_score_Pair _) ⟨rfl, rfl, rfl⟩ rfl trivial ?_
  refine doneVC_mk [] ⟨by kernel_rfl, by kernel_rfl, by kernel_rfl⟩ rfl (by kernel_rfl) trivial
theorem space_Space_Members (k : ByteArray) : FnOk Tryz.prog 182 [nilP, .str k] (conPure 0 nilS) := by
  refine fnOk_of_den tab_ok mixed look182 rfl rfl (by kernel_rfl) fun hb => ?_
  simp only [den, denOps]
  refine callVC_mk [] (space_of _ _ ?_) ⟨rfl, rfl, rfl⟩ rfl trivial ?_
  · omega
  refine callVC_mk [] member_All ⟨rfl, rfl, rfl⟩ rfl trivial ?_
  refine doneVC_mk [] ⟨by kernel_rfl, by kernel_rfl, by kernel_rfl⟩ rfl (by kernel_rfl) trivial
theorem space_Space_Fields (k : ByteArray) : FnOk Tryz.prog 187 [nilP, .str k] (conPure 0 nilS) := by
  refine fnOk_of_den tab_ok mixed look187 rfl rfl (by kernel_rfl) fun hb => ?_
  simp only [den, denOps]
  refine callVC_mk [] (space_of _ _ ?_) ⟨rfl, rfl, rfl⟩ rfl trivial ?_
  · omega
  refine callVC_mk [] field_All ⟨rfl, rfl, rfl⟩ rfl trivial ?_
  refine doneVC_mk [] ⟨by kernel_rfl, by kernel_rfl, by kernel_rfl⟩ rfl (by kernel_rfl) trivial
theorem space_Space_Scores (k : ByteArray) : FnOk Tryz.prog 190 [nilP, .str k] (conPure 0 nilS) := by
  refine fnOk_of_den tab_ok mixed look190 rfl rfl (by kernel_rfl) fun hb => ?_
  simp only [den, denOps]
  refine callVC_mk [] (space_of _ _ ?_) ⟨rfl, rfl, rfl⟩ rfl trivial ?_
  · omega
  refine callVC_mk [] score_All ⟨rfl, rfl, rfl⟩ rfl trivial ?_
  refine doneVC_mk [] ⟨by kernel_rfl, by kernel_rfl, by kernel_rfl⟩ rfl (by kernel_rfl) trivial
end Go.Proofs.YtehnjdcahbehjaaGreatDoor
