import Derived.Test.YtehnjdcahbehjaaGreatDoorKE
import Derived.Test.YtehnjdcahbehjaaGreatDoorEngZ
namespace Go.Proofs.YtehnjdcahbehjaaGreatDoor
open Go Go.Eng Go.Proofs
set_option maxRecDepth 100000
set_option linter.unusedVariables false
set_option linter.unusedSimpArgs false
/-! ### what is asked of no space, and of no events -/
/-- the nil slice -/
abbrev nilS : AV := .val (.slice none 0 0)
/-- the nil pointer -/
abbrev nilP : AV := .val (.pointer none)
/-- a type's zero value, cell by cell -/
def zeroOf (T : Nat) : List AV := match tab.look T with
  | some i => i.zero
  | none => []
theorem space_Space_events (k : ByteArray) : FnOk Tryz.prog 174 [nilP, .str k] (conPure 0 nilS) := by
  refine fnOk_of_den tab_ok mixed look174 rfl rfl (by kernel_rfl) fun hb => ?_
  simp only [den, denOps]
  refine doneVC_mk [] ⟨by kernel_rfl, by kernel_rfl, by kernel_rfl⟩ rfl (by kernel_rfl) trivial
theorem slices_insertionSortCmpFunc_api_Event (f : Nat) : FnOk Tryz.prog 410 [nilS, .lit .i64 0, .lit .i64 0, .fn f []] (conPure 0 (.tup [])) := by
  refine fnOk_of_den tab_ok mixed look410 rfl rfl (by kernel_rfl) fun hb => ?_
  simp only [den, denOps]
  refine unroll_mk 1 ?_
  refine doneVC_mk [] ⟨by kernel_rfl, by kernel_rfl, by kernel_rfl⟩ rfl (by kernel_rfl) trivial
theorem slices_stableCmpFunc_api_Event (f : Nat) : FnOk Tryz.prog 380 [nilS, .lit .i64 0, .fn f []] (conPure 0 (.tup [])) := by
  refine fnOk_of_den tab_ok mixed look380 rfl rfl (by kernel_rfl) fun hb => ?_
  simp only [den, denOps]
  refine unroll_mk 1 ?_
  refine callVC_mk [] (slices_insertionSortCmpFunc_api_Event _) ⟨rfl, rfl, rfl⟩ rfl trivial ?_
  refine unroll_mk 1 ?_
  refine doneVC_mk [] ⟨by kernel_rfl, by kernel_rfl, by kernel_rfl⟩ rfl (by kernel_rfl) trivial
theorem slices_SortStableFunc_api_Event (f : Nat) : FnOk Tryz.prog 350 [nilS, .fn f []] (conPure 0 (.tup [])) := by
  refine fnOk_of_den tab_ok mixed look350 rfl rfl (by kernel_rfl) fun hb => ?_
  simp only [den, denOps]
  refine callVC_mk [] (slices_stableCmpFunc_api_Event _) ⟨rfl, rfl, rfl⟩ rfl trivial ?_
  refine doneVC_mk [] ⟨by kernel_rfl, by kernel_rfl, by kernel_rfl⟩ rfl (by kernel_rfl) trivial
theorem live_All  : FnOk Tryz.prog 310 [nilS] (conPure 0 nilS) := by
  refine fnOk_of_den tab_ok mixed look310 rfl rfl (by kernel_rfl) fun hb => ?_
  simp only [den, denOps]
  refine unroll_mk 1 ?_
  refine callVC_mk [] (slices_SortStableFunc_api_Event _) ⟨rfl, rfl, rfl⟩ rfl trivial ?_
  refine doneVC_mk [] ⟨by kernel_rfl, by kernel_rfl, by kernel_rfl⟩ rfl (by kernel_rfl) trivial
theorem live_of (k : ByteArray) : FnOk Tryz.prog 250 [nilS, .str k] (conPure 0 (.tup [nilS, .lit .i64 0])) := by
  refine fnOk_of_den tab_ok mixed look250 rfl rfl (by kernel_rfl) fun hb => ?_
  simp only [den, denOps]
  refine unroll_mk 1 ?_
  refine callVC_mk [] live_All ⟨rfl, rfl, rfl⟩ rfl trivial ?_
  refine doneVC_mk [] ⟨by kernel_rfl, by kernel_rfl, by kernel_rfl⟩ rfl (by kernel_rfl) trivial
theorem live_Type (k : ByteArray) : FnOk Tryz.prog 173 [nilS, .str k] (conPure 0 (.lit .i64 0)) := by
  refine fnOk_of_den tab_ok mixed look173 rfl rfl (by kernel_rfl) fun hb => ?_
  simp only [den, denOps]
  refine callVC_mk [] (live_of _) ⟨rfl, rfl, rfl⟩ rfl trivial ?_
  refine doneVC_mk [] ⟨by kernel_rfl, by kernel_rfl, by kernel_rfl⟩ rfl (by kernel_rfl) trivial
theorem space_Space_Type (k : ByteArray) : FnOk Tryz.prog 98 [nilP, .str k] (conPure 0 (.lit .i64 0)) := by
  refine fnOk_of_den tab_ok mixed look98 rfl rfl (by kernel_rfl) fun hb => ?_
  simp only [den, denOps]
  refine callVC_mk [] (space_Space_events _) ⟨rfl, rfl, rfl⟩ rfl trivial ?_
  refine callVC_mk [] (live_Type _) ⟨rfl, rfl, rfl⟩ rfl trivial ?_
  refine doneVC_mk [] ⟨by kernel_rfl, by kernel_rfl, by kernel_rfl⟩ rfl (by kernel_rfl) trivial
theorem space_of (k : ByteArray) (n : Int) (hn : ¬ 0 = n) : FnOk Tryz.prog 252 [nilP, .str k, .int .i64 n] (conPure 0 nilS) := by
  refine fnOk_of_den tab_ok mixed look252 rfl rfl (by kernel_rfl) fun hb => ?_
  simp only [den, denOps]
  refine callVC_mk [] (space_Space_events _) ⟨rfl, rfl, rfl⟩ rfl trivial ?_
  refine callVC_mk [] (live_Type _) ⟨rfl, rfl, rfl⟩ rfl trivial ?_
  refine Fork.mk (fun h1 => ?_) (fun h1 => ?_)
  · simp at h1
    refine doneVC_mk [] ⟨by kernel_rfl, by kernel_rfl, by kernel_rfl⟩ rfl (by kernel_rfl) trivial
  · simp at h1
    (exfalso; omega)
theorem reg_Latest  : FnOk Tryz.prog 312 [nilS] (conPure 0 (.tup [.agg (zeroOf 121), .ff])) := by
  refine fnOk_of_den tab_ok mixed look312 rfl rfl (by kernel_rfl) fun hb => ?_
  simp only [den, denOps]
  refine unroll_mk 1 ?_
  refine doneVC_mk [] ⟨by kernel_rfl, by kernel_rfl, by kernel_rfl⟩ rfl (by kernel_rfl) trivial
theorem reg_Value  : FnOk Tryz.prog 251 [nilS] (conPure 0 (.tup [.str ⟨#[]⟩, .ff])) := by
  refine fnOk_of_den tab_ok mixed look251 rfl rfl (by kernel_rfl) fun hb => ?_
  simp only [den, denOps]
  refine unroll_mk 1 ?_
  refine callVC_mk [] reg_Latest ⟨rfl, rfl, rfl⟩ rfl trivial ?_
  refine doneVC_mk [] ⟨by kernel_rfl, by kernel_rfl, by kernel_rfl⟩ rfl (by kernel_rfl) trivial
theorem space_Space_Text (k : ByteArray) : FnOk Tryz.prog 178 [nilP, .str k] (conPure 0 (.tup [.str ⟨#[]⟩, .ff])) := by
  refine fnOk_of_den tab_ok mixed look178 rfl rfl (by kernel_rfl) fun hb => ?_
  simp only [den, denOps]
  refine callVC_mk [] (space_of _ _ ?_) ⟨rfl, rfl, rfl⟩ rfl trivial ?_
  · omega
  refine callVC_mk [] reg_Value ⟨rfl, rfl, rfl⟩ rfl trivial ?_
  refine doneVC_mk [] ⟨by kernel_rfl, by kernel_rfl, by kernel_rfl⟩ rfl (by kernel_rfl) trivial
theorem tally_Sum  : FnOk Tryz.prog 253 [nilS] (conPure 0 (.lit .i64 0)) := by
  refine fnOk_of_den tab_ok mixed look253 rfl rfl (by kernel_rfl) fun hb => ?_
  simp only [den, denOps]
  refine unroll_mk 1 ?_
  refine doneVC_mk [] ⟨by kernel_rfl, by kernel_rfl, by kernel_rfl⟩ rfl (by kernel_rfl) trivial
theorem space_Space_Sum (k : ByteArray) : FnOk Tryz.prog 180 [nilP, .str k] (conPure 0 (.lit .i64 0)) := by
  refine fnOk_of_den tab_ok mixed look180 rfl rfl (by kernel_rfl) fun hb => ?_
  simp only [den, denOps]
  refine callVC_mk [] (space_of _ _ ?_) ⟨rfl, rfl, rfl⟩ rfl trivial ?_
  · omega
  refine callVC_mk [] tally_Sum ⟨rfl, rfl, rfl⟩ rfl trivial ?_
  refine doneVC_mk [] ⟨by kernel_rfl, by kernel_rfl, by kernel_rfl⟩ rfl (by kernel_rfl) trivial
theorem score_Span (a b : Int) : FnOk Tryz.prog 193 [.lit .i64 0, .int .i64 a, .int .i64 b] (conPure 0 (.tup [.lit .i64 0, .lit .i64 0])) := by
  refine fnOk_of_den tab_ok mixed look193 rfl rfl (by kernel_rfl) fun hb => ?_
  simp only [den, denOps]
  refine Fork.mk (fun h1 => ?_) (fun h1 => ?_)
  · simp at h1
    refine Fork.mk (fun h2 => ?_) (fun h2 => ?_)
    · simp at h2
      refine Fork.mk (fun h3 => ?_) (fun h3 => ?_)
      · simp at h3
        refine doneVC_mk [] ⟨by kernel_rfl, by kernel_rfl, by kernel_rfl⟩ rfl (by kernel_rfl) trivial
      · simp at h3
        refine doneVC_mk [] ⟨by kernel_rfl, by kernel_rfl, by kernel_rfl⟩ rfl (eqT (eqC (eqI ?_) (eqC (eqI ?_) (by kernel_rfl)))) trivial
        · (simp only [IntKind.wrap_i64] at *; omega)
        · (simp only [IntKind.wrap_i64] at *; omega)
    · simp at h2
      refine Fork.mk (fun h3 => ?_) (fun h3 => ?_)
      · simp at h3
        refine doneVC_mk [] ⟨by kernel_rfl, by kernel_rfl, by kernel_rfl⟩ rfl (by kernel_rfl) trivial
      · simp at h3
        refine doneVC_mk [] ⟨by kernel_rfl, by kernel_rfl, by kernel_rfl⟩ rfl (eqT (eqC (eqI ?_) (eqC (eqI ?_) (by kernel_rfl)))) trivial
        · (simp only [IntKind.wrap_i64] at *; omega)
        · (simp only [IntKind.wrap_i64]; omega)
  · simp at h1
    refine Fork.mk (fun h2 => ?_) (fun h2 => ?_)
    · simp at h2
      refine Fork.mk (fun h3 => ?_) (fun h3 => ?_)
      · simp at h3
        refine doneVC_mk [] ⟨by kernel_rfl, by kernel_rfl, by kernel_rfl⟩ rfl (by kernel_rfl) trivial
      · simp at h3
        refine doneVC_mk [] ⟨by kernel_rfl, by kernel_rfl, by kernel_rfl⟩ rfl (eqT (eqC (eqI ?_) (eqC (eqI ?_) (by kernel_rfl)))) trivial
        · (simp only [IntKind.wrap_i64] at *; omega)
        · (simp only [IntKind.wrap_i64] at *; omega)
    · simp at h2
      refine Fork.mk (fun h3 => ?_) (fun h3 => ?_)
      · simp at h3
        refine doneVC_mk [] ⟨by kernel_rfl, by kernel_rfl, by kernel_rfl⟩ rfl (by kernel_rfl) trivial
      · simp at h3
        refine doneVC_mk [] ⟨by kernel_rfl, by kernel_rfl, by kernel_rfl⟩ rfl (eqT (eqC (eqI ?_) (eqC (eqI ?_) (by kernel_rfl)))) trivial
        · (simp only [IntKind.wrap_i64] at *; omega)
        · (simp only [IntKind.wrap_i64]; omega)
theorem slices_Index_string (s : ByteArray) : FnOk Tryz.prog 256 [nilS, .str s] (conPure 0 (.lit .i64 (-1))) := by
  refine fnOk_of_den tab_ok mixed look256 rfl rfl (by kernel_rfl) fun hb => ?_
  simp only [den, denOps]
  refine unroll_mk 1 ?_
  refine doneVC_mk [] ⟨by kernel_rfl, by kernel_rfl, by kernel_rfl⟩ rfl (by kernel_rfl) trivial
theorem slices_Contains_string (s : ByteArray) : FnOk Tryz.prog 183 [nilS, .str s] (conPure 0 .ff) := by
  refine fnOk_of_den tab_ok mixed look183 rfl rfl (by kernel_rfl) fun hb => ?_
  simp only [den, denOps]
  refine callVC_mk [] (slices_Index_string _) ⟨rfl, rfl, rfl⟩ rfl trivial ?_
  refine doneVC_mk [] ⟨by kernel_rfl, by kernel_rfl, by kernel_rfl⟩ rfl (by kernel_rfl) trivial
theorem slices_IndexFunc_field_Pair (f : Nat) (c : Call) : FnOk Tryz.prog 188 [nilS, .fn f [.ptr 0 0]] (⟨[(0, .cells false (callL c))], 1, 1, .lit .i64 (-1), []⟩) := by
  refine fnOk_of_den tab_ok mixed look188 rfl rfl (by kernel_rfl) fun hb => ?_
  simp only [den, denOps]
  refine unroll_mk 1 ?_
  refine doneVC_mk [] ⟨by kernel_rfl, by kernel_rfl, by kernel_rfl⟩ rfl (by kernel_rfl) trivial
theorem slices_IndexFunc_score_Pair (f : Nat) (c : Call) : FnOk Tryz.prog 191 [nilS, .fn f [.ptr 0 0]] (⟨[(0, .cells false (callL c))], 1, 1, .lit .i64 (-1), []⟩) := by
  refine fnOk_of_den tab_ok mixed look191 rfl rfl (by kernel_rfl) fun hb => ?_
  simp only [den, denOps]
  refine unroll_mk 1 ?_
  refine doneVC_mk [] ⟨by kernel_rfl, by kernel_rfl, by kernel_rfl⟩ rfl (by kernel_rfl) trivial
theorem space_Space_Items (k : ByteArray) : FnOk Tryz.prog 195 [nilP, .str k] (conPure 0 nilS) := by
  refine fnOk_of_den tab_ok mixed look195 rfl rfl (by kernel_rfl) fun hb => ?_
  simp only [den, denOps]
  refine callVC_mk [] (space_of _ _ ?_) ⟨rfl, rfl, rfl⟩ rfl trivial ?_
  · omega
  refine doneVC_mk [] ⟨by kernel_rfl, by kernel_rfl, by kernel_rfl⟩ rfl (by kernel_rfl) trivial
theorem space_Space_Keys  : FnOk Tryz.prog 197 [nilP] (conPure 0 nilS) := by
  refine fnOk_of_den tab_ok mixed look197 rfl rfl (by kernel_rfl) fun hb => ?_
  simp only [den, denOps]
  refine doneVC_mk [] ⟨by kernel_rfl, by kernel_rfl, by kernel_rfl⟩ rfl (by kernel_rfl) trivial
end Go.Proofs.YtehnjdcahbehjaaGreatDoor
