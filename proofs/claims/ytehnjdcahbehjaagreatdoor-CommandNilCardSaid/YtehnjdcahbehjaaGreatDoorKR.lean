/- The law CommandNil: whatever the words of a command, it answers true, and the words read as they did. -/
import Derived.Test.YtehnjdcahbehjaaGreatDoorKN
import Derived.Test.YtehnjdcahbehjaaGreatDoorKQ
import Derived.Test.YtehnjdcahbehjaaGreatDoorKRf
namespace Go.Proofs.YtehnjdcahbehjaaGreatDoor
open Go Go.Eng Go.ChangeShapes Go.WideShapes Go.ChangeAt Go.RowKit
set_option maxRecDepth 100000
/-- THE CONTRACT, for every argument. -/
theorem commandNil_contract (H : Type) (enc : TypeId × Value → H) (W : World) (base : Nat) (args : Array Value) (ds gs : List (DataW H)) (before : List MemPlace)
    (hval0 : ∀ (j : Nat) t v, Tryz.f3.params[j]? = some t → args[j]? = some v → Value.okWide Tryz.checked.prog W .any base t v) (hW : DataW.Whole enc Tryz.prog Tryz.f3.params.toList Rows.commandNilSpec.vars false W args.toList ds gs before) :
    Calls Tryz.prog 3 args W fun e W' => ∃ v, e = .returned v ∧ Rows.commandNilSpec.post enc Tryz.prog Tryz.f3 false true false false W args v W' := by
  have hW' := hW
  obtain ⟨p, q, hA0, hV, rfl, hfz, hnd⟩ := hW
  have hA : DataW.TrodAll enc Tryz.prog W 0 (fun _ => true) true Tryz.f3.params.toList args.toList ds p := hA0
  have hval : ∀ (j : Nat) t v, Tryz.f3.params[j]? = some t → args[j]? = some v → Value.okWide Tryz.prog W .any base t v := hval0
  rw [Tryz.params3] at hA hval
  obtain ⟨v0, d0, rfl, rfl, h0⟩ := trodAll_one hA
  obtain ⟨rfl, rfl⟩ := trodVars_none hV
  simp only [List.append_nil] at hW'
  obtain ⟨l, hl, hs⟩ := texts_of (hval 0 22 v0 rfl rfl) h0
  refine (calls_of_texts (polyphonylaw22_CommandNil l hs) hl).mono fun e W' ⟨he, hb⟩ => ?_
  subst he
  have hlt : ∀ x ∈ p, x.block < W.heap.size := fun x hx => by simpa using hW'.lt x hx
  refine ⟨_, rfl, ⟨_, _, _, [], p, [], hW', trodAll_mk1 (shut_bool Tryz.underlying4 _), ?_, rfl, hb.frame _, fun h => by cases h⟩⟩
  rw [Tryz.params3]
  exact trodAll_mk1 (Below.trod laidOut (by kernel_rfl) (of_decide_eq_true (by kernel_rfl)) h0 hb hlt)

theorem commandNil_reads (os : Os) {H : Type} (enc : TypeId × Value → H) : ∃ places, DataW.whole enc Tryz.prog ((laidWorld os).forCall (fun _ _ => 0) ⟨#[], #[.slice none 0 0], []⟩).memory Tryz.f3.params.toList Rows.commandNilSpec.vars false #[Value.slice none 0 0].toList 8 = some ([.nil], [], places) :=
  ⟨[], by kernel_rfl⟩

theorem commandNil_lifted (os : Os) (started : os.Started) (H : Type) (enc : TypeId × Value → H) (F : Stop.Interp) :
    ReturnsInHanded {} Tryz.checked os 3 .any ((OpenSpec.ofChange Rows.commandNilSpec).preRow enc Tryz.prog Tryz.f3 Rows.commandNilRow.domain false Rows.commandNilRow.laid) (((OpenSpec.ofChange Rows.commandNilSpec).at F).post enc Tryz.prog Tryz.f3 false true false false) := by
  obtain ⟨places, hx⟩ := commandNil_reads os enc
  refine returnsInHanded_of_row (C := Tryz.checked) (s := OpenSpec.ofChange Rows.commandNilSpec) own started (by kernel_rfl) Tryz.func3
    (witness_row_atRef (enc := enc) (C := Tryz.checked) false (laidWorld os) #[.slice none 0 0] rfl (by kernel_rfl) (by kernel_rfl) (by kernel_rfl)
      (OpenSpec.preRow_of_cond 8 hx (by kernel_rfl) (fun k hk => by cases hk) (by kernel_rfl) (laid_met os _))) ?_
  intro W base args ds gs before hval hW _ _ _ hL _ _
  exact commandNil_contract H enc W base args ds gs before hval hW

theorem cn_facts : joinedFacts Tryz.prog 3 Tryz.f3 (OpenSpec.ofChange Rows.commandNilSpec).bare Rows.commandNilRow = true := by
  unfold joinedFacts
  rw [cn_inPlace, cn_unfollowed, cn_recurses, cn_named, cn_stopsHeard, cn_mayEnter, cn_lifted, cn_make, cn_stops, cn_knobs, cn_plainKeys, cn_mapsRowed, laidOut]
  kernel_rfl
theorem cn_func : Tryz.prog.funcNamed "polyphony/polyphonylaw22.CommandNil" = some 3 := by kernel_rfl
theorem cn_instance : Tryz.f3.isInstance Tryz.prog Rows.commandNilRow.origin Rows.commandNilRow.targs := of_decide_eq_true (by kernel_rfl)
theorem cn_wrapper : Tryz.f3.isWrapper Tryz.prog Rows.commandNilRow.wrapper Rows.commandNilRow.mainSum := by
  unfold Func.isWrapper; first | (rw [if_pos (by decide +kernel)]; kernel_rfl) | (rw [if_neg (by decide +kernel)]; exact ⟨rfl, rfl⟩)
theorem commandNil_said : Rows.CommandNilSaid :=
  OpenClaim.holds_of_cond 3 Tryz.f3 rfl rfl rfl rfl rfl rfl rfl ⟨rfl, rfl, rfl, rfl, rfl⟩ rfl rfl rfl rfl rfl cn_func Tryz.func3 cn_facts cn_instance cn_wrapper
    (fun os started H enc _ F => by rw [OpenClaim.pre_eq_preRow]; exact commandNil_lifted os started H enc F)
end Go.Proofs.YtehnjdcahbehjaaGreatDoor
