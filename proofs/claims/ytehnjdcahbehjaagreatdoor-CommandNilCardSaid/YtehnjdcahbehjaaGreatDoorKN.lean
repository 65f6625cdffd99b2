import Derived.Test.YtehnjdcahbehjaaGreatDoorKL
import Derived.Test.YtehnjdcahbehjaaGreatDoorEngZ
namespace Go.Proofs.YtehnjdcahbehjaaGreatDoor
open Go Go.Eng Go.Proofs
set_option maxRecDepth 100000
set_option linter.unusedVariables false
set_option linter.unusedSimpArgs false
set_option maxHeartbeats 2000000
theorem polyphonylaw22_same (k : Int) (t : ByteArray) (n : Int) : FnOk Tryz.prog 11 [.agg (repL k t n), .agg (repL k t n)] (conPure 0 .tt) := by
  refine fnOk_of_den tab_ok mixed look11 rfl rfl (by kernel_rfl) fun hb => ?_
  simp only [den, denOps]
  refine Fork.mk (fun h1 => ?_) (fun h1 => ?_)
  · simp at h1
    refine Fork.mk (fun h2 => ?_) (fun h2 => ?_)
    · simp at h2
      refine Fork.mk (fun h3 => ?_) (fun h3 => ?_)
      · simp at h3
        refine callVC_mk [] polyphonyref10_Texts ⟨rfl, rfl, rfl⟩ rfl trivial ?_
        refine doneVC_mk [] ⟨by kernel_rfl, by kernel_rfl, by kernel_rfl⟩ rfl (by kernel_rfl) trivial
      · exact absurd h3 (by simp)
    · exact absurd h2 (by simp)
  · exact absurd h1 (by simp)
theorem polyphonylaw22_CommandNil (l : List ByteArray) (hs : ∀ s ∈ l, s.size ≤ maxLen) : FnOk Tryz.prog 3 [.ref 0] (⟨[(0, .row false 9 1 ByteArray strAV l)], 1, 1, .tt, []⟩) := by
  refine fnOk_of_den tab_ok mixed look3 rfl rfl (by kernel_rfl) fun hb => ?_
  simp only [den, denOps]
  have herr := @parse_err l
  have hok := @parse_ok l
  generalize hp : parseS l = p at herr hok
  obtain ⟨c, e⟩ := p
  simp only at herr hok
  have hR : e = 0 → FnOk Tryz.prog 10 [nilS, .agg (callL c)] (conPure 0 (planR (plannedP c))) := fun h => by
    rw [plan_eq (hok h).1 (hok h).2]; exact polyphonyref22_Plan c
  have hP : FnOk Tryz.prog 8 [.ref 0] ⟨[(0, .row false 9 1 ByteArray strAV l)], 1, 1, .tup [.agg (callL c), .int .i64 e], []⟩ := by
    have := command_Parse l hs
    rw [hp] at this
    exact this
  refine callVC_mk [] polyphonylaw22_awake ⟨rfl, rfl, rfl⟩ rfl trivial ?_
  refine callVC_mk [0] (polyphonylaw22_small l) ⟨rfl, rfl, rfl⟩ rfl ⟨Or.inl (by kernel_rfl), trivial⟩ ?_
  refine Fork.mk (fun h1 => ?_) (fun h1 => ?_)
  · simp at h1
    refine callVC_mk [] polyphonylaw22_awake ⟨rfl, rfl, rfl⟩ rfl trivial ?_
    refine doneVC_mk [] ⟨by kernel_rfl, by kernel_rfl, by kernel_rfl⟩ rfl (by kernel_rfl) trivial
  · simp at h1
    refine callVC_mk [0] hP ⟨rfl, rfl, rfl⟩ rfl ⟨Or.inl (by kernel_rfl), trivial⟩ ?_
    refine Fork.mk (fun h2 => ?_) (fun h2 => ?_)
    · simp at h2
      refine doneVC_mk [] ⟨by kernel_rfl, by kernel_rfl, by kernel_rfl⟩ rfl (eqB ?_) trivial
      · (rw [herr (by assumption)]; rfl)
    · simp at h2
      refine callVC_mk [] (command_Plan _) ⟨rfl, rfl, rfl⟩ rfl trivial ?_
      refine callVC_mk [] (hR ?_) ⟨rfl, rfl, rfl⟩ rfl trivial ?_
      · assumption
      refine callVC_mk [] (polyphonylaw22_same _ _ _) ⟨rfl, rfl, rfl⟩ rfl trivial ?_
      refine Fork.mk (fun h3 => ?_) (fun h3 => ?_)
      · simp at h3
        refine Fork.mk (fun h4 => ?_) (fun h4 => ?_)
        · simp at h4
          refine callVC_mk [] (polyphonyref17_Tell _) ⟨rfl, rfl, rfl⟩ rfl trivial ?_
          refine doneVC_mk [] ⟨by kernel_rfl, by kernel_rfl, by kernel_rfl⟩ rfl (by kernel_rfl) trivial
        · exact absurd h4 (by simp)
      · exact absurd h3 (by simp)
end Go.Proofs.YtehnjdcahbehjaaGreatDoor
