import Derived.Test.YtehnjdcahbehjaaGreatDoorKH
import Derived.Test.YtehnjdcahbehjaaGreatDoorEngZ
namespace Go.Proofs.YtehnjdcahbehjaaGreatDoor
open Go Go.Eng Go.Proofs
set_option maxRecDepth 100000
set_option linter.unusedVariables false
set_option linter.unusedSimpArgs false
def pushP (c : Call) : PlanS := ⟨3, emp, 1, 9, c.key, emp, c.value, 0, true⟩
def itemsP (c : Call) : PlanS := if L c.name = L (⟨#[76, 82, 65, 78, 71, 69]⟩ : ByteArray) then saysP 6 emp 0 else if L c.name = L (⟨#[76, 82, 69, 77]⟩ : ByteArray) then numP 0 else if L c.name = L (⟨#[76, 80, 85, 83, 72]⟩ : ByteArray) then pushP c else if L c.name = L (⟨#[82, 80, 85, 83, 72]⟩ : ByteArray) then pushP c else
  if c.n = 0 then pushP c else faultP (⟨#[82, 65, 78, 71, 69]⟩ : ByteArray)
theorem command_items (c : Call) : FnOk Tryz.prog 104 [nilP, .agg (callL c)] (conPure 0 (.agg (planL (itemsP c)))) := by
  refine fnOk_of_den tab_ok mixed look104 rfl rfl (by kernel_rfl) fun hb => ?_
  simp only [den, denOps]
  refine callVC_mk [] (space_Space_Items _) ⟨rfl, rfl, rfl⟩ rfl trivial ?_
  refine Fork.mk (fun h1 => ?_) (fun h1 => ?_)
  · simp at h1
    refine callVC_mk [] (score_Span _ _) ⟨rfl, rfl, rfl⟩ rfl trivial ?_
    refine law_mk (good_nilSlice rfl rfl (by kernel_rfl : Tryz.prog.underlying 45 = some (.slice 121)) (sz := 26) (fun w => rfl) rfl rfl rfl rfl ⟨rfl, rfl⟩) ?_
    refine unroll_mk 1 ?_
    refine callVC_mk [] command_list_nil ⟨rfl, rfl, rfl⟩ rfl trivial ?_
    refine callVC_mk [] (command_says _ _ _) ⟨rfl, rfl, rfl⟩ rfl trivial ?_
    refine doneVC_mk [] ⟨by kernel_rfl, by kernel_rfl, by kernel_rfl⟩ rfl (eqA (eqC (eqI ?_) (eqC (eqS ?_) (eqC (eqI ?_) (eqC (by kernel_rfl) (eqC (eqI ?_) (eqC (eqS ?_) (eqC (eqS ?_) (eqC (eqS ?_) (eqC (eqI ?_) (eqC (by kernel_rfl) (eqC (by kernel_rfl) (eqC (eqB ?_) (by kernel_rfl)))))))))))))) trivial
    · (unfold itemsP; (repeat first | rw [if_neg (by first | assumption | omega)] | rw [if_pos (by first | assumption | omega)]); first | done | rfl)
    · (unfold itemsP; (repeat first | rw [if_neg (by first | assumption | omega)] | rw [if_pos (by first | assumption | omega)]); first | done | rfl)
    · (unfold itemsP; (repeat first | rw [if_neg (by first | assumption | omega)] | rw [if_pos (by first | assumption | omega)]); first | done | rfl)
    · (unfold itemsP; (repeat first | rw [if_neg (by first | assumption | omega)] | rw [if_pos (by first | assumption | omega)]); first | done | rfl)
    · (unfold itemsP; (repeat first | rw [if_neg (by first | assumption | omega)] | rw [if_pos (by first | assumption | omega)]); first | done | rfl)
    · (unfold itemsP; (repeat first | rw [if_neg (by first | assumption | omega)] | rw [if_pos (by first | assumption | omega)]); first | done | rfl)
    · (unfold itemsP; (repeat first | rw [if_neg (by first | assumption | omega)] | rw [if_pos (by first | assumption | omega)]); first | done | rfl)
    · (unfold itemsP; (repeat first | rw [if_neg (by first | assumption | omega)] | rw [if_pos (by first | assumption | omega)]); first | done | rfl)
    · (unfold itemsP; (repeat first | rw [if_neg (by first | assumption | omega)] | rw [if_pos (by first | assumption | omega)]); first | done | rfl)
  · simp at h1
    refine Fork.mk (fun h2 => ?_) (fun h2 => ?_)
    · simp at h2
      refine Fork.mk (fun h3 => ?_) (fun h3 => ?_)
      · simp at h3
        refine callVC_mk [] (command_num _) ⟨rfl, rfl, rfl⟩ rfl trivial ?_
        refine callVC_mk [] (command_says _ _ _) ⟨rfl, rfl, rfl⟩ rfl trivial ?_
        refine doneVC_mk [] ⟨by kernel_rfl, by kernel_rfl, by kernel_rfl⟩ rfl (eqA (eqC (eqI ?_) (eqC (eqS ?_) (eqC (eqI ?_) (eqC (by kernel_rfl) (eqC (eqI ?_) (eqC (eqS ?_) (eqC (eqS ?_) (eqC (eqS ?_) (eqC (eqI ?_) (eqC (by kernel_rfl) (eqC (by kernel_rfl) (eqC (eqB ?_) (by kernel_rfl)))))))))))))) trivial
        · (unfold itemsP; (repeat first | rw [if_neg (by first | assumption | omega)] | rw [if_pos (by first | assumption | omega)]); first | done | rfl)
        · (unfold itemsP; (repeat first | rw [if_neg (by first | assumption | omega)] | rw [if_pos (by first | assumption | omega)]); first | done | rfl)
        · (unfold itemsP; (repeat first | rw [if_neg (by first | assumption | omega)] | rw [if_pos (by first | assumption | omega)]); first | done | rfl)
        · (unfold itemsP; (repeat first | rw [if_neg (by first | assumption | omega)] | rw [if_pos (by first | assumption | omega)]); first | done | rfl)
        · (unfold itemsP; (repeat first | rw [if_neg (by first | assumption | omega)] | rw [if_pos (by first | assumption | omega)]); first | done | rfl)
        · (unfold itemsP; (repeat first | rw [if_neg (by first | assumption | omega)] | rw [if_pos (by first | assumption | omega)]); first | done | rfl)
        · (unfold itemsP; (repeat first | rw [if_neg (by first | assumption | omega)] | rw [if_pos (by first | assumption | omega)]); first | done | rfl)
        · (unfold itemsP; (repeat first | rw [if_neg (by first | assumption | omega)] | rw [if_pos (by first | assumption | omega)]); first | done | rfl)
        · (unfold itemsP; (repeat first | rw [if_neg (by first | assumption | omega)] | rw [if_pos (by first | assumption | omega)]); first | done | rfl)
      · simp at h3
        refine Fork.mk (fun h4 => ?_) (fun h4 => ?_)
        · simp at h4
          refine callVC_mk [] (command_num _) ⟨rfl, rfl, rfl⟩ rfl trivial ?_
          refine callVC_mk [] (command_says _ _ _) ⟨rfl, rfl, rfl⟩ rfl trivial ?_
          refine doneVC_mk [] ⟨by kernel_rfl, by kernel_rfl, by kernel_rfl⟩ rfl (eqA (eqC (eqI ?_) (eqC (eqS ?_) (eqC (eqI ?_) (eqC (by kernel_rfl) (eqC (eqI ?_) (eqC (eqS ?_) (eqC (eqS ?_) (eqC (eqS ?_) (eqC (eqI ?_) (eqC (by kernel_rfl) (eqC (by kernel_rfl) (eqC (eqB ?_) (by kernel_rfl)))))))))))))) trivial
          · (unfold itemsP; (repeat first | rw [if_neg (by first | assumption | omega)] | rw [if_pos (by first | assumption | omega)]); first | done | rfl)
          · (unfold itemsP; (repeat first | rw [if_neg (by first | assumption | omega)] | rw [if_pos (by first | assumption | omega)]); first | done | rfl)
          · (unfold itemsP; (repeat first | rw [if_neg (by first | assumption | omega)] | rw [if_pos (by first | assumption | omega)]); first | done | rfl)
          · (unfold itemsP; (repeat first | rw [if_neg (by first | assumption | omega)] | rw [if_pos (by first | assumption | omega)]); first | done | rfl)
          · (unfold itemsP; (repeat first | rw [if_neg (by first | assumption | omega)] | rw [if_pos (by first | assumption | omega)]); first | done | rfl)
          · (unfold itemsP; (repeat first | rw [if_neg (by first | assumption | omega)] | rw [if_pos (by first | assumption | omega)]); first | done | rfl)
          · (unfold itemsP; (repeat first | rw [if_neg (by first | assumption | omega)] | rw [if_pos (by first | assumption | omega)]); first | done | rfl)
          · (unfold itemsP; (repeat first | rw [if_neg (by first | assumption | omega)] | rw [if_pos (by first | assumption | omega)]); first | done | rfl)
          · (unfold itemsP; (repeat first | rw [if_neg (by first | assumption | omega)] | rw [if_pos (by first | assumption | omega)]); first | done | rfl)
        · simp at h4
          (exfalso; omega)
    · simp at h2
      refine Fork.mk (fun h3 => ?_) (fun h3 => ?_)
      · simp at h3
        refine callVC_mk [] (command_num _) ⟨rfl, rfl, rfl⟩ rfl trivial ?_
        refine callVC_mk [] (command_does _ _ _ _ _ _ _ _) ⟨rfl, rfl, rfl⟩ rfl trivial ?_
        refine ⟨rfl, ?_⟩
        refine doneVC_mk [] ⟨by kernel_rfl, by kernel_rfl, by kernel_rfl⟩ rfl (eqA (eqC (eqI ?_) (eqC (eqS ?_) (eqC (eqI ?_) (eqC (by kernel_rfl) (eqC (eqI ?_) (eqC (eqS ?_) (eqC (eqS ?_) (eqC (eqS ?_) (eqC (eqI ?_) (eqC (by kernel_rfl) (eqC (by kernel_rfl) (eqC (eqB ?_) (by kernel_rfl)))))))))))))) trivial
        · (unfold itemsP; (repeat first | rw [if_neg (by first | assumption | omega)] | rw [if_pos (by first | assumption | omega)]); first | done | rfl)
        · (unfold itemsP; (repeat first | rw [if_neg (by first | assumption | omega)] | rw [if_pos (by first | assumption | omega)]); first | done | rfl)
        · (unfold itemsP; (repeat first | rw [if_neg (by first | assumption | omega)] | rw [if_pos (by first | assumption | omega)]); first | done | rfl)
        · (unfold itemsP; (repeat first | rw [if_neg (by first | assumption | omega)] | rw [if_pos (by first | assumption | omega)]); first | done | rfl)
        · (unfold itemsP; (repeat first | rw [if_neg (by first | assumption | omega)] | rw [if_pos (by first | assumption | omega)]); first | done | rfl)
        · (unfold itemsP; (repeat first | rw [if_neg (by first | assumption | omega)] | rw [if_pos (by first | assumption | omega)]); first | done | rfl)
        · (unfold itemsP; (repeat first | rw [if_neg (by first | assumption | omega)] | rw [if_pos (by first | assumption | omega)]); first | done | rfl)
        · (unfold itemsP; (repeat first | rw [if_neg (by first | assumption | omega)] | rw [if_pos (by first | assumption | omega)]); first | done | rfl)
        · (unfold itemsP; (repeat first | rw [if_neg (by first | assumption | omega)] | rw [if_pos (by first | assumption | omega)]); first | done | rfl)
      · simp at h3
        refine Fork.mk (fun h4 => ?_) (fun h4 => ?_)
        · simp at h4
          refine callVC_mk [] (command_num _) ⟨rfl, rfl, rfl⟩ rfl trivial ?_
          refine callVC_mk [] (command_does _ _ _ _ _ _ _ _) ⟨rfl, rfl, rfl⟩ rfl trivial ?_
          refine ⟨rfl, ?_⟩
          refine doneVC_mk [] ⟨by kernel_rfl, by kernel_rfl, by kernel_rfl⟩ rfl (eqA (eqC (eqI ?_) (eqC (eqS ?_) (eqC (eqI ?_) (eqC (by kernel_rfl) (eqC (eqI ?_) (eqC (eqS ?_) (eqC (eqS ?_) (eqC (eqS ?_) (eqC (eqI ?_) (eqC (by kernel_rfl) (eqC (by kernel_rfl) (eqC (eqB ?_) (by kernel_rfl)))))))))))))) trivial
          · (unfold itemsP; (repeat first | rw [if_neg (by first | assumption | omega)] | rw [if_pos (by first | assumption | omega)]); first | done | rfl)
          · (unfold itemsP; (repeat first | rw [if_neg (by first | assumption | omega)] | rw [if_pos (by first | assumption | omega)]); first | done | rfl)
          · (unfold itemsP; (repeat first | rw [if_neg (by first | assumption | omega)] | rw [if_pos (by first | assumption | omega)]); first | done | rfl)
          · (unfold itemsP; (repeat first | rw [if_neg (by first | assumption | omega)] | rw [if_pos (by first | assumption | omega)]); first | done | rfl)
          · (unfold itemsP; (repeat first | rw [if_neg (by first | assumption | omega)] | rw [if_pos (by first | assumption | omega)]); first | done | rfl)
          · (unfold itemsP; (repeat first | rw [if_neg (by first | assumption | omega)] | rw [if_pos (by first | assumption | omega)]); first | done | rfl)
          · (unfold itemsP; (repeat first | rw [if_neg (by first | assumption | omega)] | rw [if_pos (by first | assumption | omega)]); first | done | rfl)
          · (unfold itemsP; (repeat first | rw [if_neg (by first | assumption | omega)] | rw [if_pos (by first | assumption | omega)]); first | done | rfl)
          · (unfold itemsP; (repeat first | rw [if_neg (by first | assumption | omega)] | rw [if_pos (by first | assumption | omega)]); first | done | rfl)
        · simp at h4
          refine Fork.mk (fun h5 => ?_) (fun h5 => ?_)
          · simp at h5
            refine callVC_mk [] (command_fault _) ⟨rfl, rfl, rfl⟩ rfl trivial ?_
            refine callVC_mk [] (command_says _ _ _) ⟨rfl, rfl, rfl⟩ rfl trivial ?_
            refine doneVC_mk [] ⟨by kernel_rfl, by kernel_rfl, by kernel_rfl⟩ rfl (eqA (eqC (eqI ?_) (eqC (eqS ?_) (eqC (eqI ?_) (eqC (by kernel_rfl) (eqC (eqI ?_) (eqC (eqS ?_) (eqC (eqS ?_) (eqC (eqS ?_) (eqC (eqI ?_) (eqC (by kernel_rfl) (eqC (by kernel_rfl) (eqC (eqB ?_) (by kernel_rfl)))))))))))))) trivial
            · (unfold itemsP; (repeat first | rw [if_neg (by first | assumption | omega)] | rw [if_pos (by first | assumption | omega)]); first | done | rfl)
            · (unfold itemsP; (repeat first | rw [if_neg (by first | assumption | omega)] | rw [if_pos (by first | assumption | omega)]); first | done | rfl)
            · (unfold itemsP; (repeat first | rw [if_neg (by first | assumption | omega)] | rw [if_pos (by first | assumption | omega)]); first | done | rfl)
            · (unfold itemsP; (repeat first | rw [if_neg (by first | assumption | omega)] | rw [if_pos (by first | assumption | omega)]); first | done | rfl)
            · (unfold itemsP; (repeat first | rw [if_neg (by first | assumption | omega)] | rw [if_pos (by first | assumption | omega)]); first | done | rfl)
            · (unfold itemsP; (repeat first | rw [if_neg (by first | assumption | omega)] | rw [if_pos (by first | assumption | omega)]); first | done | rfl)
            · (unfold itemsP; (repeat first | rw [if_neg (by first | assumption | omega)] | rw [if_pos (by first | assumption | omega)]); first | done | rfl)
            · (unfold itemsP; (repeat first | rw [if_neg (by first | assumption | omega)] | rw [if_pos (by first | assumption | omega)]); first | done | rfl)
            · (unfold itemsP; (repeat first | rw [if_neg (by first | assumption | omega)] | rw [if_pos (by first | assumption | omega)]); first | done | rfl)
          · simp at h5
            refine Fork.mk (fun h6 => ?_) (fun h6 => ?_)
            · simp at h6
              refine callVC_mk [] (command_fault _) ⟨rfl, rfl, rfl⟩ rfl trivial ?_
              refine callVC_mk [] (command_says _ _ _) ⟨rfl, rfl, rfl⟩ rfl trivial ?_
              refine doneVC_mk [] ⟨by kernel_rfl, by kernel_rfl, by kernel_rfl⟩ rfl (eqA (eqC (eqI ?_) (eqC (eqS ?_) (eqC (eqI ?_) (eqC (by kernel_rfl) (eqC (eqI ?_) (eqC (eqS ?_) (eqC (eqS ?_) (eqC (eqS ?_) (eqC (eqI ?_) (eqC (by kernel_rfl) (eqC (by kernel_rfl) (eqC (eqB ?_) (by kernel_rfl)))))))))))))) trivial
              · (unfold itemsP; (repeat first | rw [if_neg (by first | assumption | omega)] | rw [if_pos (by first | assumption | omega)]); first | done | rfl)
              · (unfold itemsP; (repeat first | rw [if_neg (by first | assumption | omega)] | rw [if_pos (by first | assumption | omega)]); first | done | rfl)
              · (unfold itemsP; (repeat first | rw [if_neg (by first | assumption | omega)] | rw [if_pos (by first | assumption | omega)]); first | done | rfl)
              · (unfold itemsP; (repeat first | rw [if_neg (by first | assumption | omega)] | rw [if_pos (by first | assumption | omega)]); first | done | rfl)
              · (unfold itemsP; (repeat first | rw [if_neg (by first | assumption | omega)] | rw [if_pos (by first | assumption | omega)]); first | done | rfl)
              · (unfold itemsP; (repeat first | rw [if_neg (by first | assumption | omega)] | rw [if_pos (by first | assumption | omega)]); first | done | rfl)
              · (unfold itemsP; (repeat first | rw [if_neg (by first | assumption | omega)] | rw [if_pos (by first | assumption | omega)]); first | done | rfl)
              · (unfold itemsP; (repeat first | rw [if_neg (by first | assumption | omega)] | rw [if_pos (by first | assumption | omega)]); first | done | rfl)
              · (unfold itemsP; (repeat first | rw [if_neg (by first | assumption | omega)] | rw [if_pos (by first | assumption | omega)]); first | done | rfl)
            · simp at h6
              refine Fork.mk (fun h7 => ?_) (fun h7 => ?_)
              · simp at h7
                (exfalso; omega)
              · simp at h7
                refine callVC_mk [] (command_num _) ⟨rfl, rfl, rfl⟩ rfl trivial ?_
                refine callVC_mk [] (command_does _ _ _ _ _ _ _ _) ⟨rfl, rfl, rfl⟩ rfl trivial ?_
                refine ⟨rfl, ?_⟩
                refine doneVC_mk [] ⟨by kernel_rfl, by kernel_rfl, by kernel_rfl⟩ rfl (eqA (eqC (eqI ?_) (eqC (eqS ?_) (eqC (eqI ?_) (eqC (by kernel_rfl) (eqC (eqI ?_) (eqC (eqS ?_) (eqC (eqS ?_) (eqC (eqS ?_) (eqC (eqI ?_) (eqC (by kernel_rfl) (eqC (by kernel_rfl) (eqC (eqB ?_) (by kernel_rfl)))))))))))))) trivial
                · (unfold itemsP; (repeat first | rw [if_neg (by first | assumption | omega)] | rw [if_pos (by first | assumption | omega)]); first | done | rfl)
                · (unfold itemsP; (repeat first | rw [if_neg (by first | assumption | omega)] | rw [if_pos (by first | assumption | omega)]); first | done | rfl)
                · (unfold itemsP; (repeat first | rw [if_neg (by first | assumption | omega)] | rw [if_pos (by first | assumption | omega)]); first | done | rfl)
                · (unfold itemsP; (repeat first | rw [if_neg (by first | assumption | omega)] | rw [if_pos (by first | assumption | omega)]); first | done | rfl)
                · (unfold itemsP; (repeat first | rw [if_neg (by first | assumption | omega)] | rw [if_pos (by first | assumption | omega)]); first | done | rfl)
                · (unfold itemsP; (repeat first | rw [if_neg (by first | assumption | omega)] | rw [if_pos (by first | assumption | omega)]); first | done | rfl)
                · (unfold itemsP; (repeat first | rw [if_neg (by first | assumption | omega)] | rw [if_pos (by first | assumption | omega)]); first | done | rfl)
                · (unfold itemsP; (repeat first | rw [if_neg (by first | assumption | omega)] | rw [if_pos (by first | assumption | omega)]); first | done | rfl)
                · (unfold itemsP; (repeat first | rw [if_neg (by first | assumption | omega)] | rw [if_pos (by first | assumption | omega)]); first | done | rfl)
theorem command_word  : FnOk Tryz.prog 196 [.lit .i64 0] (conPure 0 (.str (⟨#[110, 111, 110, 101]⟩ : ByteArray))) := by
  refine fnOk_of_den tab_ok mixed look196 rfl rfl (by kernel_rfl) fun hb => ?_
  simp only [den, denOps]
  refine tag4_strs (by rfl) (by rfl) (by rfl) ?_
  refine ⟨by decide, ?_⟩
  refine ⟨_, ⟨rfl, rfl⟩, ?_⟩
  refine doneVC_mk [] ⟨by kernel_rfl, by kernel_rfl, by kernel_rfl⟩ rfl (by kernel_rfl) trivial
def whateverP (c : Call) : PlanS := if L c.name = L (⟨#[84, 89, 80, 69]⟩ : ByteArray) then saysP 1 (⟨#[110, 111, 110, 101]⟩ : ByteArray) 0 else if L c.name = L (⟨#[75, 69, 89, 83]⟩ : ByteArray) then saysP 6 emp 0 else numP 0
theorem command_whatever (c : Call) : FnOk Tryz.prog 105 [nilP, .agg (callL c)] (conPure 0 (.agg (planL (whateverP c)))) := by
  refine fnOk_of_den tab_ok mixed look105 rfl rfl (by kernel_rfl) fun hb => ?_
  simp only [den, denOps]
  refine callVC_mk [] (space_Space_Type _) ⟨rfl, rfl, rfl⟩ rfl trivial ?_
  refine Fork.mk (fun h1 => ?_) (fun h1 => ?_)
  · simp at h1
    refine callVC_mk [] command_word ⟨rfl, rfl, rfl⟩ rfl trivial ?_
    refine callVC_mk [] (command_simple _) ⟨rfl, rfl, rfl⟩ rfl trivial ?_
    refine callVC_mk [] (command_says _ _ _) ⟨rfl, rfl, rfl⟩ rfl trivial ?_
    refine doneVC_mk [] ⟨by kernel_rfl, by kernel_rfl, by kernel_rfl⟩ rfl (eqA (eqC (eqI ?_) (eqC (eqS ?_) (eqC (eqI ?_) (eqC (by kernel_rfl) (eqC (eqI ?_) (eqC (eqS ?_) (eqC (eqS ?_) (eqC (eqS ?_) (eqC (eqI ?_) (eqC (by kernel_rfl) (eqC (by kernel_rfl) (eqC (eqB ?_) (by kernel_rfl)))))))))))))) trivial
    · (unfold whateverP; (repeat first | rw [if_neg (by first | assumption | omega)] | rw [if_pos (by first | assumption | omega)]); first | done | rfl)
    · (unfold whateverP; (repeat first | rw [if_neg (by first | assumption | omega)] | rw [if_pos (by first | assumption | omega)]); first | done | rfl)
    · (unfold whateverP; (repeat first | rw [if_neg (by first | assumption | omega)] | rw [if_pos (by first | assumption | omega)]); first | done | rfl)
    · (unfold whateverP; (repeat first | rw [if_neg (by first | assumption | omega)] | rw [if_pos (by first | assumption | omega)]); first | done | rfl)
    · (unfold whateverP; (repeat first | rw [if_neg (by first | assumption | omega)] | rw [if_pos (by first | assumption | omega)]); first | done | rfl)
    · (unfold whateverP; (repeat first | rw [if_neg (by first | assumption | omega)] | rw [if_pos (by first | assumption | omega)]); first | done | rfl)
    · (unfold whateverP; (repeat first | rw [if_neg (by first | assumption | omega)] | rw [if_pos (by first | assumption | omega)]); first | done | rfl)
    · (unfold whateverP; (repeat first | rw [if_neg (by first | assumption | omega)] | rw [if_pos (by first | assumption | omega)]); first | done | rfl)
    · (unfold whateverP; (repeat first | rw [if_neg (by first | assumption | omega)] | rw [if_pos (by first | assumption | omega)]); first | done | rfl)
  · simp at h1
    refine Fork.mk (fun h2 => ?_) (fun h2 => ?_)
    · simp at h2
      refine callVC_mk [] space_Space_Keys ⟨rfl, rfl, rfl⟩ rfl trivial ?_
      refine callVC_mk [] command_list_nil ⟨rfl, rfl, rfl⟩ rfl trivial ?_
      refine callVC_mk [] (command_says _ _ _) ⟨rfl, rfl, rfl⟩ rfl trivial ?_
      refine doneVC_mk [] ⟨by kernel_rfl, by kernel_rfl, by kernel_rfl⟩ rfl (eqA (eqC (eqI ?_) (eqC (eqS ?_) (eqC (eqI ?_) (eqC (by kernel_rfl) (eqC (eqI ?_) (eqC (eqS ?_) (eqC (eqS ?_) (eqC (eqS ?_) (eqC (eqI ?_) (eqC (by kernel_rfl) (eqC (by kernel_rfl) (eqC (eqB ?_) (by kernel_rfl)))))))))))))) trivial
      · (unfold whateverP; (repeat first | rw [if_neg (by first | assumption | omega)] | rw [if_pos (by first | assumption | omega)]); first | done | rfl)
      · (unfold whateverP; (repeat first | rw [if_neg (by first | assumption | omega)] | rw [if_pos (by first | assumption | omega)]); first | done | rfl)
      · (unfold whateverP; (repeat first | rw [if_neg (by first | assumption | omega)] | rw [if_pos (by first | assumption | omega)]); first | done | rfl)
      · (unfold whateverP; (repeat first | rw [if_neg (by first | assumption | omega)] | rw [if_pos (by first | assumption | omega)]); first | done | rfl)
      · (unfold whateverP; (repeat first | rw [if_neg (by first | assumption | omega)] | rw [if_pos (by first | assumption | omega)]); first | done | rfl)
      · (unfold whateverP; (repeat first | rw [if_neg (by first | assumption | omega)] | rw [if_pos (by first | assumption | omega)]); first | done | rfl)
      · (unfold whateverP; (repeat first | rw [if_neg (by first | assumption | omega)] | rw [if_pos (by first | assumption | omega)]); first | done | rfl)
      · (unfold whateverP; (repeat first | rw [if_neg (by first | assumption | omega)] | rw [if_pos (by first | assumption | omega)]); first | done | rfl)
      · (unfold whateverP; (repeat first | rw [if_neg (by first | assumption | omega)] | rw [if_pos (by first | assumption | omega)]); first | done | rfl)
    · simp at h2
      refine callVC_mk [] (command_unless_tt _ _ _ _ _) ⟨rfl, rfl, rfl⟩ rfl trivial ?_
      refine doneVC_mk [] ⟨by kernel_rfl, by kernel_rfl, by kernel_rfl⟩ rfl (eqA (eqC (eqI ?_) (eqC (eqS ?_) (eqC (eqI ?_) (eqC (by kernel_rfl) (eqC (eqI ?_) (eqC (eqS ?_) (eqC (eqS ?_) (eqC (eqS ?_) (eqC (eqI ?_) (eqC (by kernel_rfl) (eqC (by kernel_rfl) (eqC (eqB ?_) (by kernel_rfl)))))))))))))) trivial
      · (unfold whateverP; (repeat first | rw [if_neg (by first | assumption | omega)] | rw [if_pos (by first | assumption | omega)]); first | done | rfl)
      · (unfold whateverP; (repeat first | rw [if_neg (by first | assumption | omega)] | rw [if_pos (by first | assumption | omega)]); first | done | rfl)
      · (unfold whateverP; (repeat first | rw [if_neg (by first | assumption | omega)] | rw [if_pos (by first | assumption | omega)]); first | done | rfl)
      · (unfold whateverP; (repeat first | rw [if_neg (by first | assumption | omega)] | rw [if_pos (by first | assumption | omega)]); first | done | rfl)
      · (unfold whateverP; (repeat first | rw [if_neg (by first | assumption | omega)] | rw [if_pos (by first | assumption | omega)]); first | done | rfl)
      · (unfold whateverP; (repeat first | rw [if_neg (by first | assumption | omega)] | rw [if_pos (by first | assumption | omega)]); first | done | rfl)
      · (unfold whateverP; (repeat first | rw [if_neg (by first | assumption | omega)] | rw [if_pos (by first | assumption | omega)]); first | done | rfl)
      · (unfold whateverP; (repeat first | rw [if_neg (by first | assumption | omega)] | rw [if_pos (by first | assumption | omega)]); first | done | rfl)
      · (unfold whateverP; (repeat first | rw [if_neg (by first | assumption | omega)] | rw [if_pos (by first | assumption | omega)]); first | done | rfl)
def plannedP (c : Call) : PlanS := if (formS (L c.name)).2.2 = false then faultP (⟨#[69, 82, 82]⟩ : ByteArray) else
  if (formS (L c.name)).2.1 = 1 then textP c else if (formS (L c.name)).2.1 = 2 then tallyP c else if (formS (L c.name)).2.1 = 3 then groupP c else
  if (formS (L c.name)).2.1 = 4 then hashP c else if (formS (L c.name)).2.1 = 5 then scoresP c else if (formS (L c.name)).2.1 = 6 then itemsP c else whateverP c
theorem command_planned (c : Call) : FnOk Tryz.prog 36 [nilP, .agg (callL c)] (conPure 0 (.agg (planL (plannedP c)))) := by
  refine fnOk_of_den tab_ok mixed look36 rfl rfl (by kernel_rfl) fun hb => ?_
  simp only [den, denOps]
  refine callVC_mk [] (command_formOf _) ⟨rfl, rfl, rfl⟩ rfl trivial ?_
  refine Fork.mk (fun h1 => ?_) (fun h1 => ?_)
  · simp at h1
    refine callVC_mk [] (command_fault _) ⟨rfl, rfl, rfl⟩ rfl trivial ?_
    refine callVC_mk [] (command_says _ _ _) ⟨rfl, rfl, rfl⟩ rfl trivial ?_
    refine doneVC_mk [] ⟨by kernel_rfl, by kernel_rfl, by kernel_rfl⟩ rfl (eqA (eqC (eqI ?_) (eqC (eqS ?_) (eqC (eqI ?_) (eqC (by kernel_rfl) (eqC (eqI ?_) (eqC (eqS ?_) (eqC (eqS ?_) (eqC (eqS ?_) (eqC (eqI ?_) (eqC (by kernel_rfl) (eqC (by kernel_rfl) (eqC (eqB ?_) (by kernel_rfl)))))))))))))) trivial
    · (unfold plannedP; (repeat first | rw [if_pos (by assumption)] | rw [if_neg (by first | assumption | omega | (rw [‹(formS (L c.name)).2.2 = true›]; decide))]); first | done | rfl)
    · (unfold plannedP; (repeat first | rw [if_pos (by assumption)] | rw [if_neg (by first | assumption | omega | (rw [‹(formS (L c.name)).2.2 = true›]; decide))]); first | done | rfl)
    · (unfold plannedP; (repeat first | rw [if_pos (by assumption)] | rw [if_neg (by first | assumption | omega | (rw [‹(formS (L c.name)).2.2 = true›]; decide))]); first | done | rfl)
    · (unfold plannedP; (repeat first | rw [if_pos (by assumption)] | rw [if_neg (by first | assumption | omega | (rw [‹(formS (L c.name)).2.2 = true›]; decide))]); first | done | rfl)
    · (unfold plannedP; (repeat first | rw [if_pos (by assumption)] | rw [if_neg (by first | assumption | omega | (rw [‹(formS (L c.name)).2.2 = true›]; decide))]); first | done | rfl)
    · (unfold plannedP; (repeat first | rw [if_pos (by assumption)] | rw [if_neg (by first | assumption | omega | (rw [‹(formS (L c.name)).2.2 = true›]; decide))]); first | done | rfl)
    · (unfold plannedP; (repeat first | rw [if_pos (by assumption)] | rw [if_neg (by first | assumption | omega | (rw [‹(formS (L c.name)).2.2 = true›]; decide))]); first | done | rfl)
    · (unfold plannedP; (repeat first | rw [if_pos (by assumption)] | rw [if_neg (by first | assumption | omega | (rw [‹(formS (L c.name)).2.2 = true›]; decide))]); first | done | rfl)
    · (unfold plannedP; (repeat first | rw [if_pos (by assumption)] | rw [if_neg (by first | assumption | omega | (rw [‹(formS (L c.name)).2.2 = true›]; decide))]); first | done | rfl)
  · simp at h1
    refine callVC_mk [] (space_Space_Type _) ⟨rfl, rfl, rfl⟩ rfl trivial ?_
    refine Fork.mk (fun h2 => ?_) (fun h2 => ?_)
    · simp at h2
      refine Fork.mk (fun h3 => ?_) (fun h3 => ?_)
      · simp at h3
        refine callVC_mk [] (command_text _) ⟨rfl, rfl, rfl⟩ rfl trivial ?_
        refine doneVC_mk [] ⟨by kernel_rfl, by kernel_rfl, by kernel_rfl⟩ rfl (eqA (eqC (eqI ?_) (eqC (eqS ?_) (eqC (eqI ?_) (eqC (by kernel_rfl) (eqC (eqI ?_) (eqC (eqS ?_) (eqC (eqS ?_) (eqC (eqS ?_) (eqC (eqI ?_) (eqC (by kernel_rfl) (eqC (by kernel_rfl) (eqC (eqB ?_) (by kernel_rfl)))))))))))))) trivial
        · (unfold plannedP; (repeat first | rw [if_pos (by assumption)] | rw [if_neg (by first | assumption | omega | (rw [‹(formS (L c.name)).2.2 = true›]; decide))]); first | done | rfl)
        · (unfold plannedP; (repeat first | rw [if_pos (by assumption)] | rw [if_neg (by first | assumption | omega | (rw [‹(formS (L c.name)).2.2 = true›]; decide))]); first | done | rfl)
        · (unfold plannedP; (repeat first | rw [if_pos (by assumption)] | rw [if_neg (by first | assumption | omega | (rw [‹(formS (L c.name)).2.2 = true›]; decide))]); first | done | rfl)
        · (unfold plannedP; (repeat first | rw [if_pos (by assumption)] | rw [if_neg (by first | assumption | omega | (rw [‹(formS (L c.name)).2.2 = true›]; decide))]); first | done | rfl)
        · (unfold plannedP; (repeat first | rw [if_pos (by assumption)] | rw [if_neg (by first | assumption | omega | (rw [‹(formS (L c.name)).2.2 = true›]; decide))]); first | done | rfl)
        · (unfold plannedP; (repeat first | rw [if_pos (by assumption)] | rw [if_neg (by first | assumption | omega | (rw [‹(formS (L c.name)).2.2 = true›]; decide))]); first | done | rfl)
        · (unfold plannedP; (repeat first | rw [if_pos (by assumption)] | rw [if_neg (by first | assumption | omega | (rw [‹(formS (L c.name)).2.2 = true›]; decide))]); first | done | rfl)
        · (unfold plannedP; (repeat first | rw [if_pos (by assumption)] | rw [if_neg (by first | assumption | omega | (rw [‹(formS (L c.name)).2.2 = true›]; decide))]); first | done | rfl)
        · (unfold plannedP; (repeat first | rw [if_pos (by assumption)] | rw [if_neg (by first | assumption | omega | (rw [‹(formS (L c.name)).2.2 = true›]; decide))]); first | done | rfl)
      · simp at h3
        refine Fork.mk (fun h4 => ?_) (fun h4 => ?_)
        · simp at h4
          refine callVC_mk [] (command_tally _) ⟨rfl, rfl, rfl⟩ rfl trivial ?_
          refine doneVC_mk [] ⟨by kernel_rfl, by kernel_rfl, by kernel_rfl⟩ rfl (eqA (eqC (eqI ?_) (eqC (eqS ?_) (eqC (eqI ?_) (eqC (by kernel_rfl) (eqC (eqI ?_) (eqC (eqS ?_) (eqC (eqS ?_) (eqC (eqS ?_) (eqC (eqI ?_) (eqC (by kernel_rfl) (eqC (by kernel_rfl) (eqC (eqB ?_) (by kernel_rfl)))))))))))))) trivial
          · (unfold plannedP; (repeat first | rw [if_pos (by assumption)] | rw [if_neg (by first | assumption | omega | (rw [‹(formS (L c.name)).2.2 = true›]; decide))]); first | done | rfl)
          · (unfold plannedP; (repeat first | rw [if_pos (by assumption)] | rw [if_neg (by first | assumption | omega | (rw [‹(formS (L c.name)).2.2 = true›]; decide))]); first | done | rfl)
          · (unfold plannedP; (repeat first | rw [if_pos (by assumption)] | rw [if_neg (by first | assumption | omega | (rw [‹(formS (L c.name)).2.2 = true›]; decide))]); first | done | rfl)
          · (unfold plannedP; (repeat first | rw [if_pos (by assumption)] | rw [if_neg (by first | assumption | omega | (rw [‹(formS (L c.name)).2.2 = true›]; decide))]); first | done | rfl)
          · (unfold plannedP; (repeat first | rw [if_pos (by assumption)] | rw [if_neg (by first | assumption | omega | (rw [‹(formS (L c.name)).2.2 = true›]; decide))]); first | done | rfl)
          · (unfold plannedP; (repeat first | rw [if_pos (by assumption)] | rw [if_neg (by first | assumption | omega | (rw [‹(formS (L c.name)).2.2 = true›]; decide))]); first | done | rfl)
          · (unfold plannedP; (repeat first | rw [if_pos (by assumption)] | rw [if_neg (by first | assumption | omega | (rw [‹(formS (L c.name)).2.2 = true›]; decide))]); first | done | rfl)
          · (unfold plannedP; (repeat first | rw [if_pos (by assumption)] | rw [if_neg (by first | assumption | omega | (rw [‹(formS (L c.name)).2.2 = true›]; decide))]); first | done | rfl)
          · (unfold plannedP; (repeat first | rw [if_pos (by assumption)] | rw [if_neg (by first | assumption | omega | (rw [‹(formS (L c.name)).2.2 = true›]; decide))]); first | done | rfl)
        · simp at h4
          refine Fork.mk (fun h5 => ?_) (fun h5 => ?_)
          · simp at h5
            refine callVC_mk [] (command_group _) ⟨rfl, rfl, rfl⟩ rfl trivial ?_
            refine doneVC_mk [] ⟨by kernel_rfl, by kernel_rfl, by kernel_rfl⟩ rfl (eqA (eqC (eqI ?_) (eqC (eqS ?_) (eqC (eqI ?_) (eqC (by kernel_rfl) (eqC (eqI ?_) (eqC (eqS ?_) (eqC (eqS ?_) (eqC (eqS ?_) (eqC (eqI ?_) (eqC (by kernel_rfl) (eqC (by kernel_rfl) (eqC (eqB ?_) (by kernel_rfl)))))))))))))) trivial
            · (unfold plannedP; (repeat first | rw [if_pos (by assumption)] | rw [if_neg (by first | assumption | omega | (rw [‹(formS (L c.name)).2.2 = true›]; decide))]); first | done | rfl)
            · (unfold plannedP; (repeat first | rw [if_pos (by assumption)] | rw [if_neg (by first | assumption | omega | (rw [‹(formS (L c.name)).2.2 = true›]; decide))]); first | done | rfl)
            · (unfold plannedP; (repeat first | rw [if_pos (by assumption)] | rw [if_neg (by first | assumption | omega | (rw [‹(formS (L c.name)).2.2 = true›]; decide))]); first | done | rfl)
            · (unfold plannedP; (repeat first | rw [if_pos (by assumption)] | rw [if_neg (by first | assumption | omega | (rw [‹(formS (L c.name)).2.2 = true›]; decide))]); first | done | rfl)
            · (unfold plannedP; (repeat first | rw [if_pos (by assumption)] | rw [if_neg (by first | assumption | omega | (rw [‹(formS (L c.name)).2.2 = true›]; decide))]); first | done | rfl)
            · (unfold plannedP; (repeat first | rw [if_pos (by assumption)] | rw [if_neg (by first | assumption | omega | (rw [‹(formS (L c.name)).2.2 = true›]; decide))]); first | done | rfl)
            · (unfold plannedP; (repeat first | rw [if_pos (by assumption)] | rw [if_neg (by first | assumption | omega | (rw [‹(formS (L c.name)).2.2 = true›]; decide))]); first | done | rfl)
            · (unfold plannedP; (repeat first | rw [if_pos (by assumption)] | rw [if_neg (by first | assumption | omega | (rw [‹(formS (L c.name)).2.2 = true›]; decide))]); first | done | rfl)
            · (unfold plannedP; (repeat first | rw [if_pos (by assumption)] | rw [if_neg (by first | assumption | omega | (rw [‹(formS (L c.name)).2.2 = true›]; decide))]); first | done | rfl)
          · simp at h5
            refine Fork.mk (fun h6 => ?_) (fun h6 => ?_)
            · simp at h6
              refine callVC_mk [] (command_hash _) ⟨rfl, rfl, rfl⟩ rfl trivial ?_
              refine doneVC_mk [] ⟨by kernel_rfl, by kernel_rfl, by kernel_rfl⟩ rfl (eqA (eqC (eqI ?_) (eqC (eqS ?_) (eqC (eqI ?_) (eqC (by kernel_rfl) (eqC (eqI ?_) (eqC (eqS ?_) (eqC (eqS ?_) (eqC (eqS ?_) (eqC (eqI ?_) (eqC (by kernel_rfl) (eqC (by kernel_rfl) (eqC (eqB ?_) (by kernel_rfl)))))))))))))) trivial
              · (unfold plannedP; (repeat first | rw [if_pos (by assumption)] | rw [if_neg (by first | assumption | omega | (rw [‹(formS (L c.name)).2.2 = true›]; decide))]); first | done | rfl)
              · (unfold plannedP; (repeat first | rw [if_pos (by assumption)] | rw [if_neg (by first | assumption | omega | (rw [‹(formS (L c.name)).2.2 = true›]; decide))]); first | done | rfl)
              · (unfold plannedP; (repeat first | rw [if_pos (by assumption)] | rw [if_neg (by first | assumption | omega | (rw [‹(formS (L c.name)).2.2 = true›]; decide))]); first | done | rfl)
              · (unfold plannedP; (repeat first | rw [if_pos (by assumption)] | rw [if_neg (by first | assumption | omega | (rw [‹(formS (L c.name)).2.2 = true›]; decide))]); first | done | rfl)
              · (unfold plannedP; (repeat first | rw [if_pos (by assumption)] | rw [if_neg (by first | assumption | omega | (rw [‹(formS (L c.name)).2.2 = true›]; decide))]); first | done | rfl)
              · (unfold plannedP; (repeat first | rw [if_pos (by assumption)] | rw [if_neg (by first | assumption | omega | (rw [‹(formS (L c.name)).2.2 = true›]; decide))]); first | done | rfl)
              · (unfold plannedP; (repeat first | rw [if_pos (by assumption)] | rw [if_neg (by first | assumption | omega | (rw [‹(formS (L c.name)).2.2 = true›]; decide))]); first | done | rfl)
              · (unfold plannedP; (repeat first | rw [if_pos (by assumption)] | rw [if_neg (by first | assumption | omega | (rw [‹(formS (L c.name)).2.2 = true›]; decide))]); first | done | rfl)
              · (unfold plannedP; (repeat first | rw [if_pos (by assumption)] | rw [if_neg (by first | assumption | omega | (rw [‹(formS (L c.name)).2.2 = true›]; decide))]); first | done | rfl)
            · simp at h6
              refine Fork.mk (fun h7 => ?_) (fun h7 => ?_)
              · simp at h7
                refine callVC_mk [] (command_scores _) ⟨rfl, rfl, rfl⟩ rfl trivial ?_
                refine doneVC_mk [] ⟨by kernel_rfl, by kernel_rfl, by kernel_rfl⟩ rfl (eqA (eqC (eqI ?_) (eqC (eqS ?_) (eqC (eqI ?_) (eqC (by kernel_rfl) (eqC (eqI ?_) (eqC (eqS ?_) (eqC (eqS ?_) (eqC (eqS ?_) (eqC (eqI ?_) (eqC (by kernel_rfl) (eqC (by kernel_rfl) (eqC (eqB ?_) (by kernel_rfl)))))))))))))) trivial
                · (unfold plannedP; (repeat first | rw [if_pos (by assumption)] | rw [if_neg (by first | assumption | omega | (rw [‹(formS (L c.name)).2.2 = true›]; decide))]); first | done | rfl)
                · (unfold plannedP; (repeat first | rw [if_pos (by assumption)] | rw [if_neg (by first | assumption | omega | (rw [‹(formS (L c.name)).2.2 = true›]; decide))]); first | done | rfl)
                · (unfold plannedP; (repeat first | rw [if_pos (by assumption)] | rw [if_neg (by first | assumption | omega | (rw [‹(formS (L c.name)).2.2 = true›]; decide))]); first | done | rfl)
                · (unfold plannedP; (repeat first | rw [if_pos (by assumption)] | rw [if_neg (by first | assumption | omega | (rw [‹(formS (L c.name)).2.2 = true›]; decide))]); first | done | rfl)
                · (unfold plannedP; (repeat first | rw [if_pos (by assumption)] | rw [if_neg (by first | assumption | omega | (rw [‹(formS (L c.name)).2.2 = true›]; decide))]); first | done | rfl)
                · (unfold plannedP; (repeat first | rw [if_pos (by assumption)] | rw [if_neg (by first | assumption | omega | (rw [‹(formS (L c.name)).2.2 = true›]; decide))]); first | done | rfl)
                · (unfold plannedP; (repeat first | rw [if_pos (by assumption)] | rw [if_neg (by first | assumption | omega | (rw [‹(formS (L c.name)).2.2 = true›]; decide))]); first | done | rfl)
                · (unfold plannedP; (repeat first | rw [if_pos (by assumption)] | rw [if_neg (by first | assumption | omega | (rw [‹(formS (L c.name)).2.2 = true›]; decide))]); first | done | rfl)
                · (unfold plannedP; (repeat first | rw [if_pos (by assumption)] | rw [if_neg (by first | assumption | omega | (rw [‹(formS (L c.name)).2.2 = true›]; decide))]); first | done | rfl)
              · simp at h7
                refine Fork.mk (fun h8 => ?_) (fun h8 => ?_)
                · simp at h8
                  refine callVC_mk [] (command_items _) ⟨rfl, rfl, rfl⟩ rfl trivial ?_
                  refine doneVC_mk [] ⟨by kernel_rfl, by kernel_rfl, by kernel_rfl⟩ rfl (eqA (eqC (eqI ?_) (eqC (eqS ?_) (eqC (eqI ?_) (eqC (by kernel_rfl) (eqC (eqI ?_) (eqC (eqS ?_) (eqC (eqS ?_) (eqC (eqS ?_) (eqC (eqI ?_) (eqC (by kernel_rfl) (eqC (by kernel_rfl) (eqC (eqB ?_) (by kernel_rfl)))))))))))))) trivial
                  · (unfold plannedP; (repeat first | rw [if_pos (by assumption)] | rw [if_neg (by first | assumption | omega | (rw [‹(formS (L c.name)).2.2 = true›]; decide))]); first | done | rfl)
                  · (unfold plannedP; (repeat first | rw [if_pos (by assumption)] | rw [if_neg (by first | assumption | omega | (rw [‹(formS (L c.name)).2.2 = true›]; decide))]); first | done | rfl)
                  · (unfold plannedP; (repeat first | rw [if_pos (by assumption)] | rw [if_neg (by first | assumption | omega | (rw [‹(formS (L c.name)).2.2 = true›]; decide))]); first | done | rfl)
                  · (unfold plannedP; (repeat first | rw [if_pos (by assumption)] | rw [if_neg (by first | assumption | omega | (rw [‹(formS (L c.name)).2.2 = true›]; decide))]); first | done | rfl)
                  · (unfold plannedP; (repeat first | rw [if_pos (by assumption)] | rw [if_neg (by first | assumption | omega | (rw [‹(formS (L c.name)).2.2 = true›]; decide))]); first | done | rfl)
                  · (unfold plannedP; (repeat first | rw [if_pos (by assumption)] | rw [if_neg (by first | assumption | omega | (rw [‹(formS (L c.name)).2.2 = true›]; decide))]); first | done | rfl)
                  · (unfold plannedP; (repeat first | rw [if_pos (by assumption)] | rw [if_neg (by first | assumption | omega | (rw [‹(formS (L c.name)).2.2 = true›]; decide))]); first | done | rfl)
                  · (unfold plannedP; (repeat first | rw [if_pos (by assumption)] | rw [if_neg (by first | assumption | omega | (rw [‹(formS (L c.name)).2.2 = true›]; decide))]); first | done | rfl)
                  · (unfold plannedP; (repeat first | rw [if_pos (by assumption)] | rw [if_neg (by first | assumption | omega | (rw [‹(formS (L c.name)).2.2 = true›]; decide))]); first | done | rfl)
                · simp at h8
                  refine callVC_mk [] (command_whatever _) ⟨rfl, rfl, rfl⟩ rfl trivial ?_
                  refine doneVC_mk [] ⟨by kernel_rfl, by kernel_rfl, by kernel_rfl⟩ rfl (eqA (eqC (eqI ?_) (eqC (eqS ?_) (eqC (eqI ?_) (eqC (by kernel_rfl) (eqC (eqI ?_) (eqC (eqS ?_) (eqC (eqS ?_) (eqC (eqS ?_) (eqC (eqI ?_) (eqC (by kernel_rfl) (eqC (by kernel_rfl) (eqC (eqB ?_) (by kernel_rfl)))))))))))))) trivial
                  · (unfold plannedP; (repeat first | rw [if_pos (by assumption)] | rw [if_neg (by first | assumption | omega | (rw [‹(formS (L c.name)).2.2 = true›]; decide))]); first | done | rfl)
                  · (unfold plannedP; (repeat first | rw [if_pos (by assumption)] | rw [if_neg (by first | assumption | omega | (rw [‹(formS (L c.name)).2.2 = true›]; decide))]); first | done | rfl)
                  · (unfold plannedP; (repeat first | rw [if_pos (by assumption)] | rw [if_neg (by first | assumption | omega | (rw [‹(formS (L c.name)).2.2 = true›]; decide))]); first | done | rfl)
                  · (unfold plannedP; (repeat first | rw [if_pos (by assumption)] | rw [if_neg (by first | assumption | omega | (rw [‹(formS (L c.name)).2.2 = true›]; decide))]); first | done | rfl)
                  · (unfold plannedP; (repeat first | rw [if_pos (by assumption)] | rw [if_neg (by first | assumption | omega | (rw [‹(formS (L c.name)).2.2 = true›]; decide))]); first | done | rfl)
                  · (unfold plannedP; (repeat first | rw [if_pos (by assumption)] | rw [if_neg (by first | assumption | omega | (rw [‹(formS (L c.name)).2.2 = true›]; decide))]); first | done | rfl)
                  · (unfold plannedP; (repeat first | rw [if_pos (by assumption)] | rw [if_neg (by first | assumption | omega | (rw [‹(formS (L c.name)).2.2 = true›]; decide))]); first | done | rfl)
                  · (unfold plannedP; (repeat first | rw [if_pos (by assumption)] | rw [if_neg (by first | assumption | omega | (rw [‹(formS (L c.name)).2.2 = true›]; decide))]); first | done | rfl)
                  · (unfold plannedP; (repeat first | rw [if_pos (by assumption)] | rw [if_neg (by first | assumption | omega | (rw [‹(formS (L c.name)).2.2 = true›]; decide))]); first | done | rfl)
    · simp at h2
      refine Fork.mk (fun h3 => ?_) (fun h3 => ?_)
      · simp at h3
        (exfalso; omega)
      · simp at h3
        refine Fork.mk (fun h4 => ?_) (fun h4 => ?_)
        · simp at h4
          (exfalso; omega)
        · simp at h4
          refine Fork.mk (fun h5 => ?_) (fun h5 => ?_)
          · simp at h5
            (exfalso; omega)
          · simp at h5
            refine Fork.mk (fun h6 => ?_) (fun h6 => ?_)
            · simp at h6
              (exfalso; omega)
            · simp at h6
              refine Fork.mk (fun h7 => ?_) (fun h7 => ?_)
              · simp at h7
                (exfalso; omega)
              · simp at h7
                refine Fork.mk (fun h8 => ?_) (fun h8 => ?_)
                · simp at h8
                  (exfalso; omega)
                · simp at h8
                  refine callVC_mk [] (command_whatever _) ⟨rfl, rfl, rfl⟩ rfl trivial ?_
                  refine doneVC_mk [] ⟨by kernel_rfl, by kernel_rfl, by kernel_rfl⟩ rfl (eqA (eqC (eqI ?_) (eqC (eqS ?_) (eqC (eqI ?_) (eqC (by kernel_rfl) (eqC (eqI ?_) (eqC (eqS ?_) (eqC (eqS ?_) (eqC (eqS ?_) (eqC (eqI ?_) (eqC (by kernel_rfl) (eqC (by kernel_rfl) (eqC (eqB ?_) (by kernel_rfl)))))))))))))) trivial
                  · (unfold plannedP; (repeat first | rw [if_pos (by assumption)] | rw [if_neg (by first | assumption | omega | (rw [‹(formS (L c.name)).2.2 = true›]; decide))]); first | done | rfl)
                  · (unfold plannedP; (repeat first | rw [if_pos (by assumption)] | rw [if_neg (by first | assumption | omega | (rw [‹(formS (L c.name)).2.2 = true›]; decide))]); first | done | rfl)
                  · (unfold plannedP; (repeat first | rw [if_pos (by assumption)] | rw [if_neg (by first | assumption | omega | (rw [‹(formS (L c.name)).2.2 = true›]; decide))]); first | done | rfl)
                  · (unfold plannedP; (repeat first | rw [if_pos (by assumption)] | rw [if_neg (by first | assumption | omega | (rw [‹(formS (L c.name)).2.2 = true›]; decide))]); first | done | rfl)
                  · (unfold plannedP; (repeat first | rw [if_pos (by assumption)] | rw [if_neg (by first | assumption | omega | (rw [‹(formS (L c.name)).2.2 = true›]; decide))]); first | done | rfl)
                  · (unfold plannedP; (repeat first | rw [if_pos (by assumption)] | rw [if_neg (by first | assumption | omega | (rw [‹(formS (L c.name)).2.2 = true›]; decide))]); first | done | rfl)
                  · (unfold plannedP; (repeat first | rw [if_pos (by assumption)] | rw [if_neg (by first | assumption | omega | (rw [‹(formS (L c.name)).2.2 = true›]; decide))]); first | done | rfl)
                  · (unfold plannedP; (repeat first | rw [if_pos (by assumption)] | rw [if_neg (by first | assumption | omega | (rw [‹(formS (L c.name)).2.2 = true›]; decide))]); first | done | rfl)
                  · (unfold plannedP; (repeat first | rw [if_pos (by assumption)] | rw [if_neg (by first | assumption | omega | (rw [‹(formS (L c.name)).2.2 = true›]; decide))]); first | done | rfl)
def planR (p : PlanS) : AV := .tup [.agg (repL p.rk p.rt p.rn), .agg (opL p.ok p.okey p.ofield p.ovalue p.on), .bool p.acts]
theorem command_Plan (c : Call) : FnOk Tryz.prog 9 [nilP, .agg (callL c)] (conPure 0 (planR (plannedP c))) := by
  refine fnOk_of_den tab_ok mixed look9 rfl rfl (by kernel_rfl) fun hb => ?_
  simp only [den, denOps]
  refine callVC_mk [] (command_planned _) ⟨rfl, rfl, rfl⟩ rfl trivial ?_
  refine ⟨rfl, ?_⟩
  refine doneVC_mk [] ⟨by kernel_rfl, by kernel_rfl, by kernel_rfl⟩ rfl (by kernel_rfl) trivial
end Go.Proofs.YtehnjdcahbehjaaGreatDoor
