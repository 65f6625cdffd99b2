import Derived.Test.YtehnjdcahbehjaaGreatDoorKJ
import Derived.Test.YtehnjdcahbehjaaGreatDoorEngZ
namespace Go.Proofs.YtehnjdcahbehjaaGreatDoor
open Go Go.Eng Go.Proofs
set_option maxRecDepth 100000
set_option linter.unusedVariables false
set_option linter.unusedSimpArgs false
set_option maxHeartbeats 2000000
theorem polyphonyref22_fault (s : ByteArray) : FnOk Tryz.prog 38 [.str s] (conPure 0 (.agg (repL 2 s 0))) := by
  refine fnOk_of_den tab_ok mixed look38 rfl rfl (by kernel_rfl) fun hb => ?_
  simp only [den, denOps]
  refine doneVC_mk [] ⟨by kernel_rfl, by kernel_rfl, by kernel_rfl⟩ rfl (by kernel_rfl) trivial
def fewR (c : Call) : PlanS := if L c.name = L (⟨#[83, 69, 84]⟩ : ByteArray) then ⟨1, (⟨#[79, 75]⟩ : ByteArray), 0, 1, c.key, emp, c.value, 0, true⟩ else if L c.name = L (⟨#[71, 69, 84]⟩ : ByteArray) then saysP 5 emp 0 else if L c.name = L (⟨#[67, 79, 85, 78, 84]⟩ : ByteArray) then numP 0 else
  if L c.name = L (⟨#[73, 78, 67, 82, 66, 89]⟩ : ByteArray) then (if checkP c.n = 0 then ⟨3, emp, sumP c.n, 2, c.key, emp, emp, c.n, true⟩ else faultP (⟨#[79, 86, 69, 82, 70, 76, 79, 87]⟩ : ByteArray)) else
  if L c.name = L (⟨#[83, 73, 83, 77, 69, 77, 66, 69, 82]⟩ : ByteArray) then numP 0 else if L c.name = L (⟨#[83, 77, 69, 77, 66, 69, 82, 83]⟩ : ByteArray) then saysP 6 emp 0 else if L c.name = L (⟨#[83, 65, 68, 68]⟩ : ByteArray) then ⟨3, emp, 1, 3, c.key, c.field, emp, 0, true⟩ else numP 0
theorem polyphonyref22_few (c : Call) : FnOk Tryz.prog 39 [nilS, .agg (zeroOf 47), .agg (callL c), .agg (opL 0 c.key c.field emp 0)] (conPure 0 (planR (fewR c))) := by
  refine fnOk_of_den tab_ok mixed look39 rfl rfl (by kernel_rfl) fun hb => ?_
  simp only [den, denOps]
  refine unroll_mk 1 ?_
  refine Fork.mk (fun h1 => ?_) (fun h1 => ?_)
  · simp at h1
    refine callVC_mk [] (polyphonyref22_simple _) ⟨rfl, rfl, rfl⟩ rfl trivial ?_
    refine ⟨rfl, ?_⟩
    refine doneVC_mk [] ⟨by kernel_rfl, by kernel_rfl, by kernel_rfl⟩ rfl (eqT (eqC (eqA (eqC (eqI ?_) (eqC (eqS ?_) (eqC (eqI ?_) (by kernel_rfl))))) (eqC (eqA (eqC (eqI ?_) (eqC (eqS ?_) (eqC (eqS ?_) (eqC (eqS ?_) (eqC (eqI ?_) (by kernel_rfl))))))) (eqC (eqB ?_) (by kernel_rfl))))) trivial
    · (unfold fewR; (repeat first | rw [if_pos (by assumption)] | rw [if_neg (by first | assumption | omega)]); first | done | rfl)
    · (unfold fewR; (repeat first | rw [if_pos (by assumption)] | rw [if_neg (by first | assumption | omega)]); first | done | rfl)
    · (unfold fewR; (repeat first | rw [if_pos (by assumption)] | rw [if_neg (by first | assumption | omega)]); first | done | rfl)
    · (unfold fewR; (repeat first | rw [if_pos (by assumption)] | rw [if_neg (by first | assumption | omega)]); first | done | rfl)
    · (unfold fewR; (repeat first | rw [if_pos (by assumption)] | rw [if_neg (by first | assumption | omega)]); first | done | rfl)
    · (unfold fewR; (repeat first | rw [if_pos (by assumption)] | rw [if_neg (by first | assumption | omega)]); first | done | rfl)
    · (unfold fewR; (repeat first | rw [if_pos (by assumption)] | rw [if_neg (by first | assumption | omega)]); first | done | rfl)
    · (unfold fewR; (repeat first | rw [if_pos (by assumption)] | rw [if_neg (by first | assumption | omega)]); first | done | rfl)
    · (unfold fewR; (repeat first | rw [if_pos (by assumption)] | rw [if_neg (by first | assumption | omega)]); first | done | rfl)
  · simp at h1
    refine Fork.mk (fun h2 => ?_) (fun h2 => ?_)
    · simp at h2
      refine callVC_mk [] (ref22_maybe_ff _) ⟨rfl, rfl, rfl⟩ rfl trivial ?_
      refine ⟨rfl, ?_⟩
      refine doneVC_mk [] ⟨by kernel_rfl, by kernel_rfl, by kernel_rfl⟩ rfl (eqT (eqC (eqA (eqC (eqI ?_) (eqC (eqS ?_) (eqC (eqI ?_) (by kernel_rfl))))) (eqC (eqA (eqC (eqI ?_) (eqC (eqS ?_) (eqC (eqS ?_) (eqC (eqS ?_) (eqC (eqI ?_) (by kernel_rfl))))))) (eqC (eqB ?_) (by kernel_rfl))))) trivial
      · (unfold fewR; (repeat first | rw [if_pos (by assumption)] | rw [if_neg (by first | assumption | omega)]); first | done | rfl)
      · (unfold fewR; (repeat first | rw [if_pos (by assumption)] | rw [if_neg (by first | assumption | omega)]); first | done | rfl)
      · (unfold fewR; (repeat first | rw [if_pos (by assumption)] | rw [if_neg (by first | assumption | omega)]); first | done | rfl)
      · (unfold fewR; (repeat first | rw [if_pos (by assumption)] | rw [if_neg (by first | assumption | omega)]); first | done | rfl)
      · (unfold fewR; (repeat first | rw [if_pos (by assumption)] | rw [if_neg (by first | assumption | omega)]); first | done | rfl)
      · (unfold fewR; (repeat first | rw [if_pos (by assumption)] | rw [if_neg (by first | assumption | omega)]); first | done | rfl)
      · (unfold fewR; (repeat first | rw [if_pos (by assumption)] | rw [if_neg (by first | assumption | omega)]); first | done | rfl)
      · (unfold fewR; (repeat first | rw [if_pos (by assumption)] | rw [if_neg (by first | assumption | omega)]); first | done | rfl)
      · (unfold fewR; (repeat first | rw [if_pos (by assumption)] | rw [if_neg (by first | assumption | omega)]); first | done | rfl)
    · simp at h2
      refine Fork.mk (fun h3 => ?_) (fun h3 => ?_)
      · simp at h3
        refine callVC_mk [] (polyphonyref22_num _) ⟨rfl, rfl, rfl⟩ rfl trivial ?_
        refine ⟨rfl, ?_⟩
        refine doneVC_mk [] ⟨by kernel_rfl, by kernel_rfl, by kernel_rfl⟩ rfl (eqT (eqC (eqA (eqC (eqI ?_) (eqC (eqS ?_) (eqC (eqI ?_) (by kernel_rfl))))) (eqC (eqA (eqC (eqI ?_) (eqC (eqS ?_) (eqC (eqS ?_) (eqC (eqS ?_) (eqC (eqI ?_) (by kernel_rfl))))))) (eqC (eqB ?_) (by kernel_rfl))))) trivial
        · (unfold fewR; (repeat first | rw [if_pos (by assumption)] | rw [if_neg (by first | assumption | omega)]); first | done | rfl)
        · (unfold fewR; (repeat first | rw [if_pos (by assumption)] | rw [if_neg (by first | assumption | omega)]); first | done | rfl)
        · (unfold fewR; (repeat first | rw [if_pos (by assumption)] | rw [if_neg (by first | assumption | omega)]); first | done | rfl)
        · (unfold fewR; (repeat first | rw [if_pos (by assumption)] | rw [if_neg (by first | assumption | omega)]); first | done | rfl)
        · (unfold fewR; (repeat first | rw [if_pos (by assumption)] | rw [if_neg (by first | assumption | omega)]); first | done | rfl)
        · (unfold fewR; (repeat first | rw [if_pos (by assumption)] | rw [if_neg (by first | assumption | omega)]); first | done | rfl)
        · (unfold fewR; (repeat first | rw [if_pos (by assumption)] | rw [if_neg (by first | assumption | omega)]); first | done | rfl)
        · (unfold fewR; (repeat first | rw [if_pos (by assumption)] | rw [if_neg (by first | assumption | omega)]); first | done | rfl)
        · (unfold fewR; (repeat first | rw [if_pos (by assumption)] | rw [if_neg (by first | assumption | omega)]); first | done | rfl)
      · simp at h3
        refine Fork.mk (fun h4 => ?_) (fun h4 => ?_)
        · simp at h4
          refine callVC_mk [] (polyphonyref12_Check _) ⟨rfl, rfl, rfl⟩ rfl trivial ?_
          refine Fork.mk (fun h5 => ?_) (fun h5 => ?_)
          · simp at h5
            refine callVC_mk [] (polyphonyref22_fault _) ⟨rfl, rfl, rfl⟩ rfl trivial ?_
            refine ⟨rfl, ?_⟩
            refine doneVC_mk [] ⟨by kernel_rfl, by kernel_rfl, by kernel_rfl⟩ rfl (eqT (eqC (eqA (eqC (eqI ?_) (eqC (eqS ?_) (eqC (eqI ?_) (by kernel_rfl))))) (eqC (eqA (eqC (eqI ?_) (eqC (eqS ?_) (eqC (eqS ?_) (eqC (eqS ?_) (eqC (eqI ?_) (by kernel_rfl))))))) (eqC (eqB ?_) (by kernel_rfl))))) trivial
            · (unfold fewR; (repeat first | rw [if_pos (by assumption)] | rw [if_neg (by first | assumption | omega)]); first | done | rfl)
            · (unfold fewR; (repeat first | rw [if_pos (by assumption)] | rw [if_neg (by first | assumption | omega)]); first | done | rfl)
            · (unfold fewR; (repeat first | rw [if_pos (by assumption)] | rw [if_neg (by first | assumption | omega)]); first | done | rfl)
            · (unfold fewR; (repeat first | rw [if_pos (by assumption)] | rw [if_neg (by first | assumption | omega)]); first | done | rfl)
            · (unfold fewR; (repeat first | rw [if_pos (by assumption)] | rw [if_neg (by first | assumption | omega)]); first | done | rfl)
            · (unfold fewR; (repeat first | rw [if_pos (by assumption)] | rw [if_neg (by first | assumption | omega)]); first | done | rfl)
            · (unfold fewR; (repeat first | rw [if_pos (by assumption)] | rw [if_neg (by first | assumption | omega)]); first | done | rfl)
            · (unfold fewR; (repeat first | rw [if_pos (by assumption)] | rw [if_neg (by first | assumption | omega)]); first | done | rfl)
            · (unfold fewR; (repeat first | rw [if_pos (by assumption)] | rw [if_neg (by first | assumption | omega)]); first | done | rfl)
          · simp at h5
            refine callVC_mk [] (polyphonyref22_num _) ⟨rfl, rfl, rfl⟩ rfl trivial ?_
            refine ⟨rfl, ?_⟩
            refine doneVC_mk [] ⟨by kernel_rfl, by kernel_rfl, by kernel_rfl⟩ rfl (eqT (eqC (eqA (eqC (eqI ?_) (eqC (eqS ?_) (eqC (eqI ?_) (by kernel_rfl))))) (eqC (eqA (eqC (eqI ?_) (eqC (eqS ?_) (eqC (eqS ?_) (eqC (eqS ?_) (eqC (eqI ?_) (by kernel_rfl))))))) (eqC (eqB ?_) (by kernel_rfl))))) trivial
            · (unfold fewR; (repeat first | rw [if_pos (by assumption)] | rw [if_neg (by first | assumption | omega)]); first | done | rfl)
            · (unfold fewR; (repeat first | rw [if_pos (by assumption)] | rw [if_neg (by first | assumption | omega)]); first | done | rfl)
            · (unfold fewR; (repeat first | rw [if_pos (by assumption)] | rw [if_neg (by first | assumption | omega)]); first | done | rfl)
            · (unfold fewR; (repeat first | rw [if_pos (by assumption)] | rw [if_neg (by first | assumption | omega)]); first | done | rfl)
            · (unfold fewR; (repeat first | rw [if_pos (by assumption)] | rw [if_neg (by first | assumption | omega)]); first | done | rfl)
            · (unfold fewR; (repeat first | rw [if_pos (by assumption)] | rw [if_neg (by first | assumption | omega)]); first | done | rfl)
            · (unfold fewR; (repeat first | rw [if_pos (by assumption)] | rw [if_neg (by first | assumption | omega)]); first | done | rfl)
            · (unfold fewR; (repeat first | rw [if_pos (by assumption)] | rw [if_neg (by first | assumption | omega)]); first | done | rfl)
            · (unfold fewR; (repeat first | rw [if_pos (by assumption)] | rw [if_neg (by first | assumption | omega)]); first | done | rfl)
        · simp at h4
          refine Fork.mk (fun h5 => ?_) (fun h5 => ?_)
          · simp at h5
            refine callVC_mk [] ref22_bit_ff ⟨rfl, rfl, rfl⟩ rfl trivial ?_
            refine callVC_mk [] (polyphonyref22_num _) ⟨rfl, rfl, rfl⟩ rfl trivial ?_
            refine ⟨rfl, ?_⟩
            refine doneVC_mk [] ⟨by kernel_rfl, by kernel_rfl, by kernel_rfl⟩ rfl (eqT (eqC (eqA (eqC (eqI ?_) (eqC (eqS ?_) (eqC (eqI ?_) (by kernel_rfl))))) (eqC (eqA (eqC (eqI ?_) (eqC (eqS ?_) (eqC (eqS ?_) (eqC (eqS ?_) (eqC (eqI ?_) (by kernel_rfl))))))) (eqC (eqB ?_) (by kernel_rfl))))) trivial
            · (unfold fewR; (repeat first | rw [if_pos (by assumption)] | rw [if_neg (by first | assumption | omega)]); first | done | rfl)
            · (unfold fewR; (repeat first | rw [if_pos (by assumption)] | rw [if_neg (by first | assumption | omega)]); first | done | rfl)
            · (unfold fewR; (repeat first | rw [if_pos (by assumption)] | rw [if_neg (by first | assumption | omega)]); first | done | rfl)
            · (unfold fewR; (repeat first | rw [if_pos (by assumption)] | rw [if_neg (by first | assumption | omega)]); first | done | rfl)
            · (unfold fewR; (repeat first | rw [if_pos (by assumption)] | rw [if_neg (by first | assumption | omega)]); first | done | rfl)
            · (unfold fewR; (repeat first | rw [if_pos (by assumption)] | rw [if_neg (by first | assumption | omega)]); first | done | rfl)
            · (unfold fewR; (repeat first | rw [if_pos (by assumption)] | rw [if_neg (by first | assumption | omega)]); first | done | rfl)
            · (unfold fewR; (repeat first | rw [if_pos (by assumption)] | rw [if_neg (by first | assumption | omega)]); first | done | rfl)
            · (unfold fewR; (repeat first | rw [if_pos (by assumption)] | rw [if_neg (by first | assumption | omega)]); first | done | rfl)
          · simp at h5
            refine Fork.mk (fun h6 => ?_) (fun h6 => ?_)
            · simp at h6
              refine callVC_mk [] ref22_list_nil ⟨rfl, rfl, rfl⟩ rfl trivial ?_
              refine ⟨rfl, ?_⟩
              refine doneVC_mk [] ⟨by kernel_rfl, by kernel_rfl, by kernel_rfl⟩ rfl (eqT (eqC (eqA (eqC (eqI ?_) (eqC (eqS ?_) (eqC (eqI ?_) (by kernel_rfl))))) (eqC (eqA (eqC (eqI ?_) (eqC (eqS ?_) (eqC (eqS ?_) (eqC (eqS ?_) (eqC (eqI ?_) (by kernel_rfl))))))) (eqC (eqB ?_) (by kernel_rfl))))) trivial
              · (unfold fewR; (repeat first | rw [if_pos (by assumption)] | rw [if_neg (by first | assumption | omega)]); first | done | rfl)
              · (unfold fewR; (repeat first | rw [if_pos (by assumption)] | rw [if_neg (by first | assumption | omega)]); first | done | rfl)
              · (unfold fewR; (repeat first | rw [if_pos (by assumption)] | rw [if_neg (by first | assumption | omega)]); first | done | rfl)
              · (unfold fewR; (repeat first | rw [if_pos (by assumption)] | rw [if_neg (by first | assumption | omega)]); first | done | rfl)
              · (unfold fewR; (repeat first | rw [if_pos (by assumption)] | rw [if_neg (by first | assumption | omega)]); first | done | rfl)
              · (unfold fewR; (repeat first | rw [if_pos (by assumption)] | rw [if_neg (by first | assumption | omega)]); first | done | rfl)
              · (unfold fewR; (repeat first | rw [if_pos (by assumption)] | rw [if_neg (by first | assumption | omega)]); first | done | rfl)
              · (unfold fewR; (repeat first | rw [if_pos (by assumption)] | rw [if_neg (by first | assumption | omega)]); first | done | rfl)
              · (unfold fewR; (repeat first | rw [if_pos (by assumption)] | rw [if_neg (by first | assumption | omega)]); first | done | rfl)
            · simp at h6
              refine Fork.mk (fun h7 => ?_) (fun h7 => ?_)
              · simp at h7
                refine callVC_mk [] (polyphonyref22_num _) ⟨rfl, rfl, rfl⟩ rfl trivial ?_
                refine ⟨rfl, ?_⟩
                refine doneVC_mk [] ⟨by kernel_rfl, by kernel_rfl, by kernel_rfl⟩ rfl (eqT (eqC (eqA (eqC (eqI ?_) (eqC (eqS ?_) (eqC (eqI ?_) (by kernel_rfl))))) (eqC (eqA (eqC (eqI ?_) (eqC (eqS ?_) (eqC (eqS ?_) (eqC (eqS ?_) (eqC (eqI ?_) (by kernel_rfl))))))) (eqC (eqB ?_) (by kernel_rfl))))) trivial
                · (unfold fewR; (repeat first | rw [if_pos (by assumption)] | rw [if_neg (by first | assumption | omega)]); first | done | rfl)
                · (unfold fewR; (repeat first | rw [if_pos (by assumption)] | rw [if_neg (by first | assumption | omega)]); first | done | rfl)
                · (unfold fewR; (repeat first | rw [if_pos (by assumption)] | rw [if_neg (by first | assumption | omega)]); first | done | rfl)
                · (unfold fewR; (repeat first | rw [if_pos (by assumption)] | rw [if_neg (by first | assumption | omega)]); first | done | rfl)
                · (unfold fewR; (repeat first | rw [if_pos (by assumption)] | rw [if_neg (by first | assumption | omega)]); first | done | rfl)
                · (unfold fewR; (repeat first | rw [if_pos (by assumption)] | rw [if_neg (by first | assumption | omega)]); first | done | rfl)
                · (unfold fewR; (repeat first | rw [if_pos (by assumption)] | rw [if_neg (by first | assumption | omega)]); first | done | rfl)
                · (unfold fewR; (repeat first | rw [if_pos (by assumption)] | rw [if_neg (by first | assumption | omega)]); first | done | rfl)
                · (unfold fewR; (repeat first | rw [if_pos (by assumption)] | rw [if_neg (by first | assumption | omega)]); first | done | rfl)
              · simp at h7
                refine Fork.mk (fun h8 => ?_) (fun h8 => ?_)
                · simp at h8
                  refine callVC_mk [] (polyphonyref22_num _) ⟨rfl, rfl, rfl⟩ rfl trivial ?_
                  refine ⟨rfl, ?_⟩
                  refine doneVC_mk [] ⟨by kernel_rfl, by kernel_rfl, by kernel_rfl⟩ rfl (eqT (eqC (eqA (eqC (eqI ?_) (eqC (eqS ?_) (eqC (eqI ?_) (by kernel_rfl))))) (eqC (eqA (eqC (eqI ?_) (eqC (eqS ?_) (eqC (eqS ?_) (eqC (eqS ?_) (eqC (eqI ?_) (by kernel_rfl))))))) (eqC (eqB ?_) (by kernel_rfl))))) trivial
                  · (unfold fewR; (repeat first | rw [if_pos (by assumption)] | rw [if_neg (by first | assumption | omega)]); first | done | rfl)
                  · (unfold fewR; (repeat first | rw [if_pos (by assumption)] | rw [if_neg (by first | assumption | omega)]); first | done | rfl)
                  · (unfold fewR; (repeat first | rw [if_pos (by assumption)] | rw [if_neg (by first | assumption | omega)]); first | done | rfl)
                  · (unfold fewR; (repeat first | rw [if_pos (by assumption)] | rw [if_neg (by first | assumption | omega)]); first | done | rfl)
                  · (unfold fewR; (repeat first | rw [if_pos (by assumption)] | rw [if_neg (by first | assumption | omega)]); first | done | rfl)
                  · (unfold fewR; (repeat first | rw [if_pos (by assumption)] | rw [if_neg (by first | assumption | omega)]); first | done | rfl)
                  · (unfold fewR; (repeat first | rw [if_pos (by assumption)] | rw [if_neg (by first | assumption | omega)]); first | done | rfl)
                  · (unfold fewR; (repeat first | rw [if_pos (by assumption)] | rw [if_neg (by first | assumption | omega)]); first | done | rfl)
                  · (unfold fewR; (repeat first | rw [if_pos (by assumption)] | rw [if_neg (by first | assumption | omega)]); first | done | rfl)
                · simp at h8
                  (simp_all; done)
def hashR (c : Call) : PlanS := if L c.name = L (⟨#[72, 71, 69, 84]⟩ : ByteArray) then saysP 5 emp 0 else if L c.name = L (⟨#[72, 71, 69, 84, 65, 76, 76]⟩ : ByteArray) then saysP 6 emp 0 else if L c.name = L (⟨#[72, 83, 69, 84]⟩ : ByteArray) then ⟨3, emp, 1, 5, c.key, c.field, c.value, 0, true⟩ else numP 0
theorem polyphonyref22_hash (c : Call) : FnOk Tryz.prog 40 [.agg (zeroOf 47), .agg (callL c), .agg (opL 0 c.key c.field emp 0)] (conPure 0 (planR (hashR c))) := by
  refine fnOk_of_den tab_ok mixed look40 rfl rfl (by kernel_rfl) fun hb => ?_
  simp only [den, denOps]
  refine unroll_mk 1 ?_
  refine Fork.mk (fun h1 => ?_) (fun h1 => ?_)
  · simp at h1
    refine callVC_mk [] (ref22_maybe_ff _) ⟨rfl, rfl, rfl⟩ rfl trivial ?_
    refine ⟨rfl, ?_⟩
    refine doneVC_mk [] ⟨by kernel_rfl, by kernel_rfl, by kernel_rfl⟩ rfl (eqT (eqC (eqA (eqC (eqI ?_) (eqC (eqS ?_) (eqC (eqI ?_) (by kernel_rfl))))) (eqC (eqA (eqC (eqI ?_) (eqC (eqS ?_) (eqC (eqS ?_) (eqC (eqS ?_) (eqC (eqI ?_) (by kernel_rfl))))))) (eqC (eqB ?_) (by kernel_rfl))))) trivial
    · (unfold hashR; (repeat first | rw [if_pos (by assumption)] | rw [if_neg (by first | assumption | omega)]); first | done | rfl)
    · (unfold hashR; (repeat first | rw [if_pos (by assumption)] | rw [if_neg (by first | assumption | omega)]); first | done | rfl)
    · (unfold hashR; (repeat first | rw [if_pos (by assumption)] | rw [if_neg (by first | assumption | omega)]); first | done | rfl)
    · (unfold hashR; (repeat first | rw [if_pos (by assumption)] | rw [if_neg (by first | assumption | omega)]); first | done | rfl)
    · (unfold hashR; (repeat first | rw [if_pos (by assumption)] | rw [if_neg (by first | assumption | omega)]); first | done | rfl)
    · (unfold hashR; (repeat first | rw [if_pos (by assumption)] | rw [if_neg (by first | assumption | omega)]); first | done | rfl)
    · (unfold hashR; (repeat first | rw [if_pos (by assumption)] | rw [if_neg (by first | assumption | omega)]); first | done | rfl)
    · (unfold hashR; (repeat first | rw [if_pos (by assumption)] | rw [if_neg (by first | assumption | omega)]); first | done | rfl)
    · (unfold hashR; (repeat first | rw [if_pos (by assumption)] | rw [if_neg (by first | assumption | omega)]); first | done | rfl)
  · simp at h1
    refine Fork.mk (fun h2 => ?_) (fun h2 => ?_)
    · simp at h2
      refine callVC_mk [] ref22_list_nil ⟨rfl, rfl, rfl⟩ rfl trivial ?_
      refine ⟨rfl, ?_⟩
      refine doneVC_mk [] ⟨by kernel_rfl, by kernel_rfl, by kernel_rfl⟩ rfl (eqT (eqC (eqA (eqC (eqI ?_) (eqC (eqS ?_) (eqC (eqI ?_) (by kernel_rfl))))) (eqC (eqA (eqC (eqI ?_) (eqC (eqS ?_) (eqC (eqS ?_) (eqC (eqS ?_) (eqC (eqI ?_) (by kernel_rfl))))))) (eqC (eqB ?_) (by kernel_rfl))))) trivial
      · (unfold hashR; (repeat first | rw [if_pos (by assumption)] | rw [if_neg (by first | assumption | omega)]); first | done | rfl)
      · (unfold hashR; (repeat first | rw [if_pos (by assumption)] | rw [if_neg (by first | assumption | omega)]); first | done | rfl)
      · (unfold hashR; (repeat first | rw [if_pos (by assumption)] | rw [if_neg (by first | assumption | omega)]); first | done | rfl)
      · (unfold hashR; (repeat first | rw [if_pos (by assumption)] | rw [if_neg (by first | assumption | omega)]); first | done | rfl)
      · (unfold hashR; (repeat first | rw [if_pos (by assumption)] | rw [if_neg (by first | assumption | omega)]); first | done | rfl)
      · (unfold hashR; (repeat first | rw [if_pos (by assumption)] | rw [if_neg (by first | assumption | omega)]); first | done | rfl)
      · (unfold hashR; (repeat first | rw [if_pos (by assumption)] | rw [if_neg (by first | assumption | omega)]); first | done | rfl)
      · (unfold hashR; (repeat first | rw [if_pos (by assumption)] | rw [if_neg (by first | assumption | omega)]); first | done | rfl)
      · (unfold hashR; (repeat first | rw [if_pos (by assumption)] | rw [if_neg (by first | assumption | omega)]); first | done | rfl)
    · simp at h2
      refine Fork.mk (fun h3 => ?_) (fun h3 => ?_)
      · simp at h3
        refine callVC_mk [] ref22_bit_tt ⟨rfl, rfl, rfl⟩ rfl trivial ?_
        refine callVC_mk [] (polyphonyref22_num _) ⟨rfl, rfl, rfl⟩ rfl trivial ?_
        refine ⟨rfl, ?_⟩
        refine doneVC_mk [] ⟨by kernel_rfl, by kernel_rfl, by kernel_rfl⟩ rfl (eqT (eqC (eqA (eqC (eqI ?_) (eqC (eqS ?_) (eqC (eqI ?_) (by kernel_rfl))))) (eqC (eqA (eqC (eqI ?_) (eqC (eqS ?_) (eqC (eqS ?_) (eqC (eqS ?_) (eqC (eqI ?_) (by kernel_rfl))))))) (eqC (eqB ?_) (by kernel_rfl))))) trivial
        · (unfold hashR; (repeat first | rw [if_pos (by assumption)] | rw [if_neg (by first | assumption | omega)]); first | done | rfl)
        · (unfold hashR; (repeat first | rw [if_pos (by assumption)] | rw [if_neg (by first | assumption | omega)]); first | done | rfl)
        · (unfold hashR; (repeat first | rw [if_pos (by assumption)] | rw [if_neg (by first | assumption | omega)]); first | done | rfl)
        · (unfold hashR; (repeat first | rw [if_pos (by assumption)] | rw [if_neg (by first | assumption | omega)]); first | done | rfl)
        · (unfold hashR; (repeat first | rw [if_pos (by assumption)] | rw [if_neg (by first | assumption | omega)]); first | done | rfl)
        · (unfold hashR; (repeat first | rw [if_pos (by assumption)] | rw [if_neg (by first | assumption | omega)]); first | done | rfl)
        · (unfold hashR; (repeat first | rw [if_pos (by assumption)] | rw [if_neg (by first | assumption | omega)]); first | done | rfl)
        · (unfold hashR; (repeat first | rw [if_pos (by assumption)] | rw [if_neg (by first | assumption | omega)]); first | done | rfl)
        · (unfold hashR; (repeat first | rw [if_pos (by assumption)] | rw [if_neg (by first | assumption | omega)]); first | done | rfl)
      · simp at h3
        refine callVC_mk [] (polyphonyref22_num _) ⟨rfl, rfl, rfl⟩ rfl trivial ?_
        refine ⟨rfl, ?_⟩
        refine doneVC_mk [] ⟨by kernel_rfl, by kernel_rfl, by kernel_rfl⟩ rfl (eqT (eqC (eqA (eqC (eqI ?_) (eqC (eqS ?_) (eqC (eqI ?_) (by kernel_rfl))))) (eqC (eqA (eqC (eqI ?_) (eqC (eqS ?_) (eqC (eqS ?_) (eqC (eqS ?_) (eqC (eqI ?_) (by kernel_rfl))))))) (eqC (eqB ?_) (by kernel_rfl))))) trivial
        · (unfold hashR; (repeat first | rw [if_pos (by assumption)] | rw [if_neg (by first | assumption | omega)]); first | done | rfl)
        · (unfold hashR; (repeat first | rw [if_pos (by assumption)] | rw [if_neg (by first | assumption | omega)]); first | done | rfl)
        · (unfold hashR; (repeat first | rw [if_pos (by assumption)] | rw [if_neg (by first | assumption | omega)]); first | done | rfl)
        · (unfold hashR; (repeat first | rw [if_pos (by assumption)] | rw [if_neg (by first | assumption | omega)]); first | done | rfl)
        · (unfold hashR; (repeat first | rw [if_pos (by assumption)] | rw [if_neg (by first | assumption | omega)]); first | done | rfl)
        · (unfold hashR; (repeat first | rw [if_pos (by assumption)] | rw [if_neg (by first | assumption | omega)]); first | done | rfl)
        · (unfold hashR; (repeat first | rw [if_pos (by assumption)] | rw [if_neg (by first | assumption | omega)]); first | done | rfl)
        · (unfold hashR; (repeat first | rw [if_pos (by assumption)] | rw [if_neg (by first | assumption | omega)]); first | done | rfl)
        · (unfold hashR; (repeat first | rw [if_pos (by assumption)] | rw [if_neg (by first | assumption | omega)]); first | done | rfl)
def scoresR (c : Call) : PlanS := if L c.name = L (⟨#[90, 65, 68, 68]⟩ : ByteArray) then (if c.n < -1099511627776 then faultP (⟨#[79, 86, 69, 82, 70, 76, 79, 87]⟩ : ByteArray) else if c.n > 1099511627776 then faultP (⟨#[79, 86, 69, 82, 70, 76, 79, 87]⟩ : ByteArray) else ⟨3, emp, 1, 7, c.key, c.field, emp, c.n, true⟩)
  else if L c.name = L (⟨#[90, 82, 65, 78, 71, 69]⟩ : ByteArray) then saysP 6 emp 0 else if L c.name = L (⟨#[90, 83, 67, 79, 82, 69]⟩ : ByteArray) then saysP 5 emp 0 else if L c.name = L (⟨#[90, 82, 65, 78, 75]⟩ : ByteArray) then saysP 5 emp 0 else numP 0
theorem polyphonyref22_scores (c : Call) : FnOk Tryz.prog 41 [.agg (zeroOf 47), .agg (callL c), .agg (opL 0 c.key c.field emp 0)] (conPure 0 (planR (scoresR c))) := by
  refine fnOk_of_den tab_ok mixed look41 rfl rfl (by kernel_rfl) fun hb => ?_
  simp only [den, denOps]
  refine unroll_mk 1 ?_
  refine Fork.mk (fun h1 => ?_) (fun h1 => ?_)
  · simp at h1
    refine Fork.mk (fun h2 => ?_) (fun h2 => ?_)
    · simp at h2
      refine callVC_mk [] (polyphonyref22_fault _) ⟨rfl, rfl, rfl⟩ rfl trivial ?_
      refine ⟨rfl, ?_⟩
      refine doneVC_mk [] ⟨by kernel_rfl, by kernel_rfl, by kernel_rfl⟩ rfl (eqT (eqC (eqA (eqC (eqI ?_) (eqC (eqS ?_) (eqC (eqI ?_) (by kernel_rfl))))) (eqC (eqA (eqC (eqI ?_) (eqC (eqS ?_) (eqC (eqS ?_) (eqC (eqS ?_) (eqC (eqI ?_) (by kernel_rfl))))))) (eqC (eqB ?_) (by kernel_rfl))))) trivial
      · (unfold scoresR; (repeat first | rw [if_pos (by first | assumption | omega)] | rw [if_neg (by first | assumption | omega)]); first | done | rfl)
      · (unfold scoresR; (repeat first | rw [if_pos (by first | assumption | omega)] | rw [if_neg (by first | assumption | omega)]); first | done | rfl)
      · (unfold scoresR; (repeat first | rw [if_pos (by first | assumption | omega)] | rw [if_neg (by first | assumption | omega)]); first | done | rfl)
      · (unfold scoresR; (repeat first | rw [if_pos (by first | assumption | omega)] | rw [if_neg (by first | assumption | omega)]); first | done | rfl)
      · (unfold scoresR; (repeat first | rw [if_pos (by first | assumption | omega)] | rw [if_neg (by first | assumption | omega)]); first | done | rfl)
      · (unfold scoresR; (repeat first | rw [if_pos (by first | assumption | omega)] | rw [if_neg (by first | assumption | omega)]); first | done | rfl)
      · (unfold scoresR; (repeat first | rw [if_pos (by first | assumption | omega)] | rw [if_neg (by first | assumption | omega)]); first | done | rfl)
      · (unfold scoresR; (repeat first | rw [if_pos (by first | assumption | omega)] | rw [if_neg (by first | assumption | omega)]); first | done | rfl)
      · (unfold scoresR; (repeat first | rw [if_pos (by first | assumption | omega)] | rw [if_neg (by first | assumption | omega)]); first | done | rfl)
    · simp at h2
      refine Fork.mk (fun h3 => ?_) (fun h3 => ?_)
      · simp at h3
        refine callVC_mk [] (polyphonyref22_fault _) ⟨rfl, rfl, rfl⟩ rfl trivial ?_
        refine ⟨rfl, ?_⟩
        refine doneVC_mk [] ⟨by kernel_rfl, by kernel_rfl, by kernel_rfl⟩ rfl (eqT (eqC (eqA (eqC (eqI ?_) (eqC (eqS ?_) (eqC (eqI ?_) (by kernel_rfl))))) (eqC (eqA (eqC (eqI ?_) (eqC (eqS ?_) (eqC (eqS ?_) (eqC (eqS ?_) (eqC (eqI ?_) (by kernel_rfl))))))) (eqC (eqB ?_) (by kernel_rfl))))) trivial
        · (unfold scoresR; (repeat first | rw [if_pos (by first | assumption | omega)] | rw [if_neg (by first | assumption | omega)]); first | done | rfl)
        · (unfold scoresR; (repeat first | rw [if_pos (by first | assumption | omega)] | rw [if_neg (by first | assumption | omega)]); first | done | rfl)
        · (unfold scoresR; (repeat first | rw [if_pos (by first | assumption | omega)] | rw [if_neg (by first | assumption | omega)]); first | done | rfl)
        · (unfold scoresR; (repeat first | rw [if_pos (by first | assumption | omega)] | rw [if_neg (by first | assumption | omega)]); first | done | rfl)
        · (unfold scoresR; (repeat first | rw [if_pos (by first | assumption | omega)] | rw [if_neg (by first | assumption | omega)]); first | done | rfl)
        · (unfold scoresR; (repeat first | rw [if_pos (by first | assumption | omega)] | rw [if_neg (by first | assumption | omega)]); first | done | rfl)
        · (unfold scoresR; (repeat first | rw [if_pos (by first | assumption | omega)] | rw [if_neg (by first | assumption | omega)]); first | done | rfl)
        · (unfold scoresR; (repeat first | rw [if_pos (by first | assumption | omega)] | rw [if_neg (by first | assumption | omega)]); first | done | rfl)
        · (unfold scoresR; (repeat first | rw [if_pos (by first | assumption | omega)] | rw [if_neg (by first | assumption | omega)]); first | done | rfl)
      · simp at h3
        refine callVC_mk [] ref22_bit_tt ⟨rfl, rfl, rfl⟩ rfl trivial ?_
        refine callVC_mk [] (polyphonyref22_num _) ⟨rfl, rfl, rfl⟩ rfl trivial ?_
        refine ⟨rfl, ?_⟩
        refine doneVC_mk [] ⟨by kernel_rfl, by kernel_rfl, by kernel_rfl⟩ rfl (eqT (eqC (eqA (eqC (eqI ?_) (eqC (eqS ?_) (eqC (eqI ?_) (by kernel_rfl))))) (eqC (eqA (eqC (eqI ?_) (eqC (eqS ?_) (eqC (eqS ?_) (eqC (eqS ?_) (eqC (eqI ?_) (by kernel_rfl))))))) (eqC (eqB ?_) (by kernel_rfl))))) trivial
        · (unfold scoresR; (repeat first | rw [if_pos (by first | assumption | omega)] | rw [if_neg (by first | assumption | omega)]); first | done | rfl)
        · (unfold scoresR; (repeat first | rw [if_pos (by first | assumption | omega)] | rw [if_neg (by first | assumption | omega)]); first | done | rfl)
        · (unfold scoresR; (repeat first | rw [if_pos (by first | assumption | omega)] | rw [if_neg (by first | assumption | omega)]); first | done | rfl)
        · (unfold scoresR; (repeat first | rw [if_pos (by first | assumption | omega)] | rw [if_neg (by first | assumption | omega)]); first | done | rfl)
        · (unfold scoresR; (repeat first | rw [if_pos (by first | assumption | omega)] | rw [if_neg (by first | assumption | omega)]); first | done | rfl)
        · (unfold scoresR; (repeat first | rw [if_pos (by first | assumption | omega)] | rw [if_neg (by first | assumption | omega)]); first | done | rfl)
        · (unfold scoresR; (repeat first | rw [if_pos (by first | assumption | omega)] | rw [if_neg (by first | assumption | omega)]); first | done | rfl)
        · (unfold scoresR; (repeat first | rw [if_pos (by first | assumption | omega)] | rw [if_neg (by first | assumption | omega)]); first | done | rfl)
        · (unfold scoresR; (repeat first | rw [if_pos (by first | assumption | omega)] | rw [if_neg (by first | assumption | omega)]); first | done | rfl)
  · simp at h1
    refine Fork.mk (fun h2 => ?_) (fun h2 => ?_)
    · simp at h2
      refine callVC_mk [] (polyphonyref15_Span _ _) ⟨rfl, rfl, rfl⟩ rfl trivial ?_
      refine law_mk (good_nilSlice rfl rfl (by kernel_rfl : Tryz.prog.underlying 22 = some (.slice 9)) (sz := 1) (fun w => rfl) rfl rfl rfl rfl ⟨rfl, rfl⟩) ?_
      refine callVC_mk [] ref22_list_nil ⟨rfl, rfl, rfl⟩ rfl trivial ?_
      refine ⟨rfl, ?_⟩
      refine doneVC_mk [] ⟨by kernel_rfl, by kernel_rfl, by kernel_rfl⟩ rfl (eqT (eqC (eqA (eqC (eqI ?_) (eqC (eqS ?_) (eqC (eqI ?_) (by kernel_rfl))))) (eqC (eqA (eqC (eqI ?_) (eqC (eqS ?_) (eqC (eqS ?_) (eqC (eqS ?_) (eqC (eqI ?_) (by kernel_rfl))))))) (eqC (eqB ?_) (by kernel_rfl))))) trivial
      · (unfold scoresR; (repeat first | rw [if_pos (by first | assumption | omega)] | rw [if_neg (by first | assumption | omega)]); first | done | rfl)
      · (unfold scoresR; (repeat first | rw [if_pos (by first | assumption | omega)] | rw [if_neg (by first | assumption | omega)]); first | done | rfl)
      · (unfold scoresR; (repeat first | rw [if_pos (by first | assumption | omega)] | rw [if_neg (by first | assumption | omega)]); first | done | rfl)
      · (unfold scoresR; (repeat first | rw [if_pos (by first | assumption | omega)] | rw [if_neg (by first | assumption | omega)]); first | done | rfl)
      · (unfold scoresR; (repeat first | rw [if_pos (by first | assumption | omega)] | rw [if_neg (by first | assumption | omega)]); first | done | rfl)
      · (unfold scoresR; (repeat first | rw [if_pos (by first | assumption | omega)] | rw [if_neg (by first | assumption | omega)]); first | done | rfl)
      · (unfold scoresR; (repeat first | rw [if_pos (by first | assumption | omega)] | rw [if_neg (by first | assumption | omega)]); first | done | rfl)
      · (unfold scoresR; (repeat first | rw [if_pos (by first | assumption | omega)] | rw [if_neg (by first | assumption | omega)]); first | done | rfl)
      · (unfold scoresR; (repeat first | rw [if_pos (by first | assumption | omega)] | rw [if_neg (by first | assumption | omega)]); first | done | rfl)
    · simp at h2
      refine Fork.mk (fun h3 => ?_) (fun h3 => ?_)
      · simp at h3
        refine callVC_mk [] (ref22_maybe_ff _) ⟨rfl, rfl, rfl⟩ rfl trivial ?_
        refine ⟨rfl, ?_⟩
        refine doneVC_mk [] ⟨by kernel_rfl, by kernel_rfl, by kernel_rfl⟩ rfl (eqT (eqC (eqA (eqC (eqI ?_) (eqC (eqS ?_) (eqC (eqI ?_) (by kernel_rfl))))) (eqC (eqA (eqC (eqI ?_) (eqC (eqS ?_) (eqC (eqS ?_) (eqC (eqS ?_) (eqC (eqI ?_) (by kernel_rfl))))))) (eqC (eqB ?_) (by kernel_rfl))))) trivial
        · (unfold scoresR; (repeat first | rw [if_pos (by first | assumption | omega)] | rw [if_neg (by first | assumption | omega)]); first | done | rfl)
        · (unfold scoresR; (repeat first | rw [if_pos (by first | assumption | omega)] | rw [if_neg (by first | assumption | omega)]); first | done | rfl)
        · (unfold scoresR; (repeat first | rw [if_pos (by first | assumption | omega)] | rw [if_neg (by first | assumption | omega)]); first | done | rfl)
        · (unfold scoresR; (repeat first | rw [if_pos (by first | assumption | omega)] | rw [if_neg (by first | assumption | omega)]); first | done | rfl)
        · (unfold scoresR; (repeat first | rw [if_pos (by first | assumption | omega)] | rw [if_neg (by first | assumption | omega)]); first | done | rfl)
        · (unfold scoresR; (repeat first | rw [if_pos (by first | assumption | omega)] | rw [if_neg (by first | assumption | omega)]); first | done | rfl)
        · (unfold scoresR; (repeat first | rw [if_pos (by first | assumption | omega)] | rw [if_neg (by first | assumption | omega)]); first | done | rfl)
        · (unfold scoresR; (repeat first | rw [if_pos (by first | assumption | omega)] | rw [if_neg (by first | assumption | omega)]); first | done | rfl)
        · (unfold scoresR; (repeat first | rw [if_pos (by first | assumption | omega)] | rw [if_neg (by first | assumption | omega)]); first | done | rfl)
      · simp at h3
        refine Fork.mk (fun h4 => ?_) (fun h4 => ?_)
        · simp at h4
          refine callVC_mk [] (ref22_maybe_ff _) ⟨rfl, rfl, rfl⟩ rfl trivial ?_
          refine ⟨rfl, ?_⟩
          refine doneVC_mk [] ⟨by kernel_rfl, by kernel_rfl, by kernel_rfl⟩ rfl (eqT (eqC (eqA (eqC (eqI ?_) (eqC (eqS ?_) (eqC (eqI ?_) (by kernel_rfl))))) (eqC (eqA (eqC (eqI ?_) (eqC (eqS ?_) (eqC (eqS ?_) (eqC (eqS ?_) (eqC (eqI ?_) (by kernel_rfl))))))) (eqC (eqB ?_) (by kernel_rfl))))) trivial
          · (unfold scoresR; (repeat first | rw [if_pos (by first | assumption | omega)] | rw [if_neg (by first | assumption | omega)]); first | done | rfl)
          · (unfold scoresR; (repeat first | rw [if_pos (by first | assumption | omega)] | rw [if_neg (by first | assumption | omega)]); first | done | rfl)
          · (unfold scoresR; (repeat first | rw [if_pos (by first | assumption | omega)] | rw [if_neg (by first | assumption | omega)]); first | done | rfl)
          · (unfold scoresR; (repeat first | rw [if_pos (by first | assumption | omega)] | rw [if_neg (by first | assumption | omega)]); first | done | rfl)
          · (unfold scoresR; (repeat first | rw [if_pos (by first | assumption | omega)] | rw [if_neg (by first | assumption | omega)]); first | done | rfl)
          · (unfold scoresR; (repeat first | rw [if_pos (by first | assumption | omega)] | rw [if_neg (by first | assumption | omega)]); first | done | rfl)
          · (unfold scoresR; (repeat first | rw [if_pos (by first | assumption | omega)] | rw [if_neg (by first | assumption | omega)]); first | done | rfl)
          · (unfold scoresR; (repeat first | rw [if_pos (by first | assumption | omega)] | rw [if_neg (by first | assumption | omega)]); first | done | rfl)
          · (unfold scoresR; (repeat first | rw [if_pos (by first | assumption | omega)] | rw [if_neg (by first | assumption | omega)]); first | done | rfl)
        · simp at h4
          refine callVC_mk [] (polyphonyref22_num _) ⟨rfl, rfl, rfl⟩ rfl trivial ?_
          refine ⟨rfl, ?_⟩
          refine doneVC_mk [] ⟨by kernel_rfl, by kernel_rfl, by kernel_rfl⟩ rfl (eqT (eqC (eqA (eqC (eqI ?_) (eqC (eqS ?_) (eqC (eqI ?_) (by kernel_rfl))))) (eqC (eqA (eqC (eqI ?_) (eqC (eqS ?_) (eqC (eqS ?_) (eqC (eqS ?_) (eqC (eqI ?_) (by kernel_rfl))))))) (eqC (eqB ?_) (by kernel_rfl))))) trivial
          · (unfold scoresR; (repeat first | rw [if_pos (by first | assumption | omega)] | rw [if_neg (by first | assumption | omega)]); first | done | rfl)
          · (unfold scoresR; (repeat first | rw [if_pos (by first | assumption | omega)] | rw [if_neg (by first | assumption | omega)]); first | done | rfl)
          · (unfold scoresR; (repeat first | rw [if_pos (by first | assumption | omega)] | rw [if_neg (by first | assumption | omega)]); first | done | rfl)
          · (unfold scoresR; (repeat first | rw [if_pos (by first | assumption | omega)] | rw [if_neg (by first | assumption | omega)]); first | done | rfl)
          · (unfold scoresR; (repeat first | rw [if_pos (by first | assumption | omega)] | rw [if_neg (by first | assumption | omega)]); first | done | rfl)
          · (unfold scoresR; (repeat first | rw [if_pos (by first | assumption | omega)] | rw [if_neg (by first | assumption | omega)]); first | done | rfl)
          · (unfold scoresR; (repeat first | rw [if_pos (by first | assumption | omega)] | rw [if_neg (by first | assumption | omega)]); first | done | rfl)
          · (unfold scoresR; (repeat first | rw [if_pos (by first | assumption | omega)] | rw [if_neg (by first | assumption | omega)]); first | done | rfl)
          · (unfold scoresR; (repeat first | rw [if_pos (by first | assumption | omega)] | rw [if_neg (by first | assumption | omega)]); first | done | rfl)
def pushR (c : Call) : PlanS := ⟨3, emp, 1, 9, c.key, c.field, c.value, 0, true⟩
def itemsR (c : Call) : PlanS := if L c.name = L (⟨#[76, 82, 65, 78, 71, 69]⟩ : ByteArray) then saysP 6 emp 0 else if L c.name = L (⟨#[76, 82, 69, 77]⟩ : ByteArray) then numP 0 else if L c.name = L (⟨#[76, 80, 85, 83, 72]⟩ : ByteArray) then pushR c else if L c.name = L (⟨#[82, 80, 85, 83, 72]⟩ : ByteArray) then pushR c else
  if c.n = 0 then pushR c else faultP (⟨#[82, 65, 78, 71, 69]⟩ : ByteArray)
theorem polyphonyref22_items (c : Call) : FnOk Tryz.prog 42 [.agg (zeroOf 47), .agg (callL c), .agg (opL 0 c.key c.field emp 0)] (conPure 0 (planR (itemsR c))) := by
  refine fnOk_of_den tab_ok mixed look42 rfl rfl (by kernel_rfl) fun hb => ?_
  simp only [den, denOps]
  refine unroll_mk 1 ?_
  refine Fork.mk (fun h1 => ?_) (fun h1 => ?_)
  · simp at h1
    refine callVC_mk [] (polyphonyref15_Span _ _) ⟨rfl, rfl, rfl⟩ rfl trivial ?_
    refine law_mk (good_nilSlice rfl rfl (by kernel_rfl : Tryz.prog.underlying 22 = some (.slice 9)) (sz := 1) (fun w => rfl) rfl rfl rfl rfl ⟨rfl, rfl⟩) ?_
    refine callVC_mk [] ref22_list_nil ⟨rfl, rfl, rfl⟩ rfl trivial ?_
    refine ⟨rfl, ?_⟩
    refine doneVC_mk [] ⟨by kernel_rfl, by kernel_rfl, by kernel_rfl⟩ rfl (eqT (eqC (eqA (eqC (eqI ?_) (eqC (eqS ?_) (eqC (eqI ?_) (by kernel_rfl))))) (eqC (eqA (eqC (eqI ?_) (eqC (eqS ?_) (eqC (eqS ?_) (eqC (eqS ?_) (eqC (eqI ?_) (by kernel_rfl))))))) (eqC (eqB ?_) (by kernel_rfl))))) trivial
    · (unfold itemsR; (repeat first | rw [if_pos (by first | assumption | omega)] | rw [if_neg (by first | assumption | omega)]); first | done | rfl)
    · (unfold itemsR; (repeat first | rw [if_pos (by first | assumption | omega)] | rw [if_neg (by first | assumption | omega)]); first | done | rfl)
    · (unfold itemsR; (repeat first | rw [if_pos (by first | assumption | omega)] | rw [if_neg (by first | assumption | omega)]); first | done | rfl)
    · (unfold itemsR; (repeat first | rw [if_pos (by first | assumption | omega)] | rw [if_neg (by first | assumption | omega)]); first | done | rfl)
    · (unfold itemsR; (repeat first | rw [if_pos (by first | assumption | omega)] | rw [if_neg (by first | assumption | omega)]); first | done | rfl)
    · (unfold itemsR; (repeat first | rw [if_pos (by first | assumption | omega)] | rw [if_neg (by first | assumption | omega)]); first | done | rfl)
    · (unfold itemsR; (repeat first | rw [if_pos (by first | assumption | omega)] | rw [if_neg (by first | assumption | omega)]); first | done | rfl)
    · (unfold itemsR; (repeat first | rw [if_pos (by first | assumption | omega)] | rw [if_neg (by first | assumption | omega)]); first | done | rfl)
    · (unfold itemsR; (repeat first | rw [if_pos (by first | assumption | omega)] | rw [if_neg (by first | assumption | omega)]); first | done | rfl)
  · simp at h1
    refine Fork.mk (fun h2 => ?_) (fun h2 => ?_)
    · simp at h2
      refine Fork.mk (fun h3 => ?_) (fun h3 => ?_)
      · simp at h3
        refine callVC_mk [] (polyphonyref22_num _) ⟨rfl, rfl, rfl⟩ rfl trivial ?_
        refine ⟨rfl, ?_⟩
        refine doneVC_mk [] ⟨by kernel_rfl, by kernel_rfl, by kernel_rfl⟩ rfl (eqT (eqC (eqA (eqC (eqI ?_) (eqC (eqS ?_) (eqC (eqI ?_) (by kernel_rfl))))) (eqC (eqA (eqC (eqI ?_) (eqC (eqS ?_) (eqC (eqS ?_) (eqC (eqS ?_) (eqC (eqI ?_) (by kernel_rfl))))))) (eqC (eqB ?_) (by kernel_rfl))))) trivial
        · (unfold itemsR; (repeat first | rw [if_pos (by first | assumption | omega)] | rw [if_neg (by first | assumption | omega)]); first | done | rfl)
        · (unfold itemsR; (repeat first | rw [if_pos (by first | assumption | omega)] | rw [if_neg (by first | assumption | omega)]); first | done | rfl)
        · (unfold itemsR; (repeat first | rw [if_pos (by first | assumption | omega)] | rw [if_neg (by first | assumption | omega)]); first | done | rfl)
        · (unfold itemsR; (repeat first | rw [if_pos (by first | assumption | omega)] | rw [if_neg (by first | assumption | omega)]); first | done | rfl)
        · (unfold itemsR; (repeat first | rw [if_pos (by first | assumption | omega)] | rw [if_neg (by first | assumption | omega)]); first | done | rfl)
        · (unfold itemsR; (repeat first | rw [if_pos (by first | assumption | omega)] | rw [if_neg (by first | assumption | omega)]); first | done | rfl)
        · (unfold itemsR; (repeat first | rw [if_pos (by first | assumption | omega)] | rw [if_neg (by first | assumption | omega)]); first | done | rfl)
        · (unfold itemsR; (repeat first | rw [if_pos (by first | assumption | omega)] | rw [if_neg (by first | assumption | omega)]); first | done | rfl)
        · (unfold itemsR; (repeat first | rw [if_pos (by first | assumption | omega)] | rw [if_neg (by first | assumption | omega)]); first | done | rfl)
      · simp at h3
        refine Fork.mk (fun h4 => ?_) (fun h4 => ?_)
        · simp at h4
          refine callVC_mk [] (polyphonyref22_num _) ⟨rfl, rfl, rfl⟩ rfl trivial ?_
          refine ⟨rfl, ?_⟩
          refine doneVC_mk [] ⟨by kernel_rfl, by kernel_rfl, by kernel_rfl⟩ rfl (eqT (eqC (eqA (eqC (eqI ?_) (eqC (eqS ?_) (eqC (eqI ?_) (by kernel_rfl))))) (eqC (eqA (eqC (eqI ?_) (eqC (eqS ?_) (eqC (eqS ?_) (eqC (eqS ?_) (eqC (eqI ?_) (by kernel_rfl))))))) (eqC (eqB ?_) (by kernel_rfl))))) trivial
          · (unfold itemsR; (repeat first | rw [if_pos (by first | assumption | omega)] | rw [if_neg (by first | assumption | omega)]); first | done | rfl)
          · (unfold itemsR; (repeat first | rw [if_pos (by first | assumption | omega)] | rw [if_neg (by first | assumption | omega)]); first | done | rfl)
          · (unfold itemsR; (repeat first | rw [if_pos (by first | assumption | omega)] | rw [if_neg (by first | assumption | omega)]); first | done | rfl)
          · (unfold itemsR; (repeat first | rw [if_pos (by first | assumption | omega)] | rw [if_neg (by first | assumption | omega)]); first | done | rfl)
          · (unfold itemsR; (repeat first | rw [if_pos (by first | assumption | omega)] | rw [if_neg (by first | assumption | omega)]); first | done | rfl)
          · (unfold itemsR; (repeat first | rw [if_pos (by first | assumption | omega)] | rw [if_neg (by first | assumption | omega)]); first | done | rfl)
          · (unfold itemsR; (repeat first | rw [if_pos (by first | assumption | omega)] | rw [if_neg (by first | assumption | omega)]); first | done | rfl)
          · (unfold itemsR; (repeat first | rw [if_pos (by first | assumption | omega)] | rw [if_neg (by first | assumption | omega)]); first | done | rfl)
          · (unfold itemsR; (repeat first | rw [if_pos (by first | assumption | omega)] | rw [if_neg (by first | assumption | omega)]); first | done | rfl)
        · simp at h4
          (exfalso; omega)
    · simp at h2
      refine Fork.mk (fun h3 => ?_) (fun h3 => ?_)
      · simp at h3
        refine callVC_mk [] (polyphonyref22_num _) ⟨rfl, rfl, rfl⟩ rfl trivial ?_
        refine ⟨rfl, ?_⟩
        refine doneVC_mk [] ⟨by kernel_rfl, by kernel_rfl, by kernel_rfl⟩ rfl (eqT (eqC (eqA (eqC (eqI ?_) (eqC (eqS ?_) (eqC (eqI ?_) (by kernel_rfl))))) (eqC (eqA (eqC (eqI ?_) (eqC (eqS ?_) (eqC (eqS ?_) (eqC (eqS ?_) (eqC (eqI ?_) (by kernel_rfl))))))) (eqC (eqB ?_) (by kernel_rfl))))) trivial
        · (unfold itemsR; (repeat first | rw [if_pos (by first | assumption | omega)] | rw [if_neg (by first | assumption | omega)]); first | done | rfl)
        · (unfold itemsR; (repeat first | rw [if_pos (by first | assumption | omega)] | rw [if_neg (by first | assumption | omega)]); first | done | rfl)
        · (unfold itemsR; (repeat first | rw [if_pos (by first | assumption | omega)] | rw [if_neg (by first | assumption | omega)]); first | done | rfl)
        · (unfold itemsR; (repeat first | rw [if_pos (by first | assumption | omega)] | rw [if_neg (by first | assumption | omega)]); first | done | rfl)
        · (unfold itemsR; (repeat first | rw [if_pos (by first | assumption | omega)] | rw [if_neg (by first | assumption | omega)]); first | done | rfl)
        · (unfold itemsR; (repeat first | rw [if_pos (by first | assumption | omega)] | rw [if_neg (by first | assumption | omega)]); first | done | rfl)
        · (unfold itemsR; (repeat first | rw [if_pos (by first | assumption | omega)] | rw [if_neg (by first | assumption | omega)]); first | done | rfl)
        · (unfold itemsR; (repeat first | rw [if_pos (by first | assumption | omega)] | rw [if_neg (by first | assumption | omega)]); first | done | rfl)
        · (unfold itemsR; (repeat first | rw [if_pos (by first | assumption | omega)] | rw [if_neg (by first | assumption | omega)]); first | done | rfl)
      · simp at h3
        refine Fork.mk (fun h4 => ?_) (fun h4 => ?_)
        · simp at h4
          refine callVC_mk [] (polyphonyref22_num _) ⟨rfl, rfl, rfl⟩ rfl trivial ?_
          refine ⟨rfl, ?_⟩
          refine doneVC_mk [] ⟨by kernel_rfl, by kernel_rfl, by kernel_rfl⟩ rfl (eqT (eqC (eqA (eqC (eqI ?_) (eqC (eqS ?_) (eqC (eqI ?_) (by kernel_rfl))))) (eqC (eqA (eqC (eqI ?_) (eqC (eqS ?_) (eqC (eqS ?_) (eqC (eqS ?_) (eqC (eqI ?_) (by kernel_rfl))))))) (eqC (eqB ?_) (by kernel_rfl))))) trivial
          · (unfold itemsR; (repeat first | rw [if_pos (by first | assumption | omega)] | rw [if_neg (by first | assumption | omega)]); first | done | rfl)
          · (unfold itemsR; (repeat first | rw [if_pos (by first | assumption | omega)] | rw [if_neg (by first | assumption | omega)]); first | done | rfl)
          · (unfold itemsR; (repeat first | rw [if_pos (by first | assumption | omega)] | rw [if_neg (by first | assumption | omega)]); first | done | rfl)
          · (unfold itemsR; (repeat first | rw [if_pos (by first | assumption | omega)] | rw [if_neg (by first | assumption | omega)]); first | done | rfl)
          · (unfold itemsR; (repeat first | rw [if_pos (by first | assumption | omega)] | rw [if_neg (by first | assumption | omega)]); first | done | rfl)
          · (unfold itemsR; (repeat first | rw [if_pos (by first | assumption | omega)] | rw [if_neg (by first | assumption | omega)]); first | done | rfl)
          · (unfold itemsR; (repeat first | rw [if_pos (by first | assumption | omega)] | rw [if_neg (by first | assumption | omega)]); first | done | rfl)
          · (unfold itemsR; (repeat first | rw [if_pos (by first | assumption | omega)] | rw [if_neg (by first | assumption | omega)]); first | done | rfl)
          · (unfold itemsR; (repeat first | rw [if_pos (by first | assumption | omega)] | rw [if_neg (by first | assumption | omega)]); first | done | rfl)
        · simp at h4
          refine Fork.mk (fun h5 => ?_) (fun h5 => ?_)
          · simp at h5
            refine callVC_mk [] (polyphonyref22_fault _) ⟨rfl, rfl, rfl⟩ rfl trivial ?_
            refine ⟨rfl, ?_⟩
            refine doneVC_mk [] ⟨by kernel_rfl, by kernel_rfl, by kernel_rfl⟩ rfl (eqT (eqC (eqA (eqC (eqI ?_) (eqC (eqS ?_) (eqC (eqI ?_) (by kernel_rfl))))) (eqC (eqA (eqC (eqI ?_) (eqC (eqS ?_) (eqC (eqS ?_) (eqC (eqS ?_) (eqC (eqI ?_) (by kernel_rfl))))))) (eqC (eqB ?_) (by kernel_rfl))))) trivial
            · (unfold itemsR; (repeat first | rw [if_pos (by first | assumption | omega)] | rw [if_neg (by first | assumption | omega)]); first | done | rfl)
            · (unfold itemsR; (repeat first | rw [if_pos (by first | assumption | omega)] | rw [if_neg (by first | assumption | omega)]); first | done | rfl)
            · (unfold itemsR; (repeat first | rw [if_pos (by first | assumption | omega)] | rw [if_neg (by first | assumption | omega)]); first | done | rfl)
            · (unfold itemsR; (repeat first | rw [if_pos (by first | assumption | omega)] | rw [if_neg (by first | assumption | omega)]); first | done | rfl)
            · (unfold itemsR; (repeat first | rw [if_pos (by first | assumption | omega)] | rw [if_neg (by first | assumption | omega)]); first | done | rfl)
            · (unfold itemsR; (repeat first | rw [if_pos (by first | assumption | omega)] | rw [if_neg (by first | assumption | omega)]); first | done | rfl)
            · (unfold itemsR; (repeat first | rw [if_pos (by first | assumption | omega)] | rw [if_neg (by first | assumption | omega)]); first | done | rfl)
            · (unfold itemsR; (repeat first | rw [if_pos (by first | assumption | omega)] | rw [if_neg (by first | assumption | omega)]); first | done | rfl)
            · (unfold itemsR; (repeat first | rw [if_pos (by first | assumption | omega)] | rw [if_neg (by first | assumption | omega)]); first | done | rfl)
          · simp at h5
            refine Fork.mk (fun h6 => ?_) (fun h6 => ?_)
            · simp at h6
              refine callVC_mk [] (polyphonyref22_fault _) ⟨rfl, rfl, rfl⟩ rfl trivial ?_
              refine ⟨rfl, ?_⟩
              refine doneVC_mk [] ⟨by kernel_rfl, by kernel_rfl, by kernel_rfl⟩ rfl (eqT (eqC (eqA (eqC (eqI ?_) (eqC (eqS ?_) (eqC (eqI ?_) (by kernel_rfl))))) (eqC (eqA (eqC (eqI ?_) (eqC (eqS ?_) (eqC (eqS ?_) (eqC (eqS ?_) (eqC (eqI ?_) (by kernel_rfl))))))) (eqC (eqB ?_) (by kernel_rfl))))) trivial
              · (unfold itemsR; (repeat first | rw [if_pos (by first | assumption | omega)] | rw [if_neg (by first | assumption | omega)]); first | done | rfl)
              · (unfold itemsR; (repeat first | rw [if_pos (by first | assumption | omega)] | rw [if_neg (by first | assumption | omega)]); first | done | rfl)
              · (unfold itemsR; (repeat first | rw [if_pos (by first | assumption | omega)] | rw [if_neg (by first | assumption | omega)]); first | done | rfl)
              · (unfold itemsR; (repeat first | rw [if_pos (by first | assumption | omega)] | rw [if_neg (by first | assumption | omega)]); first | done | rfl)
              · (unfold itemsR; (repeat first | rw [if_pos (by first | assumption | omega)] | rw [if_neg (by first | assumption | omega)]); first | done | rfl)
              · (unfold itemsR; (repeat first | rw [if_pos (by first | assumption | omega)] | rw [if_neg (by first | assumption | omega)]); first | done | rfl)
              · (unfold itemsR; (repeat first | rw [if_pos (by first | assumption | omega)] | rw [if_neg (by first | assumption | omega)]); first | done | rfl)
              · (unfold itemsR; (repeat first | rw [if_pos (by first | assumption | omega)] | rw [if_neg (by first | assumption | omega)]); first | done | rfl)
              · (unfold itemsR; (repeat first | rw [if_pos (by first | assumption | omega)] | rw [if_neg (by first | assumption | omega)]); first | done | rfl)
            · simp at h6
              refine Fork.mk (fun h7 => ?_) (fun h7 => ?_)
              · simp at h7
                (exfalso; omega)
              · simp at h7
                refine callVC_mk [] (polyphonyref22_num _) ⟨rfl, rfl, rfl⟩ rfl trivial ?_
                refine ⟨rfl, ?_⟩
                refine doneVC_mk [] ⟨by kernel_rfl, by kernel_rfl, by kernel_rfl⟩ rfl (eqT (eqC (eqA (eqC (eqI ?_) (eqC (eqS ?_) (eqC (eqI ?_) (by kernel_rfl))))) (eqC (eqA (eqC (eqI ?_) (eqC (eqS ?_) (eqC (eqS ?_) (eqC (eqS ?_) (eqC (eqI ?_) (by kernel_rfl))))))) (eqC (eqB ?_) (by kernel_rfl))))) trivial
                · (unfold itemsR; (repeat first | rw [if_pos (by first | assumption | omega)] | rw [if_neg (by first | assumption | omega)]); first | done | rfl)
                · (unfold itemsR; (repeat first | rw [if_pos (by first | assumption | omega)] | rw [if_neg (by first | assumption | omega)]); first | done | rfl)
                · (unfold itemsR; (repeat first | rw [if_pos (by first | assumption | omega)] | rw [if_neg (by first | assumption | omega)]); first | done | rfl)
                · (unfold itemsR; (repeat first | rw [if_pos (by first | assumption | omega)] | rw [if_neg (by first | assumption | omega)]); first | done | rfl)
                · (unfold itemsR; (repeat first | rw [if_pos (by first | assumption | omega)] | rw [if_neg (by first | assumption | omega)]); first | done | rfl)
                · (unfold itemsR; (repeat first | rw [if_pos (by first | assumption | omega)] | rw [if_neg (by first | assumption | omega)]); first | done | rfl)
                · (unfold itemsR; (repeat first | rw [if_pos (by first | assumption | omega)] | rw [if_neg (by first | assumption | omega)]); first | done | rfl)
                · (unfold itemsR; (repeat first | rw [if_pos (by first | assumption | omega)] | rw [if_neg (by first | assumption | omega)]); first | done | rfl)
                · (unfold itemsR; (repeat first | rw [if_pos (by first | assumption | omega)] | rw [if_neg (by first | assumption | omega)]); first | done | rfl)
def refP (c : Call) : PlanS := if (formS (L c.name)).2.2 = false then faultP (⟨#[69, 82, 82]⟩ : ByteArray) else
  if (formS (L c.name)).2.1 = 1 then fewR c else if (formS (L c.name)).2.1 = 2 then fewR c else if (formS (L c.name)).2.1 = 3 then fewR c else
  if (formS (L c.name)).2.1 = 4 then hashR c else if (formS (L c.name)).2.1 = 5 then scoresR c else if (formS (L c.name)).2.1 = 6 then itemsR c else
  if L c.name = L (⟨#[84, 89, 80, 69]⟩ : ByteArray) then saysP 1 (⟨#[110, 111, 110, 101]⟩ : ByteArray) 0 else if L c.name = L (⟨#[75, 69, 89, 83]⟩ : ByteArray) then saysP 6 emp 0 else numP 0
theorem polyphonyref22_Plan (c : Call) : FnOk Tryz.prog 10 [nilS, .agg (callL c)] (conPure 0 (planR (refP c))) := by
  refine fnOk_of_den tab_ok mixed look10 rfl rfl (by kernel_rfl) fun hb => ?_
  simp only [den, denOps]
  refine callVC_mk [] (polyphonyref22_Form _) ⟨rfl, rfl, rfl⟩ rfl trivial ?_
  refine Fork.mk (fun h1 => ?_) (fun h1 => ?_)
  · simp at h1
    refine callVC_mk [] (polyphonyref22_fault _) ⟨rfl, rfl, rfl⟩ rfl trivial ?_
    refine ⟨rfl, ?_⟩
    refine doneVC_mk [] ⟨by kernel_rfl, by kernel_rfl, by kernel_rfl⟩ rfl (eqT (eqC (eqA (eqC (eqI ?_) (eqC (eqS ?_) (eqC (eqI ?_) (by kernel_rfl))))) (eqC (eqA (eqC (eqI ?_) (eqC (eqS ?_) (eqC (eqS ?_) (eqC (eqS ?_) (eqC (eqI ?_) (by kernel_rfl))))))) (eqC (eqB ?_) (by kernel_rfl))))) trivial
    · (unfold refP; (repeat first | rw [if_pos (by assumption)] | rw [if_neg (by first | assumption | omega | (rw [‹(formS (L c.name)).2.2 = true›]; decide))]); first | done | rfl)
    · (unfold refP; (repeat first | rw [if_pos (by assumption)] | rw [if_neg (by first | assumption | omega | (rw [‹(formS (L c.name)).2.2 = true›]; decide))]); first | done | rfl)
    · (unfold refP; (repeat first | rw [if_pos (by assumption)] | rw [if_neg (by first | assumption | omega | (rw [‹(formS (L c.name)).2.2 = true›]; decide))]); first | done | rfl)
    · (unfold refP; (repeat first | rw [if_pos (by assumption)] | rw [if_neg (by first | assumption | omega | (rw [‹(formS (L c.name)).2.2 = true›]; decide))]); first | done | rfl)
    · (unfold refP; (repeat first | rw [if_pos (by assumption)] | rw [if_neg (by first | assumption | omega | (rw [‹(formS (L c.name)).2.2 = true›]; decide))]); first | done | rfl)
    · (unfold refP; (repeat first | rw [if_pos (by assumption)] | rw [if_neg (by first | assumption | omega | (rw [‹(formS (L c.name)).2.2 = true›]; decide))]); first | done | rfl)
    · (unfold refP; (repeat first | rw [if_pos (by assumption)] | rw [if_neg (by first | assumption | omega | (rw [‹(formS (L c.name)).2.2 = true›]; decide))]); first | done | rfl)
    · (unfold refP; (repeat first | rw [if_pos (by assumption)] | rw [if_neg (by first | assumption | omega | (rw [‹(formS (L c.name)).2.2 = true›]; decide))]); first | done | rfl)
    · (unfold refP; (repeat first | rw [if_pos (by assumption)] | rw [if_neg (by first | assumption | omega | (rw [‹(formS (L c.name)).2.2 = true›]; decide))]); first | done | rfl)
  · simp at h1
    refine callVC_mk [] (polyphonyref17_Tell _) ⟨rfl, rfl, rfl⟩ rfl trivial ?_
    refine Fork.mk (fun h2 => ?_) (fun h2 => ?_)
    · simp at h2
      refine Fork.mk (fun h3 => ?_) (fun h3 => ?_)
      · simp at h3
        refine callVC_mk [] (polyphonyref22_few _) ⟨rfl, rfl, rfl⟩ rfl trivial ?_
        refine doneVC_mk [] ⟨by kernel_rfl, by kernel_rfl, by kernel_rfl⟩ rfl (eqT (eqC (eqA (eqC (eqI ?_) (eqC (eqS ?_) (eqC (eqI ?_) (by kernel_rfl))))) (eqC (eqA (eqC (eqI ?_) (eqC (eqS ?_) (eqC (eqS ?_) (eqC (eqS ?_) (eqC (eqI ?_) (by kernel_rfl))))))) (eqC (eqB ?_) (by kernel_rfl))))) trivial
        · (unfold refP; (repeat first | rw [if_pos (by assumption)] | rw [if_neg (by first | assumption | omega | (rw [‹(formS (L c.name)).2.2 = true›]; decide))]); first | done | rfl)
        · (unfold refP; (repeat first | rw [if_pos (by assumption)] | rw [if_neg (by first | assumption | omega | (rw [‹(formS (L c.name)).2.2 = true›]; decide))]); first | done | rfl)
        · (unfold refP; (repeat first | rw [if_pos (by assumption)] | rw [if_neg (by first | assumption | omega | (rw [‹(formS (L c.name)).2.2 = true›]; decide))]); first | done | rfl)
        · (unfold refP; (repeat first | rw [if_pos (by assumption)] | rw [if_neg (by first | assumption | omega | (rw [‹(formS (L c.name)).2.2 = true›]; decide))]); first | done | rfl)
        · (unfold refP; (repeat first | rw [if_pos (by assumption)] | rw [if_neg (by first | assumption | omega | (rw [‹(formS (L c.name)).2.2 = true›]; decide))]); first | done | rfl)
        · (unfold refP; (repeat first | rw [if_pos (by assumption)] | rw [if_neg (by first | assumption | omega | (rw [‹(formS (L c.name)).2.2 = true›]; decide))]); first | done | rfl)
        · (unfold refP; (repeat first | rw [if_pos (by assumption)] | rw [if_neg (by first | assumption | omega | (rw [‹(formS (L c.name)).2.2 = true›]; decide))]); first | done | rfl)
        · (unfold refP; (repeat first | rw [if_pos (by assumption)] | rw [if_neg (by first | assumption | omega | (rw [‹(formS (L c.name)).2.2 = true›]; decide))]); first | done | rfl)
        · (unfold refP; (repeat first | rw [if_pos (by assumption)] | rw [if_neg (by first | assumption | omega | (rw [‹(formS (L c.name)).2.2 = true›]; decide))]); first | done | rfl)
      · simp at h3
        refine Fork.mk (fun h4 => ?_) (fun h4 => ?_)
        · simp at h4
          refine callVC_mk [] (polyphonyref22_few _) ⟨rfl, rfl, rfl⟩ rfl trivial ?_
          refine doneVC_mk [] ⟨by kernel_rfl, by kernel_rfl, by kernel_rfl⟩ rfl (eqT (eqC (eqA (eqC (eqI ?_) (eqC (eqS ?_) (eqC (eqI ?_) (by kernel_rfl))))) (eqC (eqA (eqC (eqI ?_) (eqC (eqS ?_) (eqC (eqS ?_) (eqC (eqS ?_) (eqC (eqI ?_) (by kernel_rfl))))))) (eqC (eqB ?_) (by kernel_rfl))))) trivial
          · (unfold refP; (repeat first | rw [if_pos (by assumption)] | rw [if_neg (by first | assumption | omega | (rw [‹(formS (L c.name)).2.2 = true›]; decide))]); first | done | rfl)
          · (unfold refP; (repeat first | rw [if_pos (by assumption)] | rw [if_neg (by first | assumption | omega | (rw [‹(formS (L c.name)).2.2 = true›]; decide))]); first | done | rfl)
          · (unfold refP; (repeat first | rw [if_pos (by assumption)] | rw [if_neg (by first | assumption | omega | (rw [‹(formS (L c.name)).2.2 = true›]; decide))]); first | done | rfl)
          · (unfold refP; (repeat first | rw [if_pos (by assumption)] | rw [if_neg (by first | assumption | omega | (rw [‹(formS (L c.name)).2.2 = true›]; decide))]); first | done | rfl)
          · (unfold refP; (repeat first | rw [if_pos (by assumption)] | rw [if_neg (by first | assumption | omega | (rw [‹(formS (L c.name)).2.2 = true›]; decide))]); first | done | rfl)
          · (unfold refP; (repeat first | rw [if_pos (by assumption)] | rw [if_neg (by first | assumption | omega | (rw [‹(formS (L c.name)).2.2 = true›]; decide))]); first | done | rfl)
          · (unfold refP; (repeat first | rw [if_pos (by assumption)] | rw [if_neg (by first | assumption | omega | (rw [‹(formS (L c.name)).2.2 = true›]; decide))]); first | done | rfl)
          · (unfold refP; (repeat first | rw [if_pos (by assumption)] | rw [if_neg (by first | assumption | omega | (rw [‹(formS (L c.name)).2.2 = true›]; decide))]); first | done | rfl)
          · (unfold refP; (repeat first | rw [if_pos (by assumption)] | rw [if_neg (by first | assumption | omega | (rw [‹(formS (L c.name)).2.2 = true›]; decide))]); first | done | rfl)
        · simp at h4
          refine Fork.mk (fun h5 => ?_) (fun h5 => ?_)
          · simp at h5
            refine callVC_mk [] (polyphonyref22_few _) ⟨rfl, rfl, rfl⟩ rfl trivial ?_
            refine doneVC_mk [] ⟨by kernel_rfl, by kernel_rfl, by kernel_rfl⟩ rfl (eqT (eqC (eqA (eqC (eqI ?_) (eqC (eqS ?_) (eqC (eqI ?_) (by kernel_rfl))))) (eqC (eqA (eqC (eqI ?_) (eqC (eqS ?_) (eqC (eqS ?_) (eqC (eqS ?_) (eqC (eqI ?_) (by kernel_rfl))))))) (eqC (eqB ?_) (by kernel_rfl))))) trivial
            · (unfold refP; (repeat first | rw [if_pos (by assumption)] | rw [if_neg (by first | assumption | omega | (rw [‹(formS (L c.name)).2.2 = true›]; decide))]); first | done | rfl)
            · (unfold refP; (repeat first | rw [if_pos (by assumption)] | rw [if_neg (by first | assumption | omega | (rw [‹(formS (L c.name)).2.2 = true›]; decide))]); first | done | rfl)
            · (unfold refP; (repeat first | rw [if_pos (by assumption)] | rw [if_neg (by first | assumption | omega | (rw [‹(formS (L c.name)).2.2 = true›]; decide))]); first | done | rfl)
            · (unfold refP; (repeat first | rw [if_pos (by assumption)] | rw [if_neg (by first | assumption | omega | (rw [‹(formS (L c.name)).2.2 = true›]; decide))]); first | done | rfl)
            · (unfold refP; (repeat first | rw [if_pos (by assumption)] | rw [if_neg (by first | assumption | omega | (rw [‹(formS (L c.name)).2.2 = true›]; decide))]); first | done | rfl)
            · (unfold refP; (repeat first | rw [if_pos (by assumption)] | rw [if_neg (by first | assumption | omega | (rw [‹(formS (L c.name)).2.2 = true›]; decide))]); first | done | rfl)
            · (unfold refP; (repeat first | rw [if_pos (by assumption)] | rw [if_neg (by first | assumption | omega | (rw [‹(formS (L c.name)).2.2 = true›]; decide))]); first | done | rfl)
            · (unfold refP; (repeat first | rw [if_pos (by assumption)] | rw [if_neg (by first | assumption | omega | (rw [‹(formS (L c.name)).2.2 = true›]; decide))]); first | done | rfl)
            · (unfold refP; (repeat first | rw [if_pos (by assumption)] | rw [if_neg (by first | assumption | omega | (rw [‹(formS (L c.name)).2.2 = true›]; decide))]); first | done | rfl)
          · simp at h5
            refine Fork.mk (fun h6 => ?_) (fun h6 => ?_)
            · simp at h6
              refine callVC_mk [] (polyphonyref22_hash _) ⟨rfl, rfl, rfl⟩ rfl trivial ?_
              refine doneVC_mk [] ⟨by kernel_rfl, by kernel_rfl, by kernel_rfl⟩ rfl (eqT (eqC (eqA (eqC (eqI ?_) (eqC (eqS ?_) (eqC (eqI ?_) (by kernel_rfl))))) (eqC (eqA (eqC (eqI ?_) (eqC (eqS ?_) (eqC (eqS ?_) (eqC (eqS ?_) (eqC (eqI ?_) (by kernel_rfl))))))) (eqC (eqB ?_) (by kernel_rfl))))) trivial
              · (unfold refP; (repeat first | rw [if_pos (by assumption)] | rw [if_neg (by first | assumption | omega | (rw [‹(formS (L c.name)).2.2 = true›]; decide))]); first | done | rfl)
              · (unfold refP; (repeat first | rw [if_pos (by assumption)] | rw [if_neg (by first | assumption | omega | (rw [‹(formS (L c.name)).2.2 = true›]; decide))]); first | done | rfl)
              · (unfold refP; (repeat first | rw [if_pos (by assumption)] | rw [if_neg (by first | assumption | omega | (rw [‹(formS (L c.name)).2.2 = true›]; decide))]); first | done | rfl)
              · (unfold refP; (repeat first | rw [if_pos (by assumption)] | rw [if_neg (by first | assumption | omega | (rw [‹(formS (L c.name)).2.2 = true›]; decide))]); first | done | rfl)
              · (unfold refP; (repeat first | rw [if_pos (by assumption)] | rw [if_neg (by first | assumption | omega | (rw [‹(formS (L c.name)).2.2 = true›]; decide))]); first | done | rfl)
              · (unfold refP; (repeat first | rw [if_pos (by assumption)] | rw [if_neg (by first | assumption | omega | (rw [‹(formS (L c.name)).2.2 = true›]; decide))]); first | done | rfl)
              · (unfold refP; (repeat first | rw [if_pos (by assumption)] | rw [if_neg (by first | assumption | omega | (rw [‹(formS (L c.name)).2.2 = true›]; decide))]); first | done | rfl)
              · (unfold refP; (repeat first | rw [if_pos (by assumption)] | rw [if_neg (by first | assumption | omega | (rw [‹(formS (L c.name)).2.2 = true›]; decide))]); first | done | rfl)
              · (unfold refP; (repeat first | rw [if_pos (by assumption)] | rw [if_neg (by first | assumption | omega | (rw [‹(formS (L c.name)).2.2 = true›]; decide))]); first | done | rfl)
            · simp at h6
              refine Fork.mk (fun h7 => ?_) (fun h7 => ?_)
              · simp at h7
                refine callVC_mk [] (polyphonyref22_scores _) ⟨rfl, rfl, rfl⟩ rfl trivial ?_
                refine doneVC_mk [] ⟨by kernel_rfl, by kernel_rfl, by kernel_rfl⟩ rfl (eqT (eqC (eqA (eqC (eqI ?_) (eqC (eqS ?_) (eqC (eqI ?_) (by kernel_rfl))))) (eqC (eqA (eqC (eqI ?_) (eqC (eqS ?_) (eqC (eqS ?_) (eqC (eqS ?_) (eqC (eqI ?_) (by kernel_rfl))))))) (eqC (eqB ?_) (by kernel_rfl))))) trivial
                · (unfold refP; (repeat first | rw [if_pos (by assumption)] | rw [if_neg (by first | assumption | omega | (rw [‹(formS (L c.name)).2.2 = true›]; decide))]); first | done | rfl)
                · (unfold refP; (repeat first | rw [if_pos (by assumption)] | rw [if_neg (by first | assumption | omega | (rw [‹(formS (L c.name)).2.2 = true›]; decide))]); first | done | rfl)
                · (unfold refP; (repeat first | rw [if_pos (by assumption)] | rw [if_neg (by first | assumption | omega | (rw [‹(formS (L c.name)).2.2 = true›]; decide))]); first | done | rfl)
                · (unfold refP; (repeat first | rw [if_pos (by assumption)] | rw [if_neg (by first | assumption | omega | (rw [‹(formS (L c.name)).2.2 = true›]; decide))]); first | done | rfl)
                · (unfold refP; (repeat first | rw [if_pos (by assumption)] | rw [if_neg (by first | assumption | omega | (rw [‹(formS (L c.name)).2.2 = true›]; decide))]); first | done | rfl)
                · (unfold refP; (repeat first | rw [if_pos (by assumption)] | rw [if_neg (by first | assumption | omega | (rw [‹(formS (L c.name)).2.2 = true›]; decide))]); first | done | rfl)
                · (unfold refP; (repeat first | rw [if_pos (by assumption)] | rw [if_neg (by first | assumption | omega | (rw [‹(formS (L c.name)).2.2 = true›]; decide))]); first | done | rfl)
                · (unfold refP; (repeat first | rw [if_pos (by assumption)] | rw [if_neg (by first | assumption | omega | (rw [‹(formS (L c.name)).2.2 = true›]; decide))]); first | done | rfl)
                · (unfold refP; (repeat first | rw [if_pos (by assumption)] | rw [if_neg (by first | assumption | omega | (rw [‹(formS (L c.name)).2.2 = true›]; decide))]); first | done | rfl)
              · simp at h7
                refine Fork.mk (fun h8 => ?_) (fun h8 => ?_)
                · simp at h8
                  refine callVC_mk [] (polyphonyref22_items _) ⟨rfl, rfl, rfl⟩ rfl trivial ?_
                  refine doneVC_mk [] ⟨by kernel_rfl, by kernel_rfl, by kernel_rfl⟩ rfl (eqT (eqC (eqA (eqC (eqI ?_) (eqC (eqS ?_) (eqC (eqI ?_) (by kernel_rfl))))) (eqC (eqA (eqC (eqI ?_) (eqC (eqS ?_) (eqC (eqS ?_) (eqC (eqS ?_) (eqC (eqI ?_) (by kernel_rfl))))))) (eqC (eqB ?_) (by kernel_rfl))))) trivial
                  · (unfold refP; (repeat first | rw [if_pos (by assumption)] | rw [if_neg (by first | assumption | omega | (rw [‹(formS (L c.name)).2.2 = true›]; decide))]); first | done | rfl)
                  · (unfold refP; (repeat first | rw [if_pos (by assumption)] | rw [if_neg (by first | assumption | omega | (rw [‹(formS (L c.name)).2.2 = true›]; decide))]); first | done | rfl)
                  · (unfold refP; (repeat first | rw [if_pos (by assumption)] | rw [if_neg (by first | assumption | omega | (rw [‹(formS (L c.name)).2.2 = true›]; decide))]); first | done | rfl)
                  · (unfold refP; (repeat first | rw [if_pos (by assumption)] | rw [if_neg (by first | assumption | omega | (rw [‹(formS (L c.name)).2.2 = true›]; decide))]); first | done | rfl)
                  · (unfold refP; (repeat first | rw [if_pos (by assumption)] | rw [if_neg (by first | assumption | omega | (rw [‹(formS (L c.name)).2.2 = true›]; decide))]); first | done | rfl)
                  · (unfold refP; (repeat first | rw [if_pos (by assumption)] | rw [if_neg (by first | assumption | omega | (rw [‹(formS (L c.name)).2.2 = true›]; decide))]); first | done | rfl)
                  · (unfold refP; (repeat first | rw [if_pos (by assumption)] | rw [if_neg (by first | assumption | omega | (rw [‹(formS (L c.name)).2.2 = true›]; decide))]); first | done | rfl)
                  · (unfold refP; (repeat first | rw [if_pos (by assumption)] | rw [if_neg (by first | assumption | omega | (rw [‹(formS (L c.name)).2.2 = true›]; decide))]); first | done | rfl)
                  · (unfold refP; (repeat first | rw [if_pos (by assumption)] | rw [if_neg (by first | assumption | omega | (rw [‹(formS (L c.name)).2.2 = true›]; decide))]); first | done | rfl)
                · simp at h8
                  refine tag4_strs (by rfl) (by rfl) (by rfl) ?_
                  refine Fork.mk (fun h9 => ?_) (fun h9 => ?_)
                  · simp at h9
                    refine ⟨by decide, ?_⟩
                    refine ⟨_, ⟨rfl, rfl⟩, ?_⟩
                    refine callVC_mk [] (polyphonyref22_simple _) ⟨rfl, rfl, rfl⟩ rfl trivial ?_
                    refine ⟨rfl, ?_⟩
                    refine doneVC_mk [] ⟨by kernel_rfl, by kernel_rfl, by kernel_rfl⟩ rfl (eqT (eqC (eqA (eqC (eqI ?_) (eqC (eqS ?_) (eqC (eqI ?_) (by kernel_rfl))))) (eqC (eqA (eqC (eqI ?_) (eqC (eqS ?_) (eqC (eqS ?_) (eqC (eqS ?_) (eqC (eqI ?_) (by kernel_rfl))))))) (eqC (eqB ?_) (by kernel_rfl))))) trivial
                    · (unfold refP; (repeat first | rw [if_pos (by assumption)] | rw [if_neg (by first | assumption | omega | (rw [‹(formS (L c.name)).2.2 = true›]; decide))]); first | done | rfl)
                    · (unfold refP; (repeat first | rw [if_pos (by assumption)] | rw [if_neg (by first | assumption | omega | (rw [‹(formS (L c.name)).2.2 = true›]; decide))]); first | done | rfl)
                    · (unfold refP; (repeat first | rw [if_pos (by assumption)] | rw [if_neg (by first | assumption | omega | (rw [‹(formS (L c.name)).2.2 = true›]; decide))]); first | done | rfl)
                    · (unfold refP; (repeat first | rw [if_pos (by assumption)] | rw [if_neg (by first | assumption | omega | (rw [‹(formS (L c.name)).2.2 = true›]; decide))]); first | done | rfl)
                    · (unfold refP; (repeat first | rw [if_pos (by assumption)] | rw [if_neg (by first | assumption | omega | (rw [‹(formS (L c.name)).2.2 = true›]; decide))]); first | done | rfl)
                    · (unfold refP; (repeat first | rw [if_pos (by assumption)] | rw [if_neg (by first | assumption | omega | (rw [‹(formS (L c.name)).2.2 = true›]; decide))]); first | done | rfl)
                    · (unfold refP; (repeat first | rw [if_pos (by assumption)] | rw [if_neg (by first | assumption | omega | (rw [‹(formS (L c.name)).2.2 = true›]; decide))]); first | done | rfl)
                    · (unfold refP; (repeat first | rw [if_pos (by assumption)] | rw [if_neg (by first | assumption | omega | (rw [‹(formS (L c.name)).2.2 = true›]; decide))]); first | done | rfl)
                    · (unfold refP; (repeat first | rw [if_pos (by assumption)] | rw [if_neg (by first | assumption | omega | (rw [‹(formS (L c.name)).2.2 = true›]; decide))]); first | done | rfl)
                  · simp at h9
                    refine Fork.mk (fun h10 => ?_) (fun h10 => ?_)
                    · simp at h10
                      refine callVC_mk [] polyphonyref10_All ⟨rfl, rfl, rfl⟩ rfl trivial ?_
                      refine callVC_mk [] polyphonyref10_Keys ⟨rfl, rfl, rfl⟩ rfl trivial ?_
                      refine callVC_mk [] ref22_list_nil ⟨rfl, rfl, rfl⟩ rfl trivial ?_
                      refine ⟨rfl, ?_⟩
                      refine doneVC_mk [] ⟨by kernel_rfl, by kernel_rfl, by kernel_rfl⟩ rfl (eqT (eqC (eqA (eqC (eqI ?_) (eqC (eqS ?_) (eqC (eqI ?_) (by kernel_rfl))))) (eqC (eqA (eqC (eqI ?_) (eqC (eqS ?_) (eqC (eqS ?_) (eqC (eqS ?_) (eqC (eqI ?_) (by kernel_rfl))))))) (eqC (eqB ?_) (by kernel_rfl))))) trivial
                      · (unfold refP; (repeat first | rw [if_pos (by assumption)] | rw [if_neg (by first | assumption | omega | (rw [‹(formS (L c.name)).2.2 = true›]; decide))]); first | done | rfl)
                      · (unfold refP; (repeat first | rw [if_pos (by assumption)] | rw [if_neg (by first | assumption | omega | (rw [‹(formS (L c.name)).2.2 = true›]; decide))]); first | done | rfl)
                      · (unfold refP; (repeat first | rw [if_pos (by assumption)] | rw [if_neg (by first | assumption | omega | (rw [‹(formS (L c.name)).2.2 = true›]; decide))]); first | done | rfl)
                      · (unfold refP; (repeat first | rw [if_pos (by assumption)] | rw [if_neg (by first | assumption | omega | (rw [‹(formS (L c.name)).2.2 = true›]; decide))]); first | done | rfl)
                      · (unfold refP; (repeat first | rw [if_pos (by assumption)] | rw [if_neg (by first | assumption | omega | (rw [‹(formS (L c.name)).2.2 = true›]; decide))]); first | done | rfl)
                      · (unfold refP; (repeat first | rw [if_pos (by assumption)] | rw [if_neg (by first | assumption | omega | (rw [‹(formS (L c.name)).2.2 = true›]; decide))]); first | done | rfl)
                      · (unfold refP; (repeat first | rw [if_pos (by assumption)] | rw [if_neg (by first | assumption | omega | (rw [‹(formS (L c.name)).2.2 = true›]; decide))]); first | done | rfl)
                      · (unfold refP; (repeat first | rw [if_pos (by assumption)] | rw [if_neg (by first | assumption | omega | (rw [‹(formS (L c.name)).2.2 = true›]; decide))]); first | done | rfl)
                      · (unfold refP; (repeat first | rw [if_pos (by assumption)] | rw [if_neg (by first | assumption | omega | (rw [‹(formS (L c.name)).2.2 = true›]; decide))]); first | done | rfl)
                    · simp at h10
                      refine callVC_mk [] (polyphonyref22_num _) ⟨rfl, rfl, rfl⟩ rfl trivial ?_
                      refine ⟨rfl, ?_⟩
                      refine doneVC_mk [] ⟨by kernel_rfl, by kernel_rfl, by kernel_rfl⟩ rfl (eqT (eqC (eqA (eqC (eqI ?_) (eqC (eqS ?_) (eqC (eqI ?_) (by kernel_rfl))))) (eqC (eqA (eqC (eqI ?_) (eqC (eqS ?_) (eqC (eqS ?_) (eqC (eqS ?_) (eqC (eqI ?_) (by kernel_rfl))))))) (eqC (eqB ?_) (by kernel_rfl))))) trivial
                      · (unfold refP; (repeat first | rw [if_pos (by assumption)] | rw [if_neg (by first | assumption | omega | (rw [‹(formS (L c.name)).2.2 = true›]; decide))]); first | done | rfl)
                      · (unfold refP; (repeat first | rw [if_pos (by assumption)] | rw [if_neg (by first | assumption | omega | (rw [‹(formS (L c.name)).2.2 = true›]; decide))]); first | done | rfl)
                      · (unfold refP; (repeat first | rw [if_pos (by assumption)] | rw [if_neg (by first | assumption | omega | (rw [‹(formS (L c.name)).2.2 = true›]; decide))]); first | done | rfl)
                      · (unfold refP; (repeat first | rw [if_pos (by assumption)] | rw [if_neg (by first | assumption | omega | (rw [‹(formS (L c.name)).2.2 = true›]; decide))]); first | done | rfl)
                      · (unfold refP; (repeat first | rw [if_pos (by assumption)] | rw [if_neg (by first | assumption | omega | (rw [‹(formS (L c.name)).2.2 = true›]; decide))]); first | done | rfl)
                      · (unfold refP; (repeat first | rw [if_pos (by assumption)] | rw [if_neg (by first | assumption | omega | (rw [‹(formS (L c.name)).2.2 = true›]; decide))]); first | done | rfl)
                      · (unfold refP; (repeat first | rw [if_pos (by assumption)] | rw [if_neg (by first | assumption | omega | (rw [‹(formS (L c.name)).2.2 = true›]; decide))]); first | done | rfl)
                      · (unfold refP; (repeat first | rw [if_pos (by assumption)] | rw [if_neg (by first | assumption | omega | (rw [‹(formS (L c.name)).2.2 = true›]; decide))]); first | done | rfl)
                      · (unfold refP; (repeat first | rw [if_pos (by assumption)] | rw [if_neg (by first | assumption | omega | (rw [‹(formS (L c.name)).2.2 = true›]; decide))]); first | done | rfl)
    · simp at h2
      refine Fork.mk (fun h3 => ?_) (fun h3 => ?_)
      · simp at h3
        (exfalso; omega)
      · simp at h3
        refine Fork.mk (fun h4 => ?_) (fun h4 => ?_)
        · simp at h4
          (exfalso; omega)
        · simp at h4
          refine Fork.mk (fun h5 => ?_) (fun h5 => ?_)
          · simp at h5
            (exfalso; omega)
          · simp at h5
            refine Fork.mk (fun h6 => ?_) (fun h6 => ?_)
            · simp at h6
              (exfalso; omega)
            · simp at h6
              refine Fork.mk (fun h7 => ?_) (fun h7 => ?_)
              · simp at h7
                (exfalso; omega)
              · simp at h7
                refine Fork.mk (fun h8 => ?_) (fun h8 => ?_)
                · simp at h8
                  (exfalso; omega)
                · simp at h8
                  refine tag4_strs (by rfl) (by rfl) (by rfl) ?_
                  refine Fork.mk (fun h9 => ?_) (fun h9 => ?_)
                  · simp at h9
                    refine ⟨by decide, ?_⟩
                    refine ⟨_, ⟨rfl, rfl⟩, ?_⟩
                    refine callVC_mk [] (polyphonyref22_simple _) ⟨rfl, rfl, rfl⟩ rfl trivial ?_
                    refine ⟨rfl, ?_⟩
                    refine doneVC_mk [] ⟨by kernel_rfl, by kernel_rfl, by kernel_rfl⟩ rfl (eqT (eqC (eqA (eqC (eqI ?_) (eqC (eqS ?_) (eqC (eqI ?_) (by kernel_rfl))))) (eqC (eqA (eqC (eqI ?_) (eqC (eqS ?_) (eqC (eqS ?_) (eqC (eqS ?_) (eqC (eqI ?_) (by kernel_rfl))))))) (eqC (eqB ?_) (by kernel_rfl))))) trivial
                    · (unfold refP; (repeat first | rw [if_pos (by assumption)] | rw [if_neg (by first | assumption | omega | (rw [‹(formS (L c.name)).2.2 = true›]; decide))]); first | done | rfl)
                    · (unfold refP; (repeat first | rw [if_pos (by assumption)] | rw [if_neg (by first | assumption | omega | (rw [‹(formS (L c.name)).2.2 = true›]; decide))]); first | done | rfl)
                    · (unfold refP; (repeat first | rw [if_pos (by assumption)] | rw [if_neg (by first | assumption | omega | (rw [‹(formS (L c.name)).2.2 = true›]; decide))]); first | done | rfl)
                    · (unfold refP; (repeat first | rw [if_pos (by assumption)] | rw [if_neg (by first | assumption | omega | (rw [‹(formS (L c.name)).2.2 = true›]; decide))]); first | done | rfl)
                    · (unfold refP; (repeat first | rw [if_pos (by assumption)] | rw [if_neg (by first | assumption | omega | (rw [‹(formS (L c.name)).2.2 = true›]; decide))]); first | done | rfl)
                    · (unfold refP; (repeat first | rw [if_pos (by assumption)] | rw [if_neg (by first | assumption | omega | (rw [‹(formS (L c.name)).2.2 = true›]; decide))]); first | done | rfl)
                    · (unfold refP; (repeat first | rw [if_pos (by assumption)] | rw [if_neg (by first | assumption | omega | (rw [‹(formS (L c.name)).2.2 = true›]; decide))]); first | done | rfl)
                    · (unfold refP; (repeat first | rw [if_pos (by assumption)] | rw [if_neg (by first | assumption | omega | (rw [‹(formS (L c.name)).2.2 = true›]; decide))]); first | done | rfl)
                    · (unfold refP; (repeat first | rw [if_pos (by assumption)] | rw [if_neg (by first | assumption | omega | (rw [‹(formS (L c.name)).2.2 = true›]; decide))]); first | done | rfl)
                  · simp at h9
                    refine Fork.mk (fun h10 => ?_) (fun h10 => ?_)
                    · simp at h10
                      refine callVC_mk [] polyphonyref10_All ⟨rfl, rfl, rfl⟩ rfl trivial ?_
                      refine callVC_mk [] polyphonyref10_Keys ⟨rfl, rfl, rfl⟩ rfl trivial ?_
                      refine callVC_mk [] ref22_list_nil ⟨rfl, rfl, rfl⟩ rfl trivial ?_
                      refine ⟨rfl, ?_⟩
                      refine doneVC_mk [] ⟨by kernel_rfl, by kernel_rfl, by kernel_rfl⟩ rfl (eqT (eqC (eqA (eqC (eqI ?_) (eqC (eqS ?_) (eqC (eqI ?_) (by kernel_rfl))))) (eqC (eqA (eqC (eqI ?_) (eqC (eqS ?_) (eqC (eqS ?_) (eqC (eqS ?_) (eqC (eqI ?_) (by kernel_rfl))))))) (eqC (eqB ?_) (by kernel_rfl))))) trivial
                      · (unfold refP; (repeat first | rw [if_pos (by assumption)] | rw [if_neg (by first | assumption | omega | (rw [‹(formS (L c.name)).2.2 = true›]; decide))]); first | done | rfl)
                      · (unfold refP; (repeat first | rw [if_pos (by assumption)] | rw [if_neg (by first | assumption | omega | (rw [‹(formS (L c.name)).2.2 = true›]; decide))]); first | done | rfl)
                      · (unfold refP; (repeat first | rw [if_pos (by assumption)] | rw [if_neg (by first | assumption | omega | (rw [‹(formS (L c.name)).2.2 = true›]; decide))]); first | done | rfl)
                      · (unfold refP; (repeat first | rw [if_pos (by assumption)] | rw [if_neg (by first | assumption | omega | (rw [‹(formS (L c.name)).2.2 = true›]; decide))]); first | done | rfl)
                      · (unfold refP; (repeat first | rw [if_pos (by assumption)] | rw [if_neg (by first | assumption | omega | (rw [‹(formS (L c.name)).2.2 = true›]; decide))]); first | done | rfl)
                      · (unfold refP; (repeat first | rw [if_pos (by assumption)] | rw [if_neg (by first | assumption | omega | (rw [‹(formS (L c.name)).2.2 = true›]; decide))]); first | done | rfl)
                      · (unfold refP; (repeat first | rw [if_pos (by assumption)] | rw [if_neg (by first | assumption | omega | (rw [‹(formS (L c.name)).2.2 = true›]; decide))]); first | done | rfl)
                      · (unfold refP; (repeat first | rw [if_pos (by assumption)] | rw [if_neg (by first | assumption | omega | (rw [‹(formS (L c.name)).2.2 = true›]; decide))]); first | done | rfl)
                      · (unfold refP; (repeat first | rw [if_pos (by assumption)] | rw [if_neg (by first | assumption | omega | (rw [‹(formS (L c.name)).2.2 = true›]; decide))]); first | done | rfl)
                    · simp at h10
                      refine callVC_mk [] (polyphonyref22_num _) ⟨rfl, rfl, rfl⟩ rfl trivial ?_
                      refine ⟨rfl, ?_⟩
                      refine doneVC_mk [] ⟨by kernel_rfl, by kernel_rfl, by kernel_rfl⟩ rfl (eqT (eqC (eqA (eqC (eqI ?_) (eqC (eqS ?_) (eqC (eqI ?_) (by kernel_rfl))))) (eqC (eqA (eqC (eqI ?_) (eqC (eqS ?_) (eqC (eqS ?_) (eqC (eqS ?_) (eqC (eqI ?_) (by kernel_rfl))))))) (eqC (eqB ?_) (by kernel_rfl))))) trivial
                      · (unfold refP; (repeat first | rw [if_pos (by assumption)] | rw [if_neg (by first | assumption | omega | (rw [‹(formS (L c.name)).2.2 = true›]; decide))]); first | done | rfl)
                      · (unfold refP; (repeat first | rw [if_pos (by assumption)] | rw [if_neg (by first | assumption | omega | (rw [‹(formS (L c.name)).2.2 = true›]; decide))]); first | done | rfl)
                      · (unfold refP; (repeat first | rw [if_pos (by assumption)] | rw [if_neg (by first | assumption | omega | (rw [‹(formS (L c.name)).2.2 = true›]; decide))]); first | done | rfl)
                      · (unfold refP; (repeat first | rw [if_pos (by assumption)] | rw [if_neg (by first | assumption | omega | (rw [‹(formS (L c.name)).2.2 = true›]; decide))]); first | done | rfl)
                      · (unfold refP; (repeat first | rw [if_pos (by assumption)] | rw [if_neg (by first | assumption | omega | (rw [‹(formS (L c.name)).2.2 = true›]; decide))]); first | done | rfl)
                      · (unfold refP; (repeat first | rw [if_pos (by assumption)] | rw [if_neg (by first | assumption | omega | (rw [‹(formS (L c.name)).2.2 = true›]; decide))]); first | done | rfl)
                      · (unfold refP; (repeat first | rw [if_pos (by assumption)] | rw [if_neg (by first | assumption | omega | (rw [‹(formS (L c.name)).2.2 = true›]; decide))]); first | done | rfl)
                      · (unfold refP; (repeat first | rw [if_pos (by assumption)] | rw [if_neg (by first | assumption | omega | (rw [‹(formS (L c.name)).2.2 = true›]; decide))]); first | done | rfl)
                      · (unfold refP; (repeat first | rw [if_pos (by assumption)] | rw [if_neg (by first | assumption | omega | (rw [‹(formS (L c.name)).2.2 = true›]; decide))]); first | done | rfl)
end Go.Proofs.YtehnjdcahbehjaaGreatDoor
