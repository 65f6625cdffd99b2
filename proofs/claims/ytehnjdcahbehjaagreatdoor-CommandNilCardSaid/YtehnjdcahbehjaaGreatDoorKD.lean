import Derived.Test.YtehnjdcahbehjaaGreatDoorKC
import Derived.Test.YtehnjdcahbehjaaGreatDoorEngZ
namespace Go.Proofs.YtehnjdcahbehjaaGreatDoor
open Go Go.Eng Go.Proofs
set_option maxRecDepth 100000
set_option linter.unusedVariables false
set_option linter.unusedSimpArgs false
/-- a command's form, by its name -/
def formS (l : Bs) : ByteArray × Int × Bool :=
  if l = L ⟨#[83, 69, 84]⟩ then (⟨#[107, 118]⟩, 1, true) else
  if l = L ⟨#[71, 69, 84]⟩ then (⟨#[107]⟩, 1, true) else
  if l = L ⟨#[73, 78, 67, 82, 66, 89]⟩ then (⟨#[107, 110]⟩, 2, true) else
  if l = L ⟨#[67, 79, 85, 78, 84]⟩ then (⟨#[107]⟩, 2, true) else
  if l = L ⟨#[83, 65, 68, 68]⟩ then (⟨#[107, 102]⟩, 3, true) else
  if l = L ⟨#[83, 82, 69, 77]⟩ then (⟨#[107, 102]⟩, 3, true) else
  if l = L ⟨#[83, 73, 83, 77, 69, 77, 66, 69, 82]⟩ then (⟨#[107, 102]⟩, 3, true) else
  if l = L ⟨#[83, 77, 69, 77, 66, 69, 82, 83]⟩ then (⟨#[107]⟩, 3, true) else
  if l = L ⟨#[72, 83, 69, 84]⟩ then (⟨#[107, 102, 118]⟩, 4, true) else
  if l = L ⟨#[72, 68, 69, 76]⟩ then (⟨#[107, 102]⟩, 4, true) else
  if l = L ⟨#[72, 71, 69, 84]⟩ then (⟨#[107, 102]⟩, 4, true) else
  if l = L ⟨#[72, 71, 69, 84, 65, 76, 76]⟩ then (⟨#[107]⟩, 4, true) else
  if l = L ⟨#[90, 65, 68, 68]⟩ then (⟨#[107, 110, 102]⟩, 5, true) else
  if l = L ⟨#[90, 82, 69, 77]⟩ then (⟨#[107, 102]⟩, 5, true) else
  if l = L ⟨#[90, 83, 67, 79, 82, 69]⟩ then (⟨#[107, 102]⟩, 5, true) else
  if l = L ⟨#[90, 82, 65, 78, 75]⟩ then (⟨#[107, 102]⟩, 5, true) else
  if l = L ⟨#[90, 82, 65, 78, 71, 69]⟩ then (⟨#[107, 110, 109]⟩, 5, true) else
  if l = L ⟨#[76, 80, 85, 83, 72]⟩ then (⟨#[107, 118]⟩, 6, true) else
  if l = L ⟨#[82, 80, 85, 83, 72]⟩ then (⟨#[107, 118]⟩, 6, true) else
  if l = L ⟨#[76, 73, 78, 83, 69, 82, 84]⟩ then (⟨#[107, 110, 118]⟩, 6, true) else
  if l = L ⟨#[76, 82, 69, 77]⟩ then (⟨#[107, 110]⟩, 6, true) else
  if l = L ⟨#[76, 82, 65, 78, 71, 69]⟩ then (⟨#[107, 110, 109]⟩, 6, true) else
  if l = L ⟨#[68, 69, 76]⟩ then (⟨#[107]⟩, -1, true) else
  if l = L ⟨#[84, 89, 80, 69]⟩ then (⟨#[107]⟩, -1, true) else
  if l = L ⟨#[75, 69, 89, 83]⟩ then (⟨#[]⟩, -1, true) else
  (⟨#[]⟩, 0, false)
theorem command_formOf (s : ByteArray) : FnOk Tryz.prog 34 [.str s] (conPure 0 (.tup [.agg [.str (formS (L s)).1, .int .i64 (formS (L s)).2.1], .bool (formS (L s)).2.2])) := by
  refine fnOk_of_den tab_ok mixed look34 rfl rfl (by kernel_rfl) fun hb => ?_
  simp only [den, denOps]
  refine Fork.mk (fun h1 => ?_) (fun h1 => ?_)
  · simp at h1
    refine doneVC_mk [] ⟨by kernel_rfl, by kernel_rfl, by kernel_rfl⟩ rfl (eqT (eqC (eqA (eqC (eqS ?_) (eqC (eqI ?_) (by kernel_rfl)))) (eqC (eqB ?_) (by kernel_rfl)))) trivial
    · (unfold formS; (repeat rw [if_neg (by assumption)]); first | rfl | (rw [if_pos (by assumption)]))
    · (unfold formS; (repeat rw [if_neg (by assumption)]); first | rfl | (rw [if_pos (by assumption)]))
    · (unfold formS; (repeat rw [if_neg (by assumption)]); first | rfl | (rw [if_pos (by assumption)]))
  · simp at h1
    refine Fork.mk (fun h2 => ?_) (fun h2 => ?_)
    · simp at h2
      refine doneVC_mk [] ⟨by kernel_rfl, by kernel_rfl, by kernel_rfl⟩ rfl (eqT (eqC (eqA (eqC (eqS ?_) (eqC (eqI ?_) (by kernel_rfl)))) (eqC (eqB ?_) (by kernel_rfl)))) trivial
      · (unfold formS; (repeat rw [if_neg (by assumption)]); first | rfl | (rw [if_pos (by assumption)]))
      · (unfold formS; (repeat rw [if_neg (by assumption)]); first | rfl | (rw [if_pos (by assumption)]))
      · (unfold formS; (repeat rw [if_neg (by assumption)]); first | rfl | (rw [if_pos (by assumption)]))
    · simp at h2
      refine Fork.mk (fun h3 => ?_) (fun h3 => ?_)
      · simp at h3
        refine doneVC_mk [] ⟨by kernel_rfl, by kernel_rfl, by kernel_rfl⟩ rfl (eqT (eqC (eqA (eqC (eqS ?_) (eqC (eqI ?_) (by kernel_rfl)))) (eqC (eqB ?_) (by kernel_rfl)))) trivial
        · (unfold formS; (repeat rw [if_neg (by assumption)]); first | rfl | (rw [if_pos (by assumption)]))
        · (unfold formS; (repeat rw [if_neg (by assumption)]); first | rfl | (rw [if_pos (by assumption)]))
        · (unfold formS; (repeat rw [if_neg (by assumption)]); first | rfl | (rw [if_pos (by assumption)]))
      · simp at h3
        refine Fork.mk (fun h4 => ?_) (fun h4 => ?_)
        · simp at h4
          refine doneVC_mk [] ⟨by kernel_rfl, by kernel_rfl, by kernel_rfl⟩ rfl (eqT (eqC (eqA (eqC (eqS ?_) (eqC (eqI ?_) (by kernel_rfl)))) (eqC (eqB ?_) (by kernel_rfl)))) trivial
          · (unfold formS; (repeat rw [if_neg (by assumption)]); first | rfl | (rw [if_pos (by assumption)]))
          · (unfold formS; (repeat rw [if_neg (by assumption)]); first | rfl | (rw [if_pos (by assumption)]))
          · (unfold formS; (repeat rw [if_neg (by assumption)]); first | rfl | (rw [if_pos (by assumption)]))
        · simp at h4
          refine Fork.mk (fun h5 => ?_) (fun h5 => ?_)
          · simp at h5
            refine doneVC_mk [] ⟨by kernel_rfl, by kernel_rfl, by kernel_rfl⟩ rfl (eqT (eqC (eqA (eqC (eqS ?_) (eqC (eqI ?_) (by kernel_rfl)))) (eqC (eqB ?_) (by kernel_rfl)))) trivial
            · (unfold formS; (repeat rw [if_neg (by assumption)]); first | rfl | (rw [if_pos (by assumption)]))
            · (unfold formS; (repeat rw [if_neg (by assumption)]); first | rfl | (rw [if_pos (by assumption)]))
            · (unfold formS; (repeat rw [if_neg (by assumption)]); first | rfl | (rw [if_pos (by assumption)]))
          · simp at h5
            refine Fork.mk (fun h6 => ?_) (fun h6 => ?_)
            · simp at h6
              refine doneVC_mk [] ⟨by kernel_rfl, by kernel_rfl, by kernel_rfl⟩ rfl (eqT (eqC (eqA (eqC (eqS ?_) (eqC (eqI ?_) (by kernel_rfl)))) (eqC (eqB ?_) (by kernel_rfl)))) trivial
              · (unfold formS; (repeat rw [if_neg (by assumption)]); first | rfl | (rw [if_pos (by assumption)]))
              · (unfold formS; (repeat rw [if_neg (by assumption)]); first | rfl | (rw [if_pos (by assumption)]))
              · (unfold formS; (repeat rw [if_neg (by assumption)]); first | rfl | (rw [if_pos (by assumption)]))
            · simp at h6
              refine Fork.mk (fun h7 => ?_) (fun h7 => ?_)
              · simp at h7
                refine doneVC_mk [] ⟨by kernel_rfl, by kernel_rfl, by kernel_rfl⟩ rfl (eqT (eqC (eqA (eqC (eqS ?_) (eqC (eqI ?_) (by kernel_rfl)))) (eqC (eqB ?_) (by kernel_rfl)))) trivial
                · (unfold formS; (repeat rw [if_neg (by assumption)]); first | rfl | (rw [if_pos (by assumption)]))
                · (unfold formS; (repeat rw [if_neg (by assumption)]); first | rfl | (rw [if_pos (by assumption)]))
                · (unfold formS; (repeat rw [if_neg (by assumption)]); first | rfl | (rw [if_pos (by assumption)]))
              · simp at h7
                refine Fork.mk (fun h8 => ?_) (fun h8 => ?_)
                · simp at h8
                  refine doneVC_mk [] ⟨by kernel_rfl, by kernel_rfl, by kernel_rfl⟩ rfl (eqT (eqC (eqA (eqC (eqS ?_) (eqC (eqI ?_) (by kernel_rfl)))) (eqC (eqB ?_) (by kernel_rfl)))) trivial
                  · (unfold formS; (repeat rw [if_neg (by assumption)]); first | rfl | (rw [if_pos (by assumption)]))
                  · (unfold formS; (repeat rw [if_neg (by assumption)]); first | rfl | (rw [if_pos (by assumption)]))
                  · (unfold formS; (repeat rw [if_neg (by assumption)]); first | rfl | (rw [if_pos (by assumption)]))
                · simp at h8
                  refine Fork.mk (fun h9 => ?_) (fun h9 => ?_)
                  · simp at h9
                    refine doneVC_mk [] ⟨by kernel_rfl, by kernel_rfl, by kernel_rfl⟩ rfl (eqT (eqC (eqA (eqC (eqS ?_) (eqC (eqI ?_) (by kernel_rfl)))) (eqC (eqB ?_) (by kernel_rfl)))) trivial
                    · (unfold formS; (repeat rw [if_neg (by assumption)]); first | rfl | (rw [if_pos (by assumption)]))
                    · (unfold formS; (repeat rw [if_neg (by assumption)]); first | rfl | (rw [if_pos (by assumption)]))
                    · (unfold formS; (repeat rw [if_neg (by assumption)]); first | rfl | (rw [if_pos (by assumption)]))
                  · simp at h9
                    refine Fork.mk (fun h10 => ?_) (fun h10 => ?_)
                    · simp at h10
                      refine doneVC_mk [] ⟨by kernel_rfl, by kernel_rfl, by kernel_rfl⟩ rfl (eqT (eqC (eqA (eqC (eqS ?_) (eqC (eqI ?_) (by kernel_rfl)))) (eqC (eqB ?_) (by kernel_rfl)))) trivial
                      · (unfold formS; (repeat rw [if_neg (by assumption)]); first | rfl | (rw [if_pos (by assumption)]))
                      · (unfold formS; (repeat rw [if_neg (by assumption)]); first | rfl | (rw [if_pos (by assumption)]))
                      · (unfold formS; (repeat rw [if_neg (by assumption)]); first | rfl | (rw [if_pos (by assumption)]))
                    · simp at h10
                      refine Fork.mk (fun h11 => ?_) (fun h11 => ?_)
                      · simp at h11
                        refine doneVC_mk [] ⟨by kernel_rfl, by kernel_rfl, by kernel_rfl⟩ rfl (eqT (eqC (eqA (eqC (eqS ?_) (eqC (eqI ?_) (by kernel_rfl)))) (eqC (eqB ?_) (by kernel_rfl)))) trivial
                        · (unfold formS; (repeat rw [if_neg (by assumption)]); first | rfl | (rw [if_pos (by assumption)]))
                        · (unfold formS; (repeat rw [if_neg (by assumption)]); first | rfl | (rw [if_pos (by assumption)]))
                        · (unfold formS; (repeat rw [if_neg (by assumption)]); first | rfl | (rw [if_pos (by assumption)]))
                      · simp at h11
                        refine Fork.mk (fun h12 => ?_) (fun h12 => ?_)
                        · simp at h12
                          refine doneVC_mk [] ⟨by kernel_rfl, by kernel_rfl, by kernel_rfl⟩ rfl (eqT (eqC (eqA (eqC (eqS ?_) (eqC (eqI ?_) (by kernel_rfl)))) (eqC (eqB ?_) (by kernel_rfl)))) trivial
                          · (unfold formS; (repeat rw [if_neg (by assumption)]); first | rfl | (rw [if_pos (by assumption)]))
                          · (unfold formS; (repeat rw [if_neg (by assumption)]); first | rfl | (rw [if_pos (by assumption)]))
                          · (unfold formS; (repeat rw [if_neg (by assumption)]); first | rfl | (rw [if_pos (by assumption)]))
                        · simp at h12
                          refine Fork.mk (fun h13 => ?_) (fun h13 => ?_)
                          · simp at h13
                            refine doneVC_mk [] ⟨by kernel_rfl, by kernel_rfl, by kernel_rfl⟩ rfl (eqT (eqC (eqA (eqC (eqS ?_) (eqC (eqI ?_) (by kernel_rfl)))) (eqC (eqB ?_) (by kernel_rfl)))) trivial
                            · (unfold formS; (repeat rw [if_neg (by assumption)]); first | rfl | (rw [if_pos (by assumption)]))
                            · (unfold formS; (repeat rw [if_neg (by assumption)]); first | rfl | (rw [if_pos (by assumption)]))
                            · (unfold formS; (repeat rw [if_neg (by assumption)]); first | rfl | (rw [if_pos (by assumption)]))
                          · simp at h13
                            refine Fork.mk (fun h14 => ?_) (fun h14 => ?_)
                            · simp at h14
                              refine doneVC_mk [] ⟨by kernel_rfl, by kernel_rfl, by kernel_rfl⟩ rfl (eqT (eqC (eqA (eqC (eqS ?_) (eqC (eqI ?_) (by kernel_rfl)))) (eqC (eqB ?_) (by kernel_rfl)))) trivial
                              · (unfold formS; (repeat rw [if_neg (by assumption)]); first | rfl | (rw [if_pos (by assumption)]))
                              · (unfold formS; (repeat rw [if_neg (by assumption)]); first | rfl | (rw [if_pos (by assumption)]))
                              · (unfold formS; (repeat rw [if_neg (by assumption)]); first | rfl | (rw [if_pos (by assumption)]))
                            · simp at h14
                              refine Fork.mk (fun h15 => ?_) (fun h15 => ?_)
                              · simp at h15
                                refine doneVC_mk [] ⟨by kernel_rfl, by kernel_rfl, by kernel_rfl⟩ rfl (eqT (eqC (eqA (eqC (eqS ?_) (eqC (eqI ?_) (by kernel_rfl)))) (eqC (eqB ?_) (by kernel_rfl)))) trivial
                                · (unfold formS; (repeat rw [if_neg (by assumption)]); first | rfl | (rw [if_pos (by assumption)]))
                                · (unfold formS; (repeat rw [if_neg (by assumption)]); first | rfl | (rw [if_pos (by assumption)]))
                                · (unfold formS; (repeat rw [if_neg (by assumption)]); first | rfl | (rw [if_pos (by assumption)]))
                              · simp at h15
                                refine Fork.mk (fun h16 => ?_) (fun h16 => ?_)
                                · simp at h16
                                  refine doneVC_mk [] ⟨by kernel_rfl, by kernel_rfl, by kernel_rfl⟩ rfl (eqT (eqC (eqA (eqC (eqS ?_) (eqC (eqI ?_) (by kernel_rfl)))) (eqC (eqB ?_) (by kernel_rfl)))) trivial
                                  · (unfold formS; (repeat rw [if_neg (by assumption)]); first | rfl | (rw [if_pos (by assumption)]))
                                  · (unfold formS; (repeat rw [if_neg (by assumption)]); first | rfl | (rw [if_pos (by assumption)]))
                                  · (unfold formS; (repeat rw [if_neg (by assumption)]); first | rfl | (rw [if_pos (by assumption)]))
                                · simp at h16
                                  refine Fork.mk (fun h17 => ?_) (fun h17 => ?_)
                                  · simp at h17
                                    refine doneVC_mk [] ⟨by kernel_rfl, by kernel_rfl, by kernel_rfl⟩ rfl (eqT (eqC (eqA (eqC (eqS ?_) (eqC (eqI ?_) (by kernel_rfl)))) (eqC (eqB ?_) (by kernel_rfl)))) trivial
                                    · (unfold formS; (repeat rw [if_neg (by assumption)]); first | rfl | (rw [if_pos (by assumption)]))
                                    · (unfold formS; (repeat rw [if_neg (by assumption)]); first | rfl | (rw [if_pos (by assumption)]))
                                    · (unfold formS; (repeat rw [if_neg (by assumption)]); first | rfl | (rw [if_pos (by assumption)]))
                                  · simp at h17
                                    refine Fork.mk (fun h18 => ?_) (fun h18 => ?_)
                                    · simp at h18
                                      refine doneVC_mk [] ⟨by kernel_rfl, by kernel_rfl, by kernel_rfl⟩ rfl (eqT (eqC (eqA (eqC (eqS ?_) (eqC (eqI ?_) (by kernel_rfl)))) (eqC (eqB ?_) (by kernel_rfl)))) trivial
                                      · (unfold formS; (repeat rw [if_neg (by assumption)]); first | rfl | (rw [if_pos (by assumption)]))
                                      · (unfold formS; (repeat rw [if_neg (by assumption)]); first | rfl | (rw [if_pos (by assumption)]))
                                      · (unfold formS; (repeat rw [if_neg (by assumption)]); first | rfl | (rw [if_pos (by assumption)]))
                                    · simp at h18
                                      refine Fork.mk (fun h19 => ?_) (fun h19 => ?_)
                                      · simp at h19
                                        refine doneVC_mk [] ⟨by kernel_rfl, by kernel_rfl, by kernel_rfl⟩ rfl (eqT (eqC (eqA (eqC (eqS ?_) (eqC (eqI ?_) (by kernel_rfl)))) (eqC (eqB ?_) (by kernel_rfl)))) trivial
                                        · (unfold formS; (repeat rw [if_neg (by assumption)]); first | rfl | (rw [if_pos (by assumption)]))
                                        · (unfold formS; (repeat rw [if_neg (by assumption)]); first | rfl | (rw [if_pos (by assumption)]))
                                        · (unfold formS; (repeat rw [if_neg (by assumption)]); first | rfl | (rw [if_pos (by assumption)]))
                                      · simp at h19
                                        refine Fork.mk (fun h20 => ?_) (fun h20 => ?_)
                                        · simp at h20
                                          refine doneVC_mk [] ⟨by kernel_rfl, by kernel_rfl, by kernel_rfl⟩ rfl (eqT (eqC (eqA (eqC (eqS ?_) (eqC (eqI ?_) (by kernel_rfl)))) (eqC (eqB ?_) (by kernel_rfl)))) trivial
                                          · (unfold formS; (repeat rw [if_neg (by assumption)]); first | rfl | (rw [if_pos (by assumption)]))
                                          · (unfold formS; (repeat rw [if_neg (by assumption)]); first | rfl | (rw [if_pos (by assumption)]))
                                          · (unfold formS; (repeat rw [if_neg (by assumption)]); first | rfl | (rw [if_pos (by assumption)]))
                                        · simp at h20
                                          refine Fork.mk (fun h21 => ?_) (fun h21 => ?_)
                                          · simp at h21
                                            refine doneVC_mk [] ⟨by kernel_rfl, by kernel_rfl, by kernel_rfl⟩ rfl (eqT (eqC (eqA (eqC (eqS ?_) (eqC (eqI ?_) (by kernel_rfl)))) (eqC (eqB ?_) (by kernel_rfl)))) trivial
                                            · (unfold formS; (repeat rw [if_neg (by assumption)]); first | rfl | (rw [if_pos (by assumption)]))
                                            · (unfold formS; (repeat rw [if_neg (by assumption)]); first | rfl | (rw [if_pos (by assumption)]))
                                            · (unfold formS; (repeat rw [if_neg (by assumption)]); first | rfl | (rw [if_pos (by assumption)]))
                                          · simp at h21
                                            refine Fork.mk (fun h22 => ?_) (fun h22 => ?_)
                                            · simp at h22
                                              refine doneVC_mk [] ⟨by kernel_rfl, by kernel_rfl, by kernel_rfl⟩ rfl (eqT (eqC (eqA (eqC (eqS ?_) (eqC (eqI ?_) (by kernel_rfl)))) (eqC (eqB ?_) (by kernel_rfl)))) trivial
                                              · (unfold formS; (repeat rw [if_neg (by assumption)]); first | rfl | (rw [if_pos (by assumption)]))
                                              · (unfold formS; (repeat rw [if_neg (by assumption)]); first | rfl | (rw [if_pos (by assumption)]))
                                              · (unfold formS; (repeat rw [if_neg (by assumption)]); first | rfl | (rw [if_pos (by assumption)]))
                                            · simp at h22
                                              refine Fork.mk (fun h23 => ?_) (fun h23 => ?_)
                                              · simp at h23
                                                refine doneVC_mk [] ⟨by kernel_rfl, by kernel_rfl, by kernel_rfl⟩ rfl (eqT (eqC (eqA (eqC (eqS ?_) (eqC (eqI ?_) (by kernel_rfl)))) (eqC (eqB ?_) (by kernel_rfl)))) trivial
                                                · (unfold formS; (repeat rw [if_neg (by assumption)]); first | rfl | (rw [if_pos (by assumption)]))
                                                · (unfold formS; (repeat rw [if_neg (by assumption)]); first | rfl | (rw [if_pos (by assumption)]))
                                                · (unfold formS; (repeat rw [if_neg (by assumption)]); first | rfl | (rw [if_pos (by assumption)]))
                                              · simp at h23
                                                refine Fork.mk (fun h24 => ?_) (fun h24 => ?_)
                                                · simp at h24
                                                  refine doneVC_mk [] ⟨by kernel_rfl, by kernel_rfl, by kernel_rfl⟩ rfl (eqT (eqC (eqA (eqC (eqS ?_) (eqC (eqI ?_) (by kernel_rfl)))) (eqC (eqB ?_) (by kernel_rfl)))) trivial
                                                  · (unfold formS; (repeat rw [if_neg (by assumption)]); first | rfl | (rw [if_pos (by assumption)]))
                                                  · (unfold formS; (repeat rw [if_neg (by assumption)]); first | rfl | (rw [if_pos (by assumption)]))
                                                  · (unfold formS; (repeat rw [if_neg (by assumption)]); first | rfl | (rw [if_pos (by assumption)]))
                                                · simp at h24
                                                  refine Fork.mk (fun h25 => ?_) (fun h25 => ?_)
                                                  · simp at h25
                                                    refine doneVC_mk [] ⟨by kernel_rfl, by kernel_rfl, by kernel_rfl⟩ rfl (eqT (eqC (eqA (eqC (eqS ?_) (eqC (eqI ?_) (by kernel_rfl)))) (eqC (eqB ?_) (by kernel_rfl)))) trivial
                                                    · (unfold formS; (repeat rw [if_neg (by assumption)]); first | rfl | (rw [if_pos (by assumption)]))
                                                    · (unfold formS; (repeat rw [if_neg (by assumption)]); first | rfl | (rw [if_pos (by assumption)]))
                                                    · (unfold formS; (repeat rw [if_neg (by assumption)]); first | rfl | (rw [if_pos (by assumption)]))
                                                  · simp at h25
                                                    refine doneVC_mk [] ⟨by kernel_rfl, by kernel_rfl, by kernel_rfl⟩ rfl (eqT (eqC (eqA (eqC (eqS ?_) (eqC (eqI ?_) (by kernel_rfl)))) (eqC (eqB ?_) (by kernel_rfl)))) trivial
                                                    · (unfold formS; (repeat rw [if_neg (by assumption)]); first | rfl | (rw [if_pos (by assumption)]))
                                                    · (unfold formS; (repeat rw [if_neg (by assumption)]); done)
                                                    · (unfold formS; (repeat rw [if_neg (by assumption)]); done)

structure Call where
  (name key field value : ByteArray) (n m : Int)
def callL (c : Call) : List AV := [.str c.name, .str c.key, .str c.field, .str c.value, .int .i64 c.n, .int .i64 c.m]
def Call.zero : Call := ⟨bs [], bs [], bs [], bs [], 0, 0⟩
def longS (s : ByteArray) : Int := if (64 : Int) < s.size then 4 else 0
/-- a call that takes an argument -/
def takesS (c : Call) (w : Int) (s : ByteArray) : Call × Int :=
  if w = 110 then (if numOk (L s) then ({ c with n := numL (L s) }, 0) else (c, 13)) else
  if w = 109 then (if numOk (L s) then ({ c with m := numL (L s) }, 0) else (c, 13)) else
  if w = 107 then (if L s = [] then (c, 1) else ({ c with key := s }, longS s)) else
  if w = 102 then ({ c with field := s }, longS s) else
  if w = 118 then ({ c with value := s }, longS s) else (c, longS s)
theorem command_Call_takes (c : Call) (w : Int) (s : ByteArray) (hs : s.size ≤ maxLen) : FnOk Tryz.prog 35 [.ptr 0 0, .int .u8 w, .str s] (⟨[(0, .cells true (callL c))], 1, 1, .int .i64 (takesS c w s).2, [(0, .cells true (callL (takesS c w s).1))]⟩) := by
  refine fnOk_of_den tab_ok mixed look35 rfl rfl (by kernel_rfl) fun hb => ?_
  simp only [den, denOps]
  refine Fork.mk (fun h1 => ?_) (fun h1 => ?_)
  · simp at h1
    refine callVC_mk [] (command_number _ ?_) ⟨rfl, rfl, rfl⟩ rfl trivial ?_
    · assumption
    refine Fork.mk (fun h2 => ?_) (fun h2 => ?_)
    · simp at h2
      refine doneVC_mk [] ⟨by kernel_rfl, by kernel_rfl, by kernel_rfl⟩ rfl (eqI ?_) ⟨⟨_, rfl, Or.inl (eqCells (eqC (eqS ?_) (eqC (eqS ?_) (eqC (eqS ?_) (eqC (eqS ?_) (eqC (eqI ?_) (eqC (eqI ?_) (by kernel_rfl))))))))⟩, trivial⟩
      · (simp only [takesS, longS, *, if_true, if_false]; first | rfl | (split <;> first | rfl | omega))
      · (simp only [takesS, longS, *, if_true, if_false]; first | rfl | (split <;> first | rfl | omega))
      · (simp only [takesS, longS, *, if_true, if_false]; first | rfl | (split <;> first | rfl | omega))
      · (simp only [takesS, longS, *, if_true, if_false]; first | rfl | (split <;> first | rfl | omega))
      · (simp only [takesS, longS, *, if_true, if_false]; first | rfl | (split <;> first | rfl | omega))
      · (simp only [takesS, longS, *, if_true, if_false]; first | rfl | (split <;> first | rfl | omega))
      · (simp only [takesS, longS, *, if_true, if_false]; first | rfl | (split <;> first | rfl | omega))
    · simp at h2
      refine Fork.mk (fun h3 => ?_) (fun h3 => ?_)
      · simp at h3
        refine doneVC_mk [] ⟨by kernel_rfl, by kernel_rfl, by kernel_rfl⟩ rfl (eqI ?_) ⟨⟨_, rfl, Or.inl (eqCells (eqC (eqS ?_) (eqC (eqS ?_) (eqC (eqS ?_) (eqC (eqS ?_) (eqC (eqI ?_) (eqC (eqI ?_) (by kernel_rfl))))))))⟩, trivial⟩
        · (simp [takesS, longS, *]; first | done | omega)
        · (simp [takesS, longS, *]; first | done | omega)
        · (simp [takesS, longS, *]; first | done | omega)
        · (simp [takesS, longS, *]; first | done | omega)
        · (simp [takesS, longS, *]; first | done | omega)
        · (simp [takesS, longS, *]; first | done | omega)
        · (simp [takesS, longS, *]; first | done | omega)
      · simp at h3
        (exfalso; omega)
  · simp at h1
    refine Fork.mk (fun h2 => ?_) (fun h2 => ?_)
    · simp at h2
      refine callVC_mk [] (command_number _ ?_) ⟨rfl, rfl, rfl⟩ rfl trivial ?_
      · assumption
      refine Fork.mk (fun h3 => ?_) (fun h3 => ?_)
      · simp at h3
        refine doneVC_mk [] ⟨by kernel_rfl, by kernel_rfl, by kernel_rfl⟩ rfl (eqI ?_) ⟨⟨_, rfl, Or.inl (eqCells (eqC (eqS ?_) (eqC (eqS ?_) (eqC (eqS ?_) (eqC (eqS ?_) (eqC (eqI ?_) (eqC (eqI ?_) (by kernel_rfl))))))))⟩, trivial⟩
        · (simp only [takesS, longS, *, if_true, if_false]; first | rfl | (split <;> first | rfl | omega))
        · (simp only [takesS, longS, *, if_true, if_false]; first | rfl | (split <;> first | rfl | omega))
        · (simp only [takesS, longS, *, if_true, if_false]; first | rfl | (split <;> first | rfl | omega))
        · (simp only [takesS, longS, *, if_true, if_false]; first | rfl | (split <;> first | rfl | omega))
        · (simp only [takesS, longS, *, if_true, if_false]; first | rfl | (split <;> first | rfl | omega))
        · (simp only [takesS, longS, *, if_true, if_false]; first | rfl | (split <;> first | rfl | omega))
        · (simp only [takesS, longS, *, if_true, if_false]; first | rfl | (split <;> first | rfl | omega))
      · simp at h3
        refine Fork.mk (fun h4 => ?_) (fun h4 => ?_)
        · simp at h4
          (exfalso; omega)
        · simp at h4
          refine doneVC_mk [] ⟨by kernel_rfl, by kernel_rfl, by kernel_rfl⟩ rfl (eqI ?_) ⟨⟨_, rfl, Or.inl (eqCells (eqC (eqS ?_) (eqC (eqS ?_) (eqC (eqS ?_) (eqC (eqS ?_) (eqC (eqI ?_) (eqC (eqI ?_) (by kernel_rfl))))))))⟩, trivial⟩
          · (simp only [takesS, longS, *, if_true, if_false]; first | rfl | (split <;> first | rfl | omega))
          · (simp only [takesS, longS, *, if_true, if_false]; first | rfl | (split <;> first | rfl | omega))
          · (simp only [takesS, longS, *, if_true, if_false]; first | rfl | (split <;> first | rfl | omega))
          · (simp only [takesS, longS, *, if_true, if_false]; first | rfl | (split <;> first | rfl | omega))
          · (simp only [takesS, longS, *, if_true, if_false]; first | rfl | (split <;> first | rfl | omega))
          · (simp only [takesS, longS, *, if_true, if_false]; first | rfl | (split <;> first | rfl | omega))
          · (simp only [takesS, longS, *, if_true, if_false]; first | rfl | (split <;> first | rfl | omega))
    · simp at h2
      refine Fork.mk (fun h3 => ?_) (fun h3 => ?_)
      · simp at h3
        refine Fork.mk (fun h4 => ?_) (fun h4 => ?_)
        · simp at h4
          refine doneVC_mk [] ⟨by kernel_rfl, by kernel_rfl, by kernel_rfl⟩ rfl (eqI ?_) ⟨⟨_, rfl, Or.inl (eqCells (eqC (eqS ?_) (eqC (eqS ?_) (eqC (eqS ?_) (eqC (eqS ?_) (eqC (eqI ?_) (eqC (eqI ?_) (by kernel_rfl))))))))⟩, trivial⟩
          · (simp only [takesS, longS, *, if_true, if_false]; first | rfl | (split <;> first | rfl | omega))
          · (simp only [takesS, longS, *, if_true, if_false]; first | rfl | (split <;> first | rfl | omega))
          · (simp only [takesS, longS, *, if_true, if_false]; first | rfl | (split <;> first | rfl | omega))
          · (simp only [takesS, longS, *, if_true, if_false]; first | rfl | (split <;> first | rfl | omega))
          · (simp only [takesS, longS, *, if_true, if_false]; first | rfl | (split <;> first | rfl | omega))
          · (simp only [takesS, longS, *, if_true, if_false]; first | rfl | (split <;> first | rfl | omega))
          · (simp only [takesS, longS, *, if_true, if_false]; first | rfl | (split <;> first | rfl | omega))
        · simp at h4
          refine Fork.mk (fun h5 => ?_) (fun h5 => ?_)
          · simp at h5
            refine doneVC_mk [] ⟨by kernel_rfl, by kernel_rfl, by kernel_rfl⟩ rfl (eqI ?_) ⟨⟨_, rfl, Or.inl (eqCells (eqC (eqS ?_) (eqC (eqS ?_) (eqC (eqS ?_) (eqC (eqS ?_) (eqC (eqI ?_) (eqC (eqI ?_) (by kernel_rfl))))))))⟩, trivial⟩
            · (simp only [takesS, longS, *, if_true, if_false]; first | rfl | (split <;> first | rfl | omega))
            · (simp only [takesS, longS, *, if_true, if_false]; first | rfl | (split <;> first | rfl | omega))
            · (simp only [takesS, longS, *, if_true, if_false]; first | rfl | (split <;> first | rfl | omega))
            · (simp only [takesS, longS, *, if_true, if_false]; first | rfl | (split <;> first | rfl | omega))
            · (simp only [takesS, longS, *, if_true, if_false]; first | rfl | (split <;> first | rfl | omega))
            · (simp only [takesS, longS, *, if_true, if_false]; first | rfl | (split <;> first | rfl | omega))
            · (simp only [takesS, longS, *, if_true, if_false]; first | rfl | (split <;> first | rfl | omega))
          · simp at h5
            refine doneVC_mk [] ⟨by kernel_rfl, by kernel_rfl, by kernel_rfl⟩ rfl (eqI ?_) ⟨⟨_, rfl, Or.inl (eqCells (eqC (eqS ?_) (eqC (eqS ?_) (eqC (eqS ?_) (eqC (eqS ?_) (eqC (eqI ?_) (eqC (eqI ?_) (by kernel_rfl))))))))⟩, trivial⟩
            · (simp [takesS, longS, *]; first | done | omega)
            · (simp only [takesS, longS, *, if_true, if_false]; first | rfl | (split <;> first | rfl | omega))
            · (simp only [takesS, longS, *, if_true, if_false]; first | rfl | (split <;> first | rfl | omega))
            · (simp only [takesS, longS, *, if_true, if_false]; first | rfl | (split <;> first | rfl | omega))
            · (simp only [takesS, longS, *, if_true, if_false]; first | rfl | (split <;> first | rfl | omega))
            · (simp only [takesS, longS, *, if_true, if_false]; first | rfl | (split <;> first | rfl | omega))
            · (simp only [takesS, longS, *, if_true, if_false]; first | rfl | (split <;> first | rfl | omega))
      · simp at h3
        refine Fork.mk (fun h4 => ?_) (fun h4 => ?_)
        · simp at h4
          refine Fork.mk (fun h5 => ?_) (fun h5 => ?_)
          · simp at h5
            refine doneVC_mk [] ⟨by kernel_rfl, by kernel_rfl, by kernel_rfl⟩ rfl (eqI ?_) ⟨⟨_, rfl, Or.inl (eqCells (eqC (eqS ?_) (eqC (eqS ?_) (eqC (eqS ?_) (eqC (eqS ?_) (eqC (eqI ?_) (eqC (eqI ?_) (by kernel_rfl))))))))⟩, trivial⟩
            · (simp only [takesS, longS, *, if_true, if_false]; first | rfl | (split <;> first | rfl | omega))
            · (simp only [takesS, longS, *, if_true, if_false]; first | rfl | (split <;> first | rfl | omega))
            · (simp only [takesS, longS, *, if_true, if_false]; first | rfl | (split <;> first | rfl | omega))
            · (simp only [takesS, longS, *, if_true, if_false]; first | rfl | (split <;> first | rfl | omega))
            · (simp only [takesS, longS, *, if_true, if_false]; first | rfl | (split <;> first | rfl | omega))
            · (simp only [takesS, longS, *, if_true, if_false]; first | rfl | (split <;> first | rfl | omega))
            · (simp only [takesS, longS, *, if_true, if_false]; first | rfl | (split <;> first | rfl | omega))
          · simp at h5
            refine doneVC_mk [] ⟨by kernel_rfl, by kernel_rfl, by kernel_rfl⟩ rfl (eqI ?_) ⟨⟨_, rfl, Or.inl (eqCells (eqC (eqS ?_) (eqC (eqS ?_) (eqC (eqS ?_) (eqC (eqS ?_) (eqC (eqI ?_) (eqC (eqI ?_) (by kernel_rfl))))))))⟩, trivial⟩
            · (simp [takesS, longS, *]; first | done | omega)
            · (simp only [takesS, longS, *, if_true, if_false]; first | rfl | (split <;> first | rfl | omega))
            · (simp only [takesS, longS, *, if_true, if_false]; first | rfl | (split <;> first | rfl | omega))
            · (simp only [takesS, longS, *, if_true, if_false]; first | rfl | (split <;> first | rfl | omega))
            · (simp only [takesS, longS, *, if_true, if_false]; first | rfl | (split <;> first | rfl | omega))
            · (simp only [takesS, longS, *, if_true, if_false]; first | rfl | (split <;> first | rfl | omega))
            · (simp only [takesS, longS, *, if_true, if_false]; first | rfl | (split <;> first | rfl | omega))
        · simp at h4
          refine Fork.mk (fun h5 => ?_) (fun h5 => ?_)
          · simp at h5
            refine Fork.mk (fun h6 => ?_) (fun h6 => ?_)
            · simp at h6
              refine doneVC_mk [] ⟨by kernel_rfl, by kernel_rfl, by kernel_rfl⟩ rfl (eqI ?_) ⟨⟨_, rfl, Or.inl (eqCells (eqC (eqS ?_) (eqC (eqS ?_) (eqC (eqS ?_) (eqC (eqS ?_) (eqC (eqI ?_) (eqC (eqI ?_) (by kernel_rfl))))))))⟩, trivial⟩
              · (simp only [takesS, longS, *, if_true, if_false]; first | rfl | (split <;> first | rfl | omega))
              · (simp only [takesS, longS, *, if_true, if_false]; first | rfl | (split <;> first | rfl | omega))
              · (simp only [takesS, longS, *, if_true, if_false]; first | rfl | (split <;> first | rfl | omega))
              · (simp only [takesS, longS, *, if_true, if_false]; first | rfl | (split <;> first | rfl | omega))
              · (simp only [takesS, longS, *, if_true, if_false]; first | rfl | (split <;> first | rfl | omega))
              · (simp only [takesS, longS, *, if_true, if_false]; first | rfl | (split <;> first | rfl | omega))
              · (simp only [takesS, longS, *, if_true, if_false]; first | rfl | (split <;> first | rfl | omega))
            · simp at h6
              refine doneVC_mk [] ⟨by kernel_rfl, by kernel_rfl, by kernel_rfl⟩ rfl (eqI ?_) ⟨⟨_, rfl, Or.inl (eqCells (eqC (eqS ?_) (eqC (eqS ?_) (eqC (eqS ?_) (eqC (eqS ?_) (eqC (eqI ?_) (eqC (eqI ?_) (by kernel_rfl))))))))⟩, trivial⟩
              · (simp [takesS, longS, *]; first | done | omega)
              · (simp only [takesS, longS, *, if_true, if_false]; first | rfl | (split <;> first | rfl | omega))
              · (simp only [takesS, longS, *, if_true, if_false]; first | rfl | (split <;> first | rfl | omega))
              · (simp only [takesS, longS, *, if_true, if_false]; first | rfl | (split <;> first | rfl | omega))
              · (simp only [takesS, longS, *, if_true, if_false]; first | rfl | (split <;> first | rfl | omega))
              · (simp only [takesS, longS, *, if_true, if_false]; first | rfl | (split <;> first | rfl | omega))
              · (simp only [takesS, longS, *, if_true, if_false]; first | rfl | (split <;> first | rfl | omega))
          · simp at h5
            refine Fork.mk (fun h6 => ?_) (fun h6 => ?_)
            · simp at h6
              refine doneVC_mk [] ⟨by kernel_rfl, by kernel_rfl, by kernel_rfl⟩ rfl (eqI ?_) ⟨⟨_, rfl, Or.inl (eqCells (eqC (eqS ?_) (eqC (eqS ?_) (eqC (eqS ?_) (eqC (eqS ?_) (eqC (eqI ?_) (eqC (eqI ?_) (by kernel_rfl))))))))⟩, trivial⟩
              · (simp [takesS, longS, *]; first | done | omega)
              · (simp [takesS, longS, *]; first | done | omega)
              · (simp [takesS, longS, *]; first | done | omega)
              · (simp [takesS, longS, *]; first | done | omega)
              · (simp [takesS, longS, *]; first | done | omega)
              · (simp [takesS, longS, *]; first | done | omega)
              · (simp [takesS, longS, *]; first | done | omega)
            · simp at h6
              refine doneVC_mk [] ⟨by kernel_rfl, by kernel_rfl, by kernel_rfl⟩ rfl (eqI ?_) ⟨⟨_, rfl, Or.inl (eqCells (eqC (eqS ?_) (eqC (eqS ?_) (eqC (eqS ?_) (eqC (eqS ?_) (eqC (eqI ?_) (eqC (eqI ?_) (by kernel_rfl))))))))⟩, trivial⟩
              · (simp only [takesS, longS, *, if_true, if_false]; first | rfl | (split <;> first | rfl | omega))
              · (simp [takesS, longS, *]; first | done | omega)
              · (simp [takesS, longS, *]; first | done | omega)
              · (simp [takesS, longS, *]; first | done | omega)
              · (simp [takesS, longS, *]; first | done | omega)
              · (simp [takesS, longS, *]; first | done | omega)
              · (simp [takesS, longS, *]; first | done | omega)

end Go.Proofs.YtehnjdcahbehjaaGreatDoor
