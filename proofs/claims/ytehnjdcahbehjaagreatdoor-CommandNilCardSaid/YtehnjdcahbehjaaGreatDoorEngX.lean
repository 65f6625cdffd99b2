/- The engine, part X: one operation, whatever it is. -/
import Derived.Test.YtehnjdcahbehjaaGreatDoorEngW
namespace Go.Eng
open Go
set_option linter.unusedSimpArgs false
set_option linter.unusedVariables false

section
variable {P : Program} {E : TT} {o : Oper} {t : List (Nat × AV)} {h : List (Nat × Ent)} {nn : Nat} {K : Con → Prop}

theorem opVC_ok (hE : E.Ok P) (hb : ∀ i e, get h i = some e → i < nn) (hv : opVC E P o t h nn K) : ∃ c, Good P o t h nn c ∧ K c := by
  unfold opVC at hv
  split at hv
  · exact ok_move hb (.inl (by assumption)) hv
  · exact ok_move hb (.inr (by assumption)) hv
  · exact ok_pick hb (by assumption) hv
  · exact ok_alloc hE (by assumption) hv
  · exact ok_box (by assumption) hv
  · exact ok_build hE hb (by assumption) hv
  · exact ok_buildSlice hE hb (by assumption) hv
  · exact ok_load hE hb (by assumption) hv
  · exact ok_store hE hb (by assumption) hv
  · exact ok_nil hb (by assumption) hv
  · rename_i op T x y yT ho
    obtain ⟨a, ha, hv⟩ := withV_elim hv
    obtain ⟨b, hb', hv⟩ := withV_elim hv
    split at hv
    · obtain ⟨hv⟩ := hv
      exact hv
    split at hv
    · obtain ⟨hv⟩ := hv
      exact hv
    · exact ok_bin (x := x) (y := y) hE hb ho (by simp only [withV, ha, hb']; exact hv)
  · exact ok_un hb (by assumption) hv
  · rename_i src dst x ho
    obtain ⟨a, ha, hv⟩ := withV_elim hv
    split at hv
    · obtain ⟨hv⟩ := hv
      exact hv
    · exact ok_convert (x := x) hE hb ho (by simp only [withV, ha]; exact hv)
  · exact ok_makeFunc hb (by assumption) hv
  · exact ok_makeSlice hE hb (by assumption) hv
  · rename_i T x lo hi mx ho
    obtain ⟨a, ha, hv⟩ := withV_elim hv
    split at hv
    · obtain ⟨hv⟩ := hv
      exact hv
    · exact ok_slice (x := x) hE hb ho (by simp only [withV, ha]; exact hv)
  · exact ok_fieldAddr hE hb (by assumption) hv
  · exact ok_field hE hb (by assumption) hv
  · exact ok_indexAddr hE hb (by assumption) hv
  · exact ok_index hE hb (by assumption) hv
  · exact ok_extract hb (by assumption) hv
  · rename_i c ho
    split at hv
    · rename_i vs hvs
      split at hv
      · rename_i fo hc
        split at hv
        · rename_i g caps hf
          obtain ⟨hv⟩ := hv
          exact ok_callFn hb ho hc hvs hf hv
        · exact hv.elim
      · rename_i b hc
        split at hv
        · rename_i hT
          split at hv
          · split at hv
            · obtain ⟨hv⟩ := hv
              exact hv
            · exact ok_len hE hb ho hc hvs hT hv
          · exact hv.elim
        · rename_i hT
          split at hv
          · rename_i iu hlu
            split at hv
            · rename_i e hk
              exact ok_append hE hb ho hc hvs hT hlu (.inl ⟨e, hk⟩) hv
            · rename_i hk
              exact ok_append hE hb ho hc hvs hT hlu (.inr hk) hv
            · obtain ⟨hv⟩ := hv
              exact hv
          · exact hv.elim
        · split at hv
          · rename_i hm
            exact ok_max hb ho hc hvs hm hv
          · exact hv.elim
        · split at hv
          · rename_i hm
            exact ok_min hb ho hc hvs hm hv
          · exact hv.elim
        · obtain ⟨hv⟩ := hv
          exact hv
      · obtain ⟨hv⟩ := hv
        exact hv
    · exact hv.elim
  · obtain ⟨hv⟩ := hv
    exact hv
end
end Go.Eng
