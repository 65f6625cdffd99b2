/- The engine, part W: the soundness of a call. -/
import Derived.Test.YtehnjdcahbehjaaGreatDoorEngU
namespace Go.Eng
open Go
set_option linter.unusedSimpArgs false
set_option linter.unusedVariables false

section
variable {P : Program} {E : TT} {o : Oper} {t : List (Nat × AV)} {h : List (Nat × Ent)} {nn : Nat} {K : Con → Prop}

/-- what a contract, under the caller's names, asks and does -/
theorem call_frame {f : Nat} {args : List AV} {c : Con} {σ : Nat → Nat} {pre : List (Nat × Ent)} (hf : FnOk P f args c) (hσ : NamesOk σ c.n c.n' nn)
    (hw : wants (noRo c.up) h (renH σ c.pre) pre) (hb : ∀ i e, get h i = some e → i < nn) :
    Con.Wf ⟨pre, nn, nn + (c.n' - c.n), ren σ c.res, renH σ c.up⟩ ∧ (∀ i e, get pre i = some e → get h i = some e) ∧
    ∀ (ρ : Names) (F : Nat → Nat → Prop) (w : World) (vs : List Value), concL ρ (renL σ args) = some vs → PreOk ⟨pre, nn, nn + (c.n' - c.n), ren σ c.res, renH σ c.up⟩ ρ F w →
      Calls P f vs.toArray w fun e w' => ∃ ρ' F' r, e = .returned r ∧ conc ρ' (ren σ c.res) = some r ∧ PostOk ⟨pre, nn, nn + (c.n' - c.n), ren σ c.res, renH σ c.up⟩ ρ F w ρ' F' w' := by
  obtain ⟨w1, w2⟩ := wants_get hw
  have hle := hf.wf.le
  have preb : ∀ i e, (i, e) ∈ c.pre → i < c.n := fun i e hm => (belowH_spec hf.pre_below hm).1
  have upb : ∀ i e, (i, e) ∈ c.up → i < c.n' := fun i e hm => by
    obtain ⟨e', he'⟩ := get_of_mem hm
    exact hf.wf.news i e' he'
  have gpre : ∀ i, i < c.n → get (renH σ c.pre) (σ i) = (get c.pre i).map (renE σ) :=
    get_renH (m := c.n) (fun i j hij hi hj => hσ.inj i j hij (by omega) (by omega)) preb
  have gup : ∀ i, i < c.n' → get (renH σ c.up) (σ i) = (get c.up i).map (renE σ) := get_renH (m := c.n') hσ.inj upb
  have lo : ∀ i, i < c.n' → σ i < nn → i < c.n := fun i hi hs => by
    by_cases h1 : i < c.n
    · exact h1
    · have := hσ.new i (by omega); omega
  -- the entries that are wanted, as the caller has them
  have want : ∀ i e, get c.pre i = some e → ∃ e', get pre (σ i) = some e' ∧ get h (σ i) = some e' ∧ (normE e' = normE (renE σ e) ∨ (noRo c.up = true ∧ normE e'.ro = normE (renE σ e))) := fun i e hi => by
    have hin := hf.wf.olds i e hi
    exact w1 (σ i) (renE σ e) (by rw [gpre i hin, hi]; rfl)
  refine ⟨⟨by simp only; omega, fun k ⟨hk, e, he⟩ => ?_, fun k e he => ?_, fun k e he => hb k e (w2 k e he).1⟩, fun k e he => (w2 k e he).1, ?_⟩
  · obtain ⟨i, e0, rfl, hm⟩ := get_renH_some he
    have hi' := upb i e0 hm
    have hin := lo i hi' hk
    obtain ⟨eu, heu⟩ := get_of_mem hm
    obtain ⟨e1, he1, hwr⟩ := hf.wf.turns i ⟨hin, eu, heu⟩
    obtain ⟨e', g1, g2, g3⟩ := want i e1 he1
    refine ⟨e', g1, ?_⟩
    rcases g3 with g3 | ⟨_, g3⟩
    · rw [like_wr g3, renE_wr]; exact hwr
    · exact ro_wr (by rw [like_wr g3, renE_wr]; exact hwr)
  · obtain ⟨i, e0, rfl, hm⟩ := get_renH_some he
    have hi' := upb i e0 hm
    simp only
    by_cases hin : i < c.n
    · have := hσ.old i hin; omega
    · rw [hσ.new i (by omega)]; omega
  · intro ρ F w vs hvs hp
    have hh : HeapOk ρ (get pre) F w := hp.heap
    -- the call's own names
    have hag : ∀ i, i < c.n → (fun i => ρ (σ i)) i = (fun i => if i < c.n then ρ (σ i) else none) i := fun i hi => by simp [hi]
    have hargs : concL (fun i => if i < c.n then ρ (σ i) else none) args = some vs := by
      rw [concL_ren] at hvs
      rw [← concL_below hag _ hf.args_below]; exact hvs
    -- their footprints
    have hfoot : ∀ i, ∃ G : Nat → Prop, (∀ e, get c.pre i = some e → ∃ v, (if i < c.n then ρ (σ i) else none) = some v ∧ Ent.holds (fun i => if i < c.n then ρ (σ i) else none) e v w G) ∧ ∀ b, G b → F (σ i) b := by
      intro i
      cases hi : get c.pre i with
      | none => exact ⟨fun _ => False, (fun e he => by cases he), fun b hb' => hb'.elim⟩
      | some e =>
        have hin := hf.wf.olds i e hi
        obtain ⟨e', g1, g2, g3⟩ := want i e hi
        obtain ⟨v, hv, hhold⟩ := hh.ents _ _ g1
        obtain ⟨G, hG, hsub⟩ : ∃ G : Nat → Prop, Ent.holds ρ (renE σ e) v w G ∧ ∀ b, G b → F (σ i) b := by
          rcases g3 with g3 | ⟨_, g3⟩
          · exact ⟨_, like_hold g3 hhold, fun _ h => h⟩
          · obtain ⟨G, k1, k2⟩ := holds_ro hhold
            exact ⟨G, like_hold g3 k1, k2⟩
        refine ⟨G, fun e2 he2 => ?_, hsub⟩
        cases he2
        have hbe := (belowH_spec hf.pre_below (get_mem hi)).2
        exact ⟨v, by rw [if_pos hin]; exact hv, holds_below hag hbe (holds_ren.1 hG)⟩
    obtain ⟨Fc, hFc⟩ := Classical.skolem.1 hfoot
    have hpre : PreOk c (fun i => if i < c.n then ρ (σ i) else none) Fc w := by
      refine ⟨⟨fun i e hi => (hFc i).1 e hi, fun i j ei ej hij hi hj hwi b hbi hbj => ?_, fun i e hi b hbb => ?_⟩, fun i h1 _ => by simp; omega⟩
      · have hin := hf.wf.olds i ei hi
        have hjn := hf.wf.olds j ej hj
        obtain ⟨ei', g1, _, g3⟩ := want i ei hi
        obtain ⟨ej', k1, _, _⟩ := want j ej hj
        have hw' : ei'.wr = true := by
          rcases g3 with g3 | ⟨_, g3⟩
          · rw [like_wr g3, renE_wr]; exact hwi
          · exact ro_wr (by rw [like_wr g3, renE_wr]; exact hwi)
        exact hh.apart (σ i) (σ j) ei' ej' (fun e => hij (hσ.inj i j e (by omega) (by omega))) g1 k1 hw' b ((hFc i).2 b hbi) ((hFc j).2 b hbj)
      · obtain ⟨e', g1, _, _⟩ := want i e hi
        exact hh.low _ _ g1 b ((hFc i).2 b hbb)
    refine Calls.mono (hf.run _ Fc w vs hargs hpre fun i hi => by simp; omega) fun e w' ⟨ρ', F', r, he, hr, hpost⟩ => ?_
    refine ⟨fun k => if k < nn ∨ nn + (c.n' - c.n) ≤ k then ρ k else ρ' (c.n + (k - nn)), fun k b => ∃ i, i < c.n' ∧ σ i = k ∧ F' i b, r, he, ?_, ?_⟩
    all_goals
      have hle2 : ∀ i v, ρ' i = some v → (if σ i < nn ∨ nn + (c.n' - c.n) ≤ σ i then ρ (σ i) else ρ' (c.n + (σ i - nn))) = some v := by
        intro i v hv
        by_cases h1 : i < c.n
        · rw [hpost.names i (.inl h1), if_pos h1] at hv
          rw [if_pos (.inl (hσ.old i h1))]; exact hv
        · by_cases h2 : i < c.n'
          · have h3 := hσ.new i (by omega)
            rw [if_neg (by omega), h3, show c.n + (nn + (i - c.n) - nn) = i by omega]; exact hv
          · rw [hpost.names i (.inr (by omega)), if_neg (by omega)] at hv; cases hv
    · rw [conc_ren]
      exact conc_mono (fun i v hv => hle2 i v hv) _ _ hr
    · have hFeq : ∀ i, i < c.n' → (fun b => ∃ j, j < c.n' ∧ σ j = σ i ∧ F' j b) = F' i := fun i hi => by
        funext b
        apply propext
        constructor
        · rintro ⟨j, hj, hji, hb'⟩
          rwa [hσ.inj j i hji hj hi] at hb'
        · intro hb'; exact ⟨i, hi, rfl, hb'⟩
      have hFb : ∀ i, i < c.n' → ∀ b, (∃ j, j < c.n' ∧ σ j = σ i ∧ F' j b) → F' i b := fun i hi b ⟨j, hj, hji, hb'⟩ => by
        rwa [hσ.inj j i hji hj hi] at hb'
      have upk : ∀ k e', get (renH σ c.up) k = some e' → ∃ i e, i < c.n' ∧ σ i = k ∧ get c.up i = some e ∧ e' = renE σ e := fun k e' hk => by
        obtain ⟨i, e0, rfl, hm⟩ := get_renH_some hk
        have hi' := upb i e0 hm
        obtain ⟨eu, heu⟩ := get_of_mem hm
        rw [gup i hi', heu] at hk
        exact ⟨i, eu, hi', rfl, heu, (Option.some.inj hk).symm⟩
      have wrsk : ∀ i, c.wrs i → Con.wrs ⟨pre, nn, nn + (c.n' - c.n), ren σ c.res, renH σ c.up⟩ (σ i) := fun i ⟨hi, e, he⟩ => by
        refine ⟨hσ.old i hi, renE σ e, ?_⟩
        show get (renH σ c.up) (σ i) = _
        rw [gup i (by omega), he]; rfl
      refine ⟨fun k hk => ?_, hpost.os, hpost.tape, hpost.output, hpost.size, fun b hb' hn => ?_, ⟨fun k e' hk => ?_, fun k1 k2 e1 e2 hne hk1 hk2 hw1 b hb1 hb2 => ?_, fun k e' hk b hbb => ?_⟩, fun k e' hk b hbb => ?_⟩
      · simp only at hk ⊢
        rw [if_pos hk]
      · exact hpost.same b hb' fun i hi hib => hn (σ i) (wrsk i hi) ((hFc i).2 b hib)
      · obtain ⟨i, e0, hi', rfl, hu, rfl⟩ := upk k e' hk
        obtain ⟨v, hv, hhold⟩ := hpost.ups.ents i e0 hu
        refine ⟨v, hle2 i v hv, ?_⟩
        rw [hFeq i hi', holds_ren]
        exact Ent.holds_mono (fun i v hv => hle2 i v hv) hhold
      · obtain ⟨i, e0, hi', rfl, hu, rfl⟩ := upk k1 e1 hk1
        obtain ⟨j, e3, hj', rfl, hu2, rfl⟩ := upk k2 e2 hk2
        replace hb1 := hFb i hi' b hb1
        replace hb2 := hFb j hj' b hb2
        exact hpost.ups.apart i j e0 e3 (fun e => hne (by rw [e])) hu hu2 (by rw [renE_wr] at hw1; exact hw1) b hb1 hb2
      · obtain ⟨i, e0, hi', rfl, hu, rfl⟩ := upk k e' hk
        replace hbb := hFb i hi' b hbb
        exact hpost.ups.low i e0 hu b hbb
      · obtain ⟨i, e0, hi', rfl, hu, rfl⟩ := upk k e' hk
        replace hbb := hFb i hi' b hbb
        rcases hpost.foot i e0 hu b hbb with h1 | ⟨j, hj, hjb⟩ | ⟨h0, j, ej, hj, hj0, hjb⟩
        · exact .inl h1
        · exact .inr (.inl ⟨σ j, wrsk j hj, (hFc j).2 b hjb⟩)
        · obtain ⟨ej', g1, _, g3⟩ := want j ej hj
          rcases g3 with g3 | ⟨g4, g3⟩
          · exact .inr (.inr ⟨by rw [renE_wr]; exact h0, σ j, ej', g1, by rw [like_wr g3, renE_wr]; exact hj0, (hFc j).2 b hjb⟩)
          · exfalso
            rcases noRo_get g4 hu with h5 | h5
            · rw [h0] at h5; cases h5
            · subst h5
              obtain ⟨v, _, hhold⟩ := hpost.ups.ents i _ hu
              exact hhold b hbb

theorem ok_callFn (hb : ∀ i e, get h i = some e → i < nn) {c : Call} (ho : o.op = .call c) {fo : Operand} (hc : c.callee = .value fo) {vs caps : List AV} {g : Nat} (hvs : evL t c.args.toList = some vs) (hf : evS t fo = some (.fn g caps))
    (hv : callVC P g (vs ++ caps) h nn K) : ∃ c, Good P o t h nn c ∧ K c := by
  obtain ⟨args, cc, R, pre, hfn, ⟨h1, h2, h3⟩, hren, hw, hk⟩ := hv
  have hσ := namesOk (m' := cc.n') h1 h2 h3
  obtain ⟨wf, hpre, hcall⟩ := call_frame hfn hσ hw hb
  refine ⟨_, ⟨fun ρ F a w K' Q hop hp hK => ?_, wf, hpre, rfl⟩, hk⟩
  have hl := evL_conc (ρ := ρ) (a := a) hvs fun y hy v hv => hop y (by simp [ho, Op.operands, Call.operands, hc]; exact .inr (Array.mem_toList_iff.1 hy)) v hv
  obtain ⟨uf, huf, ef⟩ := hop fo (by simp [ho, Op.operands, Call.operands, hc]) _ hf
  simp only [conc] at huf
  split at huf
  · rename_i cl hcl
    cases huf
    have hall : concL ρ (renL (names R cc.n nn) args) = some (c.args.toList.map a.eval ++ cl) := by
      rw [like_concL hren]
      exact concL_append.2 ⟨_, _, hl, hcl, rfl⟩
    have hcc := hcall ρ F w _ hall hp
    unfold Oper.wp
    have harr : c.args.map a.eval ++ cl.toArray = (c.args.toList.map a.eval ++ cl).toArray := by
      apply Array.toList_inj.1; simp
    have hrun : (execOp a.eval o).run P w = .ok (.enter g (c.args.toList.map a.eval ++ cl).toArray) w := by
      have := hfn.call (c.args.toList.map a.eval ++ cl).toArray w
      simp only [execOp, ho, resolve, hc, ef, Deferred.ofValue, Sem.run_bind, Sem.run_pure, Result.andThen_ok, invoke, Array.empty_append, harr, this]
    rw [hrun, Oper.upon_enter]
    refine Calls.mono hcc fun e w' ⟨ρ', F', r, he, hr, hpost⟩ => ?_
    subst he
    exact hK ρ' F' w' r hpost hr
  · cases huf
end
end Go.Eng
