/- The engine, part Ye: a contract from a body. -/
import Derived.Test.YtehnjdcahbehjaaGreatDoorEngYd
import Derived.Test.YtehnjdcahbehjaaGreatDoorEngYf
namespace Go.Eng
open Go
set_option linter.unusedSimpArgs false
set_option linter.unusedVariables false

section
variable {P : Program} {E : TT}

/-- at the end of a body -/
theorem done_post (hE : E.Ok P) {c : Con} {args : List AV} {N : Nat} (hok : conOk c args N = true) {ρ : Names} {F : Nat → Nat → Prop} {w : World} (hp : PreOk c ρ F w) (hhi : ∀ i, c.n' ≤ i → ρ i = none)
    {B : Base} (hB : B = ⟨w, fun b => b < w.heap.size ∧ ∀ i, c.wrs i → ¬ F i b, fun b => ∃ i e, get c.pre i = some e ∧ F i b, N, c.n, ρ⟩)
    {rs : List ResultVar} {t : List (Nat × AV)} {h : List (Nat × Ent)} {R : List Nat} {a : Act} {w' : World} {ρf : Names} {Ff : Nat → Nat → Prop} (r : Rep B ρf (get t) (get h) Ff a w')
    (h1 : lenIs R (c.n' - c.n) = true) (h2 : nodupN R = true) (h3 : allGe c.n R = true) {vs : List AV} (hvs : resultsAV E t h rs = some vs) (hpack : norm (packRes vs) = norm (ren (back c.n R) c.res)) (hups : upsIn (back c.n R) c.n h c.up) :
    ∃ ρ' F' us v, (List.mapM (readVar a) rs : Sem (List Value)).run P w' = .ok us w' ∧ us.length = rs.length ∧ v = (match us with | [u] => u | us => .tuple us.toArray) ∧ conc ρ' c.res = some v ∧ PostOk c ρ F w ρ' F' w' := by
  unfold conOk at hok
  simp only [Bool.and_eq_true] at hok
  obtain ⟨⟨⟨⟨⟨⟨⟨⟨k1, k2⟩, k3⟩, k4⟩, k5⟩, k6⟩, k7⟩, k8⟩, k9⟩ := hok
  have hle : c.n ≤ c.n' := Nat.le_of_ble_eq_true k1
  have hl := lenIs_spec h1
  have lo : ∀ i, i < c.n → back c.n R i = i := fun i hi => by
    unfold back
    have : Nat.blt i c.n = true := Nat.ble_eq_true_of_le hi
    rw [this]
  have hi' : ∀ i, c.n ≤ i → back c.n R i = nthD R (i - c.n) := fun i hi => by
    unfold back
    have : Nat.blt i c.n = false := by
      cases hb : Nat.blt i c.n with
      | false => rfl
      | true => have : i < c.n := Nat.le_of_ble_eq_true hb; omega
    rw [this]
  have hge : ∀ i, c.n ≤ i → i < c.n' → c.n ≤ back c.n R i := fun i hi hlt => by
    rw [hi' i hi]
    exact allGe_spec h3 _ (List.mem_of_getElem? (nthD_get (by omega)))
  have inj : ∀ i j, i < c.n' → j < c.n' → back c.n R i = back c.n R j → i = j := fun i j hi hj hij => by
    by_cases a1 : i < c.n <;> by_cases a2 : j < c.n
    · rw [lo i a1, lo j a2] at hij; exact hij
    · have := hge j (by omega) hj; rw [← hij, lo i a1] at this; omega
    · have := hge i (by omega) hi; rw [hij, lo j a2] at this; omega
    · rw [hi' i (by omega), hi' j (by omega)] at hij
      have := nthD_inj (nodupN_spec h2) (by omega) (by omega) hij
      omega
  -- the names as the contract has them
  have hag : ∀ i, i < c.n' → (fun i => ρf (back c.n R i)) i = (fun i => if i < c.n ∨ c.n' ≤ i then ρ i else ρf (back c.n R i)) i := fun i hi => by
    by_cases a1 : i < c.n
    · simp only [a1, true_or, if_true, lo i a1]
      obtain ⟨e, he⟩ := covers_spec k8 i a1
      obtain ⟨v, hv, _⟩ := hp.heap.ents i e he
      have := r.keep i v (by rw [hB]; exact hv)
      rw [this, hv]
    · simp only; rw [if_neg (by omega)]
  have hsome : ∀ i, i < c.n → ∃ v, ρ i = some v := fun i hi => by
    obtain ⟨e, he⟩ := covers_spec k8 i hi
    obtain ⟨v, hv, _⟩ := hp.heap.ents i e he
    exact ⟨v, hv⟩
  have upb : ∀ {i e}, get c.up i = some e → i < c.n' ∧ e.below c.n' = true := fun he => belowH_spec k5 (get_mem he)
  have hfoot : ∀ i, ∃ G : Nat → Prop, (∀ e, get c.up i = some e → ∃ v, (if i < c.n ∨ c.n' ≤ i then ρ i else ρf (back c.n R i)) = some v ∧ Ent.holds (fun i => if i < c.n ∨ c.n' ≤ i then ρ i else ρf (back c.n R i)) e v w' G) ∧
      ∀ b, G b → Ff (back c.n R i) b ∧ ∃ e', get h (back c.n R i) = some e' ∧ ∀ e, get c.up i = some e → e.wr = true → e'.wr = true := by
    intro i
    cases hi : get c.up i with
    | none => exact ⟨fun _ => False, (fun e he => by cases he), fun b hb' => hb'.elim⟩
    | some e =>
      obtain ⟨b1, b2⟩ := upb hi
      rcases upsIn_get hups hi with ⟨rfl, hin⟩ | ⟨e', g1, g3⟩
      · obtain ⟨v, hv⟩ := hsome i hin
        refine ⟨fun _ => False, fun e2 he2 => ?_, fun b hb' => hb'.elim⟩
        cases he2
        exact ⟨v, by rw [if_pos (.inl hin)]; exact hv, fun b hb => hb⟩
      · obtain ⟨v, hv, hhold⟩ := r.heap.ents _ _ g1
        obtain ⟨G, hG, hsub⟩ : ∃ G : Nat → Prop, Ent.holds ρf (renE (back c.n R) e) v w' G ∧ ∀ b, G b → Ff (back c.n R i) b := by
          rcases g3 with g3 | g3
          · exact ⟨_, like_hold g3 hhold, fun _ h => h⟩
          · obtain ⟨G, k1, k2⟩ := holds_ro hhold
            exact ⟨G, like_hold g3 k1, k2⟩
        refine ⟨G, fun e2 he2 => ?_, fun b hb => ⟨hsub b hb, e', g1, fun e2 he2 hw => ?_⟩⟩
        · cases he2
          exact ⟨v, (hag i b1).symm.trans hv, holds_below hag b2 (holds_ren.1 hG)⟩
        · cases he2
          rcases g3 with g3 | g3
          · rw [like_wr g3, renE_wr]; exact hw
          · exact ro_wr (by rw [like_wr g3, renE_wr]; exact hw)
  obtain ⟨Fc, hFc⟩ := Classical.skolem.1 hfoot
  obtain ⟨us, hus, hrun⟩ := results_run hE r hvs
  have hw0 : B.w0 = w := by rw [hB]
  have away : ∀ b, b < w.heap.size → (∀ i, c.wrs i → ¬ F i b) → B.C0 b := fun b h1 h2 => by rw [hB]; exact ⟨h1, h2⟩
  have wrsOf : ∀ {i e}, get c.pre i = some e → e.wr = true → c.wrs i := fun he hw => ⟨(belowH_spec k3 (get_mem he)).1, wrIn_spec k7 (get_mem he) hw⟩
  refine ⟨fun i => if i < c.n ∨ c.n' ≤ i then ρ i else ρf (back c.n R i), Fc, us, _, hrun, ?_, rfl, ?_, ⟨fun i hi => if_pos hi, r.os.trans (by rw [hw0]), r.tape.trans (by rw [hw0]), r.output.trans (by rw [hw0]), by have := r.grown; rwa [hw0] at this,
    fun b hb hn => ?_, ⟨fun i e hi => (hFc i).1 e hi, fun i j ei ej hij hi hj hwi b hbi hbj => ?_, fun i e hi b hbb => ?_⟩, fun i e hi b hbb => ?_⟩⟩
  · have l1 := concL_length hus
    rw [l1]
    clear hrun hus hpack l1
    induction rs generalizing vs with
    | nil => simp only [resultsAV, Option.some.injEq] at hvs; subst hvs; rfl
    | cons x rs ih =>
      simp only [resultsAV] at hvs
      split at hvs
      · split at hvs
        · rename_i h5; cases hvs; simp [ih h5]
        · cases hvs
      · cases hvs
  · rw [← conc_below hag c.res k4, ← conc_ren, ← like_conc hpack]
    match vs, us, hus with
    | [], us, hus => simp only [concL, Option.some.injEq] at hus; subst hus; simp [packRes, conc, concL]
    | [x], us, hus =>
      obtain ⟨u, us', hu, hus', rfl⟩ := concL_cons.1 hus
      simp only [concL, Option.some.injEq] at hus'; subst hus'
      simpa [packRes] using hu
    | x :: y :: vs, us, hus =>
      obtain ⟨u, us', hu, hus', rfl⟩ := concL_cons.1 hus
      obtain ⟨u2, us2, hu2, hus2, rfl⟩ := concL_cons.1 hus'
      simp only [packRes, conc, hus]
  · have := r.ctx b (away b hb hn)
    rw [hw0] at this
    exact this.2
  · obtain ⟨b1, b2⟩ := upb hi
    obtain ⟨b3, b4⟩ := upb hj
    obtain ⟨f1, ei', g1, g2⟩ := (hFc i).2 b hbi
    obtain ⟨f2, ej', g3, g4⟩ := (hFc j).2 b hbj
    exact r.heap.apart _ _ ei' ej' (fun e => hij (inj i j b1 b3 e)) g1 g3 (g2 ei hi hwi) b f1 f2
  · obtain ⟨f1, ei', g1, g2⟩ := (hFc i).2 b hbb
    exact r.heap.low _ _ g1 b f1
  · obtain ⟨f1, e', g1, g2⟩ := (hFc i).2 b hbb
    have hnear := r.near _ _ g1 b f1
    rw [hw0] at hnear
    cases hwe : e.wr with
    | true =>
      have hna := r.apart _ _ g1 (g2 e hi hwe) b f1
      by_cases hb : b < w.heap.size
      · by_cases hex : ∃ j, c.wrs j ∧ F j b
        · exact .inr (.inl hex)
        · exact absurd (away b hb fun j hj hjb => hex ⟨j, hj, hjb⟩) hna
      · exact .inl (by omega)
    | false =>
      rcases hnear with hn | hn
      · exact .inl hn
      · rw [hB] at hn
        obtain ⟨j, ej, hj, hjb⟩ := hn
        cases hwj : ej.wr with
        | true => exact .inr (.inl ⟨j, wrsOf hj hwj, hjb⟩)
        | false => exact .inr (.inr ⟨rfl, j, ej, hj, hwj, hjb⟩)

/-- a contract's rows are no longer than a slice can be -/
def RowsOk (pre : List (Nat × Ent)) : Prop := ∀ i wr T sz α enc l, get pre i = some (.row wr T sz α enc l) → l.length ≤ maxLen
theorem rowsOk_of {c : Con} {ρ : Names} {F : Nat → Nat → Prop} {w : World} (hp : PreOk c ρ F w) : RowsOk c.pre := fun i wr T sz α enc l hi => by
  obtain ⟨v, _, hh⟩ := hp.heap.ents i _ hi
  exact (row_at hh).1
theorem fnOk_of_wp (hE : E.Ok P) {f : FuncId} {fn : Func} {code : Code} {args : List AV} {c : Con} (hf : P.funcs[f]? = some fn) (hb : fn.body = some code)
    (hname : (fn.name == "runtime.NumGoroutine") = false) (hok : conOk c args fn.ntmps = true) (hd : RowsOk c.pre → WpS P fn.ntmps c.n code (slots 0 args) c.pre c.n (doneVC E fn.results.toList c)) : FnOk P f args c := by
  have hok' := hok
  unfold conOk at hok'
  simp only [Bool.and_eq_true] at hok'
  obtain ⟨⟨⟨⟨⟨⟨⟨⟨k1, k2⟩, k3⟩, k4⟩, k5⟩, k6⟩, k7⟩, k8⟩, k9⟩ := hok'
  have hle : c.n ≤ c.n' := Nat.le_of_ble_eq_true k1
  refine ⟨fun vs w => ?_, ⟨hle, fun i ⟨hi, e, he⟩ => turnsOk_spec k6 (get_mem he) hi, fun i e he => (belowH_spec k5 (get_mem he)).1, fun i e he => (belowH_spec k3 (get_mem he)).1⟩, k2, k3, fun ρ F w vs hvs hp hhi => ?_⟩
  · have hname' : ¬ fn.name = "runtime.NumGoroutine" := by simpa using hname
    simp [callFunc, hf, hb, hname']
  · refine calls_of_wp hf hb ?_
    have hl := concL_length hvs
    have hN : args.length ≤ fn.ntmps := Nat.le_of_ble_eq_true k9
    have hall : ∀ i, c.n ≤ i → ρ i = none := fun i hi => by
      by_cases h1 : i < c.n'
      · exact hp.fresh i hi h1
      · exact hhi i (by omega)
    refine hd (rowsOk_of hp) ⟨w, fun b => b < w.heap.size ∧ ∀ i, c.wrs i → ¬ F i b, fun b => ∃ i e, get c.pre i = some e ∧ F i b, fn.ntmps, c.n, ρ⟩ rfl rfl hall _ _ w ⟨⟨ρ, F, ⟨?_, rfl, fun x v hx => ?_, hp.heap, fun b hb' => ⟨hb'.1, rfl⟩, fun i e hi hw b hb' hc => ?_, rfl, rfl, rfl, Nat.le_refl _, Names.le.refl _, fun i e hi b hb' => .inr ⟨i, e, hi, hb'⟩⟩, hall⟩, fun i e he => (belowH_spec k3 (get_mem he)).1⟩ ?_
    · simp only [Array.size_append, List.size_toArray, Array.size_replicate]; omega
    · obtain ⟨_, hg⟩ := slots_get hx
      rw [Nat.sub_zero] at hg
      obtain ⟨u, hu, hgu⟩ := concL_get hvs hg
      refine ⟨u, hu, ?_⟩
      have hlt : x < vs.length := (List.getElem?_eq_some_iff.1 hgu).1
      simp only
      rw [Array.getElem?_append_left (by simpa using hlt)]
      simpa using hgu
    · exact hc.2 i ⟨(belowH_spec k3 (get_mem hi)).1, wrIn_spec k7 (get_mem hi) hw⟩ hb'
    · intro k t' h' n' a' w' hk hat
      have fin : (∃ R : List Nat, (lenIs R (c.n' - c.n) = true ∧ nodupN R = true ∧ allGe c.n R = true) ∧ (∃ vs, resultsAV E t' h' fn.results.toList = some vs ∧ norm (packRes vs) = norm (ren (back c.n R) c.res)) ∧ upsIn (back c.n R) c.n h' c.up) →
          a'.defers = [] ∧ ∃ v, (results fn a'.tmps).run P w' = .ok v w' ∧ ∃ ρ' F' r, Ending.returned v = .returned r ∧ conc ρ' c.res = some r ∧ PostOk c ρ F w ρ' F' w' := by
        rintro ⟨R, ⟨h1, h2, h3⟩, ⟨rvs, hr1, hr2⟩, hu⟩
        obtain ⟨⟨ρf, Ff, r, _⟩, _⟩ := hat
        obtain ⟨ρ', F', us, v, hrun, hlen, hv, hc, hpost⟩ := done_post hE hok hp hhi rfl r h1 h2 h3 hr1 hr2 hu
        refine ⟨r.defers, v, ?_, ρ', F', v, rfl, hc, hpost⟩
        have hres : results fn a'.tmps = (Array.mapM (readVar a') fn.results >>= fun vs => pure (if h : vs.size = 1 then vs[0] else .tuple vs)) := by
          unfold results
          congr 1
        have hm' : (Array.mapM (readVar a') fn.results : Sem (Array Value)).run P w' = .ok us.toArray w' := by
          rw [Array.mapM_eq_mapM_toList, Sem.run_map, hrun]; rfl
        rw [hres, Sem.run_bind, hm', Result.andThen_ok, Sem.run_pure]
        congr 1
        rw [hv]
        match us with
        | [] => rfl
        | [u] => rfl
        | _ :: _ :: _ => simp
      cases k with
      | normal => obtain ⟨hk⟩ := hk; exact fin hk
      | ret => obtain ⟨hk⟩ := hk; exact fin hk
      | exit id => exact hk.elim
theorem fnOk_of_den (hE : E.Ok P) (hm : P.follows .mixedOrders = true) {f : FuncId} {fn : Func} {code : Code} {args : List AV} {c : Con} (hf : P.funcs[f]? = some fn) (hb : fn.body = some code)
    (hname : (fn.name == "runtime.NumGoroutine") = false) (hok : conOk c args fn.ntmps = true) (hd : RowsOk c.pre → den E P fn.ntmps c.n code (slots 0 args) c.pre c.n (doneVC E fn.results.toList c)) : FnOk P f args c :=
  fnOk_of_wp hE hf hb hname hok fun hr => WpS.den hE hm (hd hr)
end
end Go.Eng
