/- The engine, part F: the operations' soundness: general forms, and the operations that touch no memory. -/
import Derived.Test.YtehnjdcahbehjaaGreatDoorEngE
namespace Go.Eng
open Go
universe u
set_option linter.unusedSimpArgs false

mutual
theorem conc_norm (ρ : Names) : ∀ c, conc ρ (norm c) = conc ρ c
  | .tt => rfl
  | .ff => rfl
  | .bool _ => rfl
  | .int _ _ => rfl
  | .lit _ _ => rfl
  | .str _ => rfl
  | .val _ => rfl
  | .ref _ => rfl
  | .ptr _ _ => rfl
  | .ep _ _ _ _ => rfl
  | .ip _ _ _ _ => rfl
  | .sl _ _ _ _ => rfl
  | .rs _ _ _ _ => rfl
  | .agg cs => by simp only [norm, conc, concL_norm ρ cs]
  | .tup cs => by simp only [norm, conc, concL_norm ρ cs]
  | .fn _ cs => by simp only [norm, conc, concL_norm ρ cs]
theorem concL_norm (ρ : Names) : ∀ c, concL ρ (normL c) = concL ρ c
  | [] => rfl
  | c :: cs => by simp only [normL, concL, conc_norm ρ c, concL_norm ρ cs]
end
theorem like_conc {ρ : Names} {c c' : AV} (h : norm c = norm c') : conc ρ c = conc ρ c' := by rw [← conc_norm, h, conc_norm]
theorem like_concL {ρ : Names} {c c' : List AV} (h : normL c = normL c') : concL ρ c = concL ρ c' := by rw [← concL_norm, h, concL_norm]
theorem normL_append : ∀ (a b : List AV), normL (a ++ b) = normL a ++ normL b
  | [], _ => rfl
  | x :: a, b => by simp only [List.cons_append, normL, normL_append a b]
theorem normL_length : ∀ (a : List AV), (normL a).length = a.length
  | [] => rfl
  | x :: a => by simp only [normL, List.length_cons, normL_length a]
theorem like_length {a b : List AV} (h : normL a = normL b) : a.length = b.length := by rw [← normL_length a, h, normL_length]

theorem holds_norm {ρ : Names} {e : Ent} {v : Value} {w : World} {F : Nat → Prop} : Ent.holds ρ (normE e) v w F ↔ Ent.holds ρ e v w F := by
  cases e with
  | cells wr C => simp only [normE, Ent.holds, concL_norm]
  | gone => exact Iff.rfl
  | row wr T sz α enc l => exact Iff.rfl
  | asn A => exact Iff.rfl
theorem like_hold {ρ : Names} {e e' : Ent} {v : Value} {w : World} {F : Nat → Prop} (h : normE e' = normE e) (hh : Ent.holds ρ e' v w F) : Ent.holds ρ e v w F := by
  rw [← holds_norm, ← h, holds_norm]; exact hh
theorem normE_wr (e : Ent) : (normE e).wr = e.wr := by cases e <;> rfl
theorem like_wr {e e' : Ent} (h : normE e' = normE e) : e'.wr = e.wr := by rw [← normE_wr, h, normE_wr]

theorem evO_get (t : List (Nat × AV)) : evO (get t) = evS t := by funext x; cases x <;> rfl

/-- what the operands read as -/
def Opnds (o : Oper) (t : List (Nat × AV)) (ρ : Names) (a : Act) : Prop := ∀ x ∈ o.op.operands, ∀ v, evS t x = some v → ∃ u, conc ρ v = some u ∧ a.eval x = u

theorem good_of_run {P : Program} {o : Oper} {t : List (Nat × AV)} {h : List (Nat × Ent)} {nn : Nat} {c : Con} (wf : c.Wf) (pre : ∀ i e, get c.pre i = some e → get h i = some e) (n : c.n = nn)
    (hr : ∀ ρ F a w, Opnds o t ρ a → PreOk c ρ F w → ∃ u w' ρ' F', (execOp a.eval o).run P w = .ok (.value u) w' ∧ PostOk c ρ F w ρ' F' w' ∧ conc ρ' c.res = some u) : Good P o t h nn c := by
  refine ⟨fun ρ F a w K Q ho hp hK => ?_, wf, pre, n⟩
  obtain ⟨u, w', ρ', F', hrun, hpost, hres⟩ := hr ρ F a w ho hp
  unfold Oper.wp
  rw [hrun]
  exact hK ρ' F' w' u hpost hres

theorem good_of_skip {P : Program} {o : Oper} {t : List (Nat × AV)} {h : List (Nat × Ent)} {nn : Nat} {c : Con} (wf : c.Wf) (pre : ∀ i e, get c.pre i = some e → get h i = some e) (n : c.n = nn)
    (hr : ∀ ρ F a w, Opnds o t ρ a → PreOk c ρ F w → ∃ w' ρ' F', (execOp a.eval o).run P w = .ok .skip w' ∧ PostOk c ρ F w ρ' F' w' ∧ conc ρ' c.res = some undef) : Good P o t h nn c := by
  refine ⟨fun ρ F a w K Q ho hp hK => ?_, wf, pre, n⟩
  obtain ⟨w', ρ', F', hrun, hpost, hres⟩ := hr ρ F a w ho hp
  unfold Oper.wp
  rw [hrun]
  exact hK ρ' F' w' undef hpost hres

theorem heapOk_nil (ρ : Names) (F : Nat → Nat → Prop) (w : World) : HeapOk ρ (get ([] : List (Nat × Ent))) F w :=
  ⟨fun _ _ h => by simp [get] at h, fun _ _ _ _ _ h => by simp [get] at h, fun _ _ h => by simp [get] at h⟩

theorem post_same {pre : List (Nat × Ent)} {n : Nat} {v : AV} (ρ : Names) (F : Nat → Nat → Prop) (w : World) : PostOk ⟨pre, n, n, v, []⟩ ρ F w ρ F w :=
  ⟨fun _ _ => rfl, rfl, rfl, rfl, Nat.le_refl _, fun _ _ _ => rfl, heapOk_nil _ _ _, fun _ _ h => by simp [get] at h⟩

theorem wf_read {pre : List (Nat × Ent)} {n : Nat} {v : AV} (hb : ∀ i e, get pre i = some e → i < n) : Con.Wf ⟨pre, n, n, v, []⟩ :=
  ⟨Nat.le_refl _, fun i ⟨_, e, he⟩ => by simp [get] at he, fun i e he => by simp [get] at he, hb⟩

/-- An operation that only reads. -/
theorem good_read {P : Program} {o : Oper} {t : List (Nat × AV)} {h : List (Nat × Ent)} {nn : Nat} {pre : List (Nat × Ent)} {v : AV} (hb : ∀ i e, get h i = some e → i < nn)
    (hpre : ∀ i e, get pre i = some e → get h i = some e)
    (hr : ∀ ρ F a w, Opnds o t ρ a → HeapOk ρ (get pre) F w → ∃ u, conc ρ v = some u ∧ (execOp a.eval o).run P w = .ok (.value u) w) : Good P o t h nn ⟨pre, nn, nn, v, []⟩ := by
  refine good_of_run (wf_read fun i e he => hb i e (hpre i e he)) hpre rfl fun ρ F a w ho hp => ?_
  obtain ⟨u, hu, hrun⟩ := hr ρ F a w ho hp.heap
  exact ⟨u, w, ρ, F, hrun, post_same ρ F w, hu⟩

theorem good_pure {P : Program} {o : Oper} {t : List (Nat × AV)} {h : List (Nat × Ent)} {nn : Nat} {v : AV} (hb : ∀ i e, get h i = some e → i < nn)
    (hr : ∀ ρ a w, Opnds o t ρ a → ∃ u, conc ρ v = some u ∧ (execOp a.eval o).run P w = .ok (.value u) w) : Good P o t h nn (conPure nn v) :=
  good_read hb (fun _ _ he => by simp [get] at he) fun ρ _ a w ho _ => hr ρ a w ho

theorem withV_elim {t : List (Nat × AV)} {x : Operand} {k : AV → Prop} (h : withV t x k) : ∃ v, evS t x = some v ∧ k v := by
  unfold withV at h
  split at h
  · rename_i v hv; exact ⟨v, hv, h⟩
  · exact h.elim

/-! ### the table's facts -/
structure TFacts (P : Program) (T : Nat) (i : TI) : Prop where
  info : ∃ ti, P.info? T = some ti ∧ ti.size = i.size ∧ ti.bytes = i.bytes
  kind : ∃ d, P.underlying T = some d ∧ i.kind.is d = true
  zlen : i.zero.length = i.size
  zero : ∃ z, (∀ w, (zeroValue T).run P w = .ok z w) ∧ zeroCells i.zero z.cells.toList = true ∧ (i.kind.agg = true → ∃ cs, z = .agg cs) ∧ (i.kind.agg = false → z.oneCell' = true)
  held : (∃ fs, i.kind = .struct fs) → P.stoodInHeld T = false
  guard : P.eqGuardType P.depth T = false

theorem TI.facts {P : Program} {T : Nat} {i : TI} (h : i.check P T = true) : TFacts P T i := by
  unfold TI.check at h
  split at h
  · rename_i ti d hi hd
    simp only [Bool.and_eq_true] at h
    obtain ⟨⟨⟨⟨⟨⟨h1, h2⟩, h3⟩, h4⟩, h5⟩, h6⟩, h7⟩ := h
    refine ⟨⟨ti, hi, Nat.eq_of_beq_eq_true h1, Nat.eq_of_beq_eq_true h2⟩, ⟨d, hd, h3⟩, Nat.eq_of_beq_eq_true h4, ?_, ?_, by simpa using h7⟩
    · split at h5
      · rename_i z hz
        simp only [Bool.and_eq_true] at h5
        refine ⟨z, fun w => by simp [zeroValue, typeInfo, hi, hz], h5.1, fun ha => ?_, fun ha => ?_⟩
        · have h8 := h5.2
          rw [ha] at h8
          cases z <;> simp_all
        · have h8 := h5.2
          rw [ha] at h8
          cases z <;> simp_all
      · cases h5
    · rintro ⟨fs, hk⟩
      rw [hk] at h6
      simpa using h6
  · cases h

variable {P : Program} {T : Nat} {i : TI}
theorem TFacts.size (f : TFacts P T i) (w : World) : (sizeOf T).run P w = .ok i.size w := by
  obtain ⟨ti, h1, h2, _⟩ := f.info
  simp [sizeOf, typeInfo, h1, h2]
theorem TFacts.und (f : TFacts P T i) : ∃ d, i.kind.is d = true ∧ P.underlying T = some d ∧ ∀ w, (underlying T).run P w = .ok d w := by
  obtain ⟨d, h1, h2⟩ := f.kind
  exact ⟨d, h2, h1, fun w => by simp [underlying, h1]⟩
theorem TFacts.isAgg (f : TFacts P T i) (w : World) : (isAgg T).run P w = .ok i.kind.agg w := by
  obtain ⟨d, hk, _, hu⟩ := f.und
  simp only [Go.isAgg, Sem.run_bind, hu, Result.andThen_ok]
  cases hkk : i.kind <;> rw [hkk] at hk <;> cases d <;> simp_all [TK.is, TK.agg]

theorem concL_length {ρ : Names} : ∀ {C : List AV} {cs : List Value}, concL ρ C = some cs → cs.length = C.length
  | [], cs, h => by simp only [concL, Option.some.injEq] at h; subst h; rfl
  | c :: C, cs, h => by
    simp only [concL] at h
    split at h
    · split at h
      · rename_i v _ vs hvs
        cases h
        simp [concL_length hvs]
      · cases h
    · cases h
theorem concL_cons {ρ : Names} {c : AV} {C : List AV} {cs : List Value} : concL ρ (c :: C) = some cs ↔ ∃ v vs, conc ρ c = some v ∧ concL ρ C = some vs ∧ cs = v :: vs := by
  simp only [concL]
  constructor
  · intro h
    cases hv : conc ρ c with
    | none => simp [hv] at h
    | some v =>
      cases hvs : concL ρ C with
      | none => simp [hv, hvs] at h
      | some vs => simp only [hv, hvs, Option.some.injEq] at h; exact ⟨v, vs, rfl, rfl, h.symm⟩
  · rintro ⟨v, vs, hv, hvs, rfl⟩
    simp [hv, hvs]
mutual
theorem conc_below {ρ ρ' : Names} {n : Nat} (h : ∀ i, i < n → ρ i = ρ' i) : ∀ (c : AV), below n c = true → conc ρ c = conc ρ' c
  | .tt, _ => rfl
  | .ff, _ => rfl
  | .bool _, _ => rfl
  | .int _ _, _ => rfl
  | .lit _ _, _ => rfl
  | .str _, _ => rfl
  | .val _, _ => rfl
  | .ref i, hb => by simp only [conc, h i (Nat.le_of_ble_eq_true hb)]
  | .ptr i _, hb => by simp only [conc, h i (Nat.le_of_ble_eq_true hb)]
  | .ep i _ _ _, hb => by simp only [conc, h i (Nat.le_of_ble_eq_true hb)]
  | .ip i _ _ _, hb => by simp only [conc, h i (Nat.le_of_ble_eq_true hb)]
  | .sl i _ _ _, hb => by simp only [conc, h i (Nat.le_of_ble_eq_true hb)]
  | .rs i _ _ _, hb => by simp only [conc, h i (Nat.le_of_ble_eq_true hb)]
  | .agg cs, hb => by simp only [conc, concL_below h cs hb]
  | .tup cs, hb => by simp only [conc, concL_below h cs hb]
  | .fn f cs, hb => by simp only [conc, concL_below h cs hb]
theorem concL_below {ρ ρ' : Names} {n : Nat} (h : ∀ i, i < n → ρ i = ρ' i) : ∀ (c : List AV), belowL n c = true → concL ρ c = concL ρ' c
  | [], _ => rfl
  | c :: cs, hb => by
    simp only [belowL] at hb
    split at hb
    · rename_i h1
      simp only [concL, conc_below h c h1, concL_below h cs hb]
    · cases hb
end
theorem concL_append {ρ : Names} : ∀ {A B : List AV} {cs : List Value}, concL ρ (A ++ B) = some cs ↔ ∃ a b, concL ρ A = some a ∧ concL ρ B = some b ∧ cs = a ++ b
  | [], B, cs => by simp [concL]
  | c :: A, B, cs => by
    rw [List.cons_append, concL_cons]
    constructor
    · rintro ⟨v, vs, hv, hvs, rfl⟩
      obtain ⟨a, b, ha, hb, rfl⟩ := concL_append.1 hvs
      exact ⟨v :: a, b, concL_cons.2 ⟨v, a, hv, ha, rfl⟩, hb, rfl⟩
    · rintro ⟨a, b, ha, hb, rfl⟩
      obtain ⟨v, vs, hv, hvs, rfl⟩ := concL_cons.1 ha
      exact ⟨v, vs ++ b, hv, concL_append.2 ⟨vs, b, hvs, hb, rfl⟩, rfl⟩
theorem concL_get {ρ : Names} : ∀ {C : List AV} {cs : List Value}, concL ρ C = some cs → ∀ {j : Nat} {c : AV}, C[j]? = some c → ∃ u, conc ρ c = some u ∧ cs[j]? = some u
  | [], cs, _, j, c, hc => by simp at hc
  | d :: C, cs, h, j, c, hc => by
    obtain ⟨v, vs, hv, hvs, rfl⟩ := concL_cons.1 h
    cases j with
    | zero => simp at hc; subst hc; exact ⟨v, hv, rfl⟩
    | succ j => simp at hc; simpa using concL_get hvs hc

theorem takeE_spec {α : Type u} : ∀ {l : List α} {n : Nat} {r : List α}, takeE l n = some r → r = l.take n ∧ n ≤ l.length
  | l, 0, r, h => by cases l <;> simp_all [takeE]
  | [], n + 1, r, h => by simp [takeE] at h
  | x :: xs, n + 1, r, h => by
    simp only [takeE] at h
    split at h
    · rename_i s hs; cases h
      obtain ⟨h1, h2⟩ := takeE_spec hs
      subst h1
      exact ⟨rfl, by simp; omega⟩
    · cases h
theorem dropE_spec {α : Type u} : ∀ {l : List α} {n : Nat} {r : List α}, dropE l n = some r → r = l.drop n ∧ n ≤ l.length
  | l, 0, r, h => by cases l <;> simp_all [dropE]
  | [], n + 1, r, h => by simp [dropE] at h
  | x :: xs, n + 1, r, h => by
    simp only [dropE] at h
    obtain ⟨h1, h2⟩ := dropE_spec h
    exact ⟨by simpa using h1, by simp; omega⟩
theorem part?_spec {α : Type u} {l : List α} {o n : Nat} {r : List α} (h : part? l o n = some r) : r = (l.drop o).take n ∧ o + n ≤ l.length := by
  unfold part? at h
  split at h
  · rename_i s hs
    obtain ⟨h1, h2⟩ := dropE_spec hs
    obtain ⟨h3, h4⟩ := takeE_spec h
    subst h1
    refine ⟨h3, ?_⟩
    simp at h4
    omega
  · cases h
theorem overlay_spec {α : Type u} : ∀ {C vs r : List α}, overlay C vs = some r → r = vs ++ C.drop vs.length ∧ vs.length ≤ C.length
  | C, [], r, h => by cases C <;> simp_all [overlay]
  | [], v :: vs, r, h => by simp [overlay] at h
  | c :: C, v :: vs, r, h => by
    simp only [overlay] at h
    split at h
    · rename_i s hs; cases h
      obtain ⟨h1, h2⟩ := overlay_spec hs
      subst h1
      exact ⟨rfl, by simp; omega⟩
    · cases h
theorem setE_spec {α : Type u} : ∀ {C : List α} {o : Nat} {vs r : List α}, setE C o vs = some r → r = C.take o ++ vs ++ C.drop (o + vs.length) ∧ o + vs.length ≤ C.length
  | C, 0, vs, r, h => by
    have h' : overlay C vs = some r := by cases C <;> simpa [setE] using h
    obtain ⟨h1, h2⟩ := overlay_spec h'
    exact ⟨by simpa using h1, by omega⟩
  | [], o + 1, vs, r, h => by simp [setE] at h
  | c :: C, o + 1, vs, r, h => by
    simp only [setE] at h
    split at h
    · rename_i s hs; cases h
      obtain ⟨h1, h2⟩ := setE_spec hs
      subst h1
      refine ⟨?_, by simp; omega⟩
      rw [show o + 1 + vs.length = (o + vs.length) + 1 by omega]
      simp
    · cases h
theorem lenIs_spec {α : Type u} : ∀ {l : List α} {n : Nat}, lenIs l n = true → l.length = n
  | [], 0, _ => rfl
  | [], _ + 1, h => by simp [lenIs] at h
  | _ :: _, 0, h => by simp [lenIs] at h
  | _ :: r, n + 1, h => by simp only [lenIs] at h; simp [lenIs_spec h]

theorem cellOk_conc {ρ : Names} {c : AV} {v : Value} (h : cellOk c = true) (hc : conc ρ c = some v) : v.oneCell' = true := by
  cases c with
  | agg => simp [cellOk] at h
  | tup => simp [cellOk] at h
  | val x => simp only [conc, Option.some.injEq] at hc; subst hc; exact h
  | ref i =>
    simp only [conc] at hc
    split at hc
    · split at hc
      · cases hc; assumption
      · cases hc
    · cases hc
  | ptr i o => simp only [conc] at hc; split at hc <;> cases hc; rfl
  | ep i a b d => simp only [conc] at hc; split at hc <;> cases hc; rfl
  | ip i a b d => simp only [conc] at hc; split at hc <;> cases hc; rfl
  | sl i a b d => simp only [conc] at hc; split at hc <;> cases hc; rfl
  | rs i a b d => simp only [conc] at hc; split at hc <;> cases hc; rfl
  | fn f cs => simp only [conc] at hc; split at hc <;> cases hc; rfl
  | _ => simp only [conc, Option.some.injEq] at hc; subst hc; rfl
theorem allCell_conc {ρ : Names} : ∀ {C : List AV} {cs : List Value}, allCell C = true → concL ρ C = some cs → ∀ u ∈ cs, u.oneCell' = true
  | [], cs, _, h => by simp only [concL, Option.some.injEq] at h; subst h; simp
  | c :: C, cs, ha, h => by
    obtain ⟨v, vs, hv, hvs, rfl⟩ := concL_cons.1 h
    simp only [allCell] at ha
    split at ha
    · rename_i hc
      intro u hu
      rcases List.mem_cons.1 hu with rfl | hu
      · exact cellOk_conc hc hv
      · exact allCell_conc ha hvs u hu
    · cases ha
/-- a value that is stored, and its cells -/
theorem vcells_conc {ρ : Names} {v : AV} {u : Value} (ha : allCell (vcells v) = true) (h : conc ρ v = some u) : concL ρ (vcells v) = some u.cells.toList := by
  cases v with
  | agg cs =>
    simp only [conc] at h
    split at h
    · rename_i l hl; cases h; simpa [vcells, Value.cells] using hl
    · cases h
  | tup cs => simp [vcells, allCell, cellOk] at ha
  | _ =>
    simp only [vcells] at ha ⊢
    have h1 : u.oneCell' = true := cellOk_conc (by simp only [allCell] at ha; split at ha; assumption; cases ha) h
    refine concL_cons.2 ⟨u, [], h, rfl, ?_⟩
    cases u <;> simp_all [Value.oneCell', Value.cells]
theorem mkAV_conc {ρ : Names} {agg : Bool} {p : List AV} {cs : List Value} {v : AV} (h : mkAV agg p = some v) (hc : concL ρ p = some cs) :
    ∃ u, conc ρ v = some u ∧ (match agg with | true => u = .agg cs.toArray | false => cs = [u]) := by
  unfold mkAV at h
  cases agg with
  | true => simp only [Option.some.injEq] at h; subst h; exact ⟨.agg cs.toArray, by simp [conc, hc], rfl⟩
  | false =>
    simp only at h
    split at h
    · rename_i x
      cases h
      obtain ⟨u, vs, hu, hvs, rfl⟩ := concL_cons.1 hc
      simp only [concL, Option.some.injEq] at hvs
      subst hvs
      exact ⟨u, hu, rfl⟩
    · cases h
theorem concL_drop {ρ : Names} {C : List AV} {cs : List Value} (h : concL ρ C = some cs) (n : Nat) : concL ρ (C.drop n) = some (cs.drop n) := by
  by_cases hn : n ≤ C.length
  · have h' : concL ρ (C.take n ++ C.drop n) = some cs := by rwa [List.take_append_drop]
    obtain ⟨a, b, ha, hb, rfl⟩ := concL_append.1 h'
    rw [hb]
    have := concL_length ha
    rw [List.length_take_of_le hn] at this
    rw [← this, List.drop_left]
  · rw [List.drop_of_length_le (by omega), List.drop_of_length_le (by rw [concL_length h]; omega)]; rfl
theorem concL_take {ρ : Names} {C : List AV} {cs : List Value} (h : concL ρ C = some cs) (n : Nat) : concL ρ (C.take n) = some (cs.take n) := by
  by_cases hn : n ≤ C.length
  · have h' : concL ρ (C.take n ++ C.drop n) = some cs := by rwa [List.take_append_drop]
    obtain ⟨a, b, ha, hb, rfl⟩ := concL_append.1 h'
    rw [ha]
    have := concL_length ha
    rw [List.length_take_of_le hn] at this
    rw [← this, List.take_left]
  · rw [List.take_of_length_le (by omega), List.take_of_length_le (by rw [concL_length h]; omega)]; exact h
theorem part?_conc {ρ : Names} {C p : List AV} {cs : List Value} {o n : Nat} (h : concL ρ C = some cs) (hp : part? C o n = some p) : concL ρ p = some ((cs.drop o).take n) ∧ o + n ≤ cs.length := by
  obtain ⟨h1, h2⟩ := part?_spec hp
  subst h1
  exact ⟨concL_take (concL_drop h o) n, by rw [concL_length h]; exact h2⟩
end Go.Eng
