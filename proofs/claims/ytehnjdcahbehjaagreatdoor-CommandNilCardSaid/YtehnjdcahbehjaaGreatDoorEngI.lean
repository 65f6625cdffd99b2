/- The engine, part I: the soundness of stores, addresses, parts. -/
import Derived.Test.YtehnjdcahbehjaaGreatDoorEngH
namespace Go.Eng
open Go
set_option linter.unusedSimpArgs false
set_option linter.unusedVariables false

theorem setCell_heap_same {w : World} {g k T : Nat} {cur : Array Value} {fz : Nat × Nat} {v : Value} (hg : w.heap[g]? = some (.cells cur T fz)) :
    (w.setCell ⟨g, k, none⟩ v).heap[g]? = some (.cells (cur.setIfInBounds k v) T fz) := by
  simp [World.setCell, Array.getElem?_modify, hg]

structure Wrote (w w' : World) (g : Nat) : Prop where
  os : w'.os = w.os
  tape : w'.tape = w.tape
  output : w'.output = w.output
  size : w'.heap.size = w.heap.size
  other : ∀ b, b ≠ g → w'.heap[b]? = w.heap[b]?

theorem run_storeCells_fz (P : Program) (g o T : Nat) (fz : Nat × Nat) : ∀ (vs : List Value) (i : Nat) (cur : Array Value) (w : World), w.heap[g]? = some (.cells cur T fz) →
    (∀ k, k < cur.size → ¬ (fz.1 ≤ k ∧ k < fz.2)) → o + i + vs.length ≤ cur.size → (∀ u ∈ vs, u.oneCell' = true) →
    ∃ w', (storeCells ⟨g, o, none⟩ vs i).run P w = .ok () w' ∧ w'.heap[g]? = some (.cells (cur.toList.take (o + i) ++ vs ++ cur.toList.drop (o + i + vs.length)).toArray T fz) ∧ Wrote w w' g
  | [], i, cur, w, hg, _, _, _ => by
    refine ⟨w, by simp [storeCells], ?_, rfl, rfl, rfl, rfl, fun _ _ => rfl⟩
    rw [hg]
    simp
  | v :: vs, i, cur, w, hg, hfz, hfit, h1 => by
    simp only [List.length_cons] at hfit
    have hlt : o + i < cur.size := by omega
    have hcell : w.cell? ((⟨g, o, none⟩ : Addr).add i) = some cur[o + i] := by
      rw [add_eq _ rfl]; simp [World.cell?, hg, hlt]
    have hfr : w.frozen? ((⟨g, o, none⟩ : Addr).add i) = false := by
      rw [add_eq _ rfl]
      have := hfz (o + i) hlt
      simp only [World.frozen?, hg]
      simpa using this
    have hst : (store ((⟨g, o, none⟩ : Addr).add i) v).run P w = .ok () (w.setCell ⟨g, o + i, none⟩ v) := by
      rw [run_store P w _ v _ (h1 v List.mem_cons_self), hcell]
      simp only [hfr, Bool.false_eq_true, if_false]
      rw [add_eq _ rfl]
    have hg' := setCell_heap_same (k := o + i) (v := v) hg
    obtain ⟨w', hrun, hh, hw⟩ := run_storeCells_fz P g o T fz vs (i + 1) (cur.setIfInBounds (o + i) v) (w.setCell ⟨g, o + i, none⟩ v) hg' (by simpa using hfz) (by simp; omega) (fun u hu => h1 u (List.mem_cons_of_mem _ hu))
    refine ⟨w', ?_, ?_, ⟨hw.os, hw.tape, hw.output, hw.size.trans (by simp), fun b hb => (hw.other b hb).trans (heap_setCell_other w _ b v hb)⟩⟩
    · simp only [storeCells, Sem.run_bind, hst, Result.andThen_ok]
      exact hrun
    · rw [hh]
      congr 2
      have hl : o + i < cur.toList.length := by simpa using hlt
      simp only [Array.toList_setIfInBounds]
      have e1 : (cur.toList.set (o + i) v).take (o + (i + 1)) = cur.toList.take (o + i) ++ [v] := by
        rw [show o + (i + 1) = (o + i) + 1 by omega, List.take_succ_eq_append_getElem (by simpa using hlt)]
        simp [List.take_set_of_le]
      have e2 : (cur.toList.set (o + i) v).drop (o + (i + 1) + vs.length) = cur.toList.drop (o + i + (v :: vs).length) := by
        rw [List.drop_set_of_lt (by omega)]
        congr 1
        simp; omega
      rw [e1, e2]
      simp

section
variable {P : Program} {E : TT} {o : Oper} {t : List (Nat × AV)} {h : List (Nat × Ent)} {nn : Nat} {K : Con → Prop}

theorem single_sub {id : Nat} {e : Ent} (hg : get h id = some e) : ∀ k e', get [(id, e)] k = some e' → get h k = some e' := fun k e' hk => by
  rw [get_single] at hk; split at hk
  · rename_i h2; subst h2; cases hk; exact hg
  · cases hk

/-- an entry that is turned in its place -/
theorem good_turn (hb : ∀ i e, get h i = some e → i < nn) {id : Nat} {e e' : Ent} (hg : get h id = some e) (hwr : e.wr = true)
    (hr : ∀ ρ F a w, Opnds o t ρ a → HeapOk ρ (get [(id, e)]) F w → ∃ w' v, (execOp a.eval o).run P w = .ok .skip w' ∧ ρ id = some v ∧ e'.holds ρ v w' (F id) ∧
      w'.os = w.os ∧ w'.tape = w.tape ∧ w'.output = w.output ∧ w'.heap.size = w.heap.size ∧ ∀ b, ¬ F id b → w'.heap[b]? = w.heap[b]?) :
    Good P o t h nn ⟨[(id, e)], nn, nn, .val undef, [(id, e')]⟩ := by
  have hid := hb id e hg
  refine good_of_skip ⟨Nat.le_refl _, fun i ⟨hi, e2, he⟩ => ?_, fun i e2 he => ?_, fun i e2 he => ?_⟩ (single_sub hg) rfl fun ρ F a w hop hp => ?_
  · simp only [get_single] at he; split at he
    · rename_i h2; exact ⟨e, by simp only [get_single, if_pos h2], hwr⟩
    · cases he
  · simp only [get_single] at he; split at he
    · rename_i h2; subst h2; exact hid
    · cases he
  · simp only [get_single] at he; split at he
    · rename_i h2; subst h2; exact hid
    · cases he
  · obtain ⟨w', v, hrun, hv, hh, h1, h2, h3, h4, h5⟩ := hr ρ F a w hop hp.heap
    refine ⟨w', ρ, F, hrun, ⟨fun _ _ => rfl, h1, h2, h3, by omega, fun b _ hn => h5 b (hn id ⟨hid, e', by simp [get_single]⟩), ?_, fun i e2 he b hbb => ?_⟩, rfl⟩
    · exact heapOk_single hv hh fun b hbb => by rw [h4]; exact hp.heap.low id e (by simp [get_single]) b hbb
    · simp only [get_single] at he; split at he
      · rename_i h6; subst h6; exact .inr (.inl ⟨id, ⟨hid, e', by simp [get_single]⟩, hbb⟩)
      · cases he

theorem setE_conc {ρ : Names} {C C' vs : List AV} {off : Nat} {cs us : List Value} (h : setE C off vs = some C') (hc : concL ρ C = some cs) (hv : concL ρ vs = some us) :
    concL ρ C' = some (cs.take off ++ us ++ cs.drop (off + us.length)) ∧ off + us.length ≤ cs.length := by
  obtain ⟨h1, h2⟩ := setE_spec h
  subst h1
  have lv := concL_length hv
  have lc := concL_length hc
  refine ⟨?_, by omega⟩
  rw [lv]
  exact concL_append.2 ⟨_, _, concL_append.2 ⟨_, _, concL_take hc off, hv, rfl⟩, concL_drop hc _, rfl⟩

theorem set_oneCell {cs us : List Value} {off : Nat} (h1 : ∀ u ∈ cs, u.oneCell' = true) (h2 : ∀ u ∈ us, u.oneCell' = true) : ∀ u ∈ cs.take off ++ us ++ cs.drop (off + us.length), u.oneCell' = true := by
  intro u hu
  simp only [List.append_assoc, List.mem_append] at hu
  rcases hu with hu | hu | hu
  · exact h1 u (List.mem_of_mem_take hu)
  · exact h2 u hu
  · exact h1 u (List.mem_of_mem_drop hu)

theorem store_cells {id : Nat} {C C' : List AV} {off' : Nat} {v : AV} {T : Nat} {i : TI} (f : TFacts P T i) (hlen : lenIs (vcells v) i.size = true) (hall : allCell (vcells v) = true)
    (hs : setE C off' (vcells v) = some C') {ρ : Names} {F : Nat → Nat → Prop} {w : World} (hh : HeapOk ρ (get [(id, .cells true C)]) F w) {u : Value} (hu : conc ρ v = some u) :
    ∃ b w', ρ id = some (.pointer (some ⟨b, 0, none⟩)) ∧ (storeVar T ⟨b, off', none⟩ u).run P w = .ok () w' ∧ Ent.holds ρ (.cells true C') (.pointer (some ⟨b, 0, none⟩)) w' (F id) ∧ Wrote w w' b ∧ ∀ x, F id x ↔ x = b := by
  obtain ⟨b, T', cs, hn, hc, h1, hblk, hF⟩ := cells_at hh (id := id) (by rw [get_single, if_pos rfl])
  have hv := vcells_conc hall hu
  have hvl := concL_length hv
  have hv1 := allCell_conc hall hv
  obtain ⟨hcc, hfit⟩ := setE_conc hs hc hv
  obtain ⟨w', hrun, hh', hw⟩ := run_storeCells_fz P b off' T' (0, 0) u.cells.toList 0 cs.toArray w hblk (by simp) (by simpa using hfit) hv1
  refine ⟨b, w', hn, ?_, ⟨b, T', _, rfl, hcc, set_oneCell h1 hv1, by simpa using hh', hF⟩, hw, hF⟩
  have hsz : u.cells.size = i.size := by
    have := lenIs_spec hlen
    rw [← hvl] at this
    simpa using this
  simp [storeVar, f.size, hsz, hrun]

theorem take_seg {α : Type _} {l us : List α} {p n : Nat} (h : p + us.length ≤ n) (hn : n ≤ l.length) :
    (l.take p ++ us ++ l.drop (p + us.length)).take n = (l.take n).take p ++ us ++ (l.take n).drop (p + us.length) := by
  have h1 : (l.take p ++ us).length = p + us.length := by simp; omega
  rw [List.take_append, h1, List.take_of_length_le (by omega), List.take_take, Nat.min_eq_left (by omega), List.drop_take]

theorem flat_set {α : Type} {sz : Nat} {enc : α → List AV} {off : Nat} {vs : List AV} : ∀ {l : List α} {idx : Nat} {y y' : α}, l[idx]? = some y → (∀ x ∈ l, (enc x).length = sz) → setE (enc y) off vs = some (enc y') →
    setE (l.flatMap enc) (idx * sz + off) vs = some ((l.set idx y').flatMap enc)
  | [], idx, y, y', hy, _, _ => by simp at hy
  | x :: l, 0, y, y', hy, hl, hs => by
    simp at hy; subst hy
    simp only [List.flatMap_cons, Nat.zero_mul, Nat.zero_add, List.set_cons_zero]
    obtain ⟨h1, h2⟩ := setE_spec hs
    have : setE (enc x ++ l.flatMap enc) off vs = some (enc y' ++ l.flatMap enc) := by
      have gen : ∀ (C : List AV) (o : Nat) (C' D : List AV), setE C o vs = some C' → setE (C ++ D) o vs = some (C' ++ D) := by
        intro C
        induction C with
        | nil =>
          intro o C' D h
          cases o with
          | zero =>
            cases vs with
            | nil => simp [setE, overlay] at h; subst h; cases D <;> simp [setE, overlay]
            | cons v vs => simp [setE, overlay] at h
          | succ o => simp [setE] at h
        | cons c C ih =>
          intro o C' D h
          cases o with
          | zero =>
            have ov : ∀ (A B A' : List AV), overlay A B = some A' → overlay (A ++ D) B = some (A' ++ D) := by
              intro A
              induction A with
              | nil => intro B A' h; cases B with
                | nil => simp [overlay] at h; subst h; cases D <;> simp [overlay]
                | cons => simp [overlay] at h
              | cons a A ihA =>
                intro B A' h
                cases B with
                | nil => simp [overlay] at h; subst h; simp [overlay]
                | cons b B =>
                  simp only [overlay] at h
                  split at h
                  · rename_i s hs; cases h
                    simp [overlay, ihA B s hs]
                  · cases h
            simp only [setE] at h
            have := ov _ _ _ h
            simpa [setE] using this
          | succ o =>
            simp only [setE] at h
            split at h
            · rename_i s hs; cases h
              simp [setE, ih o s D hs]
            · cases h
      exact gen _ _ _ _ hs
    exact this
  | x :: l, idx + 1, y, y', hy, hl, hs => by
    simp at hy
    have ih := flat_set hy (fun z hz => hl z (List.mem_cons_of_mem _ hz)) hs
    simp only [List.flatMap_cons, List.set_cons_succ]
    have hx := hl x List.mem_cons_self
    have gen : ∀ (A : List AV) (k : Nat) (C C' : List AV), setE C k vs = some C' → setE (A ++ C) (A.length + k) vs = some (A ++ C') := by
      intro A
      induction A with
      | nil => intro k C C' h; simpa using h
      | cons a A ihA =>
        intro k C C' h
        have := ihA k C C' h
        rw [List.length_cons, show A.length + 1 + k = (A.length + k) + 1 by omega]
        simp [setE, this]
    have := gen (enc x) _ _ _ ih
    rw [hx] at this
    rw [Nat.succ_mul, show idx * sz + sz + off = sz + (idx * sz + off) by omega]
    exact this

theorem flatMap_id_map {α : Type} (enc : α → List AV) : ∀ (l : List α), (l.map enc).flatMap id = l.flatMap enc
  | [] => rfl
  | x :: l => by rw [List.map_cons, List.flatMap_cons, List.flatMap_cons, flatMap_id_map enc l]; rfl
theorem flat_set0 {α : Type} {sz : Nat} {enc : α → List AV} {off : Nat} {vs E0 : List AV} {l : List α} {idx : Nat} {y : α} (hy : l[idx]? = some y) (hl : ∀ x ∈ l, (enc x).length = sz) (hs : setE (enc y) off vs = some E0) :
    setE (l.flatMap enc) (idx * sz + off) vs = some (((l.map enc).set idx E0).flatMap id) := by
  rw [← flatMap_id_map]
  refine flat_set (enc := id) (y := enc y) (y' := E0) (by simp [hy]) (fun x hx => ?_) hs
  obtain ⟨z, hz, rfl⟩ := List.mem_map.1 hx
  exact hl z hz
theorem flat_norm {α : Type} {enc : α → List AV} {E0 : List AV} {y' : α} (idx : Nat) (hn : normL E0 = normL (enc y')) : ∀ {l : List α} , normL (((l.map enc).set idx E0).flatMap id) = normL ((l.set idx y').flatMap enc) := by
  intro l
  induction l generalizing idx with
  | nil => rfl
  | cons x l ih =>
    cases idx with
    | zero =>
      simp only [List.map_cons, List.set_cons_zero, List.flatMap_cons, normL_append, flatMap_id_map, id_eq, hn]
    | succ k =>
      simp only [List.map_cons, List.set_cons_succ, List.flatMap_cons, normL_append, ih k, id_eq]

theorem ok_store (hE : E.Ok P) (hb : ∀ i e, get h i = some e → i < nn) {T : Nat} {x y : Operand} (ho : o.op = .store T x y)
    (hv : withV t x fun p => withV t y fun v => storeVC E T p v h nn K) : ∃ c, Good P o t h nn c ∧ K c := by
  obtain ⟨p, hp, hv⟩ := withV_elim hv
  obtain ⟨v, hvv, hv⟩ := withV_elim hv
  unfold storeVC at hv
  split at hv
  · rename_i i hl
    have f := TI.facts (TT.look_ok hE hl)
    split at hv
    · rename_i hlen hall
      split at hv
      · rename_i id off
        split at hv
        · rename_i C hg
          split at hv
          · rename_i C' hs
            refine ⟨_, good_turn hb hg rfl fun ρ F a w hop hh => ?_, hv⟩
            obtain ⟨up, hup, ep⟩ := hop x (by simp [ho, Op.operands]) _ hp
            obtain ⟨uv, huv, ev⟩ := hop y (by simp [ho, Op.operands]) _ hvv
            obtain ⟨b, w', hn, hrun, hhold, hw, hF⟩ := store_cells f hlen hall hs hh huv
            simp only [conc, hn, Option.some.injEq] at hup
            subst hup
            refine ⟨w', _, ?_, hn, hhold, hw.os, hw.tape, hw.output, hw.size, fun b' hb' => hw.other b' fun e => hb' ((hF b').2 e)⟩
            simp [execOp, ho, ep, ev, Instr.storeAt, Instr.sureAddr, add_eq, hrun]
          · exact hv.elim
        · exact hv.elim
      · rename_i id off idx sz
        split at hv
        · rename_i C hg
          obtain ⟨C', C0, ⟨hs, hn0⟩, hv⟩ := hv
          refine ⟨_, good_turn hb hg rfl fun ρ F a w hop hh => ?_, hv⟩
          obtain ⟨up, hup, ep⟩ := hop x (by simp [ho, Op.operands]) _ hp
          obtain ⟨uv, huv, ev⟩ := hop y (by simp [ho, Op.operands]) _ hvv
          obtain ⟨b, w', hn, hrun, hhold, hw, hF⟩ := store_cells f hlen hall hs hh huv
          simp only [conc, hn, Option.some.injEq] at hup
          subst hup
          refine ⟨w', _, ?_, hn, like_hold (by simp only [normE, hn0]) hhold, hw.os, hw.tape, hw.output, hw.size, fun b' hb' => hw.other b' fun e => hb' ((hF b').2 e)⟩
          simp [execOp, ho, ep, ev, Instr.storeAt, Instr.sureAddr, add_eq, hrun]
        · exact hv.elim
      · rename_i id idx sz off _
        split at hv
        · rename_i T' sz' α enc l hg
          obtain ⟨y0, y', E0, ⟨rfl, hy, hs, hn0, hbel⟩, hv⟩ := hv
          refine ⟨_, good_turn hb hg rfl fun ρ F a w hop hh => ?_, hv⟩
          obtain ⟨up, hup, ep⟩ := hop x (by simp [ho, Op.operands]) _ hp
          obtain ⟨uv, huv, ev⟩ := hop y (by simp [ho, Op.operands]) _ hvv
          have hlt : idx < l.length := (List.getElem?_eq_some_iff.1 hy).1
          obtain ⟨vr, hvr, hhold⟩ := hh.ents id _ (by rw [get_single, if_pos rfl])
          rcases Or.symm hhold with ⟨_, hnil, _⟩ | ⟨cs, hr, h1, ⟨hlenc, hown⟩, hF⟩
          · rw [hnil] at hlt; exact absurd hlt (Nat.not_lt_zero _)
          rcases hown with ⟨_, h0⟩ | ⟨g, cap, cur, fz, rfl, hblk, hfz, hnc, hcm, hcs, htake⟩
          · omega
          simp only [conc, hvr, Option.some.injEq] at hup
          subst hup
          have hvc := vcells_conc hall huv
          have hvl := concL_length hvc
          have hv1 := allCell_conc hall hvc
          have hset := flat_set0 (sz := sz) hy hr.2 hs
          have hset2 := flat_norm (l := l) (enc := enc) idx hn0
          -- the cells hold no names of their own: what is stored must be read without any
          obtain ⟨hsp, hfit0⟩ := setE_spec hset
          have hflen : (l.flatMap enc).length = cs.length := (concL_length hr.1).symm
          have hfit : idx * sz + off + uv.cells.toList.length ≤ cs.length := by rw [hvl]; omega
          have hfit2 : idx * sz + off + uv.cells.size ≤ cs.length := by simpa using hfit
          have hcsl : cs.length ≤ cur.size := by rw [hlenc, hcs]; exact Nat.mul_le_mul_right _ hnc
          obtain ⟨w', hrun, hh', hw⟩ := run_storeCells_fz P g (idx * sz + off) T' fz uv.cells.toList 0 cur w hblk hfz (by simp only [Nat.add_zero]; omega) hv1
          have hsz : uv.cells.size = i.size := by
            have := lenIs_spec hlen
            rw [← hvl] at this
            simpa using this
          have hnew : concL (fun _ => none) ((l.set idx y').flatMap enc) = some (cs.take (idx * sz + off) ++ uv.cells.toList ++ cs.drop (idx * sz + off + uv.cells.toList.length)) :=
            (like_concL hset2).symm.trans (setE_conc hset hr.1 (by rw [concL_below (n := 0) (fun i hi => absurd hi (Nat.not_lt_zero i)) _ hbel]; exact hvc)).1
          refine ⟨w', _, ?_, hvr, .inl ⟨_, ⟨hnew, fun z hz => ?_⟩, set_oneCell h1 hv1, ⟨?_, .inr ⟨g, cap, _, fz, by rw [List.length_set], hh', ?_, by simpa using hnc, hcm, ?_, ?_⟩⟩, hF⟩, hw.os, hw.tape, hw.output, hw.size, fun b' hb' => hw.other b' fun e => hb' ((hF b').2 (by rw [e]; rfl))⟩
          · simp [execOp, ho, ep, ev, Instr.storeAt, Instr.sureAddr, add_eq, storeVar, f.size, hsz, hrun]
          · rcases List.mem_or_eq_of_mem_set hz with hz | rfl
            · exact hr.2 z hz
            · have := setE_spec hs
              rw [← like_length hn0, this.1]
              have h3 := hr.2 y0 (List.mem_of_getElem? hy)
              simp; omega
          · simp only [List.length_append, List.length_take, List.length_drop, Array.length_toList, List.length_set]
            rw [Nat.min_eq_left (by omega), ← hlenc]
            omega
          · intro k hk
            refine hfz k ?_
            simp only [List.size_toArray, List.length_append, List.length_take, List.length_drop, Array.length_toList, Nat.add_zero] at hk
            rw [Nat.min_eq_left (by omega)] at hk
            omega
          · simp only [List.size_toArray, List.length_append, List.length_take, List.length_drop, Array.length_toList, Nat.add_zero]
            rw [Nat.min_eq_left (by omega), ← hcs]
            omega
          · simp only [Nat.add_zero, List.length_set]
            rw [← htake]
            exact take_seg (by rw [← hlenc]; exact hfit) (by rw [← hlenc]; simpa using hcsl)
        · exact hv.elim
      · exact hv.elim
    · exact hv.elim
  · exact hv.elim
end
end Go.Eng
