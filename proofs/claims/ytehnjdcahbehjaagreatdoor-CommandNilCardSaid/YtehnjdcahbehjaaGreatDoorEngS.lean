/- The engine, part S: appends. -/
import Derived.Test.YtehnjdcahbehjaaGreatDoorEngR
namespace Go.Eng
open Go
set_option linter.unusedSimpArgs false
set_option linter.unusedVariables false

section
variable {P : Program} {E : TT} {o : Oper} {t : List (Nat × AV)} {h : List (Nat × Ent)} {nn : Nat} {K : Con → Prop}

/-- what is appended -/
theorem src_ok {sz tx : Nat} (htx : (∃ e', P.underlying tx = some (.slice e')) ∨ P.underlying tx = some .string) {y : AV} {C2 : List AV} {p2 pre : List (Nat × Ent)} (hs : sliceCells h sz y = some (C2, p2))
    (hsub : ∀ i e, get p2 i = some e → get pre i = some e) {ρ : Names} {F : Nat → Nat → Prop} {w : World} (hh : HeapOk ρ (get pre) F w) {u : Value} (hu : conc ρ y = some u) :
    ∃ m news, Src P sz tx u m news w ∧ concL (fun _ => none) C2 = some news := by
  cases y with
  | ref i =>
    simp only [sliceCells] at hs
    split at hs
    · rename_i wr T sz' α enc l hg
      split at hs
      · rename_i hsz
        obtain rfl := Nat.eq_of_beq_eq_true hsz
        cases hs
        obtain ⟨vr, hvr, hrow⟩ := hh.ents i _ (hsub i _ (by rw [get_single, if_pos rfl]))
        obtain ⟨_, ao, cap, cs, rfl, _, hr, h1, hcell⟩ := row_at hrow
        simp only [conc, hvr, Value.oneCell', if_true, Option.some.injEq] at hu
        subst hu
        have hl := rowCells_length hr
        refine ⟨l.length, cs, ⟨htx, fun _ => rfl, ?_, ?_, hl, h1⟩, hr.1⟩
        · cases ao with
          | none =>
            have h0 : l.length = 0 := by
              rcases Nat.eq_zero_or_pos l.length with h0 | h0
              · exact h0
              · obtain ⟨ad, h1, _⟩ := hcell h0; cases h1
            rw [h0, Nat.zero_mul] at hl
            rw [List.length_eq_zero_iff.1 hl]
            exact run_firstCells_none w _ _ _ _
          | some ad =>
            refine run_firstCells_some w _ _ ad _ _ cs hl fun j v hj => ?_
            have hpos : 0 < l.length := by
              rcases Nat.eq_zero_or_pos l.length with h0 | h0
              · rw [h0, Nat.zero_mul] at hl
                have := (List.getElem?_eq_some_iff.1 hj).1
                omega
              · exact h0
            obtain ⟨ad', h2, _, _, hc⟩ := hcell hpos
            cases h2
            exact hc j v hj
        · cases ao with
          | none =>
            have h0 : l.length = 0 := by
              rcases Nat.eq_zero_or_pos l.length with h0 | h0
              · exact h0
              · obtain ⟨ad, h1, _⟩ := hcell h0; cases h1
            rw [h0, Nat.zero_mul] at hl
            rw [List.length_eq_zero_iff.1 hl]
            exact run_firstCells_none w.drew _ _ _ _
          | some ad =>
            refine run_firstCells_some w.drew _ _ ad _ _ cs hl fun j v hj => ?_
            have hpos : 0 < l.length := by
              rcases Nat.eq_zero_or_pos l.length with h0 | h0
              · rw [h0, Nat.zero_mul] at hl
                have := (List.getElem?_eq_some_iff.1 hj).1
                omega
              · exact h0
            obtain ⟨ad', h2, _, _, hc⟩ := hcell hpos
            cases h2
            simpa using hc j v hj
      · cases hs
    · cases hs
  | sl i off len cap =>
    simp only [sliceCells] at hs
    split at hs
    · rename_i wr C hg
      split at hs
      · rename_i p hp
        split at hs
        · rename_i hbl
          cases hs
          obtain ⟨b, T', cs, hn, hc, h1, hblk, _⟩ := cells_at hh (id := i) (hsub i _ (by rw [get_single, if_pos rfl]))
          obtain ⟨hpc, hlen⟩ := part?_conc hc hp
          simp only [conc, hn, Option.some.injEq] at hu
          subst hu
          have hcell : ∀ j v, ((cs.drop off).take (len * sz))[j]? = some v → w.cell? ((⟨b, 0 + off, none⟩ : Addr).add j) = some v := by
            intro j v hj
            rw [add_eq _ rfl]
            rw [List.getElem?_take] at hj
            split at hj
            · rw [List.getElem?_drop] at hj
              simp [World.cell?, hblk, hj]
            · cases hj
          refine ⟨len, (cs.drop off).take (len * sz), ⟨htx, fun _ => rfl, run_firstCells_some w _ _ _ _ _ _ (by simp; omega) hcell, run_firstCells_some w.drew _ _ _ _ _ _ (by simp; omega) (fun j v hj => by simpa using hcell j v hj), by simp; omega, fun u hu => h1 u (List.mem_of_mem_drop (List.mem_of_mem_take hu))⟩, ?_⟩
          rw [concL_below (ρ' := ρ) (n := 0) (fun i hi => absurd hi (Nat.not_lt_zero i)) _ hbl]; exact hpc
        · cases hs
      · cases hs
    · cases hs
  | str b =>
    simp only [sliceCells] at hs
    split at hs
    · rename_i h1
      obtain rfl := Nat.eq_of_beq_eq_true h1
      cases hs
      simp only [conc, Option.some.injEq] at hu
      subst hu
      refine ⟨b.size, byteCells b, ⟨htx, fun _ => rfl, firstCells_string b w, firstCells_string b w.drew, by rw [byteCells_length, Nat.mul_one], fun u hu => ?_⟩, bytes_conc _ _⟩
      obtain ⟨_, _, rfl⟩ := List.mem_map.1 hu
      rfl
    · cases hs
  | val v =>
    simp only [sliceCells] at hs
    split at hs
    · rename_i heq; cases heq
    · rename_i heq; cases heq
    · rename_i heq; cases heq
    · rename_i heq
      cases heq
      cases hs
      simp only [conc, Option.some.injEq] at hu
      subst hu
      exact ⟨0, [], ⟨htx, fun _ => rfl, run_firstCells_none w sz 0 0 0, run_firstCells_none w.drew sz 0 0 0, by simp, fun _ h => by cases h⟩, rfl⟩
    · cases hs
  | _ => simp [sliceCells] at hs

/-- the row that an append lays anew -/
theorem grow_ok {i : TI} {elem T tx ty : Nat} (te : TFacts P elem i) (hT : P.underlying T = some (.slice elem)) (hpos : 0 < i.size) {w : World} {base : Option Addr} {n c : Nat} {olds : List Value}
    (hold : (Builtin.firstCells i.size n (.slice base n c)).run P w.drew = .ok olds.toArray w.drew) (holdl : olds.length = n * i.size) {x : Value} {m : Nat} {news : List Value} (hs : Src P i.size tx x m news w)
    (hg : c < n + m) (hmax : n + m ≤ maxLen) (hby : (n + m) * i.bytes ≤ 140737488355328)
    {α : Type} {enc : α → List AV} {l : List α} (hr : rowCells i.size enc l (olds ++ news)) (h1 : ∀ u ∈ olds ++ news, u.oneCell' = true) (hl : l.length = n + m) :
    ∃ v' w' G, (Builtin.append_ #[T, tx] ty #[.slice base n c, x]).run P w = .ok v' w' ∧ v'.oneCell' = true ∧ (∀ ρ, Ent.holds ρ (.row true elem i.size α enc l) v' w' G) ∧ (∀ b, G b → b = w.heap.size ∧ b < w'.heap.size) ∧
      w'.os = w.os ∧ w'.tape = w.tape ∧ w'.output = w.output ∧ w.heap.size ≤ w'.heap.size ∧ ∀ b, b < w.heap.size → w'.heap[b]? = w.heap[b]? := by
  obtain ⟨ti, hti, hts, htb⟩ := te.info
  obtain ⟨z, hz, hzc, _⟩ := te.zero
  have hz' : ti.zero = some z := by
    have := hz w
    simp only [zeroValue, typeInfo] at this
    simp [hti] at this
    cases hzz : ti.zero with
    | none => simp [hzz] at this
    | some z' => simp [hzz] at this; rw [this]
  have hzl := zeroCells_length hzc
  rw [te.zlen] at hzl
  have hzs : z.cells.size = i.size := by simpa using hzl.symm
  have hrun := run_append_grow_src (P := P) w T tx ty elem ti z hT hti hz' base n c olds (by rw [hts]; exact hold) x m news (by rw [hts]; exact hs) hg (by simp only [maxLen] at hmax; omega)
    (growslice_fits hg (by rw [htb]; exact hby))
  have hge := grownCap_ge w (n + m) c elem
  have hcm := grownCap_le_maxLen w (n + m) c elem hmax
  refine ⟨_, _, fun b => b = w.heap.size, hrun, rfl, fun ρ => ?_, fun b hb => ⟨hb, by rw [hb]; simp⟩, rfl, rfl, rfl, by simp, fun b hb => heap_alloc_old w.drew _ hb⟩
  have hzc2 : (Builtin.zeroCells z.cells (grownCap w (n + m) c elem - (n + m))).size = (grownCap w (n + m) c elem - (n + m)) * i.size := by rw [size_zeroCells, hzs]
  have hol : (olds ++ news).length = (n + m) * i.size := by rw [List.length_append, holdl, hs.newsLen, Nat.add_mul]
  have := row_alloc (ρ := ρ) (w := w.drew) (T := elem) (cap := grownCap w (n + m) c elem) (all := (olds ++ news) ++ (Builtin.zeroCells z.cells (grownCap w (n + m) c elem - (n + m))).toList) hr h1 (by omega) hcm
    (by rw [List.length_append, hol, Array.length_toList, hzc2, ← Nat.add_mul]; congr 1; omega) (by rw [hl, ← hol, List.take_left])
  rw [hl] at this
  have e : ((olds ++ news) ++ (Builtin.zeroCells z.cells (grownCap w (n + m) c elem - (n + m))).toList).toArray = (olds ++ news).toArray ++ Builtin.zeroCells z.cells (grownCap w (n + m) c elem - (n + m)) := by
    apply Array.toList_inj.1; simp
  rw [e] at this
  exact this

/-- a row of one's own, appended to -/
theorem append_own {i : TI} {elem T tx ty : Nat} (te : TFacts P elem i) (hT : P.underlying T = some (.slice elem)) (hpos : 0 < i.size) {w : World} {v : Value} {n : Nat} {cs1 : List Value}
    (hown : ownRow w elem i.size v n cs1) (h1c : ∀ u ∈ cs1, u.oneCell' = true) {x : Value} {m : Nat} {news : List Value} (hs : Src P i.size tx x m news w)
    (hmax : n + m ≤ maxLen) (hby : (n + m) * i.bytes ≤ 140737488355328)
    {α : Type} {enc : α → List AV} {l : List α} (hr : rowCells i.size enc l (cs1 ++ news)) (hl : l.length = n + m) :
    ∃ v' w' G, (Builtin.append_ #[T, tx] ty #[v, x]).run P w = .ok v' w' ∧ v'.oneCell' = true ∧ (∀ ρ, Ent.holds ρ (.row true elem i.size α enc l) v' w' G) ∧ (∀ b, G b → b < w'.heap.size ∧ (w.heap.size ≤ b ∨ v.ownBlock = some b)) ∧
      w'.os = w.os ∧ w'.tape = w.tape ∧ w'.output = w.output ∧ w.heap.size ≤ w'.heap.size ∧ ∀ b, b < w.heap.size → v.ownBlock ≠ some b → w'.heap[b]? = w.heap[b]? := by
  obtain ⟨ti, hti, hts, htb⟩ := te.info
  have h1 : ∀ u ∈ cs1 ++ news, u.oneCell' = true := fun u hu => by
    rcases List.mem_append.1 hu with hu | hu
    · exact h1c u hu
    · exact hs.one u hu
  obtain ⟨hlen, ho⟩ := hown
  rcases ho with ⟨rfl, rfl⟩ | ⟨g, cap, cur, fz, rfl, hblk, hfz, hnc, hcm, hcs, htake⟩
  · have hc0 : cs1 = [] := List.length_eq_zero_iff.1 (by omega)
    subst hc0
    rcases Nat.eq_zero_or_pos m with hm0 | hm0
    · subst hm0
      have hn0 : news = [] := List.length_eq_zero_iff.1 (by rw [hs.newsLen]; omega)
      subst hn0
      refine ⟨.slice none 0 0, w, fun _ => False, ?_, rfl, fun ρ => .inl ⟨[], hr, by simp, ⟨by rw [hl]; simp, .inl ⟨rfl, hl⟩⟩, fun b => by simp [Value.ownBlock]⟩, fun b hb => hb.elim, rfl, rfl, rfl, Nat.le_refl _, fun _ _ _ => rfl⟩
      have hc := hs.cells
      rw [← hts] at hc
      rcases hs.kind with ⟨e', hk⟩ | hk <;> simp [Builtin.append_, run_underlying hT, run_underlying hk, sizeOf, typeInfo, hti, hs.len, hc]
    · obtain ⟨v', w', G, hrun, h2, hh, hG, a1, a2, a3, a4, a5⟩ := grow_ok (ty := ty) te hT hpos (w := w) (base := none) (n := 0) (c := 0) (olds := []) (run_firstCells_none w.drew i.size 0 0 0) (by simp) hs (by omega) hmax hby hr h1 hl
      exact ⟨v', w', G, hrun, h2, hh, fun b hb => ⟨(hG b hb).2, .inl (by rw [(hG b hb).1]; exact Nat.le_refl _)⟩, a1, a2, a3, a4, fun b hb _ => a5 b hb⟩
  · by_cases hroom : n + m ≤ cap
    · have hfit : n * i.size + news.length ≤ cur.size := by rw [hs.newsLen, hcs, ← Nat.add_mul]; exact Nat.mul_le_mul_right _ hroom
      obtain ⟨w', hst, hheap, hw⟩ := run_storeCells_fz P g (n * i.size) elem fz news 0 cur w hblk hfz (by omega) hs.one
      have hol : (cs1 ++ news).length = (n + m) * i.size := by rw [List.length_append, hlen, hs.newsLen, Nat.add_mul]
      refine ⟨.slice (some ⟨g, 0, none⟩) (n + m) cap, w', fun b => some g = some b, ?_, rfl, fun ρ => .inl ⟨_, hr, h1, ⟨by rw [hl]; exact hol, .inr ⟨g, cap, _, fz, by rw [hl], hheap, fun k hk => ?_, by rw [hl]; exact hroom, hcm, ?_, ?_⟩⟩, fun b => Iff.rfl⟩,
        fun b hb => ?_, hw.os, hw.tape, hw.output, by rw [hw.size]; exact Nat.le_refl _, fun b _ hb => hw.other b fun e => hb (by rw [e]; rfl)⟩
      · have hc := hs.cells
        rw [← hts] at hc hst
        have hadd : (⟨g, 0, none⟩ : Addr).add (n * ti.size) = ⟨g, n * ti.size, none⟩ := by rw [add_eq _ rfl]; simp
        rcases hs.kind with ⟨e', hk⟩ | hk <;> simp [Builtin.append_, run_underlying hT, run_underlying hk, sizeOf, typeInfo, hti, hs.len, hroom, hc, hadd, hst]
      · refine hfz k ?_
        simp only [List.size_toArray, List.length_append, List.length_take, List.length_drop, Array.length_toList, Nat.add_zero] at hk
        rw [Nat.min_eq_left (by omega)] at hk
        omega
      · simp only [List.size_toArray, List.length_append, List.length_take, List.length_drop, Array.length_toList, Nat.add_zero]
        rw [Nat.min_eq_left (by omega), ← hcs]
        omega
      · simp only [Nat.add_zero, hl]
        rw [htake, ← hol]
        exact List.take_left
      · cases hb
        exact ⟨by rw [hw.size]; exact cells_lt hblk, .inr rfl⟩
    · have hold : (Builtin.firstCells i.size n (.slice (some ⟨g, 0, none⟩) n cap)).run P w.drew = .ok cs1.toArray w.drew := by
        refine run_firstCells_some w.drew _ _ _ _ _ cs1 hlen fun j v hj => ?_
        rw [add_eq _ rfl]
        rw [← htake, List.getElem?_take] at hj
        split at hj
        · simp only [World.cell?, Nat.zero_add]
          have : w.drew.heap[g]? = _ := hblk
          rw [this]
          simpa using hj
        · cases hj
      obtain ⟨v', w', G, hrun, h2, hh, hG, a1, a2, a3, a4, a5⟩ := grow_ok (ty := ty) te hT hpos hold hlen hs (by omega) hmax hby hr h1 hl
      exact ⟨v', w', G, hrun, h2, hh, fun b hb => ⟨(hG b hb).2, .inl (by rw [(hG b hb).1]; exact Nat.le_refl _)⟩, a1, a2, a3, a4, fun b hb _ => a5 b hb⟩

/-- an empty slice, wherever it points, appended to -/
theorem append_none {i : TI} {elem T tx ty : Nat} (te : TFacts P elem i) (hT : P.underlying T = some (.slice elem)) (hpos : 0 < i.size) {w : World} (a0 : Option Addr)
    {x : Value} {m : Nat} {news : List Value} (hs : Src P i.size tx x m news w)
    (hmax : 0 + m ≤ maxLen) (hby : (0 + m) * i.bytes ≤ 140737488355328)
    {α : Type} {enc : α → List AV} {l : List α} (hr : rowCells i.size enc l ([] ++ news)) (hl : l.length = 0 + m) :
    ∃ v' w' G, (Builtin.append_ #[T, tx] ty #[.slice a0 0 0, x]).run P w = .ok v' w' ∧ v'.oneCell' = true ∧ (∀ ρ, Ent.holds ρ (.row true elem i.size α enc l) v' w' G) ∧ (∀ b, G b → b < w'.heap.size ∧ w.heap.size ≤ b) ∧
      w'.os = w.os ∧ w'.tape = w.tape ∧ w'.output = w.output ∧ w.heap.size ≤ w'.heap.size ∧ ∀ b, b < w.heap.size → w'.heap[b]? = w.heap[b]? := by
  obtain ⟨ti, hti, hts, htb⟩ := te.info
  have h1 : ∀ u ∈ [] ++ news, u.oneCell' = true := fun u hu => hs.one u (by simpa using hu)
  rcases Nat.eq_zero_or_pos m with hm0 | hm0
  · subst hm0
    have hn0 : news = [] := List.length_eq_zero_iff.1 (by rw [hs.newsLen]; omega)
    subst hn0
    refine ⟨.slice a0 0 0, w, fun _ => False, ?_, rfl, fun ρ => .inr ⟨⟨a0, rfl⟩, List.length_eq_zero_iff.1 (by omega), fun b hb => hb⟩, fun b hb => hb.elim, rfl, rfl, rfl, Nat.le_refl _, fun _ _ => rfl⟩
    have hc := hs.cells
    rw [← hts] at hc
    cases a0 with
    | none => rcases hs.kind with ⟨e', hk⟩ | hk <;> simp [Builtin.append_, run_underlying hT, run_underlying hk, sizeOf, typeInfo, hti, hs.len, hc]
    | some ad => rcases hs.kind with ⟨e', hk⟩ | hk <;> simp [Builtin.append_, run_underlying hT, run_underlying hk, sizeOf, typeInfo, hti, hs.len, hc, storeCells]
  · have hf : (Builtin.firstCells i.size 0 (.slice a0 0 0)).run P w.drew = .ok ([] : List Value).toArray w.drew := by
      cases a0 with
      | none => exact run_firstCells_none w.drew i.size 0 0 0
      | some ad => exact run_firstCells_some w.drew _ _ ad _ _ [] (by simp) fun j v hj => by simp at hj
    obtain ⟨v', w', G, hrun, h2, hh, hG, a1, a2, a3, a4, a5⟩ := grow_ok (ty := ty) te hT hpos (w := w) (base := a0) (n := 0) (c := 0) (olds := []) hf (by simp) hs (by omega) hmax hby hr h1 hl
    exact ⟨v', w', G, hrun, h2, hh, fun b hb => ⟨(hG b hb).2, by rw [(hG b hb).1]; exact Nat.le_refl _⟩, a1, a2, a3, a4, a5⟩

theorem notIn_get {i : Nat} : ∀ {b : List (Nat × Ent)}, notIn i b = true → get b i = none
  | [], _ => rfl
  | (k, e) :: r, hn => by
    simp only [notIn] at hn
    split at hn
    · cases hn
    · rename_i hk
      rw [get_cons, if_neg (fun e => by subst e; simp at hk)]
      exact notIn_get hn
theorem disj_get : ∀ {a b : List (Nat × Ent)}, disj a b = true → ∀ {k : Nat} {e : Ent}, get a k = some e → get b k = none
  | [], _, _, _, _, hg => by simp [get] at hg
  | (i, e') :: r, b, hd, k, e, hg => by
    simp only [disj] at hd
    split at hd
    · rename_i hn
      rw [get_cons] at hg
      split at hg
      · rename_i h2; subst h2; exact notIn_get hn
      · exact disj_get hd hg
    · cases hd
theorem sliceCells_sub {sz : Nat} {y : AV} {C2 : List AV} {p2 : List (Nat × Ent)} (hs : sliceCells h sz y = some (C2, p2)) : ∀ i e, get p2 i = some e → get h i = some e := by
  intro i e hi
  have fin : ∀ {id : Nat} {e' : Ent}, get h id = some e' → p2 = [(id, e')] → get h i = some e := fun hg hp => by
    rw [hp] at hi; exact single_sub hg i e hi
  have fin0 : p2 = [] → get h i = some e := fun hp => by rw [hp] at hi; simp [get] at hi
  unfold sliceCells at hs
  split at hs
  · split at hs
    · split at hs
      · rename_i hg _ _; cases hs; exact fin hg rfl
      · cases hs
    · cases hs
  · split at hs
    · split at hs
      · split at hs
        · rename_i hg _ _ _ _ _; cases hs; exact fin (by assumption) rfl
        · cases hs
      · cases hs
    · cases hs
  · split at hs
    · cases hs; exact fin0 rfl
    · cases hs
  · cases hs; exact fin0 rfl
  · cases hs

theorem ok_append (hE : E.Ok P) (hb : ∀ i e, get h i = some e → i < nn) {c : Call} (ho : o.op = .call c) (hc : c.callee = .builtin .append) {x y : AV} {T U : Nat} {iu : TI} (hvs : evL t c.args.toList = some [x, y]) (hT : c.argTypes.toList = [T, U])
    (hlu : E.look U = some iu) (hku : (∃ e, iu.kind = .slice e) ∨ iu.kind = .string) (hv : appendVC E T x y h nn K) : ∃ c, Good P o t h nn c ∧ K c := by
  obtain ⟨ox, oy, hxy, hx, hy⟩ := evL_two hvs
  have ha : c.args = #[ox, oy] := Array.toList_inj.1 hxy
  have hty : c.argTypes = #[T, U] := Array.toList_inj.1 hT
  have hinx : ox ∈ o.op.operands := by simp [ho, Op.operands, Call.operands, ha, hc]
  have hiny : oy ∈ o.op.operands := by simp [ho, Op.operands, Call.operands, ha, hc]
  have hrun : ∀ (a : Act) (w w' : World) (r : Value), (Builtin.append_ #[T, U] o.type #[a.eval ox, a.eval oy]).run P w = .ok r w' → (execOp a.eval o).run P w = .ok (.value r) w' := by
    intro a w w' r hr
    simp [execOp, ho, resolve, hc, invoke, builtin, ha, hty, hr]
  have fu := TI.facts (TT.look_ok hE hlu)
  have htx : (∃ e', P.underlying U = some (.slice e')) ∨ P.underlying U = some .string := by
    obtain ⟨d, hd, hu', _⟩ := fu.und
    rcases hku with ⟨e, hk⟩ | hk
    · rw [hk] at hd
      cases d <;> simp [TK.is] at hd
      exact .inl ⟨_, hu'⟩
    · rw [hk] at hd
      cases d <;> simp [TK.is] at hd
      exact .inr hu'
  unfold appendVC at hv
  split at hv
  · rename_i i hl
    have f := TI.facts (TT.look_ok hE hl)
    obtain ⟨d, hd, hu', hu⟩ := f.und
    split at hv
    · rename_i elem hkk
      rw [hkk] at hd
      obtain ⟨elem', rfl⟩ : ∃ b, d = .slice b := by cases d <;> simp [TK.is] at hd; exact ⟨_, rfl⟩
      obtain rfl := Nat.eq_of_beq_eq_true (show Nat.beq elem elem' = true from hd)
      split at hv
      · rename_i ie hle
        have te := TI.facts (TT.look_ok hE hle)
        split at hv
        · exact hv.elim
        · rename_i sz hsz
          split at hv
          · rename_i C1 p1 u1 C2 p2 hhead hsrc
            split at hv
            · rename_i hdisj
              obtain ⟨α, enc, l1, l2, ⟨hl1, hl2, hez, hby, hmax, hpos2⟩, hv⟩ := hv
              have hsz' : ie.size = sz + 1 := hsz
              rw [← hsz'] at hhead hsrc hez hv
              have hpos : 0 < ie.size := by omega
              have hcount : ∀ (l : List α), (l.flatMap enc).length = l.length * ie.size := by
                intro l
                induction l with
                | nil => simp
                | cons a l ih => rw [List.flatMap_cons, List.length_append, hez, ih, List.length_cons, Nat.succ_mul]; omega
              have hrows : ∀ {cs news : List Value}, concL (fun _ => none) C1 = some cs → concL (fun _ => none) C2 = some news → rowCells ie.size enc (l1 ++ l2) (cs ++ news) := by
                intro cs news h1 h2
                refine ⟨?_, fun z _ => hez z⟩
                rw [List.flatMap_append]
                exact concL_append.2 ⟨_, _, by rw [like_concL hl1]; exact h1, by rw [like_concL hl2]; exact h2, rfl⟩
              have hm2 : ∀ {m : Nat} {news : List Value}, news.length = m * ie.size → concL (fun _ => none) C2 = some news → l2.length = m := by
                intro m news h1 h2
                have := concL_length h2
                rw [h1, ← like_length hl2, hcount] at this
                exact (Nat.eq_of_mul_eq_mul_right hpos this).symm
              have hn1 : ∀ {n : Nat} {cs : List Value}, cs.length = n * ie.size → concL (fun _ => none) C1 = some cs → l1.length = n := by
                intro m news h1 h2
                have := concL_length h2
                rw [h1, ← like_length hl1, hcount] at this
                exact (Nat.eq_of_mul_eq_mul_right hpos this).symm
              cases x with
              | ref id =>
                simp only [appHead] at hhead
                split at hhead
                · rename_i T' sz' α' enc' l' hg
                  split at hhead
                  · rename_i hs1 hs2
                    obtain rfl := Nat.eq_of_beq_eq_true hs1
                    obtain rfl := Nat.eq_of_beq_eq_true hs2
                    cases hhead
                    have hsub1 : ∀ i e, get p2 i = some e → get ([(id, Ent.row true T' ie.size α' enc' l')] ++ p2) i = some e := by
                      intro i e hi
                      rw [get_append]
                      cases h1 : get [(id, Ent.row true T' ie.size α' enc' l')] i with
                      | none => simpa using hi
                      | some e1 => rw [disj_get hdisj h1] at hi; cases hi
                    refine ⟨_, good_turnfresh (e0 := .row true T' ie.size α' enc' l') hb ?_ (by rw [get_append, get_single, if_pos rfl]; rfl) rfl fun ρ F a w hop hh hf => ?_, hv⟩
                    · intro i e hi
                      rw [get_append] at hi
                      cases h1 : get [(id, Ent.row true T' ie.size α' enc' l')] i with
                      | none => rw [h1] at hi; exact sliceCells_sub hsrc i e (by simpa using hi)
                      | some e1 => rw [h1] at hi; cases hi; exact single_sub hg i _ h1
                    · obtain ⟨ux, hux, ex⟩ := hop ox hinx _ hx
                      obtain ⟨uy, huy, ey⟩ := hop oy hiny _ hy
                      obtain ⟨vr, hvr, hhold0⟩ := hh.ents id _ (by rw [get_append, get_single, if_pos rfl]; rfl)
                      obtain ⟨m, news, hsr, hnews⟩ := src_ok htx hsrc hsub1 hh huy
                      rcases Or.symm hhold0 with ⟨⟨a0, rfl⟩, hnil, hF⟩ | ⟨cs, hr, h1, hown, hF⟩
                      · subst hnil
                        simp only [conc, hvr, Value.oneCell', if_true, Option.some.injEq] at hux
                        subst hux
                        have e1 := hn1 (n := 0) (cs := []) (by simp) rfl
                        have e2 := hm2 hsr.newsLen hnews
                        obtain ⟨v', w', G, hr', h2, hhold, hG, a1, a2, a3, a4, a5⟩ := append_none (ty := o.type) te hu' hpos a0 hsr (by omega) (by rw [← e1, ← e2]; exact hby) (hrows rfl hnews) (by rw [List.length_append, e1, e2])
                        exact ⟨w', v', _, fun _ => False, G, hrun a w w' v' (by rw [ex, ey]; exact hr'), h2, hvr, fun b hb' => hb', hhold _, fun b hb' => hb'.elim, fun b hb' => ⟨(hG b hb').1, .inl (hG b hb').2⟩, fun _ b hb' => hb'.elim, a1, a2, a3, a4, fun b hb' _ => a5 b hb'⟩
                      have hvc : vr.oneCell' = true := by
                        rcases hown.2 with ⟨h2, _⟩ | ⟨g, cap, cur, fz, h2, _⟩ <;> rw [h2] <;> rfl
                      simp only [conc, hvr, hvc, if_true, Option.some.injEq] at hux
                      subst hux
                      have e1 := hn1 hown.1 hr.1
                      have e2 := hm2 hsr.newsLen hnews
                      obtain ⟨v', w', G, hr', h2, hhold, hG, a1, a2, a3, a4, a5⟩ := append_own (ty := o.type) te hu' hpos hown h1 hsr (by omega) (by rw [← e1, ← e2]; exact hby) (hrows hr.1 hnews) (by rw [List.length_append, e1, e2])
                      exact ⟨w', v', _, fun _ => False, G, hrun a w w' v' (by rw [ex, ey]; exact hr'), h2, hvr, fun b hb' => hb', hhold _, fun b hb' => hb'.elim, fun b hb' => ⟨(hG b hb').1, (hG b hb').2.imp (fun h => h) (fun h3 => (hF b).2 h3)⟩, fun _ b hb' => hb'.elim, a1, a2, a3, a4, fun b hb' hn => a5 b hb' fun e => hn ((hF b).2 e)⟩
                  · cases hhead
                · cases hhead
              | val v =>
                simp only [appHead] at hhead
                split at hhead
                · rename_i heq; cases heq
                · rename_i heq
                  cases heq
                  cases hhead
                  refine ⟨_, good_fresh hb (fun i e hi => sliceCells_sub hsrc i e hi) fun ρ F a w hop hh => ?_, hv⟩
                  obtain ⟨ux, hux, ex⟩ := hop ox hinx _ hx
                  obtain ⟨uy, huy, ey⟩ := hop oy hiny _ hy
                  simp only [conc, Option.some.injEq] at hux
                  subst hux
                  obtain ⟨m, news, hsr, hnews⟩ := src_ok htx hsrc (fun _ _ h => h) hh huy
                  have hown : ownRow w elem ie.size (.slice none 0 0) 0 [] := ⟨by simp, .inl ⟨rfl, rfl⟩⟩
                  have e1 := hn1 (n := 0) (cs := []) (by simp) rfl
                  have e2 := hm2 hsr.newsLen hnews
                  obtain ⟨v', w', G, hr', h2, hhold, hG, a1, a2, a3, a4, a5⟩ := append_own (ty := o.type) te hu' hpos hown (by simp) hsr (by omega) (by rw [← e1, ← e2]; exact hby) (hrows rfl hnews) (by rw [List.length_append, e1, e2])
                  exact ⟨w', v', G, hrun a w w' v' (by rw [ex, ey]; exact hr'), h2, hhold _, fun b hb' => ⟨(hG b hb').1, (hG b hb').2.imp (fun h => h) (fun h3 => by cases h3)⟩, a1, a2, a3, a4, fun b hb' => a5 b hb' (by simp [Value.ownBlock])⟩
                · rename_i heq; cases heq
                · cases hhead
              | sl id off len cap =>
                simp only [appHead] at hhead
                split at hhead
                · rename_i wr C hlc hg
                  obtain rfl := Nat.eq_of_beq_eq_true hlc
                  split at hhead
                  · rename_i p hp
                    split at hhead
                    · rename_i hbl
                      cases hhead
                      have hsub1 : ∀ i e, get p2 i = some e → get ([(id, Ent.cells wr C)] ++ p2) i = some e := by
                        intro i e hi
                        rw [get_append]
                        cases h1 : get [(id, Ent.cells wr C)] i with
                        | none => simpa using hi
                        | some e1 => rw [disj_get hdisj h1] at hi; cases hi
                      refine ⟨_, good_fresh (pre := [(id, Ent.cells wr C)] ++ p2) hb ?_ fun ρ F a w hop hh => ?_, hv⟩
                      · intro i e hi
                        rw [get_append] at hi
                        cases h1 : get [(id, Ent.cells wr C)] i with
                        | none => rw [h1] at hi; exact sliceCells_sub hsrc i e (by simpa using hi)
                        | some e1 => rw [h1] at hi; cases hi; exact single_sub hg i _ h1
                      · obtain ⟨ux, hux, ex⟩ := hop ox hinx _ hx
                        obtain ⟨uy, huy, ey⟩ := hop oy hiny _ hy
                        obtain ⟨m, news, hsr, hnews⟩ := src_ok htx hsrc hsub1 hh huy
                        obtain ⟨b, T', cs, hn, hc', h1, hblk, _⟩ := cells_at hh (id := id) (by rw [get_append, get_single, if_pos rfl]; rfl)
                        obtain ⟨hpc, hlen⟩ := part?_conc hc' hp
                        simp only [conc, hn, Option.some.injEq] at hux
                        subst hux
                        have hpn : concL (fun _ => none) C1 = some ((cs.drop off).take (len * ie.size)) := by
                          rw [concL_below (ρ' := ρ) (n := 0) (fun i hi => absurd hi (Nat.not_lt_zero i)) _ hbl]; exact hpc
                        have hcl : ((cs.drop off).take (len * ie.size)).length = len * ie.size := by simp; omega
                        have e1 := hn1 hcl hpn
                        have e2 := hm2 hsr.newsLen hnews
                        have hpos2' : 0 < l2.length := hpos2
                        have hold : (Builtin.firstCells ie.size len (.slice (some ⟨b, 0 + off, none⟩) len len)).run P w.drew = .ok ((cs.drop off).take (len * ie.size)).toArray w.drew := by
                          refine run_firstCells_some w.drew _ _ _ _ _ _ hcl fun j v hj => ?_
                          rw [add_eq _ rfl]
                          rw [List.getElem?_take] at hj
                          split at hj
                          · rw [List.getElem?_drop] at hj
                            have : w.drew.heap[b]? = _ := hblk
                            simp only [World.cell?, this]
                            simpa using hj
                          · cases hj
                        obtain ⟨v', w', G, hr', h2, hhold, hG, a1, a2, a3, a4, a5⟩ := grow_ok (ty := o.type) te hu' hpos hold hcl hsr (by omega) (by omega) (by rw [← e1, ← e2]; exact hby) (hrows hpn hnews)
                          (fun u hu => by
                            rcases List.mem_append.1 hu with hu | hu
                            · exact h1 u (List.mem_of_mem_drop (List.mem_of_mem_take hu))
                            · exact hsr.one u hu) (by rw [List.length_append, e1, e2])
                        exact ⟨w', v', G, hrun a w w' v' (by rw [ex, ey]; exact hr'), h2, hhold _, fun b hb' => ⟨(hG b hb').2, .inl (by rw [(hG b hb').1]; exact Nat.le_refl _)⟩, a1, a2, a3, a4, fun b hb' => a5 b hb'⟩
                    · cases hhead
                  · cases hhead
                · cases hhead
              | _ => simp [appHead] at hhead
            · exact hv.elim
          · exact hv.elim
      · exact hv.elim
    · exact hv.elim
  · exact hv.elim
end
end Go.Eng
