/- What the given statements' form asks around a contract: rows of texts that came in, and a world that bears the listed variables. -/
import Derived.Test.YtehnjdcahbehjaaGreatDoorKA
import Derived.Test.YtehnjdcahbehjaaGreatDoorEngZ
import Derived.Test.YtehnjdcahbehjaaGreatDoorCards
import Derived.Test.YtehnjdcahbehjaaGreatDoorTie
import Derived.WalkKit
import Derived.ProofKit
import Derived.OpenShut
import Derived.SliceStrings
import Derived.Deep.DeepHandedRow
import Derived.Deep.DeepWitnessRowRef
import Derived.Lib.LaidTab
namespace Go.Eng
open Go Go.Proofs Go.RowKit
theorem conc_strs (ρ : Names) : ∀ (l : List ByteArray), concL ρ (l.flatMap strAV) = some (l.map Value.string)
  | [] => rfl
  | s :: r => by
    have ih := conc_strs ρ r
    simp only [List.flatMap_cons, strAV, List.singleton_append, concL, conc, ih, List.map_cons]
/-- a row of texts that is read -/
structure TextsAt (w : World) (v : Value) (l : List ByteArray) : Prop where
  ex : ∃ ao cap, v = .slice ao l.length cap ∧ l.length ≤ cap ∧ cap ≤ maxLen ∧ (0 < l.length → ∃ ad, ao = some ad ∧ ad.spot = none ∧ ∀ (j : Nat) (s : ByteArray), l[j]? = some s → w.cell? (ad.add j) = some (.string s))
/-- A contract about a row of texts that is read alone, at a value that is one. -/
theorem calls_of_texts {P : Program} {f : Nat} {T : Nat} {l : List ByteArray} (h : FnOk P f [.ref 0] ⟨[(0, .row false T 1 ByteArray strAV l)], 1, 1, .tt, []⟩) {w : World} {v : Value} (hv : TextsAt w v l) :
    Calls P f #[v] w fun e w' => e = .returned (.bool true) ∧ Below w.heap.size w w' := by
  obtain ⟨ao, cap, rfl, hlc, hcm, hat⟩ := hv.ex
  have hh : HeapOk (fun i => if i = 0 then some (.slice ao l.length cap) else none) (get [(0, Ent.row false T 1 ByteArray strAV l)]) (fun _ b => 0 < l.length ∧ ∃ ad, ao = some ad ∧ b = ad.block) w := by
    refine heapOk_single (v := .slice ao l.length cap) rfl ?_ fun b hb => ?_
    · refine ⟨l.map Value.string, ⟨conc_strs _ l, fun _ _ => rfl⟩, fun u hu => ?_, by omega, ao, cap, rfl, hlc, fun b => Iff.rfl, fun hn => ?_⟩
      · obtain ⟨s, _, rfl⟩ := List.mem_map.1 hu
        rfl
      · obtain ⟨ad, h1, h2, h3⟩ := hat hn
        refine ⟨ad, h1, h2, fun j u hj => ?_⟩
        rw [List.getElem?_map] at hj
        obtain ⟨s, hs, rfl⟩ := Option.map_eq_some_iff.1 hj
        exact h3 j s hs
    · obtain ⟨hn, ad, ha, rfl⟩ := hb
      obtain ⟨ad', h1, _, h3⟩ := hat hn
      rw [ha] at h1
      cases h1
      have := h3 0 l[0] (List.getElem?_eq_getElem hn)
      have hb : (ad.add 0).block = ad.block := add_block ad 0
      rw [← hb]
      rcases Nat.lt_or_ge (ad.add 0).block w.heap.size with hlt | hge
      · exact hlt
      · simp [World.cell?, Array.getElem?_eq_none hge] at this
  have := h.run _ _ w [.slice ao l.length cap] (by simp [concL, conc, Value.oneCell']) ⟨hh, fun i h1 h2 => absurd h2 (by simp only at h1 ⊢; omega)⟩ (fun i hi => if_neg (by simp only at hi; omega))
  refine this.mono ?_
  rintro e w' ⟨ρ', F', r, rfl, hr, hp⟩
  simp only [conc, Option.some.injEq] at hr
  subst hr
  exact ⟨rfl, hp.os, hp.tape, hp.output, hp.size, fun b hb => hp.same b hb fun i ⟨_, e, he⟩ => by simp [get] at he⟩
end Go.Eng
namespace Go.Proofs.YtehnjdcahbehjaaGreatDoor
open Go Go.Eng Go.ChangeShapes Go.WideShapes Go.ChangeAt Go.RowKit
set_option maxRecDepth 100000

theorem own : ownKnob Tryz.prog.godebug = none := by kernel_rfl
theorem laidOut : laidOutB Tryz.prog = true := by kernel_rfl
theorem cells9 : Tryz.prog.cellsOf 9 = 1 := by kernel_rfl

/-- what a []string that came in holds -/
theorem texts_of {H : Type} {enc : TypeId × Value → H} {W : World} {v : Value} {d : DataW H} {ps : List MemPlace} {base : Nat} (hv : Value.okWide Tryz.prog W .any base 22 v) (h : DataW.Trod enc Tryz.prog W 0 (fun _ => true) true 22 v d ps) :
    ∃ l : List ByteArray, TextsAt W v l ∧ ∀ s ∈ l, s.size ≤ maxLen := by
  obtain ⟨a0, len0, cap0, rfl⟩ := okWide_slice Tryz.underlying22 hv
  obtain ⟨fuel, hf⟩ := h
  rcases open_strings Tryz.underlying22 Tryz.underlying9 cells9 hf with ⟨hcs, _⟩ | ⟨a, len, cap, ss, hcs, _, hl, hm, hz, _, hcell, hs⟩
  · simp [Value.cells] at hcs
    obtain ⟨rfl, rfl, rfl⟩ := hcs
    exact ⟨[], ⟨none, 0, rfl, Nat.le_refl _, Nat.zero_le _, fun h => absurd h (by simp)⟩, by simp⟩
  · simp [Value.cells] at hcs
    obtain ⟨rfl, rfl, rfl⟩ := hcs
    simp only [if_true] at hz
    have hlen : (ss.take len0).length = len0 := by simp; omega
    refine ⟨ss.take len0, ⟨some a, cap0, by rw [hlen], by rw [hlen]; exact hl, hm, fun hn => ⟨a, rfl, ?_, fun j s hj => ?_⟩⟩, fun s h => hs s (List.mem_of_mem_take h)⟩
    · rw [hlen] at hn
      have := World.cell?_spot (hcell 0 (by omega))
      obtain ⟨b, o, sp⟩ := a
      simpa [Addr.add] using this
    · have hj' : j < len0 := by
        have := (List.getElem?_eq_some_iff.1 hj).1
        omega
      rw [List.getElem?_take_of_lt hj'] at hj
      rw [hcell j (by omega), List.getD_eq_getElem?_getD, hj]
      rfl

/-! ### one start that fits -/
noncomputable def low : Nat := (World.holding Tryz.prog default ⟨#[], #[], []⟩).heap.size
noncomputable def laidWorld (os : Os) : World :=
  let w0 := World.holding Tryz.prog os ⟨#[.cells #[.string ⟨#[105, 110, 118, 97, 108, 105, 100, 32, 115, 121, 110, 116, 97, 120]⟩] 457, .cells #[.string ⟨#[118, 97, 108, 117, 101, 32, 111, 117, 116, 32, 111, 102, 32, 114, 97, 110, 103, 101]⟩] 457], #[], []⟩
  let put (h : Array Obj) (g : Nat) (cs : Array Value) : Array Obj := h.modify g fun
    | .cells _ t frozen => .cells cs t frozen
    | o => o
  let h0 := put w0.heap 0 #[.iface 455 (.pointer (some ⟨low, 0, none⟩))]
  let h1 := put h0 1 #[.iface 455 (.pointer (some ⟨low + 1, 0, none⟩))]
  let h2 := put h1 2 (Pinned.utf8FirstZ.map fun (z : Nat) => Value.int .u8 (Int.ofNat z)).toArray
  let h3 := put h2 3 (([128, 191, 160, 191, 128, 159, 144, 191, 128, 143, 0, 0, 0, 0, 0, 0, 0, 0, 0, 0, 0, 0, 0, 0, 0, 0, 0, 0, 0, 0, 0, 0] : List Int).map (Value.int .u8)).toArray
  let h4 := put h3 4 (([1, 10, 100, 1000, 10000, 100000, 1000000, 10000000, 100000000, 1000000000, 10000000000, 100000000000, 1000000000000, 10000000000000, 100000000000000, 1000000000000000, 10000000000000000, 100000000000000000, 1000000000000000000, 10000000000000000000] : List Int).map (Value.int .u64)).toArray
  let h6 := put h4 6 (([0, 1, 28, 2, 29, 14, 24, 3, 30, 22, 20, 15, 25, 17, 4, 8, 31, 27, 13, 23, 21, 19, 16, 7, 26, 12, 18, 6, 11, 5, 10, 9] : List Int).map (Value.int .u8)).toArray
  let h7 := put h6 7 (([0, 1, 56, 2, 57, 49, 28, 3, 61, 58, 42, 50, 38, 29, 17, 4, 62, 47, 59, 36, 45, 43, 51, 22, 53, 39, 33, 30, 24, 18, 12, 5, 63, 55, 48, 27, 60, 41, 37, 16, 46, 35, 44, 21, 52, 32, 23, 11, 54, 26, 40, 15, 34, 20, 31, 10, 25, 14, 19, 9, 13, 8, 7, 6] : List Int).map (Value.int .u8)).toArray
  { w0 with heap := h7 }
theorem laid_met (os : Os) (args : Array Value) : laidMet Tryz.prog Rows.commandNilRow.laid ((laidWorld os).forCall (fun _ _ => 0) ⟨#[], args, []⟩).memory :=
  laidMet_of_run' 8 (by kernel_rfl) (by kernel_rfl)
end Go.Proofs.YtehnjdcahbehjaaGreatDoor
