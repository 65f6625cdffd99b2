/- The keys of a map that holds nothing, collected: the shelf's contracts, laid at this program, turned to the engine's. -/
import Derived.Test.YtehnjdcahbehjaaGreatDoorLooks
import Derived.Test.YtehnjdcahbehjaaGreatDoorEngZ
import Derived.Shelf.SlIter.Sorted
import Derived.Shelf.Abstract
namespace Go.Eng
open Go Go.Proofs Go.RowKit
/-- A call that leaves all that stood as it was, and lays blocks of its own alone. -/
theorem fnOk_below {P : Program} {f : FuncId} {args : List AV} {pre : List (Nat × Ent)} {n N : Nat} {v : AV} (hcall : ∀ (vs : Array Value) (w : World), (callFunc f vs).run P w = .ok (.enter f vs) w)
    (hok : conOk ⟨pre, n, n, v, pre⟩ args N = true)
    (run : ∀ (ρ : Names) (F : Nat → Nat → Prop) (w : World) (vs : List Value), concL ρ args = some vs → HeapOk ρ (get pre) F w →
      Calls P f vs.toArray w fun e w' => ∃ r, e = .returned r ∧ conc ρ v = some r ∧ Below w.heap.size w w') : FnOk P f args ⟨pre, n, n, v, pre⟩ := by
  unfold conOk at hok
  simp only [Bool.and_eq_true] at hok
  obtain ⟨⟨⟨⟨⟨⟨⟨⟨k1, k2⟩, k3⟩, k4⟩, k5⟩, k6⟩, k7⟩, k8⟩, k9⟩ := hok
  have lt : ∀ i e, get pre i = some e → i < n := fun i e he => (belowH_spec k5 (get_mem he)).1
  refine ⟨hcall, ⟨Nat.le_refl _, fun i ⟨hi, e, he⟩ => turnsOk_spec k6 (get_mem he) hi, lt, lt⟩, k2, k3, fun ρ F w vs hvs hp hf => ?_⟩
  refine (run ρ F w vs hvs hp.heap).mono ?_
  rintro e w' ⟨r, he, hr, hb⟩
  refine ⟨ρ, F, r, he, hr, fun i _ => rfl, hb.os, hb.tape, hb.output, hb.size, fun b hlt _ => hb.block b hlt, ⟨fun i e he => ?_, hp.heap.apart, fun i e he b hF => Nat.lt_of_lt_of_le (hp.heap.low i e he b hF) hb.size⟩, fun i e he b hF => .inr (.inl ⟨i, ⟨lt i e he, e, he⟩, hF⟩)⟩
  obtain ⟨u, hu, hh⟩ := hp.heap.ents i e he
  exact ⟨u, hu, Ent.holds_local (fun b hF => hb.block b (hp.heap.low i e he b hF)) hh⟩
end Go.Eng
namespace Go.Proofs.YtehnjdcahbehjaaGreatDoor
open Go Go.Eng Go.Proofs Go.Shelf Go.Maps Go.RowKit
set_option maxRecDepth 100000
def keysM_ren : Go.Shelf.Ren :=
  { f := fun x => match x with
      | 7 => 315
      | 10 => 354
      | n => n
    t := fun x => match x with
      | 23 => 403
      | 26 => 9
      | 3 => 404
      | 28 => 352
      | 0 => 0
      | 27 => 351
      | 33 => 354
      | 4 => 4
      | n => n
    g := fun x => x }
theorem keysM : SlLaysZ.n7 Tryz.prog keysM_ren :=
  { mixed := by kernel_rfl, f7 := ⟨Tryz.f315.name, of_decide_eq_true (by kernel_rfl), Tryz.func315.trans (by kernel_rfl)⟩, f10 := ⟨Tryz.f354.name, of_decide_eq_true (by kernel_rfl), Tryz.func354.trans (by kernel_rfl)⟩,
    t0 := Tryz.underlying0, a0 := Tryz.isAgg0, z0 := Tryz.sizeOf0, v0 := Tryz.zeroValue0,
    t4 := Tryz.underlying4, a4 := Tryz.isAgg4, z4 := Tryz.sizeOf4, v4 := Tryz.zeroValue4,
    t23 := Tryz.underlying403, a23 := Tryz.isAgg403, z23 := Tryz.sizeOf403, v23 := Tryz.zeroValue403,
    t26 := Tryz.underlying9, a26 := Tryz.isAgg9, z26 := Tryz.sizeOf9, v26 := Tryz.zeroValue9,
    t27 := Tryz.underlying351, a27 := Tryz.isAgg351, z27 := Tryz.sizeOf351, v27 := Tryz.zeroValue351,
    t28 := Tryz.underlying352, a28 := Tryz.isAgg352, z28 := Tryz.sizeOf352, v28 := Tryz.zeroValue352,
    t33 := Tryz.underlying354, a33 := Tryz.isAgg354, z33 := Tryz.sizeOf354, v33 := Tryz.zeroValue354 }
def keysE_ren : Go.Shelf.Ren :=
  { f := fun x => match x with
      | 7 => 317
      | 10 => 355
      | n => n
    t := fun x => match x with
      | 23 => 406
      | 26 => 9
      | 3 => 45
      | 28 => 352
      | 0 => 0
      | 27 => 351
      | 33 => 354
      | 4 => 4
      | n => n
    g := fun x => x }
theorem keysE : SlLaysZ.n7 Tryz.prog keysE_ren :=
  { mixed := by kernel_rfl, f7 := ⟨Tryz.f317.name, of_decide_eq_true (by kernel_rfl), Tryz.func317.trans (by kernel_rfl)⟩, f10 := ⟨Tryz.f355.name, of_decide_eq_true (by kernel_rfl), Tryz.func355.trans (by kernel_rfl)⟩,
    t0 := Tryz.underlying0, a0 := Tryz.isAgg0, z0 := Tryz.sizeOf0, v0 := Tryz.zeroValue0,
    t4 := Tryz.underlying4, a4 := Tryz.isAgg4, z4 := Tryz.sizeOf4, v4 := Tryz.zeroValue4,
    t23 := Tryz.underlying406, a23 := Tryz.isAgg406, z23 := Tryz.sizeOf406, v23 := Tryz.zeroValue406,
    t26 := Tryz.underlying9, a26 := Tryz.isAgg9, z26 := Tryz.sizeOf9, v26 := Tryz.zeroValue9,
    t27 := Tryz.underlying351, a27 := Tryz.isAgg351, z27 := Tryz.sizeOf351, v27 := Tryz.zeroValue351,
    t28 := Tryz.underlying352, a28 := Tryz.isAgg352, z28 := Tryz.sizeOf352, v28 := Tryz.zeroValue352,
    t33 := Tryz.underlying354, a33 := Tryz.isAgg354, z33 := Tryz.sizeOf354, v33 := Tryz.zeroValue354 }
def collectS_ren : Go.Shelf.Ren :=
  { f := fun x => match x with
      | 8 => 327
      | 11 => 366
      | n => n
    t := fun x => match x with
      | 26 => 9
      | 28 => 352
      | 24 => 22
      | 0 => 0
      | 33 => 354
      | 4 => 4
      | n => n
    g := fun x => x }
theorem collectS : SlLaysZ.n8 Tryz.prog collectS_ren :=
  { mixed := by kernel_rfl, f8 := ⟨Tryz.f327.name, of_decide_eq_true (by kernel_rfl), Tryz.func327.trans (by kernel_rfl)⟩, f11 := ⟨Tryz.f366.name, of_decide_eq_true (by kernel_rfl), Tryz.func366.trans (by kernel_rfl)⟩,
    t0 := Tryz.underlying0, a0 := Tryz.isAgg0, z0 := Tryz.sizeOf0, v0 := Tryz.zeroValue0,
    t24 := Tryz.underlying22, a24 := Tryz.isAgg22, z24 := Tryz.sizeOf22, v24 := Tryz.zeroValue22,
    t26 := Tryz.underlying9, a26 := Tryz.isAgg9, z26 := Tryz.sizeOf9, v26 := Tryz.zeroValue9,
    t28 := Tryz.underlying352, a28 := Tryz.isAgg352, z28 := Tryz.sizeOf352, v28 := Tryz.zeroValue352, i26 := by kernel_rfl }

theorem perm_nil {ss : List (List UInt8)} (h : ss.Perm (strKeys (.map [] : DataW Unit))) : ss = [] := by
  have : strKeys (.map [] : DataW Unit) = [] := rfl
  rw [this] at h
  exact List.perm_nil.1 h

theorem enters354 : ∀ args w, (callFunc 354 args).run Tryz.prog w = .ok (.enter 354 args) w := enters_of look354 (by kernel_rfl) rfl
theorem enters355 : ∀ args w, (callFunc 355 args).run Tryz.prog w = .ok (.enter 355 args) w := enters_of look355 (by kernel_rfl) rfl
theorem enters327 : ∀ args w, (callFunc 327 args).run Tryz.prog w = .ok (.enter 327 args) w := enters_of look327 (by kernel_rfl) rfl

/-- no key at all -/
theorem gives354 {w : World} {b r c : Nat} (hb : b < w.heap.size) (hm : w.cell? ⟨b, 0, none⟩ = some (.map (some r))) (hr : w.heap[r]? = some (.map #[] c)) :
    SeqGives Fence.wide 4 Tryz.prog 354 #[.pointer (some ⟨b, 0, none⟩)] encStr (fun ss => ss.Perm (strKeys (.map [] : DataW Unit))) 0 w :=
  AnyZ.keys_gives (ρ := keysM_ren) { keysM with } Fence.wide 4 trivial rfl (by omega) b r 0 (.map [] : DataW Unit) (R := fun _ => none) w hb hm ⟨#[], c, hr, ⟨by simp, MapKept.stamped_empty c, by simp⟩, Nat.le_refl _, rfl⟩
theorem gives355 {w : World} {b r c : Nat} (hb : b < w.heap.size) (hm : w.cell? ⟨b, 0, none⟩ = some (.map (some r))) (hr : w.heap[r]? = some (.map #[] c)) :
    SeqGives Fence.wide 4 Tryz.prog 355 #[.pointer (some ⟨b, 0, none⟩)] encStr (fun ss => ss.Perm (strKeys (.map [] : DataW Unit))) 0 w :=
  AnyZ.keys_gives (ρ := keysE_ren) { keysE with } Fence.wide 4 trivial rfl (by omega) b r 0 (.map [] : DataW Unit) (R := fun _ => none) w hb hm ⟨#[], c, hr, ⟨by simp, MapKept.stamped_empty c, by simp⟩, Nat.le_refl _, rfl⟩

theorem collect0 {w : World} (g b : Nat) (eg : ∀ args w, (callFunc g args).run Tryz.prog w = .ok (.enter g args) w)
    (hg : SeqGives Fence.wide 4 Tryz.prog g #[.pointer (some ⟨b, 0, none⟩)] encStr (fun ss => ss.Perm (strKeys (.map [] : DataW Unit))) 0 w) :
    Calls Tryz.prog 327 #[.func (.func g) #[] #[.pointer (some ⟨b, 0, none⟩)]] w fun e w' => e = .returned (.slice none 0 0) ∧ Below w.heap.size w w' := by
  refine (callsIn_wide (n := 6)).1 ?_
  refine (AnyZ.collect_in (ρ := collectS_ren) collectS Fence.wide 6 trivial trivial rfl (by omega) g _ trivial eg _ 0 (Nat.zero_le _) (by omega) w hg).mono ?_
  rintro e w' ⟨v, ss, rfl, hs, _, hnil, hb⟩
  exact ⟨by rw [hnil.2 (perm_nil hs)], hb⟩

def noKeys : List (Nat × Ent) := [(0, noMap), (1, .cells true [.ref 0])]
theorem noKeys_at {ρ : Names} {F : Nat → Nat → Prop} {w : World} (h : HeapOk ρ (get noKeys) F w) :
    ∃ b r c, ρ 1 = some (.pointer (some ⟨b, 0, none⟩)) ∧ b < w.heap.size ∧ w.cell? ⟨b, 0, none⟩ = some (.map (some r)) ∧ w.heap[r]? = some (.map #[] c) := by
  obtain ⟨v0, hv0, r, c, rfl, hr, _⟩ := h.ents 0 noMap rfl
  obtain ⟨v1, hv1, b, T, cs, rfl, hc, _, hb, _⟩ := h.ents 1 (.cells true [.ref 0]) rfl
  simp only [concL, conc, hv0, Value.oneCell', if_true, Option.some.injEq] at hc
  subst hc
  exact ⟨b, r, c, hv1, cells_lt hb, by simp [World.cell?, hb], hr⟩

theorem slices_Collect_354 : FnOk Tryz.prog 327 [.fn 354 [.ptr 1 0]] ⟨noKeys, 2, 2, .val (.slice none 0 0), noKeys⟩ := by
  refine fnOk_below (N := 5) enters327 (by kernel_rfl) fun ρ F w vs hvs hh => ?_
  obtain ⟨b, r, c, h1, hb, hm, hr⟩ := noKeys_at hh
  simp only [concL, conc, h1, Nat.add_zero, Option.some.injEq] at hvs
  subst hvs
  refine (collect0 354 b enters354 (gives354 hb hm hr)).mono ?_
  rintro e w' ⟨rfl, h2⟩
  exact ⟨_, rfl, rfl, h2⟩
theorem slices_Collect_355 : FnOk Tryz.prog 327 [.fn 355 [.ptr 1 0]] ⟨noKeys, 2, 2, .val (.slice none 0 0), noKeys⟩ := by
  refine fnOk_below (N := 5) enters327 (by kernel_rfl) fun ρ F w vs hvs hh => ?_
  obtain ⟨b, r, c, h1, hb, hm, hr⟩ := noKeys_at hh
  simp only [concL, conc, h1, Nat.add_zero, Option.some.injEq] at hvs
  subst hvs
  refine (collect0 355 b enters355 (gives355 hb hm hr)).mono ?_
  rintro e w' ⟨rfl, h2⟩
  exact ⟨_, rfl, rfl, h2⟩
end Go.Proofs.YtehnjdcahbehjaaGreatDoor
