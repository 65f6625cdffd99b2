/- The engine, part O: slice expressions, lengths. -/
import Derived.Test.YtehnjdcahbehjaaGreatDoorEngN
namespace Go.Eng
open Go
set_option linter.unusedSimpArgs false
set_option linter.unusedVariables false

section
variable {P : Program} {E : TT} {o : Oper} {t : List (Nat × AV)} {h : List (Nat × Ent)} {nn : Nat} {K : Con → Prop}

/-- a bound's value -/
def BndIs (ρ : Names) (b : Option (Int × Bool)) (v : Option Value) : Prop := match b with
  | none => v = none
  | some (n, _) => ∃ k, v = some (.int k n)

theorem bnd_ok {ρ : Names} {a : Act} {l : Option Operand} {av : Option AV} {b : Option (Int × Bool)} (hl : optEv t l = some av) (hb : bnd? av = some b)
    (ho : ∀ x, l = some x → ∀ v, evS t x = some v → ∃ u, conc ρ v = some u ∧ a.eval x = u) : BndIs ρ b (l.map a.eval) := by
  cases l with
  | none =>
    simp only [optEv, Option.some.injEq] at hl
    subst hl
    simp only [bnd?, Option.some.injEq] at hb
    subst hb
    rfl
  | some x =>
    simp only [optEv] at hl
    split at hl
    · rename_i v hv
      cases hl
      simp only [bnd?] at hb
      split at hb
      · rename_i k n l hi
        cases hb
        obtain ⟨u, hu, he⟩ := ho x rfl v hv
        obtain rfl := intOf?_conc hi hu
        exact ⟨k, by simp [he]⟩
      · cases hb
    · cases hl

theorem run_bounds {ρ : Names} {s : Bool} {len cap : Nat} {l hb : Option (Int × Bool)} {lv hv : Option Value} (h1 : BndIs ρ l lv) (h2 : BndIs ρ hb hv) (hlc : len ≤ cap)
    (h : 0 ≤ bndI l 0 ∧ bndI l 0 ≤ bndI hb len ∧ bndI hb len ≤ len) (w : World) :
    (Instr.sliceBounds s len cap lv hv none).run P w = .ok ((bndI l 0).toNat, (bndI hb len).toNat, cap) w := by
  cases l with
  | none =>
    obtain rfl : lv = none := h1
    cases hb with
    | none =>
      obtain rfl : hv = none := h2
      simp [Instr.sliceBounds, bndI]
    | some p =>
      obtain ⟨n, lt⟩ := p
      obtain ⟨k, rfl⟩ : ∃ k, hv = some (.int k n) := h2
      simp only [bndI] at h
      simp [Instr.sliceBounds, bndI, Instr.sliceBound, asIntOf, show 0 ≤ n by omega, show n ≤ (cap : Int) by omega]
  | some q =>
    obtain ⟨m, lt'⟩ := q
    obtain ⟨k', rfl⟩ : ∃ k, lv = some (.int k m) := h1
    cases hb with
    | none =>
      obtain rfl : hv = none := h2
      simp only [bndI] at h
      simp [Instr.sliceBounds, bndI, Instr.sliceBound, asIntOf, show 0 ≤ m by omega, show m ≤ (len : Int) by omega]
    | some p =>
      obtain ⟨n, lt⟩ := p
      obtain ⟨k, rfl⟩ : ∃ k, hv = some (.int k n) := h2
      simp only [bndI] at h
      simp [Instr.sliceBounds, bndI, Instr.sliceBound, asIntOf, show 0 ≤ n by omega, show n ≤ (cap : Int) by omega, show 0 ≤ m by omega, show m ≤ max n 0 by omega]

/-- a part of a row's cells -/
theorem rowCells_seg {α : Type} {sz : Nat} {enc : α → List AV} {l : List α} {cs : List Value} (hr : rowCells sz enc l cs) (a b : Nat) :
    rowCells sz enc ((l.take b).drop a) ((cs.take (b * sz)).drop (a * sz)) := by
  have dropL : ∀ (l : List α) (cs : List Value), rowCells sz enc l cs → ∀ a, rowCells sz enc (l.drop a) (cs.drop (a * sz)) := by
    intro l
    induction l with
    | nil =>
      intro cs ⟨hc, _⟩ a
      simp only [List.flatMap_nil, concL, Option.some.injEq] at hc
      subst hc
      exact ⟨by simp [concL], by simp⟩
    | cons x l ih =>
      intro cs ⟨hc, hl⟩ a
      cases a with
      | zero => simpa using ⟨hc, hl⟩
      | succ a =>
        rw [List.flatMap_cons] at hc
        obtain ⟨c1, c2, h1, h2, rfl⟩ := concL_append.1 hc
        have la : c1.length = sz := by rw [concL_length h1]; exact hl x List.mem_cons_self
        have := ih c2 ⟨h2, fun z hz => hl z (List.mem_cons_of_mem _ hz)⟩ a
        rw [Nat.succ_mul, Nat.add_comm (a * sz) sz, ← la, List.drop_length_add_append, la]
        exact this
  have takeL : ∀ (l : List α) (cs : List Value), rowCells sz enc l cs → ∀ b, rowCells sz enc (l.take b) (cs.take (b * sz)) := by
    intro l
    induction l with
    | nil =>
      intro cs ⟨hc, _⟩ b
      simp only [List.flatMap_nil, concL, Option.some.injEq] at hc
      subst hc
      exact ⟨by simp [concL], by simp⟩
    | cons x l ih =>
      intro cs ⟨hc, hl⟩ b
      cases b with
      | zero => exact ⟨by simp [concL], by simp⟩
      | succ b =>
        rw [List.flatMap_cons] at hc
        obtain ⟨c1, c2, h1, h2, rfl⟩ := concL_append.1 hc
        have la : c1.length = sz := by rw [concL_length h1]; exact hl x List.mem_cons_self
        obtain ⟨i1, i2⟩ := ih c2 ⟨h2, fun z hz => hl z (List.mem_cons_of_mem _ hz)⟩ b
        have e : (c1 ++ c2).take ((b + 1) * sz) = c1 ++ c2.take (b * sz) := by
          rw [Nat.succ_mul, Nat.add_comm (b * sz) sz, ← la, List.take_length_add_append]
        rw [e]
        refine ⟨?_, fun z hz => ?_⟩
        · rw [List.take_succ_cons, List.flatMap_cons]
          exact concL_append.2 ⟨c1, _, h1, i1, rfl⟩
        · rw [List.take_succ_cons] at hz
          rcases List.mem_cons.1 hz with rfl | hz
          · exact hl _ List.mem_cons_self
          · exact i2 z hz
  exact dropL _ _ (takeL _ _ hr b) a

/-- a row of one's own, only read from now on -/
theorem row_ro {ρ : Names} {v : Value} {w : World} {F : Nat → Prop} {wr : Bool} {T sz : Nat} {α : Type} {enc : α → List AV} {l : List α} (hh : Ent.holds ρ (.row wr T sz α enc l) v w F) :
    ∃ G : Nat → Prop, Ent.holds ρ (.row false T sz α enc l) v w G ∧ ∀ b, G b → F b := by
  obtain ⟨hm, ao, cap, cs, hv, hnc, hr, h1, hcell⟩ := row_at hh
  refine ⟨fun b => 0 < l.length ∧ ∃ ad, ao = some ad ∧ b = ad.block, ⟨cs, hr, h1, hm, ao, cap, hv, hnc, fun b => Iff.rfl, fun hn => ?_⟩, fun b hb => ?_⟩
  · obtain ⟨ad, ha, hs, _, hc⟩ := hcell hn
    exact ⟨ad, ha, hs, hc⟩
  · obtain ⟨hn, ad, ha, rfl⟩ := hb
    obtain ⟨ad', ha', _, hF, _⟩ := hcell hn
    rw [ha] at ha'
    cases ha'
    exact hF

/-- a part of a row that is read -/
theorem row_part {ρ : Names} {v : Value} {w : World} {F : Nat → Prop} {wr : Bool} {T sz : Nat} {α : Type} {enc : α → List AV} {l : List α} (hh : Ent.holds ρ (.row wr T sz α enc l) v w F) {a b : Nat} (hab : a ≤ b) (hb : b ≤ l.length) :
    ∃ (ao : Option Addr) (cap : Nat) (G : Nat → Prop), v = .slice ao l.length cap ∧ (∀ k, G k → F k) ∧
      Ent.holds ρ (.row false T sz α enc ((l.take b).drop a)) (.slice (if cap = a then ao else ao.map (·.add (a * sz))) (b - a) (cap - a)) w G := by
  obtain ⟨hm, ao, cap, cs, hv, hnc, hr, h1, hcell⟩ := row_at hh
  have hlen : ((l.take b).drop a).length = b - a := by simp; omega
  have hcl := rowCells_length hr
  refine ⟨ao, cap, fun k => 0 < b - a ∧ ∃ ad, ao = some ad ∧ k = ad.block, hv, fun k hk => ?_, ?_⟩
  · obtain ⟨hn, ad, ha, rfl⟩ := hk
    obtain ⟨ad', ha', _, hF, _⟩ := hcell (by omega)
    rw [ha] at ha'
    cases ha'
    exact hF
  · refine ⟨_, rowCells_seg hr a b, fun u hu => h1 u (List.mem_of_mem_take (List.mem_of_mem_drop hu)), by omega, _, _, by rw [hlen], by omega, fun k => ?_, fun hn => ?_⟩
    · rw [hlen]
      constructor
      · rintro ⟨hn, ad, ha, hk⟩
        refine ⟨hn, ?_⟩
        rw [if_neg (by omega), ha]
        exact ⟨_, rfl, by rw [hk, add_block]⟩
      · rintro ⟨hn, ad, ha, hk⟩
        refine ⟨hn, ?_⟩
        rw [if_neg (by omega)] at ha
        cases ao with
        | none => cases ha
        | some ad0 =>
          simp only [Option.map_some, Option.some.injEq] at ha
          subst ha
          exact ⟨ad0, rfl, by rw [hk, add_block]⟩
    · rw [hlen] at hn
      obtain ⟨ad, ha, hs, _, hc⟩ := hcell (by omega)
      subst ha
      rw [if_neg (by omega)]
      refine ⟨_, rfl, add_spot ad hs _, fun j u hj => ?_⟩
      rw [add_add ad hs]
      rw [List.getElem?_drop, List.getElem?_take] at hj
      split at hj
      · exact hc _ _ hj
      · cases hj

theorem ok_slice (hE : E.Ok P) (hb : ∀ i e, get h i = some e → i < nn) {T : Nat} {x : Operand} {lo hi mx : Option Operand} (ho : o.op = .slice T x lo hi mx)
    (hvc : withV t x fun v => match optEv t lo, optEv t hi, optEv t mx with
    | some l, some hb, some m => sliceVC E T v l hb m h nn K
    | _, _, _ => False) : ∃ c, Good P o t h nn c ∧ K c := by
  obtain ⟨v, hv, hk⟩ := withV_elim hvc
  split at hk
  · rename_i avl avh avm hl hh hm
    unfold sliceVC at hk
    split at hk
    · rename_i l hbd m i hbl hbh hbm hlk
      have f := TI.facts (TT.look_ok hE hlk)
      obtain ⟨d, hd, _, hu⟩ := f.und
      have opl : ∀ (y : Option Operand), y = lo ∨ y = hi ∨ y = mx → ∀ x', y = some x' → x' ∈ o.op.operands := by
        intro y hy x' hx'
        subst hx'
        rcases hy with hy | hy | hy <;> subst hy <;> simp [ho, Op.operands]
      have mnone : m = none → mx = none := by
        intro h0
        subst h0
        cases mx with
        | none => rfl
        | some y =>
          simp only [optEv] at hm
          split at hm
          · cases hm
            simp only [bnd?] at hbm
            split at hbm <;> cases hbm
          · cases hm
      split at hk
      · rename_i b hkk
        rw [hkk] at hd
        obtain rfl : d = .string := by cases d <;> simp [TK.is] at hd; rfl
        split at hk
        · have hmx := mnone rfl
          subst hmx
          obtain ⟨hbds, hk⟩ := hk
          refine ⟨_, good_pure hb fun ρ a w hop => ?_, hk⟩
          obtain ⟨u, hu', he⟩ := hop x (by simp [ho, Op.operands]) _ hv
          simp only [conc, Option.some.injEq] at hu'
          subst hu'
          have b1 := bnd_ok (ρ := ρ) (a := a) hl hbl fun y hy v hv => hop y (opl lo (.inl rfl) y hy) v hv
          have b2 := bnd_ok (ρ := ρ) (a := a) hh hbh fun y hy v hv => hop y (opl hi (.inr (.inl rfl)) y hy) v hv
          refine ⟨_, rfl, ?_⟩
          have := run_bounds (P := P) (s := false) (cap := b.size) b1 b2 (Nat.le_refl _) hbds w
          simp [execOp, ho, he, Instr.sliceAt, hu, Instr.slice, this]
        · exact hk.elim
      · rename_i elem id hkk
        rw [hkk] at hd
        obtain ⟨elem', rfl⟩ : ∃ b, d = .slice b := by cases d <;> simp [TK.is] at hd; exact ⟨_, rfl⟩
        obtain rfl := Nat.eq_of_beq_eq_true (show Nat.beq elem elem' = true from hd)
        split at hk
        · rename_i wr T' sz α enc xs ie hg hle
          have te := TI.facts (TT.look_ok hE hle)
          split at hk
          · rename_i hsz
            obtain rfl := Nat.eq_of_beq_eq_true hsz
            have hmx := mnone rfl
            subst hmx
            unfold sliceRowVC at hk
            obtain ⟨hbds, hk⟩ := hk
            have bn : (bndI l 0).toNat ≤ (bndI hbd xs.length).toNat ∧ (bndI hbd xs.length).toNat ≤ xs.length := by omega
            have run : ∀ (ρ : Names) (a : Act) (w : World) (ao : Option Addr) (cap : Nat), Opnds o t ρ a → ρ id = some (.slice ao xs.length cap) → xs.length ≤ cap →
                (execOp a.eval o).run P w = .ok (.value (.slice (if cap = (bndI l 0).toNat then ao else ao.map (·.add ((bndI l 0).toNat * ie.size))) ((bndI hbd xs.length).toNat - (bndI l 0).toNat) (cap - (bndI l 0).toNat))) w := by
              intro ρ a w ao cap hop hn hnc
              obtain ⟨u, hu', he⟩ := hop x (by simp [ho, Op.operands]) _ hv
              simp only [conc, hn, Value.oneCell', if_true, Option.some.injEq] at hu'
              subst hu'
              have b1 := bnd_ok (ρ := ρ) (a := a) hl hbl fun y hy v hv => hop y (opl lo (.inl rfl) y hy) v hv
              have b2 := bnd_ok (ρ := ρ) (a := a) hh hbh fun y hy v hv => hop y (opl hi (.inr (.inl rfl)) y hy) v hv
              have := run_bounds (P := P) (s := true) (cap := cap) b1 b2 hnc hbds w
              simp [execOp, ho, he, Instr.sliceAt, hu, Instr.slice, this, te.size]
            rcases hk with hk | hk
            · refine ⟨_, good_read hb (single_sub hg) fun ρ F a w hop hh => ?_, hk⟩
              obtain ⟨vr, hvr, hrow⟩ := hh.ents id _ (by rw [get_single, if_pos rfl])
              obtain ⟨_, ao, cap, _, hv', hnc, _⟩ := row_at hrow
              subst hv'
              exact ⟨_, by simp only [conc, hvr], run ρ a w ao cap hop hvr hnc⟩
            have seglen : ((xs.take (bndI hbd xs.length).toNat).drop (bndI l 0).toNat).length = (bndI hbd xs.length).toNat - (bndI l 0).toNat := by simp; omega
            split at hk
            · refine ⟨_, good_fresh hb (single_sub hg) fun ρ F a w hop hh => ?_, hk⟩
              obtain ⟨vr, hvr, hrow⟩ := hh.ents id _ (by rw [get_single, if_pos rfl])
              obtain ⟨ao, cap, G, rfl, hG, hpart⟩ := row_part hrow bn.1 bn.2
              obtain ⟨_, ao', cap', _, hv', hnc, _⟩ := row_at hrow
              cases hv'
              refine ⟨w, _, G, run ρ a w ao cap hop hvr hnc, rfl, hpart, fun b hb' => ?_, rfl, rfl, rfl, Nat.le_refl _, fun _ _ => rfl⟩
              have := hh.low id _ (by rw [get_single, if_pos rfl]) b (hG b hb')
              exact ⟨this, .inr ⟨rfl, id, _, by rw [get_single, if_pos rfl], rfl, hG b hb'⟩⟩
            · split at hk
              · refine ⟨_, good_turnfresh (e0 := .row true T' ie.size α enc xs) hb (single_sub hg) (by rw [get_single, if_pos rfl]) rfl fun ρ F a w hop hh hf => ?_, hk⟩
                obtain ⟨vr, hvr, hrow⟩ := hh.ents id _ (by rw [get_single, if_pos rfl])
                obtain ⟨_, ao, cap, cs0, hv', hnc, _⟩ := row_at hrow
                subst hv'
                have hlow := hh.low id _ (by rw [get_single, if_pos rfl])
                have hrun := run ρ a w ao cap hop hvr hnc
                have z0 : (bndI none 0).toNat = 0 := rfl
                simp only [z0, Nat.zero_mul, Nat.sub_zero] at hrun bn
                have hao : (if cap = 0 then ao else ao.map (·.add 0)) = ao := by
                  split
                  · rfl
                  · cases ao <;> simp [Addr.add]
                rw [hao] at hrun
                have tl : (xs.take (bndI hbd xs.length).toNat).length = (bndI hbd xs.length).toNat := by simp; omega
                refine ⟨w, _, _, fun _ => False, F id, hrun, rfl, hvr, fun b hb' => hb', ?_, fun b hb' => hb'.elim, fun b hb' => ⟨hlow b hb', .inr hb'⟩, fun _ b hb' => hb'.elim, rfl, rfl, rfl, Nat.le_refl _, fun _ _ _ => rfl⟩
                rcases Or.symm hrow with ⟨⟨a0, ha0⟩, hnil, hF⟩ | ⟨cs, hr, h1, ⟨hlen, hown⟩, hF⟩
                · subst hnil
                  cases ha0
                  have hz : (bndI hbd ([] : List α).length).toNat = 0 := Nat.le_zero.1 bn.2
                  exact .inr ⟨⟨ao, by rw [hz]⟩, by simp, hF⟩
                have hseg := rowCells_seg hr 0 (bndI hbd xs.length).toNat
                simp only [Nat.zero_mul, List.drop_zero] at hseg
                refine .inl ⟨_, hseg, fun u hu => h1 u (List.mem_of_mem_take hu), ⟨by rw [rowCells_length hseg], ?_⟩, fun b => (hF b).trans (by cases ao <;> rfl)⟩
                rcases hown with ⟨h2, h0⟩ | ⟨g, cap', cur, fz, h2, hblk, hfz, hnc', hcm, hcs, htake⟩
                · left
                  have : (bndI hbd xs.length).toNat = 0 := by omega
                  rw [tl, this]
                  rw [h0] at h2
                  injection h2 with h3 _ h4
                  subst h3 h4
                  exact ⟨rfl, rfl⟩
                · cases h2
                  right
                  refine ⟨g, cap, cur, fz, by rw [tl], hblk, hfz, by omega, hcm, hcs, ?_⟩
                  rw [tl, ← htake, List.take_take, Nat.min_eq_left (Nat.mul_le_mul_right _ bn.2)]
              · refine ⟨_, good_turnfresh (e0 := .row true T' ie.size α enc xs) hb (single_sub hg) (by rw [get_single, if_pos rfl]) rfl fun ρ F a w hop hh hf => ?_, hk⟩
                obtain ⟨vr, hvr, hrow⟩ := hh.ents id _ (by rw [get_single, if_pos rfl])
                obtain ⟨G0, hro, hG0⟩ := row_ro hrow
                obtain ⟨ao, cap, G, rfl, hG, hpart⟩ := row_part hrow bn.1 bn.2
                obtain ⟨_, ao', cap', _, hv', hnc, _⟩ := row_at hrow
                cases hv'
                refine ⟨w, _, _, G0, G, run ρ a w ao cap hop hvr hnc, rfl, hvr, hro, hpart, hG0, fun b hb' => ⟨hh.low id _ (by rw [get_single, if_pos rfl]) b (hG b hb'), .inr (hG b hb')⟩, fun hw => ?_, rfl, rfl, rfl, Nat.le_refl _, fun _ _ _ => rfl⟩
                rcases hw with hw | hw <;> cases hw
          · exact hk.elim
        · exact hk.elim
      · rename_i n elem id off hkk
        rw [hkk] at hd
        obtain ⟨len', elem', rfl⟩ : ∃ a b, d = .array a b := by cases d <;> simp [TK.is] at hd; exact ⟨_, _, rfl⟩
        simp only [TK.is, Bool.and_eq_true] at hd
        obtain rfl := Nat.eq_of_beq_eq_true hd.1
        obtain rfl := Nat.eq_of_beq_eq_true hd.2
        split at hk
        · rename_i ie hle
          have te := TI.facts (TT.look_ok hE hle)
          split at hk
          · have hmx := mnone rfl
            subst hmx
            obtain ⟨hbds, hk⟩ := hk
            refine ⟨_, good_pure hb fun ρ a w hop => ?_, hk⟩
            obtain ⟨u, hu', he⟩ := hop x (by simp [ho, Op.operands]) _ hv
            have b1 := bnd_ok (ρ := ρ) (a := a) hl hbl fun y hy v hv => hop y (opl lo (.inl rfl) y hy) v hv
            have b2 := bnd_ok (ρ := ρ) (a := a) hh hbh fun y hy v hv => hop y (opl hi (.inr (.inl rfl)) y hy) v hv
            simp only [conc] at hu' ⊢
            split at hu'
            · rename_i b o2 hr
              cases hu'
              refine ⟨_, rfl, ?_⟩
              have := run_bounds (P := P) (s := false) (cap := n) b1 b2 (Nat.le_refl _) ⟨hbds.1, hbds.2.1, hbds.2.2.1⟩ w
              have hne : ¬ (n = (bndI l 0).toNat) := by have := hbds.2.2.2; omega
              simp [execOp, ho, he, Instr.sliceAt, hu, Instr.sureAddr, this, te.size, hne, add_eq, Nat.add_assoc]
            · cases hu'
          · exact hk.elim
        · exact hk.elim
      · exact hk.elim
    · exact hk.elim
  · exact hk.elim
end
end Go.Eng
