/- The engine, part K: the soundness of literals and of slices. -/
import Derived.Test.YtehnjdcahbehjaaGreatDoorEngJ
namespace Go.Eng
open Go
set_option linter.unusedSimpArgs false
set_option linter.unusedVariables false

theorem foldl_set : ∀ (vs : List Value) (k off : Nat) (A : Array Value), off + k + vs.length ≤ A.size →
    ((vs.zipIdx k).foldl (fun cs (x : Value × Nat) => cs.setIfInBounds (off + x.2) x.1) A).toList = A.toList.take (off + k) ++ vs ++ A.toList.drop (off + k + vs.length)
  | [], k, off, A, h => by simp
  | v :: vs, k, off, A, h => by
    simp only [List.length_cons] at h
    rw [List.zipIdx_cons, List.foldl_cons, foldl_set vs (k + 1) off _ (by simp; omega)]
    have hl : off + k < A.toList.length := by simp; omega
    simp only [Array.toList_setIfInBounds]
    have e1 : (A.toList.set (off + k) v).take (off + (k + 1)) = A.toList.take (off + k) ++ [v] := by
      rw [show off + (k + 1) = (off + k) + 1 by omega, List.take_succ_eq_append_getElem (by simpa using hl)]
      simp [List.take_set_of_le]
    have e2 : (A.toList.set (off + k) v).drop (off + (k + 1) + vs.length) = A.toList.drop (off + k + (v :: vs).length) := by
      rw [List.drop_set_of_lt (by omega)]
      congr 1
      simp; omega
    rw [e1, e2]
    simp

/-- the places of a literal's parts, as the model has them -/
def PlaceOk (p : Nat → Option (Nat × Nat)) (q : Nat → Option (Nat × Nat)) : Prop := ∀ k x, p k = some x → q k = some x

theorem fillE_ok {ρ : Names} {p q : Nat → Option (Nat × Nat)} (hpq : PlaceOk p q) : ∀ {ps : List (Nat × AV)} {C C' : List AV} {cs : Array Value} {us : List (Nat × Value)}, fillE p C ps = some C' →
    concL ρ C = some cs.toList → us.map (·.1) = ps.map (·.1) → (∀ (k : Nat) (x : Nat × AV) (u : Nat × Value), ps[k]? = some x → us[k]? = some u → conc ρ x.2 = some u.2) →
    ∃ cs', Instr.fill q cs us = some cs' ∧ concL ρ C' = some cs'.toList
  | [], C, C', cs, us, hf, hc, hl, _ => by
    simp only [fillE, Option.some.injEq] at hf; subst hf
    cases us with
    | nil => exact ⟨cs, rfl, hc⟩
    | cons u us => simp at hl
  | (k, v) :: ps, C, C', cs, us, hf, hc, hl, hv => by
    cases us with
    | nil => simp at hl
    | cons u us =>
      obtain ⟨k', uv⟩ := u
      simp only [List.map_cons, List.cons.injEq] at hl
      obtain ⟨rfl, hl⟩ := hl
      simp only [fillE] at hf
      cases hp : p k' with
      | none => simp [hp] at hf
      | some x =>
        obtain ⟨off, sz⟩ := x
        simp only [hp] at hf
        split at hf
        · rename_i hlen hcv
          split at hf
          · rename_i C2 hs
            have huv := hv 0 (k', v) (k', uv) rfl rfl
            simp only at huv
            have hvc := vcells_conc hcv huv
            have hvl := concL_length hvc
            obtain ⟨hcc, hfit⟩ := setE_conc hs hc hvc
            have hsz : uv.cells.size = sz := by
              have := lenIs_spec hlen
              rw [← hvl] at this
              simpa using this
            have hfold := foldl_set uv.cells.toList 0 off cs (by simpa using hfit)
            have hfit2 : off + uv.cells.size ≤ cs.size := by simpa using hfit
            have e1 : (uv.cells.zipIdx.foldl (fun cs (x : Value × Nat) => cs.setIfInBounds (off + x.2) x.1) cs).toList = cs.toList.take off ++ uv.cells.toList ++ cs.toList.drop (off + uv.cells.toList.length) := by
              rw [← Array.foldl_toList, Array.toList_zipIdx, hfold]; simp
            obtain ⟨cs', h1, h2⟩ := fillE_ok hpq hf (cs := uv.cells.zipIdx.foldl (fun cs (x : Value × Nat) => cs.setIfInBounds (off + x.2) x.1) cs) (us := us) (by rw [e1]; exact hcc) hl
              (fun k x u hx hu => hv (k + 1) x u (by simpa using hx) (by simpa using hu))
            refine ⟨cs', ?_, h2⟩
            simp only [Instr.fill, hpq k' _ hp]
            rw [if_neg (by simp [hsz]; omega)]
            exact h1
          · cases hf
        · cases hf

theorem evParts_conc {ρ : Names} {a : Act} {t : List (Nat × AV)} : ∀ {xs : List (Nat × Operand)} {vs : List (Nat × AV)}, evParts t xs = some vs → (∀ x ∈ xs, ∀ v, evS t x.2 = some v → ∃ u, conc ρ v = some u ∧ a.eval x.2 = u) →
    (xs.map fun (i, x) => (i, a.eval x)).map (·.1) = vs.map (·.1) ∧ ∀ (k : Nat) (x : Nat × AV) (u : Nat × Value), vs[k]? = some x → (xs.map fun (i, x) => (i, a.eval x))[k]? = some u → conc ρ x.2 = some u.2
  | [], vs, he, _ => by simp only [evParts, Option.some.injEq] at he; subst he; simp
  | (i, x) :: xs, vs, he, ho => by
    simp only [evParts] at he
    split at he
    · rename_i v hv
      split at he
      · rename_i ws hws
        cases he
        obtain ⟨u, hu, e⟩ := ho (i, x) List.mem_cons_self v hv
        obtain ⟨h1, h2⟩ := evParts_conc hws (fun y hy => ho y (List.mem_cons_of_mem _ hy))
        refine ⟨by simp only [List.map_cons, h1], fun k y w hy hw => ?_⟩
        cases k with
        | zero => simp at hy hw; subst hy hw; simpa [← e] using hu
        | succ k => simp only [List.getElem?_cons_succ, List.map_cons] at hy hw; exact h2 k y w hy hw
      · cases he
    · cases he

section
variable {P : Program} {E : TT} {o : Oper} {t : List (Nat × AV)} {h : List (Nat × Ent)} {nn : Nat} {K : Con → Prop}

theorem nthP_eq : ∀ (l : List (Nat × Nat)) (k : Nat), nthP l k = l[k]?
  | [], k => by simp [nthP]
  | x :: r, 0 => rfl
  | x :: r, k + 1 => by simpa [nthP] using nthP_eq r k

theorem placesOf_ok (hE : E.Ok P) : ∀ {fs : List (Nat × Nat)} {gs : List Field} {pl : List (Nat × Nat)}, fieldsIn fs gs = true → placesOf E fs = some pl → ∀ (w : World),
    (List.mapM (fun f => Prod.mk f.offset <$> sizeOf f.type) gs : Sem (List (Nat × Nat))).run P w = .ok pl w
  | [], [], pl, _, h, w => by simp only [placesOf, Option.some.injEq] at h; subst h; simp
  | [], _ :: _, _, h, _, _ => by simp [fieldsIn] at h
  | _ :: _, [], _, h, _, _ => by simp [fieldsIn] at h
  | (a, b) :: fs, g :: gs, pl, h, hp, w => by
    simp only [fieldsIn, Bool.and_eq_true] at h
    obtain ⟨⟨⟨h1, h2⟩, _⟩, h4⟩ := h
    simp only [placesOf] at hp
    split at hp
    · rename_i i hi
      split at hp
      · rename_i ps hps
        cases hp
        have ih := placesOf_ok hE h4 hps w
        have f := TI.facts (TT.look_ok hE hi)
        have e1 := Nat.eq_of_beq_eq_true h1
        have e2 := Nat.eq_of_beq_eq_true h2
        subst e1 e2
        simp only [List.mapM_cons, Sem.run_bind, Sem.run_map, f.size, Result.andThen_ok, Sem.run_pure, ih]
      · cases hp
    · cases hp

theorem ok_build (hE : E.Ok P) (hb : ∀ i e, get h i = some e → i < nn) {T : Nat} {ps : Array (Nat × Operand)} (ho : o.op = .build T ps)
    (hv : buildVC E T ps.toList t fun v => K (conPure nn v)) : ∃ c, Good P o t h nn c ∧ K c := by
  unfold buildVC at hv
  split at hv
  · rename_i i vs hl hvs
    have f := TI.facts (TT.look_ok hE hl)
    obtain ⟨d, hd, _, hu⟩ := f.und
    obtain ⟨z, hz, hzc, _⟩ := f.zero
    split at hv
    · rename_i fs hkk
      rw [hkk] at hd
      obtain ⟨gs, rfl⟩ : ∃ gs, d = .struct gs := by cases d <;> simp [TK.is] at hd; exact ⟨_, rfl⟩
      split at hv
      · rename_i pl hpl
        split at hv
        · rename_i C hf
          refine ⟨_, good_pure hb fun ρ a w hop => ?_, hv⟩
          obtain ⟨e1, e2⟩ := evParts_conc (ρ := ρ) (a := a) hvs fun x hx v hv => hop x.2 (by simp [ho, Op.operands]; exact ⟨x.1, Array.mem_toList_iff.1 hx⟩) v hv
          obtain ⟨cs', h1, h2⟩ := fillE_ok (q := (pl[·]?)) (fun k x hk => by rw [nthP_eq] at hk; exact hk) hf (zeroCells_conc ρ hzc).1 e1 e2
          refine ⟨.agg cs', by simp [conc, h2], ?_⟩
          have hm := placesOf_ok hE (show fieldsIn fs gs.toList = true from hd) hpl w
          have hm' : (Array.mapM (fun f => Prod.mk f.offset <$> sizeOf f.type) gs : Sem (Array (Nat × Nat))).run P w = .ok pl.toArray w := by
            rw [Array.mapM_eq_mapM_toList, Sem.run_map, hm]
            rfl
          simp [execOp, ho, Instr.build, hz, hu, hm', h1]
        · exact hv.elim
      · exact hv.elim
    · rename_i n elem hkk
      rw [hkk] at hd
      obtain ⟨len', elem', rfl⟩ : ∃ a b, d = .array a b := by cases d <;> simp [TK.is] at hd; exact ⟨_, _, rfl⟩
      simp only [TK.is, Bool.and_eq_true] at hd
      obtain rfl := Nat.eq_of_beq_eq_true hd.1
      obtain rfl := Nat.eq_of_beq_eq_true hd.2
      split at hv
      · rename_i ie hle
        have te := TI.facts (TT.look_ok hE hle)
        split at hv
        · rename_i C hf
          refine ⟨_, good_pure hb fun ρ a w hop => ?_, hv⟩
          obtain ⟨e1, e2⟩ := evParts_conc (ρ := ρ) (a := a) hvs fun x hx v hv => hop x.2 (by simp [ho, Op.operands]; exact ⟨x.1, Array.mem_toList_iff.1 hx⟩) v hv
          obtain ⟨cs', h1, h2⟩ := fillE_ok (q := fun i => some (i * ie.size, ie.size)) (fun k x hk => hk) hf (zeroCells_conc ρ hzc).1 e1 e2
          refine ⟨.agg cs', by simp [conc, h2], ?_⟩
          simp [execOp, ho, Instr.build, hz, hu, te.size, h1]
        · exact hv.elim
      · exact hv.elim
    · exact hv.elim
  · exact hv.elim
end
end Go.Eng
