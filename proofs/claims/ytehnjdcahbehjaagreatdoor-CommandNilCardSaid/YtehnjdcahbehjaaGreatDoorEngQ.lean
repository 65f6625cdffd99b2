/- The engine, part Q: lengths, the greatest, the least, new slices, function values. -/
import Derived.Test.YtehnjdcahbehjaaGreatDoorEngO
namespace Go.Eng
open Go
set_option linter.unusedSimpArgs false
set_option linter.unusedVariables false

section
variable {P : Program} {E : TT} {o : Oper} {t : List (Nat × AV)} {h : List (Nat × Ent)} {nn : Nat} {K : Con → Prop}

theorem evL_one {x : AV} {l : List Operand} (h : evL t l = some [x]) : ∃ y, l = [y] ∧ evS t y = some x := by
  cases l with
  | nil => simp [evL] at h
  | cons y r =>
    simp only [evL] at h
    split at h
    · rename_i v hv
      split at h
      · rename_i vs hvs
        cases h
        cases r with
        | nil => exact ⟨y, rfl, hv⟩
        | cons z r =>
          simp only [evL] at hvs
          split at hvs
          · split at hvs <;> cases hvs
          · cases hvs
      · cases h
    · cases h
theorem evL_two {x x' : AV} {l : List Operand} (h : evL t l = some [x, x']) : ∃ y y', l = [y, y'] ∧ evS t y = some x ∧ evS t y' = some x' := by
  cases l with
  | nil => simp [evL] at h
  | cons y r =>
    simp only [evL] at h
    split at h
    · rename_i v hv
      split at h
      · rename_i vs hvs
        cases h
        obtain ⟨z, rfl, hz⟩ := evL_one hvs
        exact ⟨y, z, rfl, hv, hz⟩
      · cases h
    · cases h

theorem ok_len (hE : E.Ok P) (hb : ∀ i e, get h i = some e → i < nn) {c : Call} (ho : o.op = .call c) (hc : c.callee = .builtin .len) {x : AV} {T : Nat} (hvs : evL t c.args.toList = some [x]) (hT : c.argTypes.toList = [T])
    (hv : lenVC E T x h nn K) : ∃ c, Good P o t h nn c ∧ K c := by
  obtain ⟨y, hy, hx⟩ := evL_one hvs
  have ha : c.args = #[y] := Array.toList_inj.1 hy
  have hty : c.argTypes = #[T] := Array.toList_inj.1 hT
  have hin : y ∈ o.op.operands := by simp [ho, Op.operands, Call.operands, ha, hc]
  have hrun : ∀ (a : Act) (w : World) (r : Value), (Builtin.len_ #[T] o.type #[a.eval y]).run P w = .ok r w → (execOp a.eval o).run P w = .ok (.value r) w := by
    intro a w r hr
    simp [execOp, ho, resolve, hc, invoke, builtin, ha, hty, hr]
  unfold lenVC at hv
  split at hv
  · rename_i i hl
    have f := TI.facts (TT.look_ok hE hl)
    obtain ⟨d, hd, _, hu⟩ := f.und
    split at hv
    · rename_i b hkk
      rw [hkk] at hd
      obtain rfl : d = .string := by cases d <;> simp [TK.is] at hd; rfl
      refine ⟨_, good_pure hb fun ρ a w hop => ?_, hv⟩
      obtain ⟨u, hu', he⟩ := hop y hin _ hx
      simp only [conc, Option.some.injEq] at hu'
      subst hu'
      exact ⟨_, rfl, hrun a w _ (by simp [Builtin.len_, hu, he, goInt])⟩
    · rename_i id hkk
      rw [hkk] at hd
      obtain ⟨e, rfl⟩ : ∃ b, d = .slice b := by cases d <;> simp [TK.is] at hd; exact ⟨_, rfl⟩
      split at hv
      · rename_i wr T' sz α enc l hg
        refine ⟨_, good_read hb (single_sub hg) fun ρ F a w hop hh => ?_, hv⟩
        obtain ⟨u, hu', he⟩ := hop y hin _ hx
        obtain ⟨vr, hvr, hrow⟩ := hh.ents id _ (by rw [get_single, if_pos rfl])
        obtain ⟨_, ao, cap, cs, rfl, _⟩ := row_at hrow
        simp only [conc, hvr, Value.oneCell', if_true, Option.some.injEq] at hu'
        subst hu'
        exact ⟨_, rfl, hrun a w _ (by simp [Builtin.len_, hu, he, goInt])⟩
      · exact hv.elim
    · rename_i hkk
      rw [hkk] at hd
      obtain ⟨e, rfl⟩ : ∃ b, d = .slice b := by cases d <;> simp [TK.is] at hd; exact ⟨_, rfl⟩
      refine ⟨_, good_pure hb fun ρ a w hop => ?_, hv⟩
      obtain ⟨u, hu', he⟩ := hop y hin _ hx
      simp only [conc] at hu'
      split at hu'
      · cases hu'
        exact ⟨_, rfl, hrun a w _ (by simp [Builtin.len_, hu, he, goInt])⟩
      · cases hu'
    · rename_i hkk
      rw [hkk] at hd
      obtain ⟨e, rfl⟩ : ∃ b, d = .slice b := by cases d <;> simp [TK.is] at hd; exact ⟨_, rfl⟩
      refine ⟨_, good_pure hb fun ρ a w hop => ?_, hv⟩
      obtain ⟨u, hu', he⟩ := hop y hin _ hx
      simp only [conc] at hu'
      split at hu'
      · cases hu'
        exact ⟨_, rfl, hrun a w _ (by simp [Builtin.len_, hu, he, goInt])⟩
      · cases hu'
    · rename_i hkk
      rw [hkk] at hd
      obtain ⟨e, rfl⟩ : ∃ b, d = .slice b := by cases d <;> simp [TK.is] at hd; exact ⟨_, rfl⟩
      refine ⟨_, good_pure hb fun ρ a w hop => ?_, hv⟩
      obtain ⟨u, hu', he⟩ := hop y hin _ hx
      simp only [conc, Option.some.injEq] at hu'
      subst hu'
      exact ⟨_, rfl, hrun a w _ (by simp [Builtin.len_, hu, he, goInt])⟩
    · rename_i n elem hkk
      rw [hkk] at hd
      obtain ⟨len', elem', rfl⟩ : ∃ a b, d = .array a b := by cases d <;> simp [TK.is] at hd; exact ⟨_, _, rfl⟩
      simp only [TK.is, Bool.and_eq_true] at hd
      obtain rfl := Nat.eq_of_beq_eq_true hd.1
      refine ⟨_, good_pure hb fun ρ a w hop => ?_, hv⟩
      exact ⟨_, rfl, hrun a w _ (by simp [Builtin.len_, hu, goInt])⟩
    · rename_i ar hkk
      rw [hkk] at hd
      obtain ⟨ar', rfl⟩ : ∃ b, d = .pointer b := by cases d <;> simp [TK.is] at hd; exact ⟨_, rfl⟩
      obtain rfl := Nat.eq_of_beq_eq_true (show Nat.beq ar ar' = true from hd)
      split at hv
      · rename_i ia hla
        have fa := TI.facts (TT.look_ok hE hla)
        obtain ⟨d, hd, _, hu2⟩ := fa.und
        split at hv
        · rename_i n elem hkk
          rw [hkk] at hd
          obtain ⟨len', elem', rfl⟩ : ∃ a b, d = .array a b := by cases d <;> simp [TK.is] at hd; exact ⟨_, _, rfl⟩
          simp only [TK.is, Bool.and_eq_true] at hd
          obtain rfl := Nat.eq_of_beq_eq_true hd.1
          refine ⟨_, good_pure hb fun ρ a w hop => ?_, hv⟩
          exact ⟨_, rfl, hrun a w _ (by simp [Builtin.len_, hu, hu2, goInt])⟩
        · exact hv.elim
      · exact hv.elim
    · exact hv.elim
  · exact hv.elim

theorem ok_max (hb : ∀ i e, get h i = some e → i < nn) {c : Call} (ho : o.op = .call c) (hc : c.callee = .builtin .max) {x v : AV} {r : List AV} (hvs : evL t c.args.toList = some (x :: r))
    (hm : maxL x r = some v) (hv : K (conPure nn v)) : ∃ c, Good P o t h nn c ∧ K c := by
  refine ⟨_, good_pure hb fun ρ a w hop => ?_, hv⟩
  have hl := evL_conc (ρ := ρ) (a := a) hvs fun y hy v hv => hop y (by simp [ho, Op.operands, Call.operands, hc]; exact Array.mem_toList_iff.1 hy) v hv
  obtain ⟨ux, us, hux, hus, he⟩ := concL_cons.1 hl
  obtain ⟨u, hu, hrun⟩ := maxL_ok (P := P) hm hux hus
  refine ⟨u, hu, ?_⟩
  have e2 : (c.args.map a.eval).toList = ux :: us := by rw [Array.toList_map]; exact he
  simp only [execOp, ho, resolve, hc, invoke, builtin, Builtin.max_, Sem.run_bind, Sem.run_pure, Result.andThen_ok, e2, hrun]
theorem ok_min (hb : ∀ i e, get h i = some e → i < nn) {c : Call} (ho : o.op = .call c) (hc : c.callee = .builtin .min) {x v : AV} {r : List AV} (hvs : evL t c.args.toList = some (x :: r))
    (hm : minL x r = some v) (hv : K (conPure nn v)) : ∃ c, Good P o t h nn c ∧ K c := by
  refine ⟨_, good_pure hb fun ρ a w hop => ?_, hv⟩
  have hl := evL_conc (ρ := ρ) (a := a) hvs fun y hy v hv => hop y (by simp [ho, Op.operands, Call.operands, hc]; exact Array.mem_toList_iff.1 hy) v hv
  obtain ⟨ux, us, hux, hus, he⟩ := concL_cons.1 hl
  obtain ⟨u, hu, hrun⟩ := minL_ok (P := P) hm hux hus
  refine ⟨u, hu, ?_⟩
  have e2 : (c.args.map a.eval).toList = ux :: us := by rw [Array.toList_map]; exact he
  simp only [execOp, ho, resolve, hc, invoke, builtin, Builtin.min_, Sem.run_bind, Sem.run_pure, Result.andThen_ok, e2, hrun]

theorem ok_makeFunc (hb : ∀ i e, get h i = some e → i < nn) {f : Nat} {first caps : Array Operand} (ho : o.op = .makeFunc (.func f) first caps)
    (hv : match first.toList, evL t caps.toList with
    | [], some cs => K (conPure nn (.fn f cs))
    | _, _ => lawVC P o t h nn K) : ∃ c, Good P o t h nn c ∧ K c := by
  split at hv
  · rename_i cs hf hcs
    refine ⟨_, good_pure hb fun ρ a w hop => ?_, hv⟩
    have hl := evL_conc (ρ := ρ) (a := a) hcs fun y hy v hv => hop y (by simp [ho, Op.operands]; exact .inr (Array.mem_toList_iff.1 hy)) v hv
    have e1 : first = #[] := Array.toList_inj.1 hf
    refine ⟨.func (.func f) #[] (caps.map a.eval), ?_, ?_⟩
    · simp only [conc, hl]
      congr 2
      apply Array.toList_inj.1
      simp
    · simp [execOp, ho, Instr.makeFunc, e1]
  · obtain ⟨hv⟩ := hv
    exact hv
end
end Go.Eng
