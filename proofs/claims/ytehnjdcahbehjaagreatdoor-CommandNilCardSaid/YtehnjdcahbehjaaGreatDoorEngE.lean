/- The engine, part E: the table of types against the program. -/
import Derived.Test.YtehnjdcahbehjaaGreatDoorEngD
import Derived.KernelRfl
namespace Go.Eng
open Go
def zeroCell : AV → Value → Bool
  | .ff, .bool false => true
  | .lit k n, .int k' n' => decide (k = k') && n == n'
  | .str a, .string b => a.size == 0 && b.size == 0
  | .val (.slice none 0 0), .slice none 0 0 => true
  | .val (.pointer none), .pointer none => true
  | .val (.map none), .map none => true
  | .val (.chan none), .chan none => true
  | .val .nilFunc, .nilFunc => true
  | .val .nilIface, .nilIface => true
  | _, _ => false
def zeroCells : List AV → List Value → Bool
  | [], [] => true
  | a :: r, v :: s => zeroCell a v && zeroCells r s
  | _, _ => false
def fieldsIn : List (Nat × Nat) → List Field → Bool
  | [], [] => true
  | (o, t) :: r, f :: s => Nat.beq o f.offset && Nat.beq t f.type && (f.name != "_") && fieldsIn r s
  | _, _ => false
def TK.is : TK → TypeDesc → Bool
  | .other, d => match d with
    | .struct _ | .array _ _ => false
    | _ => true
  | .bool, .bool => true
  | .int k, .int k' => decide (k = k')
  | .string, .string => true
  | .struct fs, .struct gs => fieldsIn fs gs.toList
  | .array n e, .array n' e' => Nat.beq n n' && Nat.beq e e'
  | .slice e, .slice e' => Nat.beq e e'
  | .map a b, .map a' b' => Nat.beq a a' && Nat.beq b b'
  | .pointer e, .pointer e' => Nat.beq e e'
  | _, _ => false
def TI.check (P : Program) (T : Nat) (i : TI) : Bool := match P.info? T, P.underlying T with
  | some ti, some d => Nat.beq ti.size i.size && Nat.beq ti.bytes i.bytes && i.kind.is d && Nat.beq i.zero.length i.size && (match ti.zero with
    | some z => zeroCells i.zero z.cells.toList && (match i.kind.agg, z with
      | true, .agg _ => true
      | true, _ => false
      | false, v => v.oneCell')
    | none => false) && (match i.kind with | .struct _ => !P.stoodInHeld T | _ => true) && !P.eqGuardType P.depth T
  | _, _ => false
def TT.Ok (P : Program) : TT → Prop
  | .leaf => True
  | .node l k i r => l.Ok P ∧ i.check P k = true ∧ r.Ok P
theorem TT.look_ok {P : Program} : ∀ {E : TT}, E.Ok P → ∀ {T : Nat} {i : TI}, E.look T = some i → i.check P T = true
  | .leaf, _, _, _, h => by simp [TT.look] at h
  | .node l k i r, ⟨hl, hk, hr⟩, T, j, h => by
    simp only [TT.look] at h
    split at h
    · rename_i e
      obtain rfl := Nat.eq_of_beq_eq_true e
      cases h; exact hk
    · split at h
      · exact look_ok hl h
      · exact look_ok hr h
end Go.Eng
