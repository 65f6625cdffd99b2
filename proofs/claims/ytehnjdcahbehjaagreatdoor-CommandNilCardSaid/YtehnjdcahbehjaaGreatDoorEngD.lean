/- The engine, part D: what each operation asks and does, as a proposition that reduces by itself. -/
import Derived.Test.YtehnjdcahbehjaaGreatDoorEngC
namespace Go.Eng
open Go
universe u

inductive TK where
  | other
  | bool
  | int (k : IntKind)
  | string
  | struct (fs : List (Nat × Nat))
  | array (len elem : Nat)
  | slice (elem : Nat)
  | map (key elem : Nat)
  | pointer (elem : Nat)
structure TI where
  size : Nat
  bytes : Nat
  kind : TK
  zero : List AV
inductive TT where
  | leaf
  | node (l : TT) (k : Nat) (i : TI) (r : TT)
def TT.look : TT → Nat → Option TI
  | .leaf, _ => none
  | .node l k i r, x => match Nat.beq x k with
    | true => some i
    | false => match Nat.ble x k with
      | true => l.look x
      | false => r.look x

structure St : Type 1 where
  t : List (Nat × AV)
  h : List (Nat × Ent)
  n : Nat

/-- where whoever proves must speak -/
inductive Tag (n : Nat) (X : Prop) : Prop
  | mk (x : X)

structure At (B : Base) (t : List (Nat × AV)) (h : List (Nat × Ent)) (n : Nat) (a : Act) (w : World) : Prop where
  ex : ∃ ρ F, Rep B ρ (get t) (get h) F a w ∧ ∀ i, n ≤ i → ρ i = none
  ids : ∀ i e, get h i = some e → i < n
/-- Where s stands, s' stands too: other words for the same memory. -/
def Shift (m : Nat) (s s' : St) : Prop := ∀ B : Base, B.n0 = m → (∀ i, m ≤ i → B.ρ0 i = none) → ∀ a w, At B s.t s.h s.n a w → At B s'.t s'.h s'.n a w

mutual
/-- the same value in one form -/
def norm : AV → AV
  | .tt => .bool true
  | .ff => .bool false
  | .lit k n => .int k n
  | .agg cs => .agg (normL cs)
  | .tup cs => .tup (normL cs)
  | .fn f cs => .fn f (normL cs)
  | v => v
def normL : List AV → List AV
  | [] => []
  | c :: cs => norm c :: normL cs
end
def takeE {α : Type u} : List α → Nat → Option (List α)
  | _, 0 => some []
  | [], _ + 1 => none
  | x :: xs, n + 1 => match takeE xs n with
    | some r => some (x :: r)
    | none => none
def dropE {α : Type u} : List α → Nat → Option (List α)
  | l, 0 => some l
  | [], _ + 1 => none
  | _ :: xs, n + 1 => dropE xs n
def part? {α : Type u} (C : List α) (off sz : Nat) : Option (List α) := match dropE C off with
  | some r => takeE r sz
  | none => none
def overlay {α : Type u} : List α → List α → Option (List α)
  | C, [] => some C
  | [], _ :: _ => none
  | _ :: C, v :: vs => match overlay C vs with
    | some r => some (v :: r)
    | none => none
def setE {α : Type u} : List α → Nat → List α → Option (List α)
  | C, 0, vs => overlay C vs
  | [], _ + 1, _ => none
  | c :: C, n + 1, vs => match setE C n vs with
    | some r => some (c :: r)
    | none => none

def cellOk : AV → Bool
  | .agg _ => false
  | .tup _ => false
  | .val v => v.oneCell'
  | _ => true
def allCell : List AV → Bool
  | [] => true
  | c :: cs => match cellOk c with
    | true => allCell cs
    | false => false
/-- the cells of a value that is stored -/
def vcells : AV → List AV
  | .agg cs => cs
  | v => [v]
def TK.agg : TK → Bool
  | .struct _ => true
  | .array _ _ => true
  | _ => false
def mkAV (agg : Bool) (cs : List AV) : Option AV := match agg with
  | true => some (.agg cs)
  | false => match cs with
    | [v] => some v
    | _ => none

def evS (t : List (Nat × AV)) : Operand → Option AV
  | .tmp x => get t x
  | .const v => some (ofConst v)
  | .global g => some (.val (.pointer (some ⟨g, 0, none⟩)))
  | .func f => some (.fn f [])
def withV (t : List (Nat × AV)) (x : Operand) (k : AV → Prop) : Prop := match evS t x with
  | some v => k v
  | none => False
def evL (t : List (Nat × AV)) : List Operand → Option (List AV)
  | [] => some []
  | x :: xs => match evS t x with
    | some v => match evL t xs with
      | some vs => some (v :: vs)
      | none => none
    | none => none

/-- nothing of the heap is touched -/
def conPure (n : Nat) (v : AV) : Con := ⟨[], n, n, v, []⟩
/-- a new block -/
def conNew (n : Nat) (C : List AV) : Con := ⟨[], n, n + 1, .ptr n 0, [(n, .cells true C)]⟩

def intOf? : AV → Option (IntKind × Int × Bool)
  | .int k n => some (k, n, false)
  | .lit k n => some (k, n, true)
  | _ => none
def boolOf? : AV → Option (Bool × Bool)
  | .tt => some (true, true)
  | .ff => some (false, true)
  | .bool b => some (b, false)
  | _ => none
def mkBool (lit : Bool) (b : Bool) : AV := match lit with
  | true => ofBool b
  | false => .bool b
def mkInt (lit : Bool) (k : IntKind) (n : Int) : AV := match lit with
  | true => .lit k n
  | false => .int k n

def pickB (c : Bool) (x y : AV) : Option AV := match boolOf? x, boolOf? y with
  | some (a, _), some (b, _) => some (.bool (cond c a b))
  | _, _ => match intOf? x, intOf? y with
    | some (k, a, _), some (k', b, _) => match decide (k = k') with
      | true => some (.int k (cond c a b))
      | false => none
    | _, _ => match x, y with
      | .str a, .str b => some (.str (cond c a b))
      | _, _ => none
def pickAV : AV → AV → AV → Option AV
  | .tt, x, _ => some x
  | .ff, _, y => some y
  | .bool c, x, y => pickB c x y
  | _, _, _ => none

def intBin (op : BinOp) (k : IntKind) (lit : Bool) (a b : Int) (K : AV → Prop) : Prop := match op with
  | .add => K (mkInt lit k (k.wrap (a + b)))
  | .sub => K (mkInt lit k (k.wrap (a - b)))
  | .mul => K (mkInt lit k (k.wrap (a * b)))
  | .quo => b ≠ 0 ∧ K (mkInt lit k (k.wrap (a.tdiv b)))
  | .rem => b ≠ 0 ∧ K (mkInt lit k (a.tmod b))
  | .and => K (mkInt lit k (k.wrap ((BitVec.ofInt k.bits a) &&& (BitVec.ofInt k.bits b)).toNat))
  | .or => K (mkInt lit k (k.wrap ((BitVec.ofInt k.bits a) ||| (BitVec.ofInt k.bits b)).toNat))
  | .xor => K (mkInt lit k (k.wrap ((BitVec.ofInt k.bits a) ^^^ (BitVec.ofInt k.bits b)).toNat))
  | .andNot => K (mkInt lit k (k.wrap ((BitVec.ofInt k.bits a) &&& ~~~(BitVec.ofInt k.bits b)).toNat))
  | .eql => K (mkBool lit (a == b))
  | .neq => K (mkBool lit (a != b))
  | .lss => K (mkBool lit (decide (a < b)))
  | .leq => K (mkBool lit (decide (a ≤ b)))
  | .gtr => K (mkBool lit (decide (b < a)))
  | .geq => K (mkBool lit (decide (b ≤ a)))
  | .shl => 0 ≤ b ∧ K (mkInt lit k (k.wrap (a * 2 ^ (min b.toNat k.bits))))
  | .shr => 0 ≤ b ∧ K (mkInt lit k (a.fdiv (2 ^ (min b.toNat k.bits))))
def strBin (op : BinOp) (a b : ByteArray) (K : AV → Prop) : Prop := match op with
  | .add => a.size + b.size ≤ 9223372036854775807 ∧ K (.str (a ++ b))
  | .eql => K (.bool (a.toList == b.toList))
  | .neq => K (.bool (!(a.toList == b.toList)))
  | .lss => K (.bool (Op.bytesLess a.toList b.toList))
  | .leq => K (.bool (Op.bytesLess a.toList b.toList || a.toList == b.toList))
  | .gtr => K (.bool (!(Op.bytesLess a.toList b.toList || a.toList == b.toList)))
  | .geq => K (.bool (!(Op.bytesLess a.toList b.toList)))
  | _ => False

/-- two values of a plain type, held against each other -/
def eqCell : TK → AV → AV → Option Bool
  | .bool, x, y => match boolOf? x, boolOf? y with
    | some (a, _), some (b, _) => some (a == b)
    | _, _ => none
  | .int _, x, y => match intOf? x, intOf? y with
    | some (k, a, _), some (k', b, _) => match decide (k = k') with
      | true => some (a == b)
      | false => none
    | _, _ => none
  | .string, .str a, .str b => some (a == b)
  | _, _, _ => none
def eqFields (E : TT) (f : Nat → List AV → List AV → Option Bool) : List (Nat × Nat) → List AV → List AV → Option Bool
  | [], _, _ => some true
  | (off, T) :: fs, xs, ys => match E.look T with
    | none => none
    | some i => match part? xs off i.size, part? ys off i.size with
      | some a, some b => match f T a b with
        | some e => match eqFields E f fs xs ys with
          | some r => some (e && r)
          | none => none
        | none => none
      | _, _ => none
def eqElems (f : List AV → List AV → Option Bool) (sz : Nat) : Nat → List AV → List AV → Option Bool
  | 0, _, _ => some true
  | n + 1, xs, ys => match takeE xs sz, takeE ys sz, dropE xs sz, dropE ys sz with
    | some a, some b, some xs', some ys' => match f a b with
      | some e => match eqElems f sz n xs' ys' with
        | some r => some (e && r)
        | none => none
      | none => none
    | _, _, _, _ => none
def eqTy (E : TT) : Nat → Nat → List AV → List AV → Option Bool
  | 0, _, _, _ => none
  | d + 1, T, xs, ys => match E.look T with
    | none => none
    | some i => match i.kind with
      | .struct fs => eqFields E (eqTy E d) fs xs ys
      | .array len elem => match E.look elem with
        | some ie => eqElems (eqTy E d elem) ie.size len xs ys
        | none => none
      | k => match xs, ys with
        | [x], [y] => eqCell k x y
        | _, _ => none
def eqPtr : AV → AV → Option Bool
  | .val (.pointer none), .val (.pointer none) => some true
  | .ptr _ _, .val (.pointer none) => some false
  | .val (.pointer none), .ptr _ _ => some false
  | _, _ => none
def boolK (op : BinOp) (lit e : Bool) (K : AV → Prop) : Prop := match op with
  | .eql => K (mkBool lit e)
  | .neq => K (mkBool lit (!e))
  | _ => False
def isShift : BinOp → Bool
  | .shl => true
  | .shr => true
  | _ => false
def binVC (E : TT) (op : BinOp) (T : Nat) (x y : AV) (K : AV → Prop) : Prop := match x, y with
  | .str a, .str b => strBin op a b K
  | .agg a, .agg b => match E.look T with
    | some i => match i.kind.agg, eqTy E 100 T a b with
      | true, some e => boolK op false e K
      | _, _ => False
    | none => False
  | x, y => match intOf? x, intOf? y with
    | some (k, a, la), some (k', b, lb) => match cond (isShift op) true (decide (k = k')) with
      | true => intBin op k (cond la lb false) a b K
      | false => False
    | _, _ => match boolOf? x, boolOf? y, E.look T with
      | some (a, la), some (b, lb), some i => match i.kind with
        | .bool => boolK op (cond la lb false) (a == b) K
        | _ => False
      | _, _, _ => match eqPtr x y, E.look T with
        | some e, some i => match i.kind with
          | .pointer _ => boolK op true e K
          | _ => False
        | _, _ => False

def unVC (op : UnOp) (x : AV) (K : AV → Prop) : Prop := match op, x with
  | .not, .tt => K .ff
  | .not, .ff => K .tt
  | .not, .bool b => K (.bool (!b))
  | .neg, v => match intOf? v with
    | some (k, n, l) => K (mkInt l k (k.wrap (0 - n)))
    | none => False
  | .xor, v => match intOf? v with
    | some (k, n, l) => K (mkInt l k (k.wrap ((BitVec.ofInt k.bits (if k.signed then -1 else k.max)) ^^^ (BitVec.ofInt k.bits n)).toNat))
    | none => False
  | _, _ => False

/-- the bytes of a text as elements -/
def byteAV (b : UInt8) : List AV := [.int .u8 b.toNat]

def convVC (E : TT) (src dst : Nat) (x : AV) (h : List (Nat × Ent)) (nn : Nat) (K : Con → Prop) : Prop :=
  match E.look src, E.look dst with
  | some is, some id => match id.kind, x with
    | .int k, v => match intOf? v with
      | some (_, n, l) => K (conPure nn (mkInt l k (k.wrap n)))
      | none => False
    | .string, .str b => K (conPure nn (.str b))
    | .string, .ref i => match is.kind, get h i with
      | .slice e, some (.row wr T sz α enc l) => match E.look e with
        | some ie => match ie.kind with
          | .int .u8 => Tag 6 (∃ bs : List UInt8, (sz = 1 ∧ normL (l.flatMap enc) = normL (bs.flatMap byteAV)) ∧ K ⟨[(i, .row wr T sz α enc l)], nn, nn, .str ⟨bs.toArray⟩, []⟩)
          | _ => False
        | none => False
      | _, _ => False
    | .slice e, .str b => match is.kind, E.look e with
      | .string, some ie => match ie.kind with
        | .int .u8 => b.size ≤ maxLen ∧ K ⟨[], nn, nn + 1, .ref nn, [(nn, .row true e 1 UInt8 byteAV b.data.toList)]⟩
        | _ => False
      | _, _ => False
    | _, _ => False
  | _, _ => False

def fieldOff (E : TT) (T f : Nat) : Option (Nat × Nat) := match E.look T with
  | some i => match i.kind with
    | .struct fs => match dropE fs f with
      | some (x :: _) => some x
      | _ => none
    | _ => none
  | none => none
def fieldAddrVC (E : TT) (T f : Nat) (x : AV) (K : AV → Prop) : Prop := match fieldOff E T f with
  | some (o, ft) => match E.look ft with
    | some fi => match fi.size with
      | 0 => False
      | _ + 1 => match x with
        | .ptr i off => K (.ptr i (off + o))
        | .ep i idx sz off => K (.ep i idx sz (off + o))
        | _ => False
    | none => False
  | none => False
def fieldVC (E : TT) (T f : Nat) (x : AV) (K : AV → Prop) : Prop := match fieldOff E T f with
  | some (o, ft) => match E.look ft, x with
    | some fi, .agg cs => match part? cs o fi.size with
      | some p => match mkAV fi.kind.agg p with
        | some v => K v
        | none => False
      | none => False
    | _, _ => False
  | none => False
def indexAddrVC (E : TT) (T : Nat) (x ix : AV) (h : List (Nat × Ent)) (K : AV → Prop) : Prop := match E.look T, intOf? ix with
  | some i, some (_, n, l) => match i.kind with
    | .array len elem => match E.look elem with
      | some ie => match x with
        | .ptr i off => (0 ≤ n ∧ n < len) ∧ K (match l with
          | true => .ptr i (off + n.toNat * ie.size)
          | false => .ip i off n.toNat ie.size)
        | _ => False
      | none => False
    | .slice elem => match E.look elem with
      | some ie => match x with
        | .ref i => match get h i with
          | some (.row _ _ sz _ _ xs) => (0 ≤ n ∧ n < xs.length ∧ sz = ie.size) ∧ K (.ep i n.toNat sz 0)
          | _ => False
        | .sl i off len _ => (0 ≤ n ∧ n < len) ∧ K (match l with
          | true => .ptr i (off + n.toNat * ie.size)
          | false => .ip i off n.toNat ie.size)
        | .rs i lo k sz => match get h i with
          | some (.row _ _ sz' _ _ xs) => (0 ≤ n ∧ n < k ∧ sz = ie.size ∧ sz' = ie.size ∧ lo + k ≤ xs.length) ∧ K (.ep i (lo + n.toNat) sz 0)
          | _ => False
        | _ => False
      | none => False
    | _ => False
  | _, _ => False
def bAt (s : ByteArray) (n : Nat) : UInt8 := s.data.toList.getD n 0
def indexVC (E : TT) (T : Nat) (x ix : AV) (K : AV → Prop) : Prop := match E.look T, intOf? ix with
  | some i, some (_, n, _) => match i.kind, x with
    | .string, .str s => (0 ≤ n ∧ n < s.size) ∧ K (.int .u8 (bAt s n.toNat).toNat)
    | .array len elem, .agg cs => match E.look elem with
      | some ie => (0 ≤ n ∧ n < len) ∧ ∃ p, part? cs (n.toNat * ie.size) ie.size = some p ∧ match mkAV ie.kind.agg p with
        | some v => K v
        | none => False
      | none => False
    | _, _ => False
  | _, _ => False

def loadVC (E : TT) (T : Nat) (x : AV) (h : List (Nat × Ent)) (nn : Nat) (K : Con → Prop) : Prop := match E.look T with
  | some i => match x with
    | .ptr id off => match get h id with
      | some (.cells wr C) => match part? C off i.size with
        | some p => match mkAV i.kind.agg p with
          | some v => K ⟨[(id, .cells wr C)], nn, nn, v, []⟩
          | none => False
        | none => False
      | _ => False
    | .ip id off idx sz => match get h id with
      | some (.cells wr C) => Tag 8 (∃ p, part? C (off + idx * sz) i.size = some p ∧ match mkAV i.kind.agg p with
          | some v => K ⟨[(id, .cells wr C)], nn, nn, v, []⟩
          | none => False)
      | _ => False
    | .ep id idx sz off => match get h id with
      | some (.row wr T' sz' α enc l) => Tag 9 (∃ y, (sz = sz' ∧ l[idx]? = some y) ∧ match part? (enc y) off i.size with
        | some p => match mkAV i.kind.agg p with
          | some v => K ⟨[(id, .row wr T' sz' α enc l)], nn, nn, v, []⟩
          | none => False
        | none => False)
      | _ => False
    | _ => False
  | none => False
def lenIs {α : Type u} : List α → Nat → Bool
  | [], 0 => true
  | _ :: r, n + 1 => lenIs r n
  | _, _ => false
mutual
def below (n : Nat) : AV → Bool
  | .ref i => Nat.blt i n
  | .ptr i _ => Nat.blt i n
  | .ep i _ _ _ => Nat.blt i n
  | .ip i _ _ _ => Nat.blt i n
  | .sl i _ _ _ => Nat.blt i n
  | .rs i _ _ _ => Nat.blt i n
  | .agg cs => belowL n cs
  | .tup cs => belowL n cs
  | .fn _ cs => belowL n cs
  | .tt => true
  | .ff => true
  | .bool _ => true
  | .int _ _ => true
  | .lit _ _ => true
  | .str _ => true
  | .val _ => true
def belowL (n : Nat) : List AV → Bool
  | [] => true
  | c :: cs => match below n c with
    | true => belowL n cs
    | false => false
end
def storeVC (E : TT) (T : Nat) (x v : AV) (h : List (Nat × Ent)) (nn : Nat) (K : Con → Prop) : Prop := match E.look T with
  | some i => match lenIs (vcells v) i.size, allCell (vcells v) with
    | true, true => match x with
      | .ptr id off => match get h id with
        | some (.cells true C) => match setE C off (vcells v) with
          | some C' => K ⟨[(id, .cells true C)], nn, nn, .val undef, [(id, .cells true C')]⟩
          | none => False
        | _ => False
      | .ip id off idx sz => match get h id with
        | some (.cells true C) => Tag 10 (∃ C' C0, (setE C (off + idx * sz) (vcells v) = some C0 ∧ normL C0 = normL C') ∧ K ⟨[(id, .cells true C)], nn, nn, .val undef, [(id, .cells true C')]⟩)
        | _ => False
      | .ep id idx sz off => match get h id with
        | some (.row true T' sz' α enc l) => Tag 11 (∃ y y' E0, (sz = sz' ∧ l[idx]? = some y ∧ setE (enc y) off (vcells v) = some E0 ∧ normL E0 = normL (enc y') ∧ belowL 0 (vcells v) = true) ∧
            K ⟨[(id, .row true T' sz' α enc l)], nn, nn, .val undef, [(id, .row true T' sz' α enc (l.set idx y'))]⟩)
        | _ => False
      | _ => False
    | _, _ => False
  | none => False

def nilVC (x : AV) (K : AV → Prop) : Prop := match x with
  | .ptr i o => K (.ptr i o)
  | .ep i a b c => K (.ep i a b c)
  | .ip i a b c => K (.ip i a b c)
  | .fn f c => K (.fn f c)
  | _ => False

def boxVC (v : AV) (nn : Nat) (K : Con → Prop) : Prop := match allCell (vcells v) with
  | true => K (conNew nn (vcells v))
  | false => False

/-- the parts of a literal, each in its place -/
def fillE (place : Nat → Option (Nat × Nat)) : List AV → List (Nat × AV) → Option (List AV)
  | C, [] => some C
  | C, (i, v) :: r => match place i with
    | some (off, sz) => match lenIs (vcells v) sz, allCell (vcells v) with
      | true, true => match setE C off (vcells v) with
        | some C' => fillE place C' r
        | none => none
      | _, _ => none
    | none => none
def placesOf (E : TT) : List (Nat × Nat) → Option (List (Nat × Nat))
  | [] => some []
  | (o, T) :: r => match E.look T with
    | some i => match placesOf E r with
      | some ps => some ((o, i.size) :: ps)
      | none => none
    | none => none
def nthP : List (Nat × Nat) → Nat → Option (Nat × Nat)
  | [], _ => none
  | x :: _, 0 => some x
  | _ :: r, k + 1 => nthP r k
def evParts (t : List (Nat × AV)) : List (Nat × Operand) → Option (List (Nat × AV))
  | [] => some []
  | (i, x) :: r => match evS t x with
    | some v => match evParts t r with
      | some vs => some ((i, v) :: vs)
      | none => none
    | none => none
def buildVC (E : TT) (T : Nat) (ps : List (Nat × Operand)) (t : List (Nat × AV)) (K : AV → Prop) : Prop := match E.look T, evParts t ps with
  | some i, some vs => match i.kind with
    | .struct fs => match placesOf E fs with
      | some pl => match fillE (nthP pl) i.zero vs with
        | some C => K (.agg C)
        | none => False
      | none => False
    | .array _ elem => match E.look elem with
      | some ie => match fillE (fun k => some (k * ie.size, ie.size)) i.zero vs with
        | some C => K (.agg C)
        | none => False
      | none => False
    | _ => False
  | _, _ => False
def repE (z : List AV) : Nat → List AV
  | 0 => []
  | n + 1 => z ++ repE z n
def groups {α : Type u} (sz : Nat) : Nat → List α → Option (List (List α))
  | 0, _ => some []
  | n + 1, C => match takeE C sz, dropE C sz with
    | some a, some r => match groups sz n r with
      | some g => some (a :: g)
      | none => none
    | _, _ => none
/-- elements that stand as they are written -/
def rawAV (c : List AV) : List AV := c
/-- a literal's elements, as they are spoken of from there on -/
def litVC (elem sz len : Nat) (C : List AV) (nn : Nat) (K : Con → Prop) : Prop :=
  ∃ (α : Type) (enc : α → List AV) (g : List α), (normL (g.flatMap enc) = normL C ∧ g.length = len ∧ ∀ x ∈ g, (enc x).length = sz) ∧ K ⟨[], nn, nn + 1, .ref nn, [(nn, .row true elem sz α enc g)]⟩
def buildSliceVC (E : TT) (T len : Nat) (ps : List (Nat × Operand)) (t : List (Nat × AV)) (nn : Nat) (K : Con → Prop) : Prop := match E.look T, evParts t ps with
  | some i, some vs => match i.kind with
    | .slice elem => match E.look elem with
      | some ie => match fillE (fun k => some (k * ie.size, ie.size)) (repE ie.zero len) vs with
        | some C => match allCell C, belowL 0 C, Nat.ble (len * (ie.size + 1)) 16777216 with
          | true, true, true => Tag 4 (litVC elem ie.size len C nn K)
          | _, _, _ => False
        | none => False
      | none => False
    | _ => False
  | _, _ => False

/-- a bound of a slice expression: its number, and whether it is known as it stands -/
def bnd? : Option AV → Option (Option (Int × Bool))
  | none => some none
  | some v => match intOf? v with
    | some (_, n, l) => some (some (n, l))
    | none => none
def bndI (b : Option (Int × Bool)) (d : Nat) : Int := match b with
  | some p => p.1
  | none => d
def sliceRowVC (id : Nat) (wr : Bool) (T : Nat) (sz : Nat) (α : Type) (enc : α → List AV) (xs : List α) (lo hi : Option (Int × Bool)) (nn : Nat) (K : Con → Prop) : Prop :=
  Tag 12 ((0 ≤ bndI lo 0 ∧ bndI lo 0 ≤ bndI hi xs.length ∧ bndI hi xs.length ≤ xs.length) ∧
  (K ⟨[(id, .row wr T sz α enc xs)], nn, nn, .rs id (bndI lo 0).toNat ((bndI hi xs.length).toNat - (bndI lo 0).toNat) sz, []⟩ ∨
  match wr with
  | false => K ⟨[(id, .row false T sz α enc xs)], nn, nn + 1, .ref nn, [(nn, .row false T sz α enc ((xs.take (bndI hi xs.length).toNat).drop (bndI lo 0).toNat))]⟩
  | true => match lo with
    | none => K ⟨[(id, .row true T sz α enc xs)], nn, nn + 1, .ref nn, [(id, .gone), (nn, .row true T sz α enc (xs.take (bndI hi xs.length).toNat))]⟩
    | some _ => K ⟨[(id, .row true T sz α enc xs)], nn, nn + 1, .ref nn, [(id, .row false T sz α enc xs), (nn, .row false T sz α enc ((xs.take (bndI hi xs.length).toNat).drop (bndI lo 0).toNat))]⟩))
def sliceVC (E : TT) (T : Nat) (x : AV) (lo hi mx : Option AV) (h : List (Nat × Ent)) (nn : Nat) (K : Con → Prop) : Prop :=
  match bnd? lo, bnd? hi, bnd? mx, E.look T with
  | some l, some hb, some m, some i => match i.kind, x with
    | .string, .str b => match m with
      | none => (0 ≤ bndI l 0 ∧ bndI l 0 ≤ bndI hb b.size ∧ bndI hb b.size ≤ b.size) ∧ K (conPure nn (.str (b.extract (bndI l 0).toNat (bndI hb b.size).toNat)))
      | some _ => False
    | .slice elem, .ref id => match m, get h id, E.look elem with
      | none, some (.row wr T' sz α enc xs), some ie => match Nat.beq ie.size sz with
        | true => sliceRowVC id wr T' sz α enc xs l hb nn K
        | false => False
      | _, _, _ => False
    | .array n elem, .ptr id off => match E.look elem with
      | some ie => match m with
        | none => (0 ≤ bndI l 0 ∧ bndI l 0 ≤ bndI hb n ∧ bndI hb n ≤ n ∧ bndI l 0 < n) ∧
          K (conPure nn (.sl id (off + (bndI l 0).toNat * ie.size) ((bndI hb n).toNat - (bndI l 0).toNat) (n - (bndI l 0).toNat)))
        | some _ => False
      | none => False
    | _, _ => False
  | _, _, _, _ => False

/-- what a slice holds, and the entry that says so -/
def sliceCells (h : List (Nat × Ent)) (sz : Nat) : AV → Option (List AV × List (Nat × Ent))
  | .ref i => match get h i with
    | some (.row wr T sz' α enc l) => match Nat.beq sz' sz with
      | true => some (l.flatMap enc, [(i, .row wr T sz' α enc l)])
      | false => none
    | _ => none
  | .sl i off len _ => match get h i with
    | some (.cells wr C) => match part? C off (len * sz) with
      | some p => match belowL 0 p with
        | true => some (p, [(i, .cells wr C)])
        | false => none
      | none => none
    | _ => none
  | .str b => match Nat.beq sz 1 with
    | true => some (b.data.toList.flatMap byteAV, [])
    | false => none
  | .val (.slice none 0 0) => some ([], [])
  | _ => none
/-- what an append does to its first operand: the entries that it wants, the ones that it turns -/
def appHead (h : List (Nat × Ent)) (elem sz : Nat) : AV → Option (List AV × List (Nat × Ent) × List (Nat × Ent))
  | .ref i => match get h i with
    | some (.row true T sz' α enc l) => match Nat.beq sz' sz, Nat.beq T elem with
      | true, true => some (l.flatMap enc, [(i, .row true T sz' α enc l)], [(i, .gone)])
      | _, _ => none
    | _ => none
  | .val (.slice none 0 0) => some ([], [], [])
  | .sl i off len cap => match Nat.beq len cap, get h i with
    | true, some (.cells wr C) => match part? C off (len * sz) with
      | some p => match belowL 0 p with
        | true => some (p, [(i, .cells wr C)], [])
        | false => none
      | none => none
    | _, _ => none
  | _ => none
def notIn (i : Nat) : List (Nat × Ent) → Bool
  | [] => true
  | (k, _) :: r => match Nat.beq k i with
    | true => false
    | false => notIn i r
def disj : List (Nat × Ent) → List (Nat × Ent) → Bool
  | [], _ => true
  | (k, _) :: r, b => match notIn k b with
    | true => disj r b
    | false => false
/-- what is appended to, and what, as they are spoken of from there on -/
def appVC (elem sz by_ : Nat) (x : AV) (C1 C2 : List AV) (p1 u1 p2 : List (Nat × Ent)) (nn : Nat) (K : Con → Prop) : Prop :=
  ∃ (α : Type) (enc : α → List AV) (l1 l2 : List α), (normL (l1.flatMap enc) = normL C1 ∧ normL (l2.flatMap enc) = normL C2 ∧ (∀ z, (enc z).length = sz) ∧ (l1.length + l2.length) * by_ ≤ 140737488355328 ∧ l1.length + l2.length ≤ maxLen ∧ (match x with | .sl _ _ _ _ => 0 < l2.length | _ => True)) ∧
    K ⟨p1 ++ p2, nn, nn + 1, .ref nn, u1 ++ [(nn, .row true elem sz α enc (l1 ++ l2))]⟩
def appendVC (E : TT) (T : Nat) (x y : AV) (h : List (Nat × Ent)) (nn : Nat) (K : Con → Prop) : Prop := match E.look T with
  | some i => match i.kind with
    | .slice elem => match E.look elem with
      | some ie => match ie.size with
        | 0 => False
        | sz + 1 => match appHead h elem (sz + 1) x, sliceCells h (sz + 1) y with
          | some (C1, p1, u1), some (C2, p2) => match disj p1 p2 with
            | true => Tag 3 (appVC elem (sz + 1) ie.bytes x C1 C2 p1 u1 p2 nn K)
            | false => False
          | _, _ => False
      | none => False
    | _ => False
  | none => False

def lenVC (E : TT) (T : Nat) (x : AV) (h : List (Nat × Ent)) (nn : Nat) (K : Con → Prop) : Prop := match E.look T with
  | some i => match i.kind, x with
    | .string, .str b => K (conPure nn (.int .i64 b.size))
    | .slice _, .ref id => match get h id with
      | some (.row wr T' sz α enc l) => K ⟨[(id, .row wr T' sz α enc l)], nn, nn, .int .i64 l.length, []⟩
      | _ => False
    | .slice _, .sl _ _ len _ => K (conPure nn (.lit .i64 len))
    | .slice _, .rs _ _ n _ => K (conPure nn (.int .i64 n))
    | .slice _, .val (.slice none 0 0) => K (conPure nn (.lit .i64 0))
    | .array n _, _ => K (conPure nn (.lit .i64 n))
    | .pointer a, _ => match E.look a with
      | some ia => match ia.kind with
        | .array n _ => K (conPure nn (.lit .i64 n))
        | _ => False
      | none => False
    | _, _ => False
  | none => False

def maxL : AV → List AV → Option AV
  | x, [] => some x
  | x, y :: r => match intOf? x, intOf? y with
    | some (k, a, la), some (_, b, lb) => maxL (mkInt (cond la lb false) k (if b > a then b else a)) r
    | _, _ => none
def minL : AV → List AV → Option AV
  | x, [] => some x
  | x, y :: r => match intOf? x, intOf? y with
    | some (k, a, la), some (_, b, lb) => minL (mkInt (cond la lb false) k (if b < a then b else a)) r
    | _, _ => none

def makeSliceVC (E : TT) (T : Nat) (l c : AV) (nn : Nat) (K : Con → Prop) : Prop := match E.look T, intOf? l, intOf? c with
  | some i, some (_, n, _), some (_, m, _) => match i.kind with
    | .slice elem => match E.look elem with
      | some ie => Tag 5 ((0 ≤ n ∧ n ≤ m ∧ ie.bytes * m.toNat ≤ 281474976710656 ∧ m ≤ maxLen ∧ 0 < ie.size) ∧
          ∃ (α : Type) (enc : α → List AV) (z : List α), (z.length = n.toNat ∧ (∀ y ∈ z, normL (enc y) = normL ie.zero)) ∧ K ⟨[], nn, nn + 1, .ref nn, [(nn, .row true elem ie.size α enc z)]⟩)
      | none => False
    | _ => False
  | _, _, _ => False

mutual
def ren (r : Nat → Nat) : AV → AV
  | .ref i => .ref (r i)
  | .ptr i o => .ptr (r i) o
  | .ep i a b c => .ep (r i) a b c
  | .ip i a b c => .ip (r i) a b c
  | .sl i a b c => .sl (r i) a b c
  | .rs i a b c => .rs (r i) a b c
  | .agg cs => .agg (renL r cs)
  | .tup cs => .tup (renL r cs)
  | .fn f cs => .fn f (renL r cs)
  | .tt => .tt
  | .ff => .ff
  | .bool b => .bool b
  | .int k n => .int k n
  | .lit k n => .lit k n
  | .str s => .str s
  | .val v => .val v
def renL (r : Nat → Nat) : List AV → List AV
  | [] => []
  | c :: cs => ren r c :: renL r cs
end
def normE : Ent → Ent
  | .cells w C => .cells w (normL C)
  | e => e
def renE (r : Nat → Nat) : Ent → Ent
  | .cells w C => .cells w (renL r C)
  | e => e
def renH (r : Nat → Nat) : List (Nat × Ent) → List (Nat × Ent)
  | [] => []
  | (i, e) :: l => (r i, renE r e) :: renH r l
def Ent.below (n : Nat) : Ent → Bool
  | .cells _ C => belowL n C
  | _ => true
def belowH (n : Nat) : List (Nat × Ent) → Bool
  | [] => true
  | (i, e) :: l => match Nat.blt i n, e.below n with
    | true, true => belowH n l
    | _, _ => false

/-- what may be said of an entry that may be written, where it is only read -/
def Ent.ro : Ent → Ent
  | .cells _ C => .cells false C
  | .row _ T sz α enc l => .row false T sz α enc l
  | e => e

/-- A call's contract: for these arguments the call does what c says. The names that it wants are 0 .. n-1, its new ones n .. n'-1. -/
structure FnOk (P : Program) (f : FuncId) (args : List AV) (c : Con) : Prop where
  call : ∀ (vs : Array Value) (w : World), (callFunc f vs).run P w = .ok (.enter f vs) w
  wf : c.Wf
  args_below : belowL c.n args = true
  pre_below : belowH c.n c.pre = true
  run : ∀ (ρ : Names) (F : Nat → Nat → Prop) (w : World) (vs : List Value), concL ρ args = some vs → PreOk c ρ F w → (∀ i, c.n' ≤ i → ρ i = none) →
    Calls P f vs.toArray w fun e w' => ∃ ρ' F' r, e = .returned r ∧ conc ρ' c.res = some r ∧ PostOk c ρ F w ρ' F' w'

def nthD (l : List Nat) (k : Nat) : Nat := match l, k with
  | [], _ => 0
  | x :: _, 0 => x
  | _ :: r, k + 1 => nthD r k
/-- the caller's names for a contract's own -/
def names (R : List Nat) (m n : Nat) (i : Nat) : Nat := match Nat.blt i m with
  | true => nthD R i
  | false => n + (i - m)
def nodupN : List Nat → Bool
  | [] => true
  | x :: r => match r.elem x with
    | true => false
    | false => nodupN r
/-- each entry that the contract wants stands in the caller's heap, or (where it may be lent) is written there and is only read by the call -/
def wants (lend : Bool) (h : List (Nat × Ent)) : List (Nat × Ent) → List (Nat × Ent) → Prop
  | [], L => L = []
  | (i, e) :: l, L => ∃ e' L', (L = (i, e') :: L' ∧ get h i = some e' ∧ (normE e' = normE e ∨ (lend = true ∧ normE e'.ro = normE e))) ∧ wants lend h l L'
/-- no entry that the contract leaves is only to be read -/
def noRo : List (Nat × Ent) → Bool
  | [] => true
  | (_, .gone) :: l => noRo l
  | (_, e) :: l => match e.wr with
    | true => noRo l
    | false => false
def allLt (n : Nat) : List Nat → Bool
  | [] => true
  | x :: r => match Nat.blt x n with
    | true => allLt n r
    | false => false
def callVC (P : Program) (f : Nat) (vals : List AV) (h : List (Nat × Ent)) (nn : Nat) (K : Con → Prop) : Prop :=
  ∃ (args : List AV) (c : Con) (R : List Nat) (pre : List (Nat × Ent)), FnOk P f args c ∧ (lenIs R c.n = true ∧ nodupN R = true ∧ allLt nn R = true) ∧
    normL (renL (names R c.n nn) args) = normL vals ∧ wants (noRo c.up) h (renH (names R c.n nn) c.pre) pre ∧
    K ⟨pre, nn, nn + (c.n' - c.n), ren (names R c.n nn) c.res, renH (names R c.n nn) c.up⟩

structure Good (P : Program) (o : Oper) (t : List (Nat × AV)) (h : List (Nat × Ent)) (nn : Nat) (c : Con) : Prop where
  op : OpOk P o (evS t) c
  wf : c.Wf
  pre : ∀ i e, get c.pre i = some e → get h i = some e
  n : c.n = nn
/-- an operation for which one has a law of one's own -/
def lawVC (P : Program) (o : Oper) (t : List (Nat × AV)) (h : List (Nat × Ent)) (nn : Nat) (K : Con → Prop) : Prop := Tag 2 (∃ c, Good P o t h nn c ∧ K c)

mutual
def matchAV : AV → AV → List (Nat × Nat) → List (Nat × Nat)
  | .ref i, .ref j, a => (i, j) :: a
  | .ptr i _, .ptr j _, a => (i, j) :: a
  | .ep i _ _ _, .ep j _ _ _, a => (i, j) :: a
  | .ip i _ _ _, .ip j _ _ _, a => (i, j) :: a
  | .sl i _ _ _, .sl j _ _ _, a => (i, j) :: a
  | .rs i _ _ _, .rs j _ _ _, a => (i, j) :: a
  | .agg c, .agg d, a => matchL c d a
  | .tup c, .tup d, a => matchL c d a
  | .fn _ c, .fn _ d, a => matchL c d a
  | _, _, a => a
def matchL : List AV → List AV → List (Nat × Nat) → List (Nat × Nat)
  | c :: cs, d :: ds, a => matchL cs ds (matchAV c d a)
  | _, _, a => a
end
def matchH (h : List (Nat × Ent)) : List (Nat × Ent) → List (Nat × Nat) → List (Nat × Nat)
  | [], a => a
  | (i, .cells _ C) :: r, a => match get a i with
    | some j => match get h j with
      | some (.cells _ D) => matchH h r (matchL C D a)
      | _ => matchH h r a
    | none => matchH h r a
  | _ :: r, a => matchH h r a
def pickR (a : List (Nat × Nat)) : Nat → Nat → List Nat
  | 0, _ => []
  | n + 1, k => (match get a k with | some j => j | none => 99999) :: pickR a n (k + 1)
/-- the caller's names for a contract's own, found by holding its words against the caller's -/
def solveR (args vals : List AV) (pre h : List (Nat × Ent)) (n : Nat) : List Nat := pickR (matchH h pre (matchH h pre (matchL args vals []))) n 0
def preOf (h : List (Nat × Ent)) : List (Nat × Ent) → List (Nat × Ent)
  | [] => []
  | (i, _) :: l => match get h i with
    | some e => (i, e) :: preOf h l
    | none => preOf h l
def wantsP (lend : Bool) (h : List (Nat × Ent)) : List (Nat × Ent) → Prop
  | [] => True
  | (i, e) :: l => (match get h i with
    | some e' => normE e' = normE e ∨ (lend = true ∧ normE e'.ro = normE e)
    | none => False) ∧ wantsP lend h l
theorem wants_of_P {lend : Bool} {h : List (Nat × Ent)} : ∀ {l : List (Nat × Ent)}, wantsP lend h l → wants lend h l (preOf h l)
  | [], _ => rfl
  | (i, e) :: l, ⟨h1, h2⟩ => by
    simp only [preOf]
    split at h1
    · rename_i e' he'
      exact ⟨e', _, ⟨rfl, he', h1⟩, wants_of_P h2⟩
    · exact h1.elim
/-- a call, by its contract -/
theorem callVC_mk {P : Program} {f : Nat} {vals : List AV} {h : List (Nat × Ent)} {nn : Nat} {K : Con → Prop} (R : List Nat) {args : List AV} {c : Con} (hf : FnOk P f args c)
    (hR : lenIs R c.n = true ∧ nodupN R = true ∧ allLt nn R = true) (ha : normL (renL (names R c.n nn) args) = normL vals) (hw : wantsP (noRo c.up) h (renH (names R c.n nn) c.pre))
    (hk : K ⟨preOf h (renH (names R c.n nn) c.pre), nn, nn + (c.n' - c.n), ren (names R c.n nn) c.res, renH (names R c.n nn) c.up⟩) : Tag 1 (callVC P f vals h nn K) :=
  ⟨args, c, R, _, hf, hR, ha, wants_of_P hw, hk⟩

/-- what is held against another by a law of one's own -/
def isIface : AV → Bool
  | .val (.pointer _) => false
  | .val _ => true
  | .ref _ => true
  | .fn _ _ => true
  | _ => false
def isVal : AV → Bool
  | .val _ => true
  | _ => false
def TK.far : TK → Bool
  | .map _ _ => true
  | .other => true
  | _ => false
def optEv (t : List (Nat × AV)) : Option Operand → Option (Option AV)
  | none => some none
  | some x => match evS t x with
    | some v => some (some v)
    | none => none
def opVC (E : TT) (P : Program) (o : Oper) (t : List (Nat × AV)) (h : List (Nat × Ent)) (nn : Nat) (K : Con → Prop) : Prop := match o.op with
  | .move x => withV t x fun v => K (conPure nn v)
  | .assign x => withV t x fun v => K (conPure nn v)
  | .pick c a b => match evS t c, evS t a, evS t b with
    | some c, some x, some y => match pickAV c x y with
      | some v => K (conPure nn v)
      | none => False
    | _, _, _ => False
  | .alloc T => match E.look T with
    | some i => K (conNew nn i.zero)
    | none => False
  | .box _ x => withV t x fun v => boxVC v nn K
  | .build T ps => buildVC E T ps.toList t fun v => K (conPure nn v)
  | .buildSlice T len ps => buildSliceVC E T len ps.toList t nn K
  | .load T x => withV t x fun v => loadVC E T v h nn K
  | .store T x y => withV t x fun p => withV t y fun v => storeVC E T p v h nn K
  | .nilCheck x => withV t x fun v => nilVC v fun v => K (conPure nn v)
  | .binOp op T x y _ => withV t x fun a => withV t y fun b => match isIface a with
    | true => lawVC P o t h nn K
    | false => match isIface b with
      | true => lawVC P o t h nn K
      | false => binVC E op T a b fun v => K (conPure nn v)
  | .unOp op _ x => withV t x fun a => unVC op a fun v => K (conPure nn v)
  | .convert src dst x => withV t x fun a => match isVal a with
    | true => lawVC P o t h nn K
    | false => convVC E src dst a h nn K
  | .makeFunc (.func f) first caps => match first.toList, evL t caps.toList with
    | [], some cs => K (conPure nn (.fn f cs))
    | _, _ => lawVC P o t h nn K
  | .makeSlice T l c => withV t l fun l => withV t c fun c => makeSliceVC E T l c nn K
  | .slice T x lo hi mx => withV t x fun v => match isVal v with
    | true => lawVC P o t h nn K
    | false => match optEv t lo, optEv t hi, optEv t mx with
      | some l, some hb, some m => sliceVC E T v l hb m h nn K
      | _, _, _ => False
  | .fieldAddr T x f => withV t x fun v => fieldAddrVC E T f v fun v => K (conPure nn v)
  | .field T x f => withV t x fun v => fieldVC E T f v fun v => K (conPure nn v)
  | .indexAddr T x ix => withV t x fun v => withV t ix fun j => indexAddrVC E T v j h fun v => K (match v with
    | .ep id _ _ _ => match get h id with
      | some e => ⟨[(id, e)], nn, nn, v, []⟩
      | none => conPure nn v
    | v => conPure nn v)
  | .index T x ix => withV t x fun v => withV t ix fun j => indexVC E T v j fun v => K (conPure nn v)
  | .extract tu i => match evS t tu with
    | some (.tup vs) => match dropE vs i with
      | some (v :: _) => K (conPure nn v)
      | _ => False
    | _ => False
  | .call c => match evL t c.args.toList with
    | some vs => match c.callee with
      | .value f => match evS t f with
        | some (.fn g caps) => Tag 1 (callVC P g (vs ++ caps) h nn K)
        | _ => False
      | .builtin b => match b, vs, c.argTypes.toList with
        | .len, [x], [T] => match E.look T with
          | some i => match i.kind.far with
            | true => lawVC P o t h nn K
            | false => lenVC E T x h nn K
          | none => False
        | .append, [x, y], [T, U] => match E.look U with
          | some iu => match iu.kind with
            | .slice _ => appendVC E T x y h nn K
            | .string => appendVC E T x y h nn K
            | _ => lawVC P o t h nn K
          | none => False
        | .max, x :: r, _ => match maxL x r with
          | some v => K (conPure nn v)
          | none => False
        | .min, x :: r, _ => match minL x r with
          | some v => K (conPure nn v)
          | none => False
        | _, _, _ => lawVC P o t h nn K
      | .invoke _ _ => lawVC P o t h nn K
    | none => False
  | _ => lawVC P o t h nn K

/-! ### regions -/
inductive Fork (b : Bool) (X Y : Prop) : Prop
  | mk (h1 : b = true → X) (h2 : b = false → Y)

def dstL (ops : List Oper) (j : Nat) : Option Nat := match dropE ops j with
  | some (o :: _) => o.dst
  | _ => none
inductive Grd where
  | free
  | slot (d : Nat) (w : Bool)
  | bad
def guardOf (ops : List Oper) (o : Oper) : Grd := match o.guard with
  | none => .free
  | some (j, w) => match dstL ops j with
    | some d => .slot d w
    | none => .bad
/-- of each operation what it touches: the entries that it wants, the ones that it turns -/
abbrev Log := List (List Nat × List Nat)
def keys : List (Nat × Ent) → List Nat
  | [] => []
  | (i, _) :: r => i :: keys r
def putS (t : List (Nat × AV)) (d : Option Nat) (v : AV) : List (Nat × AV) := match d with
  | some x => (x, v) :: t
  | none => t
def dstOk (N : Nat) : Option Nat → Bool
  | none => true
  | some d => Nat.blt d N
/-- what a region's operations ask: a value that is built once, out of parts that are no recursion -/
abbrev OpsV := List (Nat × AV) → List (Nat × Ent) → Nat → Log → (List (Nat × AV) → List (Nat × Ent) → Nat → Log → Prop) → Prop
def nilV : OpsV := fun t h n L K => K t h n L
def didV (E : TT) (P : Program) (o : Oper) (rest : OpsV) : OpsV := fun t h n L K =>
  opVC E P o t h n fun c => match c with
    | ⟨pre, _, n', res, up⟩ => rest (putS t o.dst res) (up ++ h) n' ((keys pre, keys up) :: L) K
def skipV (o : Oper) (rest : OpsV) : OpsV := fun t h n L K => rest (putS t o.dst (.val undef)) h n (([], []) :: L) K
def consV (E : TT) (P : Program) (N : Nat) (g : Grd) (o : Oper) (rest : OpsV) : OpsV := fun t h n L K => match dstOk N o.dst with
  | false => False
  | true => match g with
    | .bad => False
    | .free => didV E P o rest t h n L K
    | .slot d w => match get t d with
      | some .tt => match w with
        | true => didV E P o rest t h n L K
        | false => skipV o rest t h n L K
      | some .ff => match w with
        | true => skipV o rest t h n L K
        | false => didV E P o rest t h n L K
      | some (.bool b) => match w with
        | true => Fork b (didV E P o rest ((d, .tt) :: t) h n L K) (skipV o rest ((d, .ff) :: t) h n L K)
        | false => Fork b (skipV o rest ((d, .tt) :: t) h n L K) (didV E P o rest ((d, .ff) :: t) h n L K)
      | some (.val (.tuple _)) => skipV o rest t h n L K
      | _ => False
def denOps (E : TT) (P : Program) (N : Nat) (all : List Oper) : List Oper → OpsV
  | [] => nilV
  | o :: r => consV E P N (guardOf all o) o (denOps E P N all r)

def unionN : List Nat → List Nat → List Nat
  | [], b => b
  | x :: r, b => match b.elem x with
    | true => unionN r b
    | false => unionN r (x :: b)
def nthL : List (List Nat) → Nat → List Nat
  | [], _ => []
  | x :: _, 0 => x
  | _ :: r, k + 1 => nthL r k
def predsOf (acc : List (List Nat)) : List Edge → List Nat
  | [] => []
  | e :: r => match Region.binds .any e with
    | true => unionN (e.on :: nthL acc e.on) (predsOf acc r)
    | false => predsOf acc r
def allPreds : List Oper → List (List Nat) → List (List Nat)
  | [], acc => acc
  | o :: r, acc => allPreds r (acc ++ [predsOf acc o.after.toList])
def edgesLow : Nat → List Oper → Bool
  | _, [] => true
  | k, o :: r => match o.after.toList.all fun e => !Region.binds .any e || Nat.blt e.on k with
    | true => edgesLow (k + 1) r
    | false => false
structure Info where
  dst : Option Nat
  looks : List Nat
  pre : List Nat
  up : List Nat
def looksL (all : List Oper) (o : Oper) : List Nat :=
  (o.op.operands.toList.filterMap fun | .tmp t => some t | _ => none) ++ match guardOf all o with
    | .slot d _ => [d]
    | _ => []
def infos (all : List Oper) : List Oper → Log → List Info
  | o :: r, (p, u) :: L => ⟨o.dst, looksL all o, p, u⟩ :: infos all r L
  | _, _ => []
def meets (a b : List Nat) : Bool := a.any fun x => b.elem x
def optIn (d : Option Nat) (l : List Nat) : Bool := match d with
  | some x => l.elem x
  | none => false
def apartB (a b : Info) : Bool :=
  !(optIn a.dst b.looks) && !(optIn b.dst a.looks) && !(match a.dst, b.dst with | some x, some y => Nat.beq x y | _, _ => false) &&
    !(meets a.up b.pre) && !(meets b.up a.pre) && !(meets a.up b.up)
def pairsOk (ps : List (List Nat)) (b : Info) (k : Nat) : Nat → List Info → Bool
  | _, [] => true
  | i, a :: r => match Nat.blt i k with
    | true => match (nthL ps k).elem i || apartB a b with
      | true => pairsOk ps b k (i + 1) r
      | false => false
    | false => true
def allPairs (ps : List (List Nat)) (all : List Info) : Nat → List Info → Bool
  | _, [] => true
  | k, b :: r => match pairsOk ps b k 0 all with
    | true => allPairs ps all (k + 1) r
    | false => false
def okLog (ops : List Oper) (L : Log) : Bool :=
  edgesLow 0 ops && allPairs (allPreds ops []) (infos ops ops L.reverse) 0 (infos ops ops L.reverse)

inductive XK where
  | normal
  | exit (id : Nat)
  | ret
/-- s stands at least for what s' says, under other names -/
def subT (r : Nat → Nat) (t : List (Nat × AV)) : List (Nat × AV) → Prop
  | [] => True
  | (x, v) :: l => (match get t x with
    | some v' => norm v' = norm (ren r v)
    | none => False) ∧ subT r t l
def subH (r : Nat → Nat) (h : List (Nat × Ent)) : List (Nat × Ent) → Prop
  | [] => True
  | (i, e) :: l => (match get h (r i) with
    | some e' => normE e' = normE (renE r e) ∨ normE e'.ro = normE (renE r e)
    | none => False) ∧ subH r h l
def belowT (n : Nat) : List (Nat × AV) → Bool
  | [] => true
  | (_, v) :: l => match below n v with
    | true => belowT n l
    | false => false
/-- the names that were there from the first are kept -/
def idPre : Nat → Nat → List Nat → Bool
  | 0, _, _ => true
  | _ + 1, _, [] => false
  | m + 1, k, x :: r => match Nat.beq x k with
    | true => idPre m (k + 1) r
    | false => false
def Sub (m : Nat) (s s' : St) : Prop := ∃ R : List Nat, (lenIs R s'.n = true ∧ nodupN R = true ∧ idPre m 0 R = true ∧ belowT s'.n s'.t = true ∧ belowH s'.n s'.h = true) ∧ subT (nthD R) s.t s'.t ∧ subH (nthD R) s.h s'.h

abbrev Kont := XK → List (Nat × AV) → List (Nat × Ent) → Nat → Prop
abbrev V := List (Nat × AV) → List (Nat × Ent) → Nat → Kont → Prop
def loopK (m : Nat) {X : Type} (inv : X → St) (μ : X → Nat) (x : X) (K : Kont) : Kont := fun k t h n => match k with
  | .normal => Tag 15 (∃ x', Shift m ⟨t, h, n⟩ (inv x') ∧ μ x' < μ x)
  | .exit id => K (.exit id) t h n
  | .ret => K .ret t h n
def fromSt (B : V) (s : St) (K : Kont) : Prop := match s with
  | ⟨t, h, n⟩ => B t h n K
def loopV (m : Nat) (B : V) : V := fun t h n K =>
  ∃ (X : Type) (inv : X → St) (μ : X → Nat) (x0 : X), Shift m ⟨t, h, n⟩ (inv x0) ∧ ∀ x, fromSt B (inv x) (loopK m inv μ x K)
/-- the first u rounds one by one -/
def loopU (m : Nat) (B : V) : Nat → V
  | 0 => loopV m B
  | u + 1 => fun t h n K => B t h n fun k t h n => match k with
    | .normal => loopU m B u t h n K
    | .exit id => K (.exit id) t h n
    | .ret => K .ret t h n
def seqV (A B : V) : V := fun t h n K => A t h n fun k t h n => match k with
  | .normal => B t h n K
  | .exit id => K (.exit id) t h n
  | .ret => K .ret t h n
def blockV (id : Nat) (A : V) : V := fun t h n K => A t h n fun k t h n => match k with
  | .normal => K .normal t h n
  | .exit id' => match Nat.beq id' id with
    | true => K .normal t h n
    | false => K (.exit id') t h n
  | .ret => K .ret t h n
def condV (c : Operand) (A B : V) : V := fun t h n K => match c, evS t c with
  | _, some .tt => A t h n K
  | _, some .ff => B t h n K
  | .tmp x, some (.bool v) => Fork v (A ((x, .tt) :: t) h n K) (B ((x, .ff) :: t) h n K)
  | _, _ => False
def regionV (ops : List Oper) (draw : Bool) (O : OpsV) : V := fun t h n K => O t h n [] fun t h n L => match draw with
  | false => K .normal t h n
  | true => okLog ops L = true ∧ K .normal t h n
def endV (k : XK) : V := fun t h n K => K k t h n
def badV : V := fun _ _ _ _ => False
def den (E : TT) (P : Program) (N m : Nat) : Code → V
  | .skip => endV .normal
  | .ret => endV .ret
  | .exit id => endV (.exit id)
  | .seq a b => seqV (den E P N m a) (den E P N m b)
  | .block id c => blockV id (den E P N m c)
  | .cond c a b => condV c (den E P N m a) (den E P N m b)
  | .loop c => fun t h n K => Tag 13 (∃ u, loopU m (den E P N m c) u t h n K)
  | .region _ ops draw => regionV ops.toList draw (denOps E P N ops.toList ops.toList)
  | _ => badV
end Go.Eng
