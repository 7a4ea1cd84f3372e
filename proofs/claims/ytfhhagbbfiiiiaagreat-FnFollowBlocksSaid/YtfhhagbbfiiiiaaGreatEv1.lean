/- A verified evaluator for the operations of a translated program, part 1. -/
import Derived.Calls
import Derived.Still
import Derived.Laws.Entries
import Derived.Laws.Cells
import Derived.Laws.Slices
import Derived.Laws.Rows
import Derived.Laws.StructEq
import Derived.Laws.MakeOwn
import Derived.Laws.CopyRow
import Derived.Laws.Append
noncomputable section
namespace Go.Ev
inductive S where
  | unit | int (k : IntKind) | bool | str
  | slice (nl : Bool) (s : S)
  | agg (s : S) | pair (a b : S) | ptr (s : S) | func (ps r : S) | map (k v : S)
  deriving DecidableEq, Inhabited
@[reducible] def El : S → Type
  | .unit => Unit
  | .int _ => Int
  | .bool => Bool
  | .str => ByteArray
  | .slice _ s => List (El s)
  | .agg s => El s
  | .pair a b => El a × El b
  | .ptr s => El s
  | .func ps r => El ps → Option (El r)
  | .map k v => List (El k × El v)
inductive M where
  | sh | ow (m : M) | pr (a b : M) | ag (m : M)
  deriving DecidableEq, Inhabited
def zero : (s : S) → El s
  | .unit => ()
  | .int _ => 0
  | .bool => false
  | .str => ByteArray.empty
  | .slice _ _ => []
  | .agg s => zero s
  | .pair a b => (zero a, zero b)
  | .ptr s => zero s
  | .func _ _ => fun _ => none
  | .map _ _ => []
def topM : S → M
  | .slice _ s => .ow (topM s)
  | .agg s => .ag (topM s)
  | .pair a b => .pr (topM a) (topM b)
  | .ptr s => .ow (topM s)
  | .map _ _ => .ow .sh
  | _ => .sh
def noOwn : M → Bool
  | .sh => true
  | .ow _ => false
  | .pr a b => noOwn a && noOwn b
  | .ag m => noOwn m
def meet : M → M → M
  | .ow a, .ow b => .ow (meet a b)
  | .pr a b, .pr c d => .pr (meet a c) (meet b d)
  | .ag a, .ag b => .ag (meet a b)
  | _, _ => .sh
abbrev bif3 {α : Sort _} : Bool → α → α → α
  | true, a, _ => a
  | false, _, b => b
abbrev dif (c : Prop) [i : Decidable c] {α : Sort _} (t : c → α) (e : α) : α := match i with
  | isTrue h => t h
  | isFalse _ => e
theorem dif_eq {c : Prop} {α : Sort _} [i : Decidable c] (t : c → α) (e : α) : dif c t e = if h : c then t h else e := by
  cases i <;> rfl
def elemM : M → M
  | .ow m => m
  | _ => .sh
def prA : M → M
  | .pr a _ => a
  | _ => .sh
def prB : M → M
  | .pr _ b => b
  | _ => .sh
def agM : M → M
  | .ag m => m
  | _ => .sh
def isOw : M → Bool
  | .ow _ => true
  | _ => false
def subM : S → List Nat → M → M
  | _, [], m => m
  | .agg s, _ :: p, m => subM s p (agM m)
  | .pair a _, 0 :: p, m => subM a p (prA m)
  | .pair _ b, (_ + 1) :: p, m => subM b p (prB m)
  | .slice _ s, _ :: p, m => subM s p (elemM m)
  | .ptr s, _ :: p, m => subM s p (elemM m)
  | _, _ :: _, _ => .sh
def setM : S → List Nat → M → M → M
  | _, [], _, y => y
  | .agg s, _ :: p, m, y => .ag (setM s p (agM m) y)
  | .pair a _, 0 :: p, m, y => .pr (setM a p (prA m) y) (prB m)
  | .pair _ b, (_ + 1) :: p, m, y => .pr (prA m) (setM b p (prB m) y)
  | .slice _ s, _ :: p, m, y => bif3 (isOw m) (.ow (meet (elemM m) (setM s p (elemM m) y))) .sh
  | .ptr s, _ :: p, m, y => bif3 (isOw m) (.ow (setM s p (elemM m) y)) .sh
  | _, _ :: _, _, _ => .sh
def ownAt : S → List Nat → M → Bool
  | .slice _ _, [], m => isOw m
  | .ptr _, [], m => isOw m
  | .map _ _, [], m => isOw m
  | .agg s, _ :: p, m => ownAt s p (agM m)
  | .pair a _, 0 :: p, m => ownAt a p (prA m)
  | .pair _ b, (_ + 1) :: p, m => ownAt b p (prB m)
  | .slice _ s, _ :: p, m => ownAt s p (elemM m)
  | .ptr s, _ :: p, m => ownAt s p (elemM m)
  | _, _, _ => false
def subS : S → List Nat → S
  | .unit, q => match q with | [] => .unit | _ :: _ => .unit
  | .int k, q => match q with | [] => .int k | _ :: _ => .unit
  | .bool, q => match q with | [] => .bool | _ :: _ => .unit
  | .str, q => match q with | [] => .str | _ :: _ => .unit
  | .func p r, q => match q with | [] => .func p r | _ :: _ => .unit
  | .map k v, q => match q with | [] => .map k v | _ :: _ => .unit
  | .slice nl s, p => match p with | [] => .slice nl s | _ :: p => subS s p
  | .agg s, p => match p with | [] => .agg s | _ :: p => subS s p
  | .ptr s, p => match p with | [] => .ptr s | _ :: p => subS s p
  | .pair a b, p => match p with | [] => .pair a b | i :: p => match i with | 0 => subS a p | _ + 1 => subS b p
def getP : (s : S) → (p : List Nat) → El s → El (subS s p)
  | .unit, q, x => match q with | [] => x | _ :: _ => ()
  | .int _, q, x => match q with | [] => x | _ :: _ => ()
  | .bool, q, x => match q with | [] => x | _ :: _ => ()
  | .str, q, x => match q with | [] => x | _ :: _ => ()
  | .func _ _, q, x => match q with | [] => x | _ :: _ => ()
  | .map _ _, q, x => match q with | [] => x | _ :: _ => ()
  | .slice _ s, p, xs => match p with | [] => xs | i :: p => getP s p (xs.getD i (zero s))
  | .agg s, p, x => match p with | [] => x | _ :: p => getP s p x
  | .ptr s, p, x => match p with | [] => x | _ :: p => getP s p x
  | .pair a b, p, x => match p with | [] => x | i :: p => match i with | 0 => getP a p x.1 | _ + 1 => getP b p x.2
def setP : (s : S) → (p : List Nat) → El s → El (subS s p) → El s
  | .unit, q, x => match q with | [] => fun y => y | _ :: _ => fun _ => x
  | .int _, q, x => match q with | [] => fun y => y | _ :: _ => fun _ => x
  | .bool, q, x => match q with | [] => fun y => y | _ :: _ => fun _ => x
  | .str, q, x => match q with | [] => fun y => y | _ :: _ => fun _ => x
  | .func _ _, q, x => match q with | [] => fun y => y | _ :: _ => fun _ => x
  | .map _ _, q, x => match q with | [] => fun y => y | _ :: _ => fun _ => x
  | .slice _ s, p, xs => match p with | [] => fun y => y | i :: p => fun y => xs.set i (setP s p (xs.getD i (zero s)) y)
  | .agg s, p, x => match p with | [] => fun y => y | _ :: p => fun y => setP s p x y
  | .ptr s, p, x => match p with | [] => fun y => y | _ :: p => fun y => setP s p x y
  | .pair a b, p, x => match p with
    | [] => fun y => y
    | i :: p => match i with
      | 0 => fun y => (setP a p x.1 y, x.2)
      | _ + 1 => fun y => (x.1, setP b p x.2 y)
def size : S → Nat
  | .unit => 0
  | .agg s => size s
  | .pair a b => size a + size b
  | _ => 1
def sameS : S → S → Bool
  | .unit, .unit => true
  | .int k, .int k' => k == k'
  | .bool, .bool => true
  | .str, .str => true
  | .slice _ s, .slice _ s' => sameS s s'
  | .agg s, .agg s' => sameS s s'
  | .pair a b, .pair c d => sameS a c && sameS b d
  | .ptr s, .ptr s' => sameS s s'
  | .func p r, .func p' r' => sameS p p' && sameS r r'
  | .map k v, .map k' v' => decide (k = k') && decide (v = v')
  | _, _ => false
structure Comp where
  s : S
  m : M
  x : El s
inductive Slot where
  | dead
  | undef
  | val (s : S) (m : M) (x : El s)
  | al (r : Nat) (p : List Nat)
  | pl (r : Nat) (p : List Nat)
  | tup (cs : List (Option Comp))
  | hol (s : S) (m : M) (x : El s) (p : List Nat)
def gs : List Slot → Nat → Slot
  | [], _ => .dead
  | s :: _, 0 => s
  | _ :: r, n + 1 => gs r n
def ps : List Slot → Nat → Slot → List Slot
  | [], _, _ => []
  | _ :: r, 0, y => y :: r
  | s :: r, n + 1, y => s :: ps r n y
def Slot.isAl : Slot → Nat → Bool
  | .al r _, d => r == d
  | .pl r _, d => r == d
  | _, _ => false
def kill (d : Nat) : List Slot → List Slot
  | [] => []
  | s :: r => bif3 (s.isAl d) .dead s :: kill d r
def put (σ : List Slot) (d : Nat) (y : Slot) : List Slot := ps (kill d σ) d (bif3 (y.isAl d) .dead y)
def fin (σ : List Slot) (d : Option Nat) (y : Slot) : List Slot := match d with | some d => put σ d y | none => σ
end Go.Ev

noncomputable section
namespace Go.Ev
universe u
variable {R : Type}
def nth {α : Type u} : List α → Nat → Option α
  | [], _ => none
  | a :: _, 0 => some a
  | _ :: l, n + 1 => nth l n
def setNone {α : Type u} : List (Option α) → Nat → List (Option α)
  | [], _ => []
  | _ :: l, 0 => none :: l
  | a :: l, n + 1 => a :: setNone l n
inductive PM where
  | sh | loan (m : M) | move (m : M)
structure Sem where
  pm : List PM
  nr : Nat
  r : S
  mr : M
  lo : S
  f : List Comp → (R : Type) → (El r → El lo → Option R) → Option R
structure Ctx where
  ty : TypeId → Option S
  env : Nat → List Sem
  hint : Nat → Nat → Nat
  head : Nat → List (Nat × Option (S × M))
  fix : List Nat
  ord : Nat → List Nat
  hid : Nat → Nat → List Nat
  jn : Nat → Option (List (Nat × Option (S × M)))
def LIM : Int := 1099511627776
def fp : S → Nat → List Nat
  | .pair _ _, 0 => [0]
  | .pair _ b, j + 1 => 1 :: fp b j
  | _, _ => []
def fpath : S → Nat → List Nat
  | .agg s, j => 0 :: fp s j
  | _, _ => []
def fields : S → List S
  | .pair a b => a :: fields b
  | s => [s]
def aggFields : S → List S
  | .agg s => fields s
  | _ => []
def ltb : Nat → Nat → Bool
  | _, 0 => false
  | 0, _ + 1 => true
  | a + 1, b + 1 => ltb a b
def isArr : S → Bool
  | .pair .unit _ => true
  | _ => false
def rowS (k : IntKind) : Nat → S
  | 0 => .int k
  | n + 1 => .pair (.int k) (rowS k n)
def okF : S → Nat → Bool
  | .agg s, j => !isArr s && ltb j (fields s).length
  | _, _ => false
def longer : List Nat → List Nat → Bool
  | _ :: _, [] => true
  | _ :: p, _ :: q => longer p q
  | [], _ => false
def noShorter : List Nat → List Nat → Bool
  | _, [] => true
  | _ :: p, _ :: q => noShorter p q
  | [], _ :: _ => false
def holeOk (σ : List Slot) (r : Nat) (p : List Nat) : Bool :=
  match gs σ r with
  | .hol _ _ _ hp => noShorter hp p
  | _ => true
def Slot.cont (σ : List Slot) : Slot → Option Comp
  | .val s m x => some ⟨s, m, x⟩
  | .al r p => match gs σ r with
    | .val s m x => some ⟨subS s p, subM s p m, getP s p x⟩
    | .tup cs => match p with
      | i :: p => match nth cs i with
        | some (some c) => some ⟨subS c.s p, subM c.s p c.m, getP c.s p c.x⟩
        | _ => none
      | [] => none
    | .hol s m x hp => bif3 (longer hp p) (some ⟨subS s p, subM s p m, getP s p x⟩) none
    | _ => none
  | _ => none
def Slot.whole (σ : List Slot) : Slot → Option Comp
  | .al r p => match gs σ r with
    | .hol _ _ _ _ => none
    | _ => Slot.cont σ (.al r p)
  | x => x.cont σ
def lit (sT : Option S) : Value → Slot
  | .int k n => .val (.int k) .sh n
  | .bool b => .val .bool .sh b
  | .string s => .val .str .sh s
  | .slice none 0 0 => match sT with
    | some (.slice _ s) => .val (.slice true s) (topM (.slice true s)) []
    | _ => .dead
  | _ => .dead
def rdt (σ : List Slot) (t : Nat) : Slot := match gs σ t with
  | .val s m x => bif3 (noOwn m) (.val s m x) (.al t [])
  | .tup _ => .al t []
  | .hol _ _ _ _ => .al t []
  | sl => sl
def rdo (σ : List Slot) (sT : Option S) : Operand → Slot
  | .tmp t => rdt σ t
  | .const v => lit sT v
  | _ => .dead
def isDead : Slot → Bool
  | .dead => true
  | _ => false
def tupAl (r i : Nat) : Slot → Bool
  | .al r' p => match p with
    | j :: _ => Nat.beq r' r && !Nat.beq j i
    | [] => false
  | _ => false
def keepT (r i : Nat) : List Slot → List Slot → List Slot
  | s :: σ, s2 :: σ2 => bif3 (isDead s2 && tupAl r i s) s s2 :: keepT r i σ σ2
  | _, σ2 => σ2
def isPtr : S → Bool
  | .ptr _ => true
  | _ => false
def take (σ : List Slot) (fz : Bool) : Slot → Option (Comp × List Slot × Option Nat)
  | .val s m x => some (⟨s, m, x⟩, σ, none)
  | .al r p => match gs σ r with
    | .val s m x => match p, fz with
      | [], false => some (⟨s, m, x⟩, ps (kill r σ) r .dead, some r)
      | [0], false => bif3 (isPtr s && !noOwn (subM s [0] m)) (some (⟨subS s [0], subM s [0] m, getP s [0] x⟩, ps (kill r σ) r .dead, none)) (some (⟨subS s [0], .sh, getP s [0] x⟩, ps σ r (.val s (setM s [0] m .sh) x), none))
      | p, _ => some (⟨subS s p, .sh, getP s p x⟩, ps σ r (.val s (setM s p m .sh) x), none)
    | .tup cs => match p with
      | [i] => match nth cs i with
        | some (some c) => some (c, keepT r i σ (ps (kill r σ) r (.tup (setNone cs i))), none)
        | _ => none
      | _ => none
    | _ => none
  | _ => none
def coer : (s s' : S) → El s → (El s' → Option R) → Option R
  | .slice nl s, .slice nl' s', xs, K => dif (s = s') (fun h => bif3 (nl' && !nl) (@ite _ (xs.length ≠ 0) (Classical.propDecidable _) (K (h ▸ xs)) none) (K (h ▸ xs))) none
  | .agg s, .agg s', x, K => coer s s' x K
  | .pair a b, .pair a' b', x, K => coer a a' x.1 fun y => coer b b' x.2 fun z => K (y, z)
  | .int k, .int k', x, K => bif3 (k == k') (K x) none
  | .bool, .bool, x, K => K x
  | .str, .str, x, K => K x
  | .unit, .unit, x, K => K x
  | .ptr s, .ptr s', x, K => if h : s = s' then K (h ▸ x) else none
  | .func p r, .func p' r', x, K => if h : S.func p r = S.func p' r' then K (h ▸ x) else none
  | .map k v, .map k' v', x, K => dif (S.map k v = S.map k' v') (fun h => K (h ▸ x)) none
  | _, _, _, _ => none
def isScalar : S → Bool
  | .int _ | .bool | .str => true
  | _ => false
def isRow : S → Bool
  | .slice _ _ | .ptr _ | .map _ _ => true
  | _ => false
def mayPre : S → List Nat → List Nat → Bool
  | _, [], _ => true
  | _, _ :: _, [] => false
  | .slice _ s, _ :: p, _ :: q => mayPre s p q
  | .agg s, _ :: p, _ :: q => mayPre s p q
  | .ptr s, _ :: p, _ :: q => mayPre s p q
  | .pair a _, 0 :: p, 0 :: q => mayPre a p q
  | .pair _ b, (_ + 1) :: p, (_ + 1) :: q => mayPre b p q
  | .pair _ _, 0 :: _, (_ + 1) :: _ => false
  | .pair _ _, (_ + 1) :: _, 0 :: _ => false
  | _, _ :: _, _ :: _ => true
def calm1 (r : Nat) (s : S) : Slot → Slot
  | .al r' q => bif3 (r' == r) (match q with | [] => .al r' q | _ => bif3 (isRow (subS s q)) (.al r' q) .dead) (.al r' q)
  | x => x
def calm2 (r : Nat) (s : S) (p : List Nat) : Slot → Slot
  | .al r' q => bif3 (r' == r) (match q with
    | [] => .al r' q
    | _ => bif3 (mayPre s p q || (!isRow (subS s q) && mayPre s q p)) .dead (.al r' q)) (.al r' q)
  | .pl r' q => bif3 (r' == r && mayPre s p q) .dead (.pl r' q)
  | x => x
def calm3 (r : Nat) (s : S) (p : List Nat) : Slot → Slot
  | .al r' q => bif3 (r' == r && mayPre s p q && longer q p) .dead (.al r' q)
  | .pl r' q => bif3 (r' == r && mayPre s p q && longer q p) .dead (.pl r' q)
  | x => x
def eqEl : (s : S) → El s → El s → Bool
  | .int _, x, y => x == y
  | .bool, x, y => x == y
  | .str, x, y => x.toList == y.toList
  | .agg s, x, y => eqEl s x y
  | .pair a b, x, y => eqEl a x.1 y.1 && eqEl b x.2 y.2
  | .unit, _, _ => true
  | _, _, _ => false
def canEq : S → Bool
  | .int _ | .bool | .str => true
  | .pair a b => isScalar a && canEq b
  | _ => false
def numS : S → Bool
  | .int _ | .bool => true
  | .pair (.int _) b => numS b
  | .pair .bool b => numS b
  | _ => false
def keyS : S → Bool
  | .int _ | .bool => true
  | .agg (.pair .unit s) => numS s
  | .agg s => numS s
  | _ => false
def mget (k v : S) : List (El k × El v) → El k → Option (El v)
  | [], _ => none
  | y :: l, x => if eqEl k x y.1 = true then some y.2 else mget k v l x
def mput (k v : S) : List (El k × El v) → El k → El v → List (El k × El v)
  | [], x, z => [(x, z)]
  | y :: l, x, z => if eqEl k x y.1 = true then (y.1, z) :: l else y :: mput k v l x z
def zeroable : S → Bool
  | .unit | .int _ | .bool | .str | .slice _ _ => true
  | .agg s => zeroable s
  | .pair a b => zeroable a && zeroable b
  | _ => false
def V1 (s : S) (x : El s) : Slot := .val s .sh x
def intBin (op : BinOp) (k : IntKind) (x y : Int) (K : Slot → Option R) : Option R :=
  match op with
  | .add => K (V1 (.int k) (k.wrap (x + y)))
  | .sub => K (V1 (.int k) (k.wrap (x - y)))
  | .mul => K (V1 (.int k) (k.wrap (x * y)))
  | .quo => @ite _ (y ≠ 0) (Classical.propDecidable _) (K (V1 (.int k) (k.wrap (x.tdiv y)))) none
  | .rem => @ite _ (y ≠ 0) (Classical.propDecidable _) (K (V1 (.int k) (x.tmod y))) none
  | .and => K (V1 (.int k) (k.wrap (BitVec.ofInt k.bits x &&& BitVec.ofInt k.bits y).toNat))
  | .or => K (V1 (.int k) (k.wrap (BitVec.ofInt k.bits x ||| BitVec.ofInt k.bits y).toNat))
  | .xor => K (V1 (.int k) (k.wrap (BitVec.ofInt k.bits x ^^^ BitVec.ofInt k.bits y).toNat))
  | .andNot => K (V1 (.int k) (k.wrap (BitVec.ofInt k.bits x &&& ~~~ BitVec.ofInt k.bits y).toNat))
  | .eql => K (V1 .bool (x == y))
  | .neq => K (V1 .bool (x != y))
  | .lss => K (V1 .bool (decide (x < y)))
  | .leq => K (V1 .bool (decide (x ≤ y)))
  | .gtr => K (V1 .bool (decide (x > y)))
  | .geq => K (V1 .bool (decide (x ≥ y)))
  | .shl => @ite _ (0 ≤ y) (Classical.propDecidable _) (K (V1 (.int k) (k.wrap (x * 2 ^ (min y.toNat k.bits))))) none
  | .shr => @ite _ (0 ≤ y) (Classical.propDecidable _) (K (V1 (.int k) (x.fdiv (2 ^ (min y.toNat k.bits))))) none
def isNil : Operand → Bool
  | .const (.slice none 0 0) => true
  | _ => false
def chk (C : Ctx) (T : TypeId) (s : S) (K : Option R) : Option R :=
  match C.ty T with
  | some s0 => bif3 (sameS s0 s) K none
  | none => none
def binK (C : Ctx) (T : TypeId) (op : BinOp) (x y : Comp) (yNil : Bool) (K : Slot → Option R) : Option R :=
  match x, y with
  | ⟨.int k, _, a⟩, ⟨.int k', _, b⟩ => bif3 (k == k') (intBin op k a b K) none
  | ⟨.bool, _, a⟩, ⟨.bool, _, b⟩ => chk C T .bool (match op with
    | .eql => K (V1 .bool (a == b))
    | .neq => K (V1 .bool (a != b))
    | _ => none)
  | ⟨.str, _, a⟩, ⟨.str, _, b⟩ => match op with
    | .add => @ite _ ((a.size : Int) + b.size ≤ LIM) (Classical.propDecidable _) (K (V1 .str (a ++ b))) none
    | .eql => K (V1 .bool (a.toList == b.toList))
    | .neq => K (V1 .bool (!(a.toList == b.toList)))
    | _ => none
  | ⟨.slice nl s, _, xs⟩, ⟨.slice _ _, _, _⟩ => chk C T (.slice nl s) (bif3 yNil (match op with
    | .eql => bif3 nl (K (V1 .bool (decide (xs.length = 0)))) (@ite _ (xs.length ≠ 0) (Classical.propDecidable _) (K (V1 .bool false)) none)
    | .neq => bif3 nl (K (V1 .bool (!decide (xs.length = 0)))) (@ite _ (xs.length ≠ 0) (Classical.propDecidable _) (K (V1 .bool true)) none)
    | _ => none) none)
  | ⟨.agg s, _, a⟩, ⟨.agg s', _, b⟩ => chk C T (.agg s) (dif (s' = s) (fun h => bif3 (canEq s) (match op with
    | .eql => K (V1 .bool (eqEl s a (h ▸ b)))
    | .neq => K (V1 .bool (!eqEl s a (h ▸ b)))
    | _ => none) none) none)
  | _, _ => none
def splitC : Nat → (s : S) → M → El s → List (Option Comp)
  | n + 2, .pair a b, m, x => some ⟨a, prA m, x.1⟩ :: splitC (n + 1) b (prB m) x.2
  | _, s, m, x => [some ⟨s, m, x⟩]
def resSlot (nr : Nat) (s : S) (m : M) (x : El s) : Slot :=
  match nr with
  | 0 => .dead
  | 1 => .val s m x
  | n => .tup (splitC n s m x)
def le : M → M → Bool   -- the first says no more than the second
  | .ow a, .ow b => le a b
  | .pr a b, .pr c d => le a c && le b d
  | .ag a, .ag b => le a b
  | a, _ => noOwn a
def argComps : (s : S) → El s → List Comp
  | .pair a b, x => ⟨a, .sh, x.1⟩ :: argComps b x.2
  | .unit, _ => []
  | s, x => [⟨s, .sh, x⟩]
def packArgs : (s : S) → List Comp → Option (El s)
  | .pair a b, c :: cs => if h : c.s = a then match packArgs b cs with
    | some y => some (h ▸ c.x, y)
    | none => none
    else none
  | .unit, [] => some ()
  | .pair _ _, [] => none
  | .unit, _ :: _ => none
  | s, [c] => if h : c.s = s then some (h ▸ c.x) else none
  | _, _ => none
def allSh : List PM → Bool
  | [] => true
  | .sh :: l => allSh l
  | _ => false
def nArgs : S → Nat
  | .pair _ b => nArgs b + 1
  | .unit => 0
  | _ => 1
def asFunc (σm : Sem) (caps : List Comp) (ps r : S) : El (.func ps r) := fun x =>
  if h : σm.r = r then σm.f (argComps ps x ++ caps) (El r) (fun y _ => some (h ▸ y)) else none
def funcSlot (C : Ctx) (sT : Option S) (f : Nat) (caps : List Comp) : Slot :=
  match sT, C.env f with
  | some (.func ps r), σm :: _ => bif3 (allSh σm.pm && σm.nr == 1 && (nArgs ps + caps.length == σm.pm.length)) (.val (.func ps r) .sh (asFunc σm caps ps r)) .dead
  | _, _ => .dead
def rdo' (C : Ctx) (σ : List Slot) (sT : Option S) : Operand → Slot
  | .func f => funcSlot C sT f []
  | o => rdo σ sT o
def comps (C : Ctx) (σ : List Slot) : List Operand → List TypeId → Option (List Comp)
  | [], _ => some []
  | o :: os, ts => match (rdo' C σ (ts.head?.bind C.ty) o).whole σ, comps C σ os ts.tail with
    | some c, some cs => some (⟨c.s, .sh, c.x⟩ :: cs)
    | _, _ => none
def stO (sT : Option S) (K : S → Option R) : Option R := match sT with | some s => K s | none => none
def atP (σ : List Slot) (r : Nat) (p : List Nat) (c : Comp) (K : Slot → Option R) : Option R :=
  bif3 (noOwn c.m) (match Slot.whole σ (.al r p) with
    | some c => K (.val c.s .sh c.x)
    | none => none) (K (.al r p))
def loadK (C : Ctx) (T : TypeId) (σ : List Slot) (a : Slot) (K : Slot → Option R) : Option R :=
  let go (r : Nat) (p : List Nat) : Option R := match Slot.cont σ (.al r p) with
    | some c => chk C T c.s (atP σ r p c K)
    | none => none
  match a with
  | .pl r p => go r p
  | .al r p => match Slot.cont σ (.al r p) with
    | some ⟨.ptr _, _, _⟩ => go r (p ++ [0])
    | _ => none
  | .val (.ptr s) _ x => chk C T s (K (.val s .sh x))
  | _ => none
def fieldAddrK (C : Ctx) (T : TypeId) (σ : List Slot) (a : Slot) (j : Nat) (K : Slot → Option R) : Option R :=
  let go (r : Nat) (p : List Nat) : Option R := match Slot.cont σ (.al r p) with
    | some c => chk C T c.s (bif3 (okF c.s j && holeOk σ r (p ++ fpath c.s j)) (K (.pl r (p ++ fpath c.s j))) none)
    | none => none
  match a with
  | .pl r p => go r p
  | .al r p => match Slot.cont σ (.al r p) with
    | some ⟨.ptr _, _, _⟩ => go r (p ++ [0])
    | _ => none
  | .val (.ptr s) _ x => chk C T s (bif3 (okF s j) (K (.val (.ptr (subS s (fpath s j))) .sh (getP s (fpath s j) x))) none)
  | _ => none
def fieldK (C : Ctx) (T : TypeId) (σ : List Slot) (a : Slot) (j : Nat) (K : Slot → Option R) : Option R :=
  match a with
  | .val s _ x => chk C T s (bif3 (okF s j) (K (.val (subS s (fpath s j)) .sh (getP s (fpath s j) x))) none)
  | .al r p => match Slot.cont σ (.al r p) with
    | some c => chk C T c.s (bif3 (okF c.s j && holeOk σ r (p ++ fpath c.s j)) (match Slot.cont σ (.al r (p ++ fpath c.s j)) with
      | some c' => atP σ r (p ++ fpath c.s j) c' K
      | none => none) none)
    | none => none
  | _ => none
def indexAddrK (C : Ctx) (T : TypeId) (σ : List Slot) (a : Slot) (i : Int) (K : Slot → Option R) : Option R :=
  match a with
  | .val (.slice nl s) _ xs => chk C T (.slice nl s) (@ite _ (0 ≤ i) (Classical.propDecidable _) (@ite _ (i < (xs.length : Int)) (Classical.propDecidable _) (K (.val (.ptr s) .sh (xs.getD i.toNat (zero s)))) none) none)
  | .al r p => match Slot.cont σ (.al r p) with
    | some ⟨.slice nl s, _, xs⟩ => chk C T (.slice nl s) (@ite _ (0 ≤ i) (Classical.propDecidable _) (@ite _ (i < (xs.length : Int)) (Classical.propDecidable _) (bif3 (holeOk σ r (p ++ [i.toNat])) (K (.pl r (p ++ [i.toNat]))) none) none) none)
    | _ => none
  | _ => none
def bt (s : ByteArray) (i : Int) : Int := (s.get! i.toNat).toNat
def withInt (σ : List Slot) (sl : Slot) (K : Int → Option R) : Option R :=
  match sl.cont σ with
  | some ⟨.int _, _, x⟩ => K x
  | _ => none
def withIntO (σ : List Slot) (o : Option Operand) (d : Int) (K : Int → Option R) : Option R :=
  match o with
  | some o => withInt σ (rdo σ none o) K
  | none => K d
def sliceK (C : Ctx) (T : TypeId) (σ : List Slot) (a : Slot) (lo hi : Option Operand) (K : Slot → Option R) : Option R :=
  match a with
  | .val (.slice nl s) _ xs => chk C T (.slice nl s) (
    withIntO σ lo 0 fun l => withIntO σ hi xs.length fun h =>
      @ite _ (0 ≤ l) (Classical.propDecidable _) (@ite _ (l ≤ h) (Classical.propDecidable _) (@ite _ (h ≤ (xs.length : Int)) (Classical.propDecidable _) (K (.val (.slice false s) .sh ((xs.take h.toNat).drop l.toNat))) none) none) none)
  | .val .str _ x => chk C T .str (
    withIntO σ lo 0 fun l => withIntO σ hi x.size fun h =>
      @ite _ (0 ≤ l) (Classical.propDecidable _) (@ite _ (l ≤ h) (Classical.propDecidable _) (@ite _ (h ≤ (x.size : Int)) (Classical.propDecidable _) (K (.val .str .sh (x.extract l.toNat h.toNat))) none) none) none)
  | _ => none
def lenK (C : Ctx) (T : TypeId) (c : Option Comp) (K : Slot → Option R) : Option R :=
  match c with
  | some ⟨.slice nl s, _, xs⟩ => chk C T (.slice nl s) (K (V1 (.int .i64) (xs.length : Int)))
  | some ⟨.str, _, x⟩ => chk C T .str (K (V1 (.int .i64) (x.size : Int)))
  | _ => none
def mx (x y : Int) : Int := if y > x then y else x
def mn (x y : Int) : Int := if y < x then y else x
def foldInts (f : Int → Int → Int) (k : IntKind) : Int → List Comp → Option Int
  | a, [] => some a
  | a, ⟨.int k', _, b⟩ :: cs => bif3 (k == k') (foldInts f k (f a b) cs) none
  | _, _ => none
def maxK (f : Int → Int → Int) (cs : Option (List Comp)) (K : Slot → Option R) : Option R :=
  match cs with
  | some (⟨.int k, _, a⟩ :: cs) => match foldInts f k a cs with
    | some y => K (V1 (.int k) y)
    | none => none
  | _ => none
def unK (op : UnOp) (c : Option Comp) (K : Slot → Option R) : Option R :=
  match op, c with
  | .not, some ⟨.bool, _, b⟩ => K (V1 .bool (!b))
  | .neg, some ⟨.int k, _, n⟩ => K (V1 (.int k) (k.wrap (0 - n)))
  | _, _ => none
def makeSliceK (sT : Option S) (n c : Int) (same : Bool) (K : Slot → Option R) : Option R :=
  match sT with
  | some (.slice _ s) => bif3 (zeroable s) (@ite _ (0 ≤ n) (Classical.propDecidable _) (bif3 same (@ite _ (n ≤ LIM) (Classical.propDecidable _) (K (.val (.slice false s) (topM (.slice false s)) (List.replicate n.toNat (zero s)))) none)
      (@ite _ (n ≤ c) (Classical.propDecidable _) (@ite _ (c ≤ LIM) (Classical.propDecidable _) (K (.val (.slice false s) (topM (.slice false s)) (List.replicate n.toNat (zero s)))) none) none)) none) none
  | _ => none
def opEq : Operand → Operand → Bool
  | .tmp a, .tmp b => a == b
  | _, _ => false
def setFld : (s : S) → M → El s → Nat → Comp → Comp
  | .pair _ b, m, x, 0, c => ⟨.pair c.s b, .pr c.m (prB m), (c.x, x.2)⟩
  | .pair a b, m, x, j + 1, c => match setFld b (prB m) x.2 j c with
    | ⟨s', m', x'⟩ => ⟨.pair a s', .pr (prA m) m', (x.1, x')⟩
  | _, _, _, 0, c => c
  | s, m, x, _ + 1, _ => ⟨s, m, x⟩
def buildC : List (Nat × Comp) → Comp → Option Comp
  | [], acc => some acc
  | (j, c) :: l, acc => bif3 (ltb j (fields acc.s).length && sameS (subS acc.s (fp acc.s j)) c.s) (buildC l (setFld acc.s acc.m acc.x j c)) none
def intsC (k : IntKind) : List Slot → List Slot → Option (List Int)
  | _, [] => some []
  | σ, sl :: l => match sl.cont σ with
    | some ⟨.int k', _, x⟩ => bif3 (k' == k) ((intsC k σ l).map (x :: ·)) none
    | _ => none
def rowEl (k : IntKind) : (n : Nat) → List Int → El (rowS k n)
  | 0, l => l.headD 0
  | n + 1, l => (l.headD 0, rowEl k n l.tail)
def rowK : S → Option (IntKind × Nat)
  | .int k => some (k, 0)
  | .pair (.int _) s => match rowK s with
    | some (k, n) => some (k, n + 1)
    | none => none
  | _ => none
def rowC (s : S) (m : M) : List Comp → List (El s) → (M → List (El s) → Option R) → Option R
  | [], acc, K => K m acc.reverse
  | c :: cs, acc, K => coer c.s s c.x fun y => rowC s (meet m c.m) cs (y :: acc) K
def takeAll (σ : List Slot) (fz : Bool) : List Slot → Option (List Comp × List Slot)
  | [] => some ([], σ)
  | sl :: l => match take σ fz sl with
    | some (c, σ, _) => match takeAll σ fz l with
      | some (cs, σ) => some (c :: cs, σ)
      | none => none
    | none => none
def keepA (r : Nat) (s : S) (p : List Nat) : Slot → Slot
  | .al r' q => bif3 (r' == r) (bif3 (mayPre s p q) .dead (.al r' q)) (.al r' q)
  | .pl r' q => bif3 (r' == r) (bif3 (mayPre s p q) .dead (.pl r' q)) (.pl r' q)
  | x => x
def baseRow (σ : List Slot) : Slot → Option (Comp × List Slot)
  | .val s m x => bif3 (isOw m) (some (⟨s, m, x⟩, σ)) none
  | .al r p => match gs σ r with
    | .val s m x => match p with
      | [] => bif3 (isOw m) (some (⟨s, m, x⟩, ps (kill r σ) r .dead)) none
      | _ => bif3 (isOw (subM s p m)) (some (⟨subS s p, subM s p m, getP s p x⟩, ps (σ.map (keepA r s p)) r (.hol s m x p))) none
    | _ => none
  | _ => none
def elems (σ : List Slot) (fz : Bool) : Slot → Option (Comp × List Slot)
  | .val s m x => some (⟨s, m, x⟩, σ)
  | .al r p => match gs σ r with
    | .val s m x => match p, fz || noOwn (elemM (subM s p m)) with
        | [], false => some (⟨s, m, x⟩, ps (kill r σ) r .dead)
        | p, _ => bif3 (noOwn (elemM (subM s p m))) (some (⟨subS s p, .sh, getP s p x⟩, σ)) (some (⟨subS s p, .sh, getP s p x⟩, ps σ r (.val s (setM s p m .sh) x)))
    | _ => none
  | _ => none
def appendK (C : Ctx) (T : TypeId) (σ : List Slot) (fz : Bool) (d : Option Nat) (a b : Slot) (K : List Slot → Option R) : Option R :=
  match d with
  | none => none
  | some d => bif3 (isDead (gs σ d)) (match elems σ fz b with
    | none => none
    | some (cb, σ) => match baseRow σ a with
      | none => none
      | some (ca, σ) => match ca, cb with
        | ⟨.slice nl s, m, xs⟩, ⟨.slice _ s', m', ys⟩ =>
          chk C T (.slice nl s) (dif (s' = s) (fun h =>
            @ite _ ((xs.length : Int) + ys.length ≤ LIM) (Classical.propDecidable _) (K (put σ d (.val (.slice nl s) (.ow (meet (elemM m) (elemM m'))) (xs ++ (h ▸ ys : List (El s)))))) none)
          none)
        | _, _ => none) none
def crosses : S → List Nat → Bool
  | _, [] => false
  | .slice _ _, _ :: _ => true
  | .ptr _, _ :: _ => true
  | .agg s, _ :: p => crosses s p
  | .pair a _, 0 :: p => crosses a p
  | .pair _ b, (_ + 1) :: p => crosses b p
  | _, _ :: _ => false
def innerOw : S → List Nat → M → Bool
  | _, [], _ => false
  | .slice _ s, _ :: p, m => bif3 (crosses s p) (innerOw s p (elemM m)) (isOw m)
  | .ptr s, _ :: p, m => bif3 (crosses s p) (innerOw s p (elemM m)) (isOw m)
  | .agg s, _ :: p, m => innerOw s p (agM m)
  | .pair a _, 0 :: p, m => innerOw a p (prA m)
  | .pair _ b, (_ + 1) :: p, m => innerOw b p (prB m)
  | _, _ :: _, _ => false
def eqPathK : List Nat → List Nat → Option R → Option R
  | [], [], k => k
  | a :: p, b :: q, k => @ite _ (a = b) (Classical.propDecidable _) (eqPathK p q k) none
  | _, _, _ => none
def storeK (C : Ctx) (T : TypeId) (σ : List Slot) (fz : Bool) (a v : Slot) (K : List Slot → Option R) : Option R :=
  let go (r : Nat) (p : List Nat) : Option R :=
    match take σ fz v with
    | none => none
    | some (c, σ, _) => match gs σ r with
      | .val s m x => bif3 (innerOw s p m) (chk C T (subS s p) (coer c.s (subS s p) c.x fun y =>
          bif3 (isScalar (subS s p)) (K (ps (σ.map (calm1 r s)) r (.val s (setM s p m c.m) (setP s p x y))))
            (K (ps (σ.map (calm2 r s p)) r (.val s (setM s p m c.m) (setP s p x y)))))) none
      | .hol s m x hp => bif3 (innerOw s p m) (chk C T (subS s p) (eqPathK p hp (coer c.s (subS s p) c.x fun y => K (ps (σ.map (calm2 r s p)) r (.val s (setM s p m c.m) (setP s p x y)))))) none
      | _ => none
  match a with
  | .pl r p => go r p
  | .al r p => match Slot.cont σ (.al r p) with
    | some ⟨.ptr _, _, _⟩ => go r (p ++ [0])
    | _ => none
  | _ => none
def copyK (C : Ctx) (T : TypeId) (σ : List Slot) (d : Option Nat) (a b : Slot) (K : List Slot → Option R) : Option R :=
  match a with
  | .al r [] => match elems σ true b with
    | none => none
    | some (cb, σ2) => match gs σ2 r, cb with
      | .val (.slice nl s) m xs, ⟨.slice _ s', m', ys⟩ => chk C T (.slice nl s) (dif (s' = s) (fun h => bif3 (isOw m && noOwn (elemM m'))
          (K (fin (put (put (ps σ2 r (.val (.slice nl s) (.ow .sh) xs)) r .dead) r (.val (.slice nl s) (.ow .sh) ((h ▸ ys : List (El s)).take xs.length ++ xs.drop ys.length))) d (V1 (.int .i64) (mn xs.length ys.length)))) none) none)
      | _, _ => none
  | _ => none
def copyMK (C : Ctx) (T : TypeId) (σ : List Slot) (d : Option Nat) (a b : Slot) (K : List Slot → Option R) : Option R :=
  match a with
  | .al r [] => match elems σ false b with
    | none => none
    | some (cb, σ2) => match gs σ2 r, cb with
      | .val (.slice nl s) m xs, ⟨.slice _ s', m', ys⟩ => chk C T (.slice nl s) (dif (s' = s) (fun h => bif3 (isOw m)
          (@ite _ (xs.length = ys.length) (Classical.propDecidable _) (K (fin (put (put (ps σ2 r (.val (.slice nl s) (.ow .sh) xs)) r .dead) r (.val (.slice nl s) (.ow (meet (elemM m') (elemM m'))) (h ▸ ys : List (El s)))) d (V1 (.int .i64) (mn xs.length ys.length)))) none) none) none)
      | _, _ => none
  | _ => none
def fullM : S → M → Bool
  | .slice _ s, .ow m => fullM s m
  | .ptr s, .ow m => fullM s m
  | .agg s, m => fullM s (agM m)
  | .pair a b, m => fullM a (prA m) && fullM b (prB m)
  | .int _, _ => true
  | .bool, _ => true
  | .str, _ => true
  | .unit, _ => true
  | _, _ => false
def fullL : List M → S → Bool
  | [], _ => true
  | [m], s => fullM s m
  | m :: ms, .pair a b => fullM a m && fullL ms b
  | _, _ => false
def loanModes : List PM → List M
  | [] => []
  | .loan m :: l => m :: loanModes l
  | _ :: l => loanModes l
def outArgs (σ : List Slot) : List PM → List Slot → Option (List (Option Comp) × List (Nat × List Nat) × List Slot)
  | [], [] => some ([], [], σ)
  | .sh :: pm, _ :: sls => match outArgs σ pm sls with
    | some (cs, ls, σ') => some (none :: cs, ls, σ')
    | none => none
  | .loan m :: pm, .al r [] :: sls => match outArgs σ pm sls with
    | some (cs, ls, σ') => match gs σ' r with
      | .val s m' x => bif3 (le m m') (some (some ⟨s, m, x⟩ :: cs, (r, []) :: ls, ps (kill r σ') r .dead)) none
      | _ => none
    | none => none
  | .loan m :: pm, .al r (i :: p) :: sls => match outArgs σ pm sls with
    | some (cs, ls, σ') => match gs σ' r with
      | .val s m' x => bif3 (le m (subM s (i :: p) m') && innerOw s (i :: p) m') (some (some ⟨subS s (i :: p), m, getP s (i :: p) x⟩ :: cs, (r, i :: p) :: ls, ps (σ'.map (keepA r s (i :: p))) r (.hol s m' x (i :: p)))) none
      | _ => none
    | none => none
  | .move m :: pm, .al r [] :: sls => match outArgs σ pm sls with
    | some (cs, ls, σ') => match gs σ' r with
      | .val s m' x => bif3 (le m m') (some (some ⟨s, m, x⟩ :: cs, ls, ps (kill r σ') r .dead)) none
      | _ => none
    | none => none
  | .move m :: pm, .val s m' x :: sls => match outArgs σ pm sls with
    | some (cs, ls, σ') => bif3 (le m m') (some (some ⟨s, m, x⟩ :: cs, ls, σ')) none
    | none => none
  | _, _ => none
def frzArgs (σ : List Slot) : List PM → List Slot → List Slot
  | .sh :: pm, .al r p :: sls => frzArgs (match gs σ r with
    | .val s m x => ps σ r (.val s (setM s p m .sh) x)
    | _ => σ) pm sls
  | _ :: pm, _ :: sls => frzArgs σ pm sls
  | _, _ => σ
def inArg (full : Bool) (σ : List Slot) : Slot → Option Comp
  | .val s _ x => some ⟨s, .sh, x⟩
  | sl => match sl.whole σ with
    | some c => bif3 (full || noOwn c.m) (some ⟨c.s, .sh, c.x⟩) none
    | none => none
def inArgs (full : Bool) (σ : List Slot) : List (Option Comp) → List Slot → Option (List Comp)
  | [], [] => some []
  | none :: cs, sl :: sls => match inArg full σ sl, inArgs full σ cs sls with
    | some c, some l => some (c :: l)
    | _, _ => none
  | some c :: cs, _ :: sls => match inArgs full σ cs sls with
    | some l => some (c :: l)
    | none => none
  | _, _ => none
def backOne (σ : List Slot) (m : M) (r : Nat) (p : List Nat) (lo : S) (y : El lo) (K : List Slot → Option R) : Option R :=
  match p with
  | [] => K (ps (kill r σ) r (.val lo m y))
  | _ :: _ => match gs σ r with
    | .hol s mm x hp => bif3 (innerOw s hp mm) (coer lo (subS s hp) y fun z => K (ps (σ.map (keepA r s hp)) r (.val s (setM s hp mm m) (setP s hp x z)))) none
    | _ => none
def giveBack (σ : List Slot) : List M → List (Nat × List Nat) → (lo : S) → El lo → (List Slot → Option R) → Option R
  | [], [], _, _, K => K σ
  | [m], [(r, p)], lo, y, K => backOne σ m r p lo y K
  | m :: ms, (r, p) :: ls, .pair a b, y, K => backOne σ m r p a y.1 fun σ => giveBack σ ms ls b y.2 K
  | _, _, _, _, _ => none
def subOk (n : Nat) (d : Option Nat) : List (Nat × List Nat) → Bool
  | [] => true
  | (_, []) :: l => subOk n d l
  | (r, _ :: _) :: l => (match d with | none => true | some d => ltb d n && !Nat.beq d r) && subOk n d l
def wholes : List (Nat × List Nat) → List Nat
  | [] => []
  | (r, []) :: l => r :: wholes l
  | _ :: l => wholes l
def slots (C : Ctx) (σ : List Slot) : List Operand → List TypeId → List Slot
  | [], _ => []
  | o :: os, ts => rdo' C σ (ts.head?.bind C.ty) o :: slots C σ os ts.tail
def isFull (σm : Sem) : Bool := fullM σm.r σm.mr && fullL (loanModes σm.pm) σm.lo
def anyN (n : Nat) : List Nat → Bool
  | [] => false
  | m :: l => Nat.beq n m || anyN n l
def rowVal (σ : List Slot) (r : Nat) : Bool := match gs σ r with
  | .val s _ _ => isRow s
  | _ => false
def backAl (ls : List Nat) (σ0 σf : List Slot) : Slot → Bool
  | .al r p => match p with
    | [] => anyN r ls && (rowVal σ0 r && rowVal σf r)
    | _ => false
  | _ => false
def realias (ls : List Nat) (σ0 σf : List Slot) : List Slot → List Slot → List Slot
  | s :: σ, s2 :: σ2 => bif3 (isDead s2 && backAl ls σ0 σf s) s s2 :: realias ls σ0 σf σ σ2
  | _, σ2 => σ2
def callSem (σ0 : List Slot) (σm : Sem) (d : Option Nat) (sls : List Slot) (K : List Slot → Option R) : Option R :=
  match outArgs σ0 σm.pm sls with
  | none => none
  | some (os, ls, σ) =>
    let σ2 := bif3 (isFull σm) σ (frzArgs σ σm.pm sls)
    match inArgs (isFull σm) σ2 os sls with
    | none => none
    | some cs => bif3 (subOk σ0.length d ls) (σm.f cs R fun y l => giveBack σ2 (loanModes σm.pm) ls σm.lo l fun σ => K (fin (realias (wholes ls) σ0 σ σ0 σ) d (resSlot σm.nr σm.r σm.mr y))) none
def shs : Nat → List PM
  | 0 => []
  | n + 1 => .sh :: shs n
def fnSem (p r : S) (g : El (.func p r)) : Sem where
  pm := shs (nArgs p)
  nr := 1
  r := r
  mr := .sh
  lo := .unit
  f := fun cs _ k => match packArgs p cs with
    | some x => (g x).bind fun y => k y ()
    | none => none
def callFn (σ : List Slot) (d : Option Nat) (f : Option Comp) (sls : List Slot) (K : List Slot → Option R) : Option R :=
  match f with
  | some ⟨.func p r, _, g⟩ => callSem σ (fnSem p r g) d sls K
  | _ => none
def capsIn (σ : List Slot) : List Slot → Option (List Comp)
  | [] => some []
  | sl :: l => match inArg false σ sl, capsIn σ l with
    | some c, some cs => some (c :: cs)
    | _, _ => none
def opds (σ : List Slot) : List Operand → List Slot
  | [] => []
  | o :: l => rdo σ none o :: opds σ l
end Go.Ev

noncomputable section
namespace Go.Ev
variable {R : Type}
def aliased (σ : List Slot) (d : Nat) (q : List Nat) : Option Nat → List Slot
  | none => σ
  | some r => match gs σ d with
    | .val _ _ _ => bif3 (r == d) σ (ps σ r (.al d q))
    | _ => σ
def assignK (σ : List Slot) (fz : Bool) (d : Option Nat) (sl : Slot) (K : List Slot → Option R) : Option R :=
  match d with
  | none => none
  | some d =>
    let go (fz : Bool) : Option R := match take (put σ d .dead) fz sl with
      | some (c, σ, mr) => K (aliased (put σ d (.val c.s c.m c.x)) d [] mr)
      | none => none
    match sl with
    | .al r p => match p, gs σ r with
      | [], _ => go fz
      | _, .tup _ => go fz
      | _, _ => bif3 fz (go true) (K (put σ d sl))
    | sl => K (put σ d sl)
def partSlots (C : Ctx) (σ : List Slot) (ty : Nat → Option S) : List (Nat × Operand) → List Slot
  | [] => []
  | (i, o) :: l => rdo' C σ (ty i) o :: partSlots C σ ty l
def zipIdx' : List (Nat × Operand) → List Comp → List (Nat × Comp)
  | (i, _) :: l, c :: cs => (i, c) :: zipIdx' l cs
  | _, _ => []
def inOrder : Nat → Nat → List (Nat × Operand) → Bool
  | i, n, [] => i == n
  | i, n, (j, _) :: l => (i == j) && inOrder (i + 1) n l
def sliceTake (C : Ctx) (T : TypeId) (σ : List Slot) (d : Option Nat) (a : Slot) (lo hi : Option Operand) (K : List Slot → Option R) : Option R :=
  match d, a with
  | some d, .al r [] => match gs σ r with
    | .val (.slice nl s) m xs => chk C T (.slice nl s) (bif3 (isDead (gs σ d) && isOw m && noOwn (elemM m)) (withIntO σ lo 0 fun l => withIntO σ hi xs.length fun h =>
        @ite _ (0 ≤ l) (Classical.propDecidable _) (@ite _ (l ≤ h) (Classical.propDecidable _) (@ite _ (h ≤ (xs.length : Int)) (Classical.propDecidable _) (K (put (ps (kill r σ) r .dead) d (.val (.slice false s) m ((xs.take h.toNat).drop l.toNat)))) none) none) none) none)
    | _ => none
  | _, _ => none
def arrK (C : Ctx) (T : TypeId) (σ : List Slot) (s : S) (parts : List (Nat × Operand)) (K : Slot → Option R) : Option R :=
  match s with
  | .pair .unit r => match rowK r with
    | some (k, n) => bif3 (inOrder 0 (n + 1) parts) (match intsC k σ (parts.map fun x => rdo σ none x.2) with
      | some l => chk C T (.agg (.pair .unit (rowS k n))) (K (.val (.agg (.pair .unit (rowS k n))) .sh ((), rowEl k n l)))
      | none => none) none
    | none => none
  | _ => none
def lookK (C : Ctx) (T : TypeId) (ok : Bool) (m x : Option Comp) (K : Slot → Option R) : Option R :=
  match m, x with
  | some ⟨.map k v, _, xs⟩, some ⟨k', _, y⟩ => chk C T (.map k v) (dif (k' = k) (fun h =>
      bif3 ok (K (.tup [some ⟨v, .sh, (mget k v xs (h ▸ y)).getD (zero v)⟩, some ⟨.bool, .sh, (mget k v xs (h ▸ y)).isSome⟩])) (K (.val v .sh ((mget k v xs (h ▸ y)).getD (zero v))))) none)
  | _, _ => none
def mapPut (C : Ctx) (T : TypeId) (σ : List Slot) (m : Slot) (x y : Option Comp) (K : List Slot → Option R) : Option R :=
  match m with
  | .al r p => match gs σ r, Slot.cont σ (.al r p), x, y with
    | .val s mm z, some ⟨.map k v, _, xs⟩, some ⟨k', _, a⟩, some ⟨v', _, b⟩ => bif3 (isOw (subM s p mm)) (chk C T (.map k v) (dif (k' = k) (fun h => dif (v' = v) (fun h' =>
        coer (.map k v) (subS s p) (mput k v xs (h ▸ a) (h' ▸ b)) fun u => K (ps σ r (.val s mm (setP s p z u)))) none) none)) none
    | _, _, _, _ => none
  | _ => none
def hintE (h : Nat) : Nat := bif3 (ltb 4095 h) ((h - 4096) / 256) (bif3 (ltb 7 h) ((h - 8) / 8) h)
def evalOp (C : Ctx) (h : Nat) (o : Oper) (σ : List Slot) (K : List Slot → Option R) : Option R :=
  let k1 : Slot → Option R := fun sl => K (fin σ o.dst sl)
  let fz : Bool := h == 1
  match o.op with
  | .move x => k1 (rdo' C σ (C.ty o.type) x)
  | .assign x => assignK σ fz o.dst (rdo' C σ (C.ty o.type) x) K
  | .pick c a b => match (rdo σ none c).cont σ with
    | some ⟨.bool, _, t⟩ => if t = true then k1 (rdo' C σ (C.ty o.type) a) else k1 (rdo' C σ (C.ty o.type) b)
    | _ => none
  | .alloc T => stO (C.ty T) fun s => bif3 (zeroable s) (k1 (.val (.ptr s) (.ow (topM s)) (zero s))) none
  | .box T x => match o.dst with
    | some d => match take (put σ d .dead) fz (rdo' C (put σ d .dead) (C.ty T) x) with
      | some (c, σ, mr) => K (aliased (put σ d (.val (.ptr c.s) (.ow c.m) c.x)) d [0] mr)
      | none => none
    | none => none
  | .build T parts => match o.dst, C.ty T with
    | some d, some (.agg s) => bif3 (isArr s) (arrK C T σ s parts.toList k1) (match takeAll (put σ d .dead) fz (partSlots C (put σ d .dead) (fun i => nth (fields s) i) parts.toList) with
      | some (cs, σ) => bif3 (zeroable s) (match buildC (zipIdx' parts.toList cs) ⟨s, topM s, zero s⟩ with
        | some c => chk C T (.agg c.s) (K (put σ d (.val (.agg c.s) (.ag c.m) c.x)))
        | none => none) none
      | none => none)
    | _, _ => none
  | .makeMap T none => stO (C.ty T) fun s => match s with
    | .map k v => k1 (.val (.map k v) (.ow .sh) [])
    | _ => none
  | .lookup T m x ok => lookK C T ok ((rdo σ none m).cont σ) ((rdo σ none x).whole σ) k1
  | .mapUpdate T m x y => mapPut C T σ (rdo σ none m) ((rdo σ none x).whole σ) ((rdo σ none y).whole σ) fun σ => K (fin σ o.dst .undef)
  | .buildSlice T n parts => match o.dst, C.ty T with
    | some d, some (.slice _ s) => bif3 (inOrder 0 n parts.toList && Nat.ble (n * size s) 10000) (match takeAll (put σ d .dead) fz (partSlots C (put σ d .dead) (fun _ => some s) parts.toList) with
      | some (cs, σ) => rowC s (topM s) cs [] fun m xs => K (put σ d (.val (.slice false s) (.ow m) xs))
      | none => none) none
    | _, _ => none
  | .load T a => loadK C T σ (rdo σ none a) k1
  | .store T a v => storeK C T σ fz (rdo σ none a) (rdo' C σ (C.ty T) v) fun σ => K (fin σ o.dst .undef)
  | .nilCheck x => match rdo σ none x with
    | .val (.ptr s) m y => k1 (.val (.ptr s) m y)
    | .al r p => match Slot.cont σ (.al r p) with
      | some ⟨.ptr _, _, _⟩ => k1 (.al r p)
      | _ => none
    | _ => none
  | .binOp op T x y _ => match (rdo σ (C.ty T) x).whole σ, (rdo σ (C.ty T) y).whole σ with
    | some a, some b => binK C T op a b (isNil y) k1
    | _, _ => none
  | .unOp op _ x => unK op ((rdo σ none x).cont σ) k1
  | .convert T0 T x => match C.ty T0 with
    | some _ => match (rdo σ none x).cont σ, C.ty T with
      | some ⟨.int _, _, n⟩, some (.int k) => k1 (V1 (.int k) (k.wrap n))
      | _, _ => none
    | none => none
  | .fieldAddr T x j => fieldAddrK C T σ (rdo σ none x) j k1
  | .field T x j => fieldK C T σ (rdo σ none x) j k1
  | .indexAddr T x i => withInt σ (rdo σ none i) fun n => indexAddrK C T σ (rdo σ none x) n k1
  | .index T x i => withInt σ (rdo σ none i) fun n => match (rdo σ none x).cont σ with
    | some ⟨.str, _, s⟩ => chk C T .str (@ite _ (0 ≤ n) (Classical.propDecidable _) (@ite _ (n < (s.size : Int)) (Classical.propDecidable _) (k1 (V1 (.int .u8) (bt s n))) none) none)
    | _ => none
  | .slice T x lo hi none => match h with
    | 1 => sliceTake C T σ o.dst (rdo σ none x) lo hi K
    | 2 => match take σ true (rdo σ none x) with
      | some (c, σ', _) => bif3 (noOwn c.m) (sliceK C T σ' (.val c.s .sh c.x) lo hi fun sl => K (fin σ' o.dst sl)) none
      | none => none
    | _ => sliceK C T σ (rdo σ none x) lo hi k1
  | .extract t j => match rdo σ none t with
    | .al r [] => match gs σ r with
      | .tup cs => match nth cs j with
        | some (some _) => k1 (.al r [j])
        | _ => none
      | _ => none
    | _ => none
  | .makeFunc (.func f) first caps => bif3 (first.toList.isEmpty) (match capsIn (frzArgs σ (shs caps.toList.length) (opds σ caps.toList)) (opds σ caps.toList) with
    | some cs => K (fin (frzArgs σ (shs caps.toList.length) (opds σ caps.toList)) o.dst (funcSlot C (C.ty o.type) f cs))
    | none => none) none
  | .makeSlice T n c => withInt σ (rdo σ none n) fun a => withInt σ (rdo σ none c) fun b => makeSliceK (C.ty T) a b (opEq n c) k1
  | .call c => match c.callee with
    | .builtin .len => match c.args.toList, c.argTypes.toList with
      | [x], [T] => lenK C T ((rdo σ none x).cont σ) k1
      | _, _ => none
    | .builtin .append => match c.args.toList, c.argTypes.toList with
      | [x, y], [T, T'] => bif3 (T == T') (appendK C T σ fz o.dst (rdo σ (C.ty T) x) (rdo σ (C.ty T) y) K) none
      | _, _ => none
    | .builtin .copy => match c.args.toList, c.argTypes.toList with
      | [x, y], [T, _] => match h with
        | 5 => copyMK C T σ o.dst (rdo σ none x) (rdo σ (C.ty T) y) K
        | _ => copyK C T σ o.dst (rdo σ none x) (rdo σ (C.ty T) y) K
      | _, _ => none
    | .builtin .max => maxK mx (comps C σ c.args.toList c.argTypes.toList) k1
    | .builtin .min => maxK mn (comps C σ c.args.toList c.argTypes.toList) k1
    | .value (.func f) => match nth (C.env f) (hintE h) with
      | some σm => callSem σ σm o.dst (slots C σ c.args.toList c.argTypes.toList) K
      | none => none
    | .value x => callFn σ o.dst ((rdo σ none x).cont σ) (slots C σ c.args.toList c.argTypes.toList) K
    | _ => none
  | _ => none
def pureOp (h : Nat) : Op → Bool
  | .move _ | .pick _ _ _ | .load _ _ | .nilCheck _ | .binOp _ _ _ _ _ | .unOp _ _ _ | .convert _ _ _ | .fieldAddr _ _ _ | .field _ _ _ | .indexAddr _ _ _ | .index _ _ _ | .extract _ _ => true
  | .slice _ _ _ _ _ => Nat.beq h 0
  | .call c => match c.callee with
    | .builtin .len | .builtin .max | .builtin .min => true
    | _ => false
  | _ => false
def guardOf (ops : List Oper) (j : Nat) : Option Nat := match nth ops j with | some o => o.dst | none => none
def memN (n : Nat) : List Nat → Bool
  | [] => false
  | m :: l => bif3 (Nat.beq n m) true (memN n l)
def memO (l : List Nat) : Option Nat → Bool
  | none => false
  | some d => memN d l
def pull1 (σ : List Slot) (t : Nat) : List Slot := match gs σ t with
  | .al r p => match gs σ r with
    | .val s m x => match p with
      | [] => σ
      | _ => put (ps (σ.map (keepA r s p)) r (.hol s m x p)) t (.val (subS s p) (subM s p m) (getP s p x))
    | _ => σ
  | _ => σ
def frz1 (σ : List Slot) (t : Nat) : List Slot := match gs σ t with
  | .al r p => match gs σ r with
    | .val s m x => put (ps σ r (.val s (setM s p m .sh) x)) t (.val (subS s p) .sh (getP s p x))
    | _ => σ
  | _ => σ
def frzA : Nat → List Operand → List Slot → List Slot
  | _, [], σ => σ
  | n, .tmp t :: l, σ => frzA (n / 2) l (bif3 (Nat.beq (n % 2) 1) (frz1 σ t) σ)
  | n, _ :: l, σ => frzA (n / 2) l σ
def pullA (h : Nat) (op : Op) (σ : List Slot) : List Slot := bif3 (ltb 4095 h) (match op with
  | .call c => frzA ((h - 4096) % 256) c.args.toList σ
  | _ => σ) (bif3 (Nat.beq h 4 || ltb 7 h) (match op with
  | .call c => match nth c.args.toList (bif3 (ltb 7 h) ((h - 8) % 8) 0) with
    | some (.tmp t) => pull1 σ t
    | _ => σ
  | _ => σ) σ)
def twice (x : Option R) : Option R := @ite _ (x = x) (Classical.propDecidable _) x none
@[simp] theorem twice_eq (x : Option R) : twice x = x := by unfold twice; rw [if_pos rfl]
def clearK (C : Ctx) (o o2 : Oper) (σ : List Slot) (K : List Slot → Option R) : Option R :=
  match o.op, o.dst, o.guard, o2.op, o2.dst, o2.guard with
  | .slice T x lo none none, some d, none, .call c, none, none => match c.callee, c.args.toList, c.argTypes.toList with
    | .builtin .clear, [.tmp t], [T2] => match rdo σ none x with
      | .al r [] => match gs σ r with
        | .val (.slice nl (.int k)) m xs => bif3 (Nat.beq t d && ltb d σ.length && isDead (gs σ d) && isOw m) (chk C T (.slice nl (.int k)) (chk C T2 (.slice nl (.int k)) (withIntO σ lo 0 fun l =>
            @ite _ (0 ≤ l) (Classical.propDecidable _) (@ite _ (l ≤ (xs.length : Int)) (Classical.propDecidable _)
              (K (put (put (put (ps σ r (.val (.slice nl (.int k)) (.ow .sh) xs)) r .dead) t .dead) r (.val (.slice nl (.int k)) (.ow .sh) (xs.take l.toNat ++ List.replicate (xs.length - l.toNat) (0 : Int))))) none) none))) none
        | _ => none
      | _ => none
    | _, _, _ => none
  | _, _, _, _, _, _ => none
def evalOps (C : Ctx) (rid : Nat) (all : List Oper) : Nat → List Oper → List Slot → (List Slot → Option R) → Option R
  | _, [], σ, K => K σ
  | i, o :: rest, σ, K => bif3 (memO C.fix o.dst) none (bif3 (Nat.beq (C.hint rid i) 6) (match rest with
    | o2 :: rest2 => clearK C o o2 σ fun σ => evalOps C rid all (i + 2) rest2 σ K
    | [] => none) (
    let run (σ : List Slot) : Option R := evalOp C (C.hint rid i) o (pullA (C.hint rid i) o.op σ) fun σ => evalOps C rid all (i + 1) rest σ K
    let skip (σ : List Slot) : Option R := evalOps C rid all (i + 1) rest (fin σ o.dst .undef) K
    match o.guard with
    | none => run σ
    | some (j, b) => match guardOf all j with
      | none => none
      | some t => match gs σ t with
        | .undef => skip σ
        | .val .bool _ x =>
          if x = true then bif3 b (run (ps σ t (V1 .bool true))) (skip (ps σ t (V1 .bool true)))
          else bif3 b (skip (ps σ t (V1 .bool false))) (run (ps σ t (V1 .bool false)))
        | _ => none))
def depsIn (V : List Nat) : List Edge → Bool
  | [] => true
  | e :: l => (!Region.binds .any e || memN e.on V) && depsIn V l
def hasDep (p : Nat) : List Edge → Bool
  | [] => false
  | e :: l => (Region.binds .any e && Nat.beq e.on p) || hasDep p l
def isAlloc : Op → Bool
  | .alloc _ => true
  | _ => false
def allocs : Nat → List Oper → List Nat
  | _, [] => []
  | i, o :: l => bif3 (isAlloc o.op) (i :: allocs (i + 1) l) (allocs (i + 1) l)
def delN (k : Nat) : List Nat → List Nat
  | [] => []
  | x :: l => bif3 (Nat.beq x k) (delN k l) (x :: delN k l)
def waitAll (V A : List Nat) (j : Option Nat) : Nat → List Oper → Bool
  | _, [] => true
  | i, o :: l => (memN i V || isAlloc o.op || memO [i] j || !depsIn (V ++ A) o.after.toList) && waitAll V A j (i + 1) l
def calmOp (h : Nat) : Op → Bool
  | .assign _ => !Nat.beq h 3
  | o => pureOp h o
def tmpsOf : List Operand → List Nat
  | [] => []
  | .tmp t :: l => t :: tmpsOf l
  | _ :: l => tmpsOf l
def oList : Option Operand → List Operand
  | some x => [x]
  | none => []
def opnds : Op → List Operand
  | .alloc _ => []
  | .move x | .assign x | .box _ x | .load _ x | .nilCheck x | .unOp _ _ x | .convert _ _ x | .fieldAddr _ x _ | .field _ x _ | .extract x _ => [x]
  | .pick c a b => [c, a, b]
  | .build _ ps => ps.toList.map (·.2)
  | .buildSlice _ _ ps => ps.toList.map (·.2)
  | .store _ a v => [a, v]
  | .binOp _ _ a v _ => [a, v]
  | .makeSlice _ a v => [a, v]
  | .indexAddr _ a v => [a, v]
  | .index _ a v => [a, v]
  | .makeFunc _ f c => f.toList ++ c.toList
  | .slice _ x l h m => x :: (oList l ++ (oList h ++ oList m))
  | .call c => match c.callee with
    | .value f => f :: c.args.toList
    | .invoke f _ => f :: c.args.toList
    | .builtin _ => c.args.toList
  | o => o.operands.toList
def looks (all : List Oper) (o : Oper) : List Nat :=
  tmpsOf (opnds o.op) ++ (match o.guard with
    | some (g, _) => match guardOf all g with | some t => [t] | none => []
    | none => [])
def sepOne (h : Nat → Nat) (all : List Oper) (p : Nat) (op : Oper) : Nat → List Oper → Bool
  | _, [] => true
  | i, o :: l => (match op.dst with
      | none => true
      | some d => bif3 (Nat.beq i p) (!memN d (looks all o)) (!memO [d] o.dst && (hasDep p o.after.toList || !memN d (looks all o)))) &&
    (Nat.beq i p || (match o.dst with
      | none => true
      | some d => hasDep i op.after.toList || (!(calmOp (h i) o.op || isAlloc o.op) && hasDep p o.after.toList) || !memN d (looks all op))) && sepOne h all p op (i + 1) l
def sepAll (h : Nat → Nat) (all : List Oper) : Nat → List Oper → Bool
  | _, [] => true
  | i, o :: l => (bif3 (calmOp (h i) o.op || isAlloc o.op) (sepOne h all i o 0 all) true) && sepAll h all (i + 1) l
def okAllocs (C : Ctx) (all : List Oper) (V : List Nat) (σ : List Slot) : List Nat → Bool
  | [] => true
  | k :: l => (memN k V || (match nth all k with
    | some o => match o.dst, o.guard, o.op with
      | some d, none, .alloc T => ltb d σ.length && isDead (gs σ d) && !memN d C.fix && (match C.ty T with | some s => zeroable s | none => false)
      | _, _, _ => false
    | none => false)) && okAllocs C all V σ l
def allBelow (n : Nat) (V : List Nat) : Bool := match n with
  | 0 => true
  | n + 1 => memN n V && allBelow n V
def evalStep (C : Ctx) (rid : Nat) (all : List Oper) (i : Nat) (o : Oper) (σ : List Slot) (K : List Slot → Option R) : Option R :=
  bif3 (memO C.fix o.dst) none (match o.guard with
    | none => evalOp C (C.hint rid i) o σ K
    | some (j, b) => match guardOf all j with
      | none => none
      | some t => match gs σ t with
        | .undef => K (fin σ o.dst .undef)
        | .val .bool _ x =>
          if x = true then bif3 b (evalOp C (C.hint rid i) o (ps σ t (V1 .bool true)) K) (K (fin (ps σ t (V1 .bool true)) o.dst .undef))
          else bif3 b (K (fin (ps σ t (V1 .bool false)) o.dst .undef)) (evalOp C (C.hint rid i) o (ps σ t (V1 .bool false)) K)
        | _ => none)
def isRt : Slot → Bool
  | .val _ _ _ => true
  | .hol _ _ _ _ => true
  | .tup _ => true
  | _ => false
def hide : List Nat → List Slot → List Slot
  | [], σ => σ
  | r :: rs, σ => hide rs (put σ r .dead)
def hidden (rs : List Nat) (t : Nat) : Slot → Bool
  | .al r _ => memN r rs
  | .pl r _ => memN r rs
  | _ => memN t rs
def unhide (rs : List Nat) (d : Option Nat) : Nat → List Slot → List Slot → List Slot
  | t, s :: σ, s2 :: σ2 => bif3 (isDead s2 && hidden rs t s && !memO [t] d) s s2 :: unhide rs d (t + 1) σ σ2
  | _, _, σ2 => σ2
def okHid (σ : List Slot) (d : Option Nat) : List Nat → Bool
  | [] => true
  | r :: rs => isRt (gs σ r) && !memO [r] d && okHid σ d rs
def allDead (σ : List Slot) : List Nat → Bool
  | [] => true
  | r :: rs => isDead (gs σ r) && allDead σ rs
def evalHid (rs : List Nat) (d : Option Nat) (σ : List Slot) (G : List Slot → (List Slot → Option R) → Option R) (K : List Slot → Option R) : Option R :=
  bif3 (okHid σ d rs) (G (hide rs σ) fun σ2 => bif3 (allDead σ2 rs) (K (unhide rs d 0 σ σ2)) none) none
def notHol : Slot → Bool
  | .hol _ _ _ _ => false
  | _ => true
def safeSlot (σ : List Slot) (rs : List Nat) : Slot → Bool
  | .pl r _ => memN r rs
  | .al r _ => memN r rs && notHol (gs σ r)
  | .val (.ptr _) _ _ => true
  | .undef => true
  | _ => false
def depList : List Edge → List Nat
  | [] => []
  | e :: l => bif3 (Region.binds .any e) (e.on :: depList l) (depList l)
def depsOf (all : List Oper) (q : Nat) : List Nat := match nth all q with | some o => depList o.after.toList | none => []
def closeD (all : List Oper) : List Nat → List Nat → List Nat
  | [], A => A
  | q :: V, A => closeD all V (bif3 (memN q A) (depsOf all q ++ A) A)
def loadsSafe (all : List Oper) (σ : List Slot) (rs : List Nat) (after : List Nat) : List Nat → Bool
  | [] => true
  | p :: l => (match nth all p with
    | some o => match o.op with
      | .load _ x => memN p after || safeSlot σ rs (rdo σ none x)
      | _ => true
    | none => true) && loadsSafe all σ rs after l
def tie (x y : Option R) : Option R := @ite _ (x = y) (Classical.propDecidable _) x none
theorem tie_some {x y : Option R} {r : R} (h : tie x y = some r) : x = some r ∧ y = some r := by
  unfold tie at h
  split at h
  · rename_i e; exact ⟨h, by rw [← e]; exact h⟩
  · cases h
def waitTwo (V A : List Nat) (a b : Nat) : Nat → List Oper → Bool
  | _, [] => true
  | i, o :: l => (memN i V || isAlloc o.op || memN i [a, b] || !depsIn (V ++ A) o.after.toList) && waitTwo V A a b (i + 1) l
def drawW (C : Ctx) (rid : Nat) (all : List Oper) (A : List Nat) (i : Nat) (wt : Bool) (V : List Nat) (σ : List Slot) (K : List Slot → Option R) : Option R := match nth all i with
  | none => none
  | some o => bif3 (!memN i V && depsIn V o.after.toList && okAllocs C all V σ A) (bif3 (calmOp (C.hint rid i) o.op) none (bif3 (isAlloc o.op) none
      (bif3 (wt && loadsSafe all (pullA (C.hint rid i) o.op σ) (C.hid rid i) (closeD all V (depList o.after.toList)) V)
        (evalHid (C.hid rid i) o.dst (pullA (C.hint rid i) o.op σ) (evalStep C rid all i o) K) none))) none
def evalDraw (C : Ctx) (rid : Nat) (all : List Oper) (A : List Nat) : List Nat → List Nat → List Slot → (List Slot → Option R) → Option R
  | [], V, σ, K => bif3 (allBelow all.length V) (K σ) none
  | i :: rest, V, σ, K => match nth all i with
    | none => match rest with
      | a :: b :: rest => tie
        (drawW C rid all A a (waitTwo V A a b 0 all) V σ fun σ => drawW C rid all A b (waitAll (a :: V) A (some b) 0 all) (a :: V) σ fun σ => evalDraw C rid all A rest (b :: a :: V) σ K)
        (drawW C rid all A b (waitTwo V A a b 0 all) V σ fun σ => drawW C rid all A a (waitAll (b :: V) A (some a) 0 all) (b :: V) σ fun σ => evalDraw C rid all A rest (a :: b :: V) σ K)
      | _ => none
    | some o => bif3 (!memN i V && depsIn V o.after.toList && okAllocs C all V σ A)
      (bif3 (calmOp (C.hint rid i) o.op) (evalStep C rid all i o σ fun σ => evalDraw C rid all A rest (i :: V) σ K)
        (bif3 (isAlloc o.op) (bif3 (waitAll V (delN i A) none 0 all) (evalStep C rid all i o σ fun σ => evalDraw C rid all A rest (i :: V) σ K) none)
          (bif3 (waitAll V A (some i) 0 all && loadsSafe all (pullA (C.hint rid i) o.op σ) (C.hid rid i) (closeD all V (depList o.after.toList)) V)
            (evalHid (C.hid rid i) o.dst (pullA (C.hint rid i) o.op σ) (evalStep C rid all i o) fun σ => evalDraw C rid all A rest (i :: V) σ K) none))) none
def noSelect : List Oper → Bool
  | [] => true
  | o :: l => (match o.op with | .select _ _ => false | _ => true) && noSelect l
def evalRegion (C : Ctx) (rid : Nat) (ops : List Oper) (σ : List Slot) (K : List Slot → Option R) : Option R :=
  bif3 (noSelect ops && sepAll (C.hint rid) ops 0 ops) (evalDraw C rid ops (allocs 0 ops) (C.ord rid) [] σ K) none
inductive Ex where
  | normal | exit (id : Nat) | ret
def deads : List Slot → List Slot
  | [] => []
  | _ :: l => .dead :: deads l
def normK (σ : List Slot) : List (Nat × Option (S × M)) → List Nat → List Nat → List Slot → (List Slot → Option R) → Option R
  | [], _, _, acc, K => K acc
  | (t, none) :: l, dn, kp, acc, K => match gs σ t with
    | .al r p => bif3 (memN r kp) (bif3 (memN t dn) none (normK σ l (t :: dn) kp (ps acc t (.al r p)) K)) none
    | .pl r p => bif3 (memN r kp) (bif3 (memN t dn) none (normK σ l (t :: dn) kp (ps acc t (.pl r p)) K)) none
    | sl => bif3 (memN t dn) none (normK σ l (t :: dn) (t :: kp) (ps acc t sl) K)
  | (t, some (s', m')) :: l, dn, kp, acc, K => match gs σ t with
    | .val s m x => bif3 (le m' m) (bif3 (memN t dn) none (coer s s' x fun y => normK σ l (t :: dn) kp (ps acc t (.val s' m' y)) K)) none
    | _ => none
def kLoop (hd : List (Nat × Option (S × M))) (G : List Slot → Option R) (K : Ex → List Slot → Option R) : Ex → List Slot → Option R
  | .normal, σ => normK σ hd [] [] (deads σ) G
  | e, σ => K e σ
def loopN (hd : List (Nat × Option (S × M))) (B : List Slot → (Ex → List Slot → Option R) → Option R) : Nat → List Slot → (Ex → List Slot → Option R) → Option R
  | 0, _, _ => none
  | n + 1, σ, K => B σ (kLoop hd (fun σ => loopN hd B n σ K) K)
def rid : Code → Nat
  | .region id _ _ => id
  | .seq a _ => rid a
  | .block _ c => rid c
  | .loop c => rid c
  | .cond _ a _ => rid a
  | _ => 0
def kSeq (G : List Slot → Option R) (K : Ex → List Slot → Option R) : Ex → List Slot → Option R
  | .normal, σ => G σ
  | e, σ => K e σ
def kBlock (id : Nat) (K : Ex → List Slot → Option R) : Ex → List Slot → Option R
  | .exit i, σ => bif3 (i == id) (K .normal σ) (K (.exit i) σ)
  | e, σ => K e σ
def evalCode (C : Ctx) (fuel : Nat) : Code → List Slot → (Ex → List Slot → Option R) → Option R
  | .skip, σ, K => K .normal σ
  | .region id ops false, σ, K => evalOps C id ops.toList 0 ops.toList σ fun σ => K .normal σ
  | .region id ops true, σ, K => evalRegion C id ops.toList σ fun σ => K .normal σ
  | .seq a b, σ, K => evalCode C fuel a σ (kSeq (match C.jn (rid b) with
    | none => fun σ => evalCode C fuel b σ K
    | some hd => fun σ => normK σ hd [] [] (deads σ) fun σ => loopN hd (fun σ _ => evalCode C fuel b σ K) fuel σ K) K)
  | .cond c a b, σ, K => match (rdo σ none c).cont σ with
    | some ⟨.bool, _, t⟩ => if t = true then evalCode C fuel a σ K else evalCode C fuel b σ K
    | _ => none
  | .block id c, σ, K => evalCode C fuel c σ (kBlock id K)
  | .loop c, σ, K => normK σ (C.head (rid c)) [] [] (deads σ) fun σ => loopN (C.head (rid c)) (evalCode C fuel c) fuel σ K
  | .exit id, σ, K => K (.exit id) σ
  | .ret, σ, K => K .ret σ
  | _, _, _ => none
def codeAt : List Nat → Code → Code
  | [], c => c
  | 0 :: p, .seq a _ => codeAt p a
  | _ :: p, .seq _ b => codeAt p b
  | 0 :: p, .cond _ a _ => codeAt p a
  | _ :: p, .cond _ _ b => codeAt p b
  | _ :: p, .block _ c => codeAt p c
  | _ :: p, .loop c => codeAt p c
  | _ :: _, c => c
def params : List Comp → List Slot
  | [] => []
  | c :: cs => .val c.s c.m c.x :: params cs
def pads : Nat → List Slot
  | 0 => []
  | n + 1 => .dead :: pads n
def resSl (C : Ctx) (σ : List Slot) : ResultVar → Slot
  | .tmp t => rdt σ t
  | .cell t T => match gs σ t with
    | .val (.ptr s) _ _ => match C.ty T with
      | some s' => bif3 (sameS s s') (.al t [0]) .dead
      | none => .dead
    | _ => .dead
def resSls (C : Ctx) (σ : List Slot) : List ResultVar → List Slot
  | [] => []
  | v :: vs => resSl C σ v :: resSls C σ vs
def loanOut (σ : List Slot) : Nat → List PM → Option (List Comp)
  | _, [] => some []
  | j, .loan m :: pm => match gs σ j, loanOut σ (j + 1) pm with
    | .val s m' x, some l => bif3 (le m m' && le m' m) (some (⟨s, m, x⟩ :: l)) none
    | _, _ => none
  | j, _ :: pm => loanOut σ (j + 1) pm
def packLo : (lo : S) → List Comp → (El lo → Option R) → Option R
  | .unit, [], K => K ()
  | .pair a b, c :: c' :: l, K => coer c.s a c.x fun x => packLo b (c' :: l) fun y => K (x, y)
  | lo, [c], K => coer c.s lo c.x K
  | _, _, _ => none
def packRs : (nr : Nat) → (r : S) → M → List Comp → (El r → Option R) → Option R
  | 0, .unit, _, [], K => K ()
  | 1, r, m, [c], K => bif3 (le m c.m) (coer c.s r c.x K) none
  | n + 2, .pair a b, m, c :: cs, K => bif3 (le (prA m) c.m) (coer c.s a c.x fun x => packRs (n + 1) b (prB m) cs fun y => K (x, y)) none
  | _, _, _, _, _ => none
def unbox1 (σ : List Slot) (j : Nat) : List Slot := match gs σ j with
  | .al r p => match gs σ r with
    | .val s m x => match p with
      | [] => put (put σ r .dead) j (.val s m x)
      | _ => put (put σ r (.hol s m x p)) j (.val (subS s p) (subM s p m) (getP s p x))
    | _ => σ
  | _ => σ
def unbox : List Nat → List Slot → List Slot
  | [], σ => σ
  | j :: l, σ => unbox l (unbox1 σ j)
def kRet (C : Ctx) (fn : Func) (nr : Nat) (r : S) (mr : M) (pm : List PM) (lo : S) : Ex → List Slot → Option (El r × El lo)
  | .exit _, _ => none
  | _, σ => match takeAll (unbox C.fix σ) false (resSls C (unbox C.fix σ) fn.results.toList) with
    | some (cs, σ) => match loanOut σ 0 pm with
      | some ls => packRs nr r mr cs fun y => packLo lo ls fun l => some (y, l)
      | none => none
    | none => none
def body (fn : Func) : Code := match fn.body with | some c => c | none => .refuse ""
def evalFn (C : Ctx) (fuel : Nat) (fn : Func) (nr : Nat) (r : S) (mr : M) (pm : List PM) (lo : S) (args : List Comp) : Option (El r × El lo) :=
  evalCode C fuel (body fn) (params args ++ pads (fn.ntmps - args.length)) (kRet C fn nr r mr pm lo)
def st (n : Nat) : List (Nat × Slot) → List Slot
  | [] => pads n
  | (t, s) :: l => ps (st n l) t s
end Go.Ev

noncomputable section
namespace Go.Ev
abbrev I : S := .int .i64
def gd {R : Type} (c : Prop) (k : Option R) : Option R := @ite _ c (Classical.propDecidable c) k none
def ln {α : Type} (xs : List α) : Int := (xs.length : Int)
def w64 (x : Int) : Int := IntKind.i64.wrap x
def hintOf : List ((Nat × Nat) × Nat) → Nat → Nat → Nat
  | [], _, _ => 0
  | ((r, i), h) :: l, r', i' => bif3 (Nat.beq r r' && Nat.beq i i') h (hintOf l r' i')
def headOf : List (Nat × List (Nat × Option (S × M))) → Nat → List (Nat × Option (S × M))
  | [], _ => []
  | (r, h) :: l, r' => bif3 (Nat.beq r r') h (headOf l r')
def ordOf : List (Nat × List Nat) → Nat → List Nat
  | [], _ => []
  | (r, h) :: l, r' => bif3 (Nat.beq r r') h (ordOf l r')
def hidOf : List ((Nat × Nat) × List Nat) → Nat → Nat → List Nat
  | [], _, _ => []
  | ((r, i), h) :: l, r', i' => bif3 (Nat.beq r r' && Nat.beq i i') h (hidOf l r' i')
def jnOf : List (Nat × List (Nat × Option (S × M))) → Nat → Option (List (Nat × Option (S × M)))
  | [], _ => none
  | (r, h) :: l, r' => bif3 (Nat.beq r r') (some h) (jnOf l r')
def kAt {R : Type} (C : Ctx) (fuel : Nat) : List Nat → Code → List Nat → (Ex → List Slot → Option R) → Ex → List Slot → Option R
  | [], _, _, K => K
  | 0 :: p, .seq a b, ns, K => kAt C fuel p a ns (kSeq (match C.jn (rid b) with
    | none => fun σ => evalCode C fuel b σ K
    | some hd => fun σ => normK σ hd [] [] (deads σ) fun σ => loopN hd (fun σ _ => evalCode C fuel b σ K) fuel σ K) K)
  | _ :: p, .seq _ b, ns, K => kAt C fuel p b ns K
  | 0 :: p, .cond _ a _, ns, K => kAt C fuel p a ns K
  | _ :: p, .cond _ _ b, ns, K => kAt C fuel p b ns K
  | _ :: p, .block id c, ns, K => kAt C fuel p c ns (kBlock id K)
  | _ :: p, .loop c, n :: ns, K => kAt C fuel p c ns (kLoop (C.head (rid c)) (fun σ => loopN (C.head (rid c)) (evalCode C fuel c) n σ K) K)
  | _ :: _, _, _, K => K
end Go.Ev

noncomputable section
namespace Go.Ev
theorem bif3_some {R : Type} {b : Bool} {x : Option R} {res : R} (h : bif3 b x none = some res) : b = true ∧ x = some res := by
  cases b
  · cases h
  · exact ⟨rfl, h⟩
def At (w : World) (b off : Nat) (cs : List Value) : Prop := ∀ i v, cs[i]? = some v → w.cell? ⟨b, off + i, none⟩ = some v
def OwnB (w : World) (b n : Nat) : Prop := ∃ arr e, w.heap[b]? = some (.cells arr e (0, 0)) ∧ n ≤ arr.size
theorem cap_ne {α : Type} {xs : List α} {i c : Nat} {y : α} (h : xs[i]? = some y) (hl : xs.length ≤ c) : c ≠ 0 := by
  intro e
  rw [List.getElem?_eq_none (by omega)] at h
  cases h
def IsVal : S → Value → List Value → Prop
  | .agg _, v, cs => v = .agg cs.toArray
  | .pair _ _, _, _ => False
  | .unit, _, _ => False
  | _, v, cs => cs = [v]
def subH (h : Option (List Nat)) (i : Nat) : Option (List Nat) :=
  match h with
  | some (j :: q) => if i = j then some q else none
  | _ => none
def hole (h : Option (List Nat)) (cs : List Value) (n : Nat) (A : Prop) : Prop :=
  match h with
  | some [] => cs.length = n
  | _ => A
abbrev Col := Nat → Option (List Nat)
def Frm (w w' : World) (col : Col) : Prop :=
  w.heap.size ≤ w'.heap.size ∧ ∀ b, b < w.heap.size → col b = some [] → w'.heap[b]? = w.heap[b]?
abbrev RT (s : S) := World → Col → Option (List Nat) → List Nat → M → El s → List Value → Prop
abbrev AT (s : S) := World → Col → El s → List Value → Prop
def noc : Col := fun _ => some []
def Quiet (c : Option (List Nat)) : Prop := c = none ∨ c = some []
structure Out (w w' : World) : Prop where
  os : w'.os = w.os
  tape : w'.tape = w.tape
  output : w'.output = w.output
theorem Out.refl (w : World) : Out w w := ⟨rfl, rfl, rfl⟩
theorem Out.trans {a b c : World} (h : Out a b) (h' : Out b c) : Out a c := ⟨h'.os.trans h.os, h'.tape.trans h.tape, h'.output.trans h.output⟩
structure FrmQ (w w' : World) (col col' : Col) : Prop where
  sz : w.heap.size ≤ w'.heap.size
  mem : ∀ b, b < w.heap.size → Quiet (col b) → w'.heap[b]? = w.heap[b]?
  col : ∀ b, b < w.heap.size → Quiet (col b) → col' b = col b
  out : Out w w'
def CallOk (P : Program) (f : FuncId) : Prop := ∃ fn, P.funcs[f]? = some fn ∧ fn.body.isNone = false ∧ (fn.name == "runtime.NumGoroutine") = false
def fcells : (s : S) → El s → List Value
  | .int k, x => [.int k x]
  | .bool, x => [.bool x]
  | .str, x => [.string x]
  | .agg s, x => fcells s x
  | .pair a b, x => fcells a x.1 ++ fcells b x.2
  | _, _ => []
def fval : (s : S) → El s → Value
  | .agg s, x => .agg (fcells s x).toArray
  | .int k, x => .int k x
  | .bool, x => .bool x
  | .str, x => .string x
  | _, _ => .bool false
def ents (k v : S) (es : List MapEntry) (xs : List (El k × El v)) : Prop := es.map (fun e => (e.key, e.val)) = xs.map fun y => (fval k y.1, fval v y.2)
def one (s : S) (rep : RT s) : AT s := fun w col x vs => ∃ v ds, vs = [v] ∧ rep w col none [] .sh x ds ∧ IsVal s v ds
def FF (P : Program) : (s : S) → RT s × AT s
  | .unit => (fun _ _ _ _ _ _ cs => cs = [], fun _ _ _ vs => vs = [])
  | .int k =>
    let rep : RT (.int k) := fun _ _ h _ _ n cs => hole h cs 1 (cs = [.int k n])
    (rep, one _ rep)
  | .bool =>
    let rep : RT .bool := fun _ _ h _ _ b cs => hole h cs 1 (cs = [.bool b])
    (rep, one _ rep)
  | .str =>
    let rep : RT .str := fun _ _ h _ _ x cs => hole h cs 1 (cs = [.string x])
    (rep, one _ rep)
  | .slice nl s =>
    let r := (FF P s).1
    let rep : RT (.slice nl s) := fun w col h p m xs cs => hole h cs 1 (∃ a c, cs = [.slice a xs.length c] ∧ xs.length ≤ c ∧ (nl = true → xs = [] → a = none) ∧
      (a = none → xs = [] ∧ c = 0) ∧
      ∀ ad, a = some ad → (c ≠ 0 ∨ isOw m = true → ad.spot = none) ∧
        (isOw m = true → col ad.block = some p ∧ OwnB w ad.block (ad.off + c * size s)) ∧
        (isOw m = false → xs = [] ∨ (col ad.block = some [] ∧ ad.block < w.heap.size)) ∧
        ∀ i x, xs[i]? = some x → ∃ ds, At w ad.block (ad.off + i * size s) ds ∧ r w col (subH h i) (p ++ [i]) (elemM m) x ds)
    (rep, one _ rep)
  | .agg s =>
    let r := (FF P s).1
    let rep : RT (.agg s) := fun w col h p m x cs => hole h cs (size s) (r w col (subH h 0) (p ++ [0]) (agM m) x cs)
    (rep, one _ rep)
  | .pair a b =>
    let ra := (FF P a).1
    let rb := (FF P b).1
    let rep : RT (.pair a b) := fun w col h p m x cs => hole h cs (size a + size b) (∃ c1 c2, cs = c1 ++ c2 ∧ ra w col (subH h 0) (p ++ [0]) (prA m) x.1 c1 ∧ rb w col (subH h 1) (p ++ [1]) (prB m) x.2 c2)
    (rep, fun w col x vs => ∃ v ds vs', vs = v :: vs' ∧ ra w col none [] .sh x.1 ds ∧ IsVal a v ds ∧ (FF P b).2 w col x.2 vs')
  | .ptr s =>
    let r := (FF P s).1
    let rep : RT (.ptr s) := fun w col h p m x cs => hole h cs 1 (∃ ad ds, cs = [.pointer (some ad)] ∧ ad.spot = none ∧
        (isOw m = true → col ad.block = some p ∧ OwnB w ad.block (ad.off + size s)) ∧
        (isOw m = false → col ad.block = some [] ∧ ad.block < w.heap.size) ∧
        At w ad.block ad.off ds ∧ r w col (subH h 0) (p ++ [0]) (elemM m) x ds)
    (rep, one _ rep)
  | .func ps r =>
    let ar := (FF P ps).2
    let rr := (FF P r).1
    let rep : RT (.func ps r) := fun w col h _ _ g cs => hole h cs 1 (∃ fid cap, cs = [.func (.func fid) #[] cap] ∧ CallOk P fid ∧
      ∀ w' col', Frm w w' col → (∀ b, b < w.heap.size → col b = some [] → col' b = some []) → ∀ x vs, ar w' col' x vs → ∀ res, g x = some res → Calls P fid (vs.toArray ++ cap) w' fun e w'' =>
        ∃ v ds col'', e = .returned v ∧ IsVal r v ds ∧ FrmQ w' w'' col' col'' ∧ rr w'' col'' none [] .sh res ds)
    (rep, one _ rep)
  | .map k v =>
    let rep : RT (.map k v) := fun w col h p m xs cs => hole h cs 1 (∃ r es clock, cs = [.map (some r)] ∧ w.heap[r]? = some (.map es clock) ∧ ents k v es.toList xs ∧ (isOw m = true → col r = some p) ∧ (isOw m = false → col r = some []))
    (rep, one _ rep)
def Rep (P : Program) (s : S) : RT s := (FF P s).1
def Args (P : Program) (s : S) : AT s := (FF P s).2
variable {P : Program}
theorem At.frame {w w' : World} {b off : Nat} {cs : List Value} (h : At w b off cs) (e : w'.heap[b]? = w.heap[b]?) : At w' b off cs := by
  intro i v hi
  have := h i v hi
  unfold World.cell? at this ⊢
  simp only [e]
  exact this
theorem OwnB.frame {w w' : World} {b n : Nat} (h : OwnB w b n) (e : w'.heap[b]? = w.heap[b]?) : OwnB w' b n := by
  obtain ⟨arr, t, h1, h2⟩ := h
  exact ⟨arr, t, e.trans h1, h2⟩
theorem OwnB.lt {w : World} {b n : Nat} (h : OwnB w b n) : b < w.heap.size := by
  obtain ⟨arr, t, h1, _⟩ := h
  rcases Nat.lt_or_ge b w.heap.size with hlt | hge
  · exact hlt
  · rw [Array.getElem?_eq_none hge] at h1; cases h1
theorem Frm.trans' {w w1 w2 : World} {col col1 : Col} (h : Frm w w1 col) (h' : Frm w1 w2 col1) (hc : ∀ b, b < w.heap.size → col b = some [] → col1 b = some []) : Frm w w2 col :=
  ⟨Nat.le_trans h.1 h'.1, fun b hb hcb => (h'.2 b (Nat.lt_of_lt_of_le hb h.1) (hc b hb hcb)).trans (h.2 b hb hcb)⟩
theorem hole.imp {h : Option (List Nat)} {cs : List Value} {n : Nat} {A B : Prop} (H : hole h cs n A) (f : A → B) : hole h cs n B := by
  unfold hole at *
  split at H <;> first | exact H | exact f H
theorem noOwn_elemM {m : M} (h : noOwn m = true) : noOwn (elemM m) = true := by cases m <;> simp_all [noOwn, elemM]
theorem noOwn_prA {m : M} (h : noOwn m = true) : noOwn (prA m) = true := by cases m <;> simp_all [noOwn, prA]
theorem noOwn_prB {m : M} (h : noOwn m = true) : noOwn (prB m) = true := by cases m <;> simp_all [noOwn, prB]
theorem noOwn_agM {m : M} (h : noOwn m = true) : noOwn (agM m) = true := by cases m <;> simp_all [noOwn, agM]
theorem noOwn_isOw {m : M} (h : noOwn m = true) : isOw m = false := by cases m <;> simp_all [noOwn, isOw]
theorem noOwn_le : ∀ {a b : M}, noOwn a = true → le a b = true
  | .sh, b, _ => by cases b <;> rfl
  | .ow a, b, h => by simp [noOwn] at h
  | .ag a, b, h => by cases b <;> first | exact noOwn_le (a := a) h | exact h
  | .pr a c, b, h => by
    have h' : noOwn a = true ∧ noOwn c = true := by simpa [noOwn] using h
    cases b <;> first | exact h | simp [le, noOwn_le h'.1, noOwn_le h'.2]
theorem le_elemM {a b : M} (h : le a b = true) : le (elemM a) (elemM b) = true := by
  cases a <;> cases b <;> first | exact h | exact noOwn_le (noOwn_elemM h) | rfl
theorem le_prA {a b : M} (h : le a b = true) : le (prA a) (prA b) = true := by
  cases a <;> cases b <;> first | exact noOwn_le (noOwn_prA h) | (simp only [le, Bool.and_eq_true] at h; exact h.1) | rfl
theorem le_prB {a b : M} (h : le a b = true) : le (prB a) (prB b) = true := by
  cases a <;> cases b <;> first | exact noOwn_le (noOwn_prB h) | (simp only [le, Bool.and_eq_true] at h; exact h.2) | rfl
theorem le_agM {a b : M} (h : le a b = true) : le (agM a) (agM b) = true := by
  cases a <;> cases b <;> first | exact h | exact noOwn_le (noOwn_agM h) | rfl
theorem le_isOw {a b : M} (h : le a b = true) (ha : isOw a = true) : isOw b = true := by
  cases a <;> cases b <;> simp_all [le, isOw, noOwn]
theorem le_refl : ∀ a : M, le a a = true
  | .sh => rfl
  | .ow a => le_refl a
  | .pr a b => by simp [le, le_refl a, le_refl b]
  | .ag a => le_refl a
theorem le_noOwn : ∀ {a b : M}, le a b = true → noOwn b = true → noOwn a = true
  | .ow a, .ow b, _, h => by simp [noOwn] at h
  | .ag a, .ag b, h, h' => le_noOwn (a := a) (b := b) h h'
  | .pr a b, .pr c d, h, h' => by
    simp only [le, noOwn, Bool.and_eq_true] at *
    exact ⟨le_noOwn h.1 h'.1, le_noOwn h.2 h'.2⟩
  | .sh, _, _, _ => rfl
  | .ow _, .sh, h, _ => h
  | .ow _, .pr _ _, h, _ => h
  | .ow _, .ag _, h, _ => h
  | .pr _ _, .sh, h, _ => h
  | .pr _ _, .ow _, h, _ => h
  | .pr _ _, .ag _, h, _ => h
  | .ag _, .sh, h, _ => h
  | .ag _, .pr _ _, h, _ => h
  | .ag _, .ow _, h, _ => h
theorem le_trans : ∀ {a b c : M}, le a b = true → le b c = true → le a c = true
  | .ow a, .ow b, .ow c, h, h' => le_trans (a := a) (b := b) (c := c) h h'
  | .ag a, .ag b, .ag c, h, h' => le_trans (a := a) (b := b) (c := c) h h'
  | .pr a b, .pr c d, .pr e f, h, h' => by
    simp only [le, Bool.and_eq_true] at *
    exact ⟨le_trans h.1 h'.1, le_trans h.2 h'.2⟩
  | .sh, _, _, _, _ => noOwn_le rfl
  | .ow _, .sh, _, h, _ => by simp [le, noOwn] at h
  | .ow _, .pr _ _, _, h, _ => by simp [le, noOwn] at h
  | .ow _, .ag _, _, h, _ => by simp [le, noOwn] at h
  | .pr _ _, .sh, _, h, _ => noOwn_le h
  | .pr _ _, .ow _, _, h, _ => noOwn_le h
  | .pr _ _, .ag _, _, h, _ => noOwn_le h
  | .ag _, .sh, _, h, _ => noOwn_le h
  | .ag _, .pr _ _, _, h, _ => noOwn_le h
  | .ag _, .ow _, _, h, _ => noOwn_le h
  | .ow _, .ow _, .sh, _, h => by simp [le, noOwn] at h
  | .ow _, .ow _, .pr _ _, _, h => by simp [le, noOwn] at h
  | .ow _, .ow _, .ag _, _, h => by simp [le, noOwn] at h
  | .ag _, .ag _, .sh, h, h' => noOwn_le (le_noOwn h h')
  | .ag _, .ag _, .pr _ _, h, h' => noOwn_le (le_noOwn h h')
  | .ag _, .ag _, .ow _, h, h' => noOwn_le (le_noOwn h h')
  | .pr _ _, .pr _ _, .sh, h, h' => noOwn_le (le_noOwn h h')
  | .pr _ _, .pr _ _, .ow _, h, h' => noOwn_le (le_noOwn h h')
  | .pr _ _, .pr _ _, .ag _, h, h' => noOwn_le (le_noOwn h h')
structure Moves (s : S) (w w' : World) (col col' : Col) (p p' : List Nat) (m m' : M) : Prop where
  le : le m' m = true
  keep : ∀ b q, b < w.heap.size → col b = some (p ++ q) → ownAt s q m' = true → col' b = some (p' ++ q)
  free : ∀ b q, b < w.heap.size → col b = some (p ++ q) → ownAt s q m = true → ownAt s q m' = false → col' b = some []
  nil : ∀ b, b < w.heap.size → col b = some [] → col' b = some []
  mem : ∀ b, b < w.heap.size → (col b = some [] ∨ ∃ q, col b = some (p ++ q) ∧ ownAt s q m = true) → w'.heap[b]? = w.heap[b]?
  sz : w.heap.size ≤ w'.heap.size
theorem Rep.re : ∀ (s : S) {w w' : World} {col col' : Col} {h : Option (List Nat)} {p p' : List Nat} {m m' : M} {x : El s} {cs : List Value},
    Rep P s w col h p m x cs → Moves s w w' col col' p p' m m' → Rep P s w' col' h p' m' x cs := by
  intro s
  induction s with
  | unit => intro w w' col col' h p p' m m' x cs H _; exact H
  | int k => intro w w' col col' h p p' m m' x cs H _; exact H
  | bool => intro w w' col col' h p p' m m' x cs H _; exact H
  | str => intro w w' col col' h p p' m m' x cs H _; exact H
  | map k v =>
    intro w w' col col' h p p' m m' x cs H V
    refine hole.imp (show hole h cs 1 (∃ r es clock, cs = [.map (some r)] ∧ w.heap[r]? = some (.map es clock) ∧ ents k v es.toList x ∧ (isOw m = true → col r = some p) ∧ (isOw m = false → col r = some [])) from H) (fun H => ?_)
    obtain ⟨r, es, clock, e, hh, he, ho, hn⟩ := H
    have hlt : r < w.heap.size := (Array.getElem?_eq_some_iff.1 hh).1
    have hmem : w'.heap[r]? = w.heap[r]? := by
      refine V.mem _ hlt ?_
      cases hm : isOw m
      · exact .inl (hn hm)
      · exact .inr ⟨[], by simpa using ho hm, hm⟩
    refine ⟨r, es, clock, e, hmem.trans hh, he, fun hm' => ?_, fun hm' => ?_⟩
    · have hm := le_isOw V.le hm'
      simpa using V.keep _ [] hlt (by simpa using ho hm) hm'
    · cases hm : isOw m
      · exact V.nil _ hlt (hn hm)
      · exact V.free _ [] hlt (by simpa using ho hm) hm hm'
  | agg s ih =>
    intro w w' col col' h p p' m m' x cs H V
    refine hole.imp (show hole h cs (size s) (Rep P s w col (subH h 0) (p ++ [0]) (agM m) x cs) from H) (fun H => ?_)
    refine ih H ⟨le_agM V.le, ?_, ?_, V.nil, ?_, V.sz⟩
    · intro b q hb hc ho
      have := V.keep b (0 :: q) hb (by simpa using hc) ho
      simpa using this
    · intro b q hb hc ho hn
      exact V.free b (0 :: q) hb (by simpa using hc) ho hn
    · intro b hb hc
      refine V.mem b hb (hc.imp id fun ⟨q, h1, h2⟩ => ⟨0 :: q, by simpa using h1, h2⟩)
  | pair a b iha ihb =>
    intro w w' col col' h p p' m m' x cs H V
    refine hole.imp (show hole h cs (size a + size b) (∃ c1 c2, cs = c1 ++ c2 ∧ Rep P a w col (subH h 0) (p ++ [0]) (prA m) x.1 c1 ∧ Rep P b w col (subH h 1) (p ++ [1]) (prB m) x.2 c2) from H) (fun H => ?_)
    obtain ⟨c1, c2, e, H1, H2⟩ := H
    refine ⟨c1, c2, e, iha H1 ⟨le_prA V.le, ?_, ?_, V.nil, ?_, V.sz⟩, ihb H2 ⟨le_prB V.le, ?_, ?_, V.nil, ?_, V.sz⟩⟩
    · intro b q hb hc ho
      have := V.keep b (0 :: q) hb (by simpa using hc) ho
      simpa using this
    · intro b q hb hc ho hn
      exact V.free b (0 :: q) hb (by simpa using hc) ho hn
    · intro b hb hc
      refine V.mem b hb (hc.imp id fun ⟨q, h1, h2⟩ => ⟨0 :: q, by simpa using h1, h2⟩)
    · intro b q hb hc ho
      have := V.keep b (1 :: q) hb (by simpa using hc) ho
      simpa using this
    · intro b q hb hc ho hn
      exact V.free b (1 :: q) hb (by simpa using hc) ho hn
    · intro b hb hc
      refine V.mem b hb (hc.imp id fun ⟨q, h1, h2⟩ => ⟨1 :: q, by simpa using h1, h2⟩)
  | ptr s ih =>
    intro w w' col col' h p p' m m' x cs H V
    refine hole.imp (show hole h cs 1 (∃ ad ds, cs = [.pointer (some ad)] ∧ ad.spot = none ∧
        (isOw m = true → col ad.block = some p ∧ OwnB w ad.block (ad.off + size s)) ∧
        (isOw m = false → col ad.block = some [] ∧ ad.block < w.heap.size) ∧
        At w ad.block ad.off ds ∧ Rep P s w col (subH h 0) (p ++ [0]) (elemM m) x ds) from H) (fun H => ?_)
    obtain ⟨ad, ds, e, hs, ho, hn, ha, H⟩ := H
    have hlt : ad.block < w.heap.size := by
      cases hm : isOw m
      · exact (hn hm).2
      · exact (ho hm).2.lt
    have hmem : w'.heap[ad.block]? = w.heap[ad.block]? := by
      refine V.mem _ hlt ?_
      cases hm : isOw m
      · exact .inl (hn hm).1
      · exact .inr ⟨[], by simpa using (ho hm).1, hm⟩
    refine ⟨ad, ds, e, hs, fun hm' => ?_, fun hm' => ?_, ha.frame hmem, ih H ⟨le_elemM V.le, ?_, ?_, V.nil, ?_, V.sz⟩⟩
    · have hm := le_isOw V.le hm'
      exact ⟨by simpa using V.keep _ [] hlt (by simpa using (ho hm).1) hm', (ho hm).2.frame hmem⟩
    · refine ⟨?_, Nat.lt_of_lt_of_le hlt V.sz⟩
      cases hm : isOw m
      · exact V.nil _ hlt (hn hm).1
      · exact V.free _ [] hlt (by simpa using (ho hm).1) hm hm'
    · intro b q hb hc ho
      have := V.keep b (0 :: q) hb (by simpa using hc) ho
      simpa using this
    · intro b q hb hc ho hn
      exact V.free b (0 :: q) hb (by simpa using hc) ho hn
    · intro b hb hc
      refine V.mem b hb (hc.imp id fun ⟨q, h1, h2⟩ => ⟨0 :: q, by simpa using h1, h2⟩)
  | slice nl s ih =>
    intro w w' col col' h p p' m m' xs cs H V
    refine hole.imp (show hole h cs 1 (∃ a c, cs = [.slice a xs.length c] ∧ xs.length ≤ c ∧ (nl = true → xs = [] → a = none) ∧
      (a = none → xs = [] ∧ c = 0) ∧
      ∀ ad, a = some ad → (c ≠ 0 ∨ isOw m = true → ad.spot = none) ∧
        (isOw m = true → col ad.block = some p ∧ OwnB w ad.block (ad.off + c * size s)) ∧
        (isOw m = false → xs = [] ∨ (col ad.block = some [] ∧ ad.block < w.heap.size)) ∧
        ∀ i x, xs[i]? = some x → ∃ ds, At w ad.block (ad.off + i * size s) ds ∧ Rep P s w col (subH h i) (p ++ [i]) (elemM m) x ds) from H) (fun H => ?_)
    obtain ⟨a, c, e, hlen, hnl, hnone, H⟩ := H
    refine ⟨a, c, e, hlen, hnl, hnone, fun ad ha => ?_⟩
    obtain ⟨hs, ho, hn, hx⟩ := H ad ha
    have key : xs = [] ∨ (ad.block < w.heap.size ∧ w'.heap[ad.block]? = w.heap[ad.block]?) := by
      cases hm : isOw m
      · rcases hn hm with h | ⟨h1, h2⟩
        · exact .inl h
        · exact .inr ⟨h2, V.mem _ h2 (.inl h1)⟩
      · exact .inr ⟨(ho hm).2.lt, V.mem _ (ho hm).2.lt (.inr ⟨[], by simpa using (ho hm).1, hm⟩)⟩
    refine ⟨fun h => hs (h.imp id fun h => le_isOw V.le h), fun hm' => ?_, fun hm' => ?_, fun i x hi => ?_⟩
    · have hm := le_isOw V.le hm'
      have hlt := (ho hm).2.lt
      exact ⟨by simpa using V.keep _ [] hlt (by simpa using (ho hm).1) hm', (ho hm).2.frame (V.mem _ hlt (.inr ⟨[], by simpa using (ho hm).1, hm⟩))⟩
    · cases hm : isOw m
      · exact (hn hm).imp id fun ⟨h1, h2⟩ => ⟨V.nil _ h2 h1, Nat.lt_of_lt_of_le h2 V.sz⟩
      · have hlt := (ho hm).2.lt
        exact .inr ⟨V.free _ [] hlt (by simpa using (ho hm).1) hm hm', Nat.lt_of_lt_of_le hlt V.sz⟩
    · obtain ⟨ds, hat, hr⟩ := hx i x hi
      have hmem : w'.heap[ad.block]? = w.heap[ad.block]? := by
        rcases key with h | h
        · subst h; simp at hi
        · exact h.2
      refine ⟨ds, hat.frame hmem, ih hr ⟨le_elemM V.le, ?_, ?_, V.nil, ?_, V.sz⟩⟩
      · intro b q hb hc ho
        have := V.keep b (i :: q) hb (by simpa using hc) ho
        simpa using this
      · intro b q hb hc ho hn
        exact V.free b (i :: q) hb (by simpa using hc) ho hn
      · intro b hb hc
        refine V.mem b hb (hc.imp id fun ⟨q, h1, h2⟩ => ⟨i :: q, by simpa using h1, h2⟩)
  | func ps r ihp ihr =>
    intro w w' col col' h p p' m m' g cs H V
    refine hole.imp (show hole h cs 1 (∃ fid cap, cs = [.func (.func fid) #[] cap] ∧ CallOk P fid ∧
      ∀ w' col', Frm w w' col → (∀ b, b < w.heap.size → col b = some [] → col' b = some []) → ∀ x vs, Args P ps w' col' x vs → ∀ res, g x = some res → Calls P fid (vs.toArray ++ cap) w' fun e w'' =>
        ∃ v ds col'', e = .returned v ∧ IsVal r v ds ∧ FrmQ w' w'' col' col'' ∧ Rep P r w'' col'' none [] .sh res ds) from H) (fun H => ?_)
    obtain ⟨fid, cap, e, hco, H⟩ := H
    refine ⟨fid, cap, e, hco, fun w'' col'' hf hn => H w'' col'' ?_ (fun b hb hc => hn b (Nat.lt_of_lt_of_le hb V.sz) (V.nil b hb hc))⟩
    exact Frm.trans' ⟨V.sz, fun b hb hc => V.mem b hb (.inl hc)⟩ hf V.nil
end Go.Ev

noncomputable section
namespace Go.Ev
variable {P : Program}
theorem ownAt_noOwn : ∀ (s : S) (q : List Nat) {m : M}, noOwn m = true → ownAt s q m = false := by
  intro s
  induction s with
  | unit => intro q m h; cases q <;> rfl
  | int k => intro q m h; cases q <;> rfl
  | bool => intro q m h; cases q <;> rfl
  | str => intro q m h; cases q <;> rfl
  | func p r _ _ => intro q m h; cases q <;> rfl
  | map k v _ _ => intro q m h; cases q with
    | nil => exact noOwn_isOw h
    | cons i q => rfl
  | slice nl s ih => intro q m h; cases q with
    | nil => exact noOwn_isOw h
    | cons i q => exact ih q (noOwn_elemM h)
  | ptr s ih => intro q m h; cases q with
    | nil => exact noOwn_isOw h
    | cons i q => exact ih q (noOwn_elemM h)
  | agg s ih => intro q m h; cases q with
    | nil => rfl
    | cons i q => exact ih q (noOwn_agM h)
  | pair a b iha ihb => intro q m h; cases q with
    | nil => rfl
    | cons i q => cases i with
      | zero => exact iha q (noOwn_prA h)
      | succ i => exact ihb q (noOwn_prB h)
theorem Rep.toSh {s : S} {w : World} {col : Col} {h : Option (List Nat)} {p p' : List Nat} {m : M} {x : El s} {cs : List Value}
    (H : Rep P s w col h p m x cs) (hn : noOwn m = true) : Rep P s w col h p' .sh x cs := by
  refine H.re s ⟨rfl, ?_, ?_, fun _ _ h => h, fun _ _ _ => rfl, Nat.le_refl _⟩
  · intro b q _ _ ho; rw [ownAt_noOwn s q rfl] at ho; cases ho
  · intro b q _ _ ho; rw [ownAt_noOwn s q hn] at ho; cases ho
theorem Rep.path {s : S} {w : World} {col : Col} {h : Option (List Nat)} {p p' : List Nat} {m : M} {x : El s} {cs : List Value}
    (H : Rep P s w col h p m x cs) (hn : noOwn m = true) : Rep P s w col h p' m x cs := by
  refine H.re s ⟨le_refl _, ?_, ?_, fun _ _ h => h, fun _ _ _ => rfl, Nat.le_refl _⟩
  · intro b q _ _ ho; rw [ownAt_noOwn s q hn] at ho; cases ho
  · intro b q _ _ ho; rw [ownAt_noOwn s q hn] at ho; cases ho
structure Stays (s : S) (w w' : World) (col col' : Col) (p : List Nat) (m : M) : Prop where
  keep : ∀ b q, b < w.heap.size → col b = some (p ++ q) → ownAt s q m = true → col' b = some (p ++ q)
  nil : ∀ b, b < w.heap.size → col b = some [] → col' b = some []
  mem : ∀ b, b < w.heap.size → (col b = some [] ∨ ∃ q, col b = some (p ++ q) ∧ ownAt s q m = true) → w'.heap[b]? = w.heap[b]?
  sz : w.heap.size ≤ w'.heap.size
theorem Rep.stay {s : S} {w w' : World} {col col' : Col} {h : Option (List Nat)} {p : List Nat} {m : M} {x : El s} {cs : List Value}
    (H : Rep P s w col h p m x cs) (V : Stays s w w' col col' p m) : Rep P s w' col' h p m x cs :=
  H.re s ⟨le_refl _, V.keep, fun b q _ _ h1 h2 => (by rw [h1] at h2; cases h2), V.nil, V.mem, V.sz⟩
def okP : (s : S) → List Nat → El s → Prop
  | .unit, p, _ => p = []
  | .int _, p, _ => p = []
  | .bool, p, _ => p = []
  | .str, p, _ => p = []
  | .func _ _, p, _ => p = []
  | .map _ _, p, _ => p = []
  | .slice _ s, p, xs => match p with | [] => True | i :: p => ∃ y, (xs : List (El s))[i]? = some y ∧ okP s p y
  | .agg s, p, x => match p with | [] => True | i :: p => i = 0 ∧ okP s p x
  | .ptr s, p, x => match p with | [] => True | i :: p => i = 0 ∧ okP s p x
  | .pair a b, p, x => match p with | [] => True | i :: p => match i with | 0 => okP a p x.1 | 1 => okP b p x.2 | _ => False
theorem okP_nil : ∀ (s : S) (x : El s), okP s [] x := by intro s x; cases s <;> simp [okP]
def subHs : Option (List Nat) → List Nat → Option (List Nat)
  | h, [] => h
  | h, i :: p => subHs (subH h i) p
def offH : Option (List Nat) → List Nat → Prop
  | _, [] => True
  | h, i :: p => h ≠ some [] ∧ offH (subH h i) p
theorem offH_none : ∀ p, offH none p
  | [] => trivial
  | _ :: p => ⟨by simp, offH_none p⟩
theorem subHs_none : ∀ p, subHs none p = none
  | [] => rfl
  | _ :: p => subHs_none p
theorem offH_longer : ∀ {hp p : List Nat}, longer hp p = true → offH (some hp) p
  | _ :: _, [], _ => trivial
  | a :: hp, i :: p, h => by
    refine ⟨by simp, ?_⟩
    unfold subH
    simp only
    split
    · exact offH_longer (show longer hp p = true from h)
    · exact offH_none p
  | [], _, h => by simp [longer] at h
theorem hole.get {h : Option (List Nat)} {cs : List Value} {n : Nat} {A : Prop} (H : hole h cs n A) (hn : h ≠ some []) : A := by
  unfold hole at H
  split at H
  · exact absurd rfl hn
  · exact H
theorem hole.mk {h : Option (List Nat)} {cs : List Value} {n : Nat} {A : Prop} (H : A) (hn : h ≠ some []) : hole h cs n A := by
  unfold hole
  split
  · exact absurd rfl hn
  · exact H
theorem Rep.len : ∀ (s : S) {w : World} {col : Col} {h : Option (List Nat)} {p : List Nat} {m : M} {x : El s} {cs : List Value},
    Rep P s w col h p m x cs → cs.length = size s := by
  intro s
  induction s with
  | unit => intro w col h p m x cs H; have : cs = [] := H; simp [this, size]
  | int k => intro w col h p m x cs H; have H : hole h cs 1 (cs = [.int k x]) := H; unfold hole at H; split at H <;> simp [H, size]
  | bool => intro w col h p m x cs H; have H : hole h cs 1 (cs = [.bool x]) := H; unfold hole at H; split at H <;> simp [H, size]
  | str => intro w col h p m x cs H; have H : hole h cs 1 (cs = [.string x]) := H; unfold hole at H; split at H <;> simp [H, size]
  | func a b _ _ => intro w col h p m x cs H; replace H := show hole h cs 1 _ from H; unfold hole at H; split at H
                    · simp [H, size]
                    · obtain ⟨_, _, e, _⟩ := H; simp [e, size]
  | map k v _ _ => intro w col h p m x cs H; replace H := show hole h cs 1 _ from H; unfold hole at H; split at H
                   · simp [H, size]
                   · obtain ⟨_, _, _, e, _⟩ := H; simp [e, size]
  | slice nl s ih => intro w col h p m x cs H; replace H := show hole h cs 1 _ from H; unfold hole at H; split at H
                     · simp [H, size]
                     · obtain ⟨_, _, e, _⟩ := H; simp [e, size]
  | ptr s ih => intro w col h p m x cs H; replace H := show hole h cs 1 _ from H; unfold hole at H; split at H
                · simp [H, size]
                · obtain ⟨_, _, e, _⟩ := H; simp [e, size]
  | agg s ih => intro w col h p m x cs H; replace H := show hole h cs (size s) (Rep P s w col (subH h 0) (p ++ [0]) (agM m) x cs) from H; unfold hole at H; split at H
                · simp [H, size]
                · exact ih H
  | pair a b iha ihb =>
    intro w col h p m x cs H
    replace H := show hole h cs (size a + size b) (∃ c1 c2, cs = c1 ++ c2 ∧ Rep P a w col (subH h 0) (p ++ [0]) (prA m) x.1 c1 ∧ Rep P b w col (subH h 1) (p ++ [1]) (prB m) x.2 c2) from H
    unfold hole at H; split at H
    · simp [H, size]
    · obtain ⟨c1, c2, e, H1, H2⟩ := H
      simp [e, size, iha H1, ihb H2]
def Nav (w : World) : (s : S) → List Nat → List Value → Option Addr → List Value → Option Addr → Prop
  | .unit, p, cs, oa, cs', oa' => p = [] ∧ cs' = cs ∧ oa' = oa
  | .int _, p, cs, oa, cs', oa' => p = [] ∧ cs' = cs ∧ oa' = oa
  | .bool, p, cs, oa, cs', oa' => p = [] ∧ cs' = cs ∧ oa' = oa
  | .str, p, cs, oa, cs', oa' => p = [] ∧ cs' = cs ∧ oa' = oa
  | .func _ _, p, cs, oa, cs', oa' => p = [] ∧ cs' = cs ∧ oa' = oa
  | .map _ _, p, cs, oa, cs', oa' => p = [] ∧ cs' = cs ∧ oa' = oa
  | .agg s, p, cs, oa, cs', oa' => match p with
    | [] => cs' = cs ∧ oa' = oa
    | i :: p => i = 0 ∧ Nav w s p cs oa cs' oa'
  | .pair a b, p, cs, oa, cs', oa' => match p with
    | [] => cs' = cs ∧ oa' = oa
    | i :: p => ∃ c1 c2, cs = c1 ++ c2 ∧ c1.length = size a ∧ match i with
      | 0 => Nav w a p c1 oa cs' oa'
      | 1 => Nav w b p c2 (oa.map fun ad => ⟨ad.block, ad.off + size a, none⟩) cs' oa'
      | _ => False
  | .slice _ s, p, cs, oa, cs', oa' => match p with
    | [] => cs' = cs ∧ oa' = oa
    | i :: p => ∃ ad n c ds, cs = [.slice (some ad) n c] ∧ i < n ∧ ad.spot = none ∧ ds.length = size s ∧ At w ad.block (ad.off + i * size s) ds ∧
        Nav w s p ds (some ⟨ad.block, ad.off + i * size s, none⟩) cs' oa'
  | .ptr s, p, cs, oa, cs', oa' => match p with
    | [] => cs' = cs ∧ oa' = oa
    | i :: p => i = 0 ∧ ∃ ad ds, cs = [.pointer (some ad)] ∧ ad.spot = none ∧ ds.length = size s ∧ At w ad.block ad.off ds ∧ Nav w s p ds (some ad) cs' oa'
theorem Nav_nil (w : World) (s : S) (cs : List Value) (oa : Option Addr) : Nav w s [] cs oa cs oa := by cases s <;> simp [Nav]
theorem Nav_nil' {w : World} {s : S} {cs cs' : List Value} {oa oa' : Option Addr} (h : Nav w s [] cs oa cs' oa') : cs' = cs ∧ oa' = oa := by cases s <;> simpa [Nav] using h
theorem subS_nil (s : S) : subS s [] = s := by cases s <;> rfl
theorem getD_some {α : Type} {xs : List α} {i : Nat} {y d : α} (h : xs[i]? = some y) : xs.getD i d = y := by
  simp [List.getD, h]
theorem Rep.nav : ∀ (s : S) (p : List Nat) {w : World} {col : Col} {h : Option (List Nat)} {pth : List Nat} {m : M} {x : El s} {cs : List Value} {oa : Option Addr},
    Rep P s w col h pth m x cs → okP s p x → offH h p →
    ∃ cs' oa', Nav w s p cs oa cs' oa' ∧ Rep P (subS s p) w col (subHs h p) (pth ++ p) (subM s p m) (getP s p x) cs' := by
  have base : ∀ (s : S) {w : World} {col : Col} {h : Option (List Nat)} {pth : List Nat} {m : M} {x : El s} {cs : List Value} {oa : Option Addr},
      Rep P s w col h pth m x cs → ∃ cs' oa', Nav w s [] cs oa cs' oa' ∧ Rep P (subS s []) w col (subHs h []) (pth ++ []) (subM s [] m) (getP s [] x) cs' := by
    intro s w col h pth m x cs oa H
    refine ⟨cs, oa, Nav_nil w s cs oa, ?_⟩
    rw [List.append_nil]
    cases s <;> exact H
  intro s
  induction s with
  | unit => intro p w col h pth m x cs oa H ok off; obtain rfl : p = [] := ok; exact base _ H
  | int k => intro p w col h pth m x cs oa H ok off; obtain rfl : p = [] := ok; exact base _ H
  | bool => intro p w col h pth m x cs oa H ok off; obtain rfl : p = [] := ok; exact base _ H
  | str => intro p w col h pth m x cs oa H ok off; obtain rfl : p = [] := ok; exact base _ H
  | func _ _ _ _ => intro p w col h pth m x cs oa H ok off; obtain rfl : p = [] := ok; exact base _ H
  | map _ _ _ _ => intro p w col h pth m x cs oa H ok off; obtain rfl : p = [] := ok; exact base _ H
  | agg s ih =>
    intro p w col h pth m x cs oa H ok off
    cases p with
    | nil => exact base _ H
    | cons i p =>
      obtain ⟨rfl, ok⟩ := ok
      have H' := hole.get (show hole h cs (size s) (Rep P s w col (subH h 0) (pth ++ [0]) (agM m) x cs) from H) off.1
      obtain ⟨cs', oa', h1, h2⟩ := ih p (oa := oa) H' ok off.2
      refine ⟨cs', oa', ⟨rfl, h1⟩, ?_⟩
      rw [List.append_assoc] at h2
      exact h2
  | pair a b iha ihb =>
    intro p w col h pth m x cs oa H ok off
    cases p with
    | nil => exact base _ H
    | cons i p =>
      obtain ⟨c1, c2, e, H1, H2⟩ := hole.get (show hole h cs (size a + size b) (∃ c1 c2, cs = c1 ++ c2 ∧ Rep P a w col (subH h 0) (pth ++ [0]) (prA m) x.1 c1 ∧ Rep P b w col (subH h 1) (pth ++ [1]) (prB m) x.2 c2) from H) off.1
      match i with
      | 0 =>
        obtain ⟨cs', oa', h1, h2⟩ := iha p (oa := oa) H1 ok off.2
        refine ⟨cs', oa', ⟨c1, c2, e, H1.len, h1⟩, ?_⟩
        rw [List.append_assoc] at h2
        exact h2
      | 1 =>
        obtain ⟨cs', oa', h1, h2⟩ := ihb p (oa := oa.map fun ad => ⟨ad.block, ad.off + size a, none⟩) H2 ok off.2
        refine ⟨cs', oa', ⟨c1, c2, e, H1.len, h1⟩, ?_⟩
        rw [List.append_assoc] at h2
        exact h2
      | _ + 2 => exact absurd ok id
  | ptr s ih =>
    intro p w col h pth m x cs oa H ok off
    cases p with
    | nil => exact base _ H
    | cons i p =>
      obtain ⟨rfl, ok⟩ := ok
      obtain ⟨ad, ds, e, hs, ho, hn, ha, H'⟩ := hole.get (show hole h cs 1 (∃ ad ds, cs = [.pointer (some ad)] ∧ ad.spot = none ∧
        (isOw m = true → col ad.block = some pth ∧ OwnB w ad.block (ad.off + size s)) ∧
        (isOw m = false → col ad.block = some [] ∧ ad.block < w.heap.size) ∧
        At w ad.block ad.off ds ∧ Rep P s w col (subH h 0) (pth ++ [0]) (elemM m) x ds) from H) off.1
      obtain ⟨cs', oa', h1, h2⟩ := ih p (oa := some ad) H' ok off.2
      refine ⟨cs', oa', ⟨rfl, ad, ds, e, hs, H'.len, ha, h1⟩, ?_⟩
      rw [List.append_assoc] at h2
      exact h2
  | slice nl s ih =>
    intro p w col h pth m xs cs oa H ok off
    cases p with
    | nil => exact base _ H
    | cons i p =>
      obtain ⟨y, hy, ok⟩ := ok
      obtain ⟨a, c, e, hlen, hnl, hnone, H⟩ := hole.get (show hole h cs 1 (∃ a c, cs = [.slice a xs.length c] ∧ xs.length ≤ c ∧ (nl = true → xs = [] → a = none) ∧
        (a = none → xs = [] ∧ c = 0) ∧
        ∀ ad, a = some ad → (c ≠ 0 ∨ isOw m = true → ad.spot = none) ∧
        (isOw m = true → col ad.block = some pth ∧ OwnB w ad.block (ad.off + c * size s)) ∧
        (isOw m = false → xs = [] ∨ (col ad.block = some [] ∧ ad.block < w.heap.size)) ∧
        ∀ i x, xs[i]? = some x → ∃ ds, At w ad.block (ad.off + i * size s) ds ∧ Rep P s w col (subH h i) (pth ++ [i]) (elemM m) x ds) from H) off.1
      cases a with
      | none => have := (hnone rfl).1; subst this; simp at hy
      | some ad =>
        obtain ⟨hs, ho, hn, hx⟩ := H ad rfl
        obtain ⟨ds, hat, H'⟩ := hx i y hy
        obtain ⟨cs', oa', h1, h2⟩ := ih p (oa := some ⟨ad.block, ad.off + i * size s, none⟩) H' ok off.2
        have hi : i < xs.length := by
          rcases Nat.lt_or_ge i xs.length with h | h
          · exact h
          · rw [List.getElem?_eq_none h] at hy; cases hy
        refine ⟨cs', oa', ⟨ad, _, c, ds, e, hi, hs (.inl (cap_ne hy hlen)), H'.len, hat, h1⟩, ?_⟩
        rw [List.append_assoc] at h2
        have hg : getP (.slice nl s) (i :: p) xs = getP s p y := by
          show getP s p (xs.getD i (zero s)) = getP s p y
          rw [getD_some hy]
        rw [hg]
        exact h2
theorem At.unique {w : World} {b off : Nat} {cs cs' : List Value} (h : At w b off cs) (h' : At w b off cs') (hl : cs.length = cs'.length) : cs = cs' := by
  apply List.ext_getElem? 
  intro i
  rcases Nat.lt_or_ge i cs.length with hi | hi
  · have h1 := h i cs[i] (List.getElem?_eq_getElem hi)
    have h2 := h' i cs'[i] (List.getElem?_eq_getElem (hl ▸ hi))
    rw [List.getElem?_eq_getElem hi, List.getElem?_eq_getElem (hl ▸ hi)]
    rw [h1] at h2
    exact h2
  · rw [List.getElem?_eq_none hi, List.getElem?_eq_none (hl ▸ hi)]
theorem Nav.unique : ∀ (s : S) (p : List Nat) {w : World} {cs : List Value} {oa : Option Addr} {c1 c2 : List Value} {o1 o2 : Option Addr},
    Nav w s p cs oa c1 o1 → Nav w s p cs oa c2 o2 → c1 = c2 ∧ o1 = o2 := by
  intro s
  induction s with
  | unit => intro p w cs oa c1 c2 o1 o2 h h'; exact ⟨h.2.1.trans h'.2.1.symm, h.2.2.trans h'.2.2.symm⟩
  | int k => intro p w cs oa c1 c2 o1 o2 h h'; exact ⟨h.2.1.trans h'.2.1.symm, h.2.2.trans h'.2.2.symm⟩
  | bool => intro p w cs oa c1 c2 o1 o2 h h'; exact ⟨h.2.1.trans h'.2.1.symm, h.2.2.trans h'.2.2.symm⟩
  | str => intro p w cs oa c1 c2 o1 o2 h h'; exact ⟨h.2.1.trans h'.2.1.symm, h.2.2.trans h'.2.2.symm⟩
  | func a b _ _ => intro p w cs oa c1 c2 o1 o2 h h'; exact ⟨h.2.1.trans h'.2.1.symm, h.2.2.trans h'.2.2.symm⟩
  | map k v _ _ => intro p w cs oa c1 c2 o1 o2 h h'; exact ⟨h.2.1.trans h'.2.1.symm, h.2.2.trans h'.2.2.symm⟩
  | agg s ih =>
    intro p w cs oa c1 c2 o1 o2 h h'
    cases p with
    | nil => exact ⟨h.1.trans h'.1.symm, h.2.trans h'.2.symm⟩
    | cons i p => exact ih p h.2 h'.2
  | pair a b iha ihb =>
    intro p w cs oa c1 c2 o1 o2 h h'
    cases p with
    | nil => exact ⟨h.1.trans h'.1.symm, h.2.trans h'.2.symm⟩
    | cons i p =>
      obtain ⟨x1, x2, e, l, h⟩ := h
      obtain ⟨y1, y2, e', l', h'⟩ := h'
      have := List.append_inj (e.symm.trans e') (l.trans l'.symm)
      obtain ⟨rfl, rfl⟩ := this
      match i with
      | 0 => exact iha p h h'
      | 1 => exact ihb p h h'
      | _ + 2 => exact absurd h id
  | ptr s ih =>
    intro p w cs oa c1 c2 o1 o2 h h'
    cases p with
    | nil => exact ⟨h.1.trans h'.1.symm, h.2.trans h'.2.symm⟩
    | cons i p =>
      obtain ⟨_, ad, ds, e, _, l, a, h⟩ := h
      obtain ⟨_, ad', ds', e', _, l', a', h'⟩ := h'
      rw [e] at e'
      simp at e'
      subst e'
      have := a.unique a' (l.trans l'.symm)
      subst this
      exact ih p h h'
  | slice nl s ih =>
    intro p w cs oa c1 c2 o1 o2 h h'
    cases p with
    | nil => exact ⟨h.1.trans h'.1.symm, h.2.trans h'.2.symm⟩
    | cons i p =>
      obtain ⟨ad, n, c, ds, e, _, _, l, a, h⟩ := h
      obtain ⟨ad', n', c', ds', e', _, _, l', a', h'⟩ := h'
      rw [e] at e'
      simp at e'
      obtain ⟨rfl, rfl, rfl⟩ := e'
      have := a.unique a' (l.trans l'.symm)
      subst this
      exact ih p h h'
end Go.Ev

noncomputable section
namespace Go.Ev
variable {P : Program}
theorem length_ps : ∀ (σ : List Slot) (t : Nat) (y : Slot), (ps σ t y).length = σ.length
  | [], _, _ => rfl
  | _ :: _, 0, _ => rfl
  | s :: r, n + 1, y => by simp [ps, length_ps r n y]
theorem length_kill (d : Nat) : ∀ σ : List Slot, (kill d σ).length = σ.length
  | [] => rfl
  | s :: r => by simp [kill, length_kill d r]
theorem gs_ps_same : ∀ (σ : List Slot) (t : Nat) (y : Slot), t < σ.length → gs (ps σ t y) t = y
  | [], _, _, h => by simp at h
  | _ :: _, 0, _, _ => rfl
  | s :: r, n + 1, y, h => gs_ps_same r n y (by simpa using h)
theorem gs_ps_ne : ∀ (σ : List Slot) (t u : Nat) (y : Slot), u ≠ t → gs (ps σ t y) u = gs σ u
  | [], _, _, _, _ => rfl
  | _ :: _, 0, 0, _, h => absurd rfl h
  | _ :: _, 0, _ + 1, _, _ => rfl
  | _ :: _, _ + 1, 0, _, _ => rfl
  | s :: r, n + 1, u + 1, y, h => gs_ps_ne r n u y (by omega)
theorem gs_kill (d : Nat) : ∀ (σ : List Slot) (t : Nat), gs (kill d σ) t = bif3 ((gs σ t).isAl d) .dead (gs σ t)
  | [], _ => rfl
  | s :: r, 0 => rfl
  | s :: r, n + 1 => gs_kill d r n
theorem gs_map (f : Slot → Slot) (hf : f .dead = .dead) : ∀ (σ : List Slot) (t : Nat), gs (σ.map f) t = f (gs σ t)
  | [], _ => by simp [gs, hf]
  | s :: r, 0 => rfl
  | s :: r, n + 1 => gs_map f hf r n
theorem gs_out : ∀ (σ : List Slot) (t : Nat), σ.length ≤ t → gs σ t = .dead
  | [], _, _ => rfl
  | _ :: r, 0, h => by simp at h
  | _ :: r, n + 1, h => gs_out r n (by simpa using h)
theorem lt_of_gs {σ : List Slot} {t : Nat} {s : Slot} (h : gs σ t = s) (hs : s ≠ .dead) : t < σ.length := by
  rcases Nat.lt_or_ge t σ.length with h' | h'
  · exact h'
  · rw [gs_out σ t h'] at h; exact absurd h.symm hs
theorem length_put (σ : List Slot) (d : Nat) (y : Slot) : (put σ d y).length = σ.length := by simp [put, length_ps, length_kill]
inductive RootIs (σ : List Slot) (V : Nat → Value) (r : Nat) (p : List Nat) : Comp → Option (List Nat) → List Nat → List Nat → Value → Prop
  | val {s : S} {m : M} {x : El s} : gs σ r = .val s m x → RootIs σ V r p ⟨s, m, x⟩ none [r] p (V r)
  | hol {s : S} {m : M} {x : El s} {hp : List Nat} : gs σ r = .hol s m x hp → offH (some hp) p → RootIs σ V r p ⟨s, m, x⟩ (some hp) [r] p (V r)
  | tup {cs : List (Option Comp)} {i : Nat} {q : List Nat} {c : Comp} {vs : Array Value} {v : Value} : gs σ r = .tup cs → p = i :: q → nth cs i = some (some c) →
      V r = .tuple vs → vs[i]? = some v → RootIs σ V r p c none [r, i] q v
theorem RootIs.off {σ : List Slot} {V : Nat → Value} {r : Nat} {p : List Nat} {c : Comp} {h : Option (List Nat)} {pth q : List Nat} {u : Value}
    (H : RootIs σ V r p c h pth q u) : offH h q := by
  cases H with
  | val => exact offH_none _
  | hol _ h => exact h
  | tup => exact offH_none _
theorem RootIs.ctx {σ σ' : List Slot} {V V' : Nat → Value} {r : Nat} {p : List Nat} {c : Comp} {h : Option (List Nat)} {pth q : List Nat} {u : Value}
    (H : RootIs σ V r p c h pth q u) (hg : gs σ' r = gs σ r) (hv : V' r = V r) : RootIs σ' V' r p c h pth q u := by
  cases H with
  | val e => rw [← hv]; exact .val (hg.trans e)
  | hol e h => rw [← hv]; exact .hol (hg.trans e) h
  | tup e e2 e3 e4 e5 => exact .tup (hg.trans e) e2 e3 (hv.trans e4) e5
def Copy (w : World) (c : Comp) (q : List Nat) (u v : Value) : Prop :=
  okP c.s q c.x ∧ ∃ cs cs' oa', IsVal c.s u cs ∧ Nav w c.s q cs none cs' oa' ∧ IsVal (subS c.s q) v cs'
def Place (w : World) (c : Comp) (q : List Nat) (u v : Value) : Prop :=
  okP c.s q c.x ∧ ∃ cs cs' ad, IsVal c.s u cs ∧ Nav w c.s q cs none cs' (some ad) ∧ v = .pointer (some ad)
def AlOk (w : World) (σ : List Slot) (V : Nat → Value) (r : Nat) (p : List Nat) (v : Value) : Prop :=
  (∃ cs, gs σ r = .tup cs ∧ p = [] ∧ v = V r) ∨ ∃ c h pth q u, RootIs σ V r p c h pth q u ∧ Copy w c q u v
def PlOk (w : World) (σ : List Slot) (V : Nat → Value) (r : Nat) (p : List Nat) (v : Value) : Prop :=
  ∃ c h pth q u, RootIs σ V r p c h pth q u ∧ Place w c q u v
def RootOk (P : Program) (w : World) (col : Col) (t : Nat) (v : Value) : Slot → Prop
  | .val s m x => ∃ cs, Rep P s w col none [t] m x cs ∧ IsVal s v cs
  | .hol s m x hp => hp ≠ [] ∧ ∃ cs, Rep P s w col (some hp) [t] m x cs ∧ IsVal s v cs
  | .tup comps => ∃ vs, v = .tuple vs ∧ ∀ i c, nth comps i = some (some c) → ∃ u cs, vs[i]? = some u ∧ Rep P c.s w col none [t, i] c.m c.x cs ∧ IsVal c.s u cs
  | .undef => v = Go.undef
  | _ => True
def SlotOk (P : Program) (w : World) (col : Col) (σ : List Slot) (V : Nat → Value) (t : Nat) : Slot → Prop
  | .al r p => r ≠ t ∧ AlOk w σ V r p (V t)
  | .pl r p => r ≠ t ∧ PlOk w σ V r p (V t)
  | s => RootOk P w col t (V t) s
structure Base where
  w : World
  col : Col
def Act.V (a : Act) : Nat → Value := fun t => a.tmps.getD t undef
structure InvC (P : Program) (B : Base) (col : Col) (σ : List Slot) (a : Act) (w : World) : Prop where
  len : a.tmps.size = σ.length
  dfr : a.defers = []
  frm : FrmQ B.w w B.col col
  ok : ∀ t, SlotOk P w col σ (Act.V a) t (gs σ t)
def Inv (P : Program) (B : Base) (σ : List Slot) (a : Act) (w : World) : Prop := ∃ col, InvC P B col σ a w
theorem V_put_same {a : Act} {d : Nat} {v : Value} (h : d < a.tmps.size) : Act.V (a.put (some d) v) d = v := by
  simp [Act.V, Act.put, Array.getD_eq_getD_getElem?, Array.getElem?_setIfInBounds, h]
theorem V_put_ne {a : Act} {d t : Nat} {v : Value} (h : t ≠ d) : Act.V (a.put (some d) v) t = Act.V a t := by
  have : d ≠ t := fun e => h e.symm
  simp [Act.V, Act.put, Array.getD_eq_getD_getElem?, Array.getElem?_setIfInBounds, this]
theorem RootOk.kept {w : World} {col : Col} {σ : List Slot} {V : Nat → Value} {t : Nat} {v : Value} {s : Slot} (h : RootOk P w col t v s) {V' : Nat → Value} : RootOk P w col t v s := h
theorem AlOk.ctx {w : World} {σ σ' : List Slot} {V V' : Nat → Value} {r : Nat} {p : List Nat} {v : Value} (h : AlOk w σ V r p v)
    (hg : gs σ' r = gs σ r) (hv : V' r = V r) : AlOk w σ' V' r p v := by
  rcases h with ⟨cs, e, hp, e2⟩ | ⟨c, hh, pth, q, u, hr, hc⟩
  · exact .inl ⟨cs, hg.trans e, hp, e2.trans hv.symm⟩
  · exact .inr ⟨c, hh, pth, q, u, hr.ctx hg hv, hc⟩
theorem PlOk.ctx {w : World} {σ σ' : List Slot} {V V' : Nat → Value} {r : Nat} {p : List Nat} {v : Value} (h : PlOk w σ V r p v)
    (hg : gs σ' r = gs σ r) (hv : V' r = V r) : PlOk w σ' V' r p v := by
  obtain ⟨c, hh, pth, q, u, hr, hc⟩ := h
  exact ⟨c, hh, pth, q, u, hr.ctx hg hv, hc⟩
def Slot.isRoot : Slot → Bool
  | .val _ _ _ | .tup _ | .hol _ _ _ _ => true
  | _ => false
theorem RootIs.isRoot {σ : List Slot} {V : Nat → Value} {r : Nat} {p : List Nat} {c : Comp} {h : Option (List Nat)} {pth q : List Nat} {u : Value}
    (H : RootIs σ V r p c h pth q u) : (gs σ r).isRoot = true := by
  cases H with
  | val e => rw [e]; rfl
  | hol e => rw [e]; rfl
  | tup e => rw [e]; rfl
theorem AlOk.isRoot {w : World} {σ : List Slot} {V : Nat → Value} {r : Nat} {p : List Nat} {v : Value} (h : AlOk w σ V r p v) : (gs σ r).isRoot = true := by
  rcases h with ⟨cs, e, _⟩ | ⟨c, hh, pth, q, u, hr, hc⟩
  · rw [e]; rfl
  · exact hr.isRoot
theorem PlOk.isRoot {w : World} {σ : List Slot} {V : Nat → Value} {r : Nat} {p : List Nat} {v : Value} (h : PlOk w σ V r p v) : (gs σ r).isRoot = true := by
  obtain ⟨c, hh, pth, q, u, hr, hc⟩ := h
  exact hr.isRoot
theorem isRoot_isAl {s : Slot} (h : s.isRoot = true) (d : Nat) : s.isAl d = false := by cases s <;> simp_all [Slot.isRoot, Slot.isAl]
theorem SlotOk.put_ne {w : World} {col : Col} {σ : List Slot} {a : Act} {d t : Nat} {v : Value} {y : Slot}
    (h : SlotOk P w col σ (Act.V a) t (gs σ t)) (hne : t ≠ d) : SlotOk P w col (put σ d y) (Act.V (a.put (some d) v)) t (gs (put σ d y) t) := by
  have hgt : gs (put σ d y) t = bif3 ((gs σ t).isAl d) .dead (gs σ t) := by
    unfold put; rw [gs_ps_ne _ _ _ _ hne, gs_kill]
  have hroot : ∀ r, r ≠ d → (gs σ r).isRoot = true → gs (put σ d y) r = gs σ r := by
    intro r hr hro
    unfold put; rw [gs_ps_ne _ _ _ _ hr, gs_kill, isRoot_isAl hro]
  rw [hgt]
  cases hs : gs σ t with
  | dead => trivial
  | undef =>
    rw [hs] at h
    show RootOk P w col t (Act.V (a.put (some d) v) t) .undef
    rw [V_put_ne hne]; exact h
  | val s m x =>
    rw [hs] at h
    show RootOk P w col t (Act.V (a.put (some d) v) t) (.val s m x)
    rw [V_put_ne hne]; exact h
  | hol s m x hp =>
    rw [hs] at h
    show RootOk P w col t (Act.V (a.put (some d) v) t) (.hol s m x hp)
    rw [V_put_ne hne]; exact h
  | tup cs =>
    rw [hs] at h
    show RootOk P w col t (Act.V (a.put (some d) v) t) (.tup cs)
    rw [V_put_ne hne]; exact h
  | al r p =>
    rw [hs] at h
    by_cases hr : r = d
    · simp [hr, SlotOk, RootOk, Slot.isAl, bif3]
    · have : (r == d) = false := by simpa using hr
      simp only [Slot.isAl, this, bif3]
      refine ⟨h.1, ?_⟩
      rw [V_put_ne hne]
      exact h.2.ctx (hroot r hr h.2.isRoot) (V_put_ne hr)
  | pl r p =>
    rw [hs] at h
    by_cases hr : r = d
    · simp [hr, SlotOk, RootOk, Slot.isAl, bif3]
    · have : (r == d) = false := by simpa using hr
      simp only [Slot.isAl, this, bif3]
      refine ⟨h.1, ?_⟩
      rw [V_put_ne hne]
      exact h.2.ctx (hroot r hr h.2.isRoot) (V_put_ne hr)
def NewOk (P : Program) (w : World) (col : Col) (σ : List Slot) (a : Act) (d : Nat) (v : Value) : Slot → Prop
  | .al r p => AlOk w σ (Act.V a) r p v
  | .pl r p => PlOk w σ (Act.V a) r p v
  | s => RootOk P w col d v s
theorem InvC.put {B : Base} {col : Col} {σ : List Slot} {a : Act} {w : World} (I : InvC P B col σ a w) {d : Nat} {v : Value} {y : Slot}
    (h : NewOk P w col σ a d v y) : InvC P B col (put σ d y) (a.put (some d) v) w := by
  refine ⟨?_, I.dfr, I.frm, fun t => ?_⟩
  · rw [length_put, ← I.len]; simp [Act.put]
  · by_cases ht : t = d
    · subst ht
      by_cases hlt : t < σ.length
      · have hlt' : t < a.tmps.size := by rw [I.len]; exact hlt
        have hg : gs (Ev.put σ t y) t = bif3 (y.isAl t) .dead y := by
          unfold Ev.put; exact gs_ps_same _ _ _ (by rw [length_kill]; exact hlt)
        have hroot : ∀ r, r ≠ t → (gs σ r).isRoot = true → gs (Ev.put σ t y) r = gs σ r := by
          intro r hr hro
          unfold Ev.put; rw [gs_ps_ne _ _ _ _ hr, gs_kill, isRoot_isAl hro]
        rw [hg]
        cases y with
        | dead => simp [Slot.isAl, bif3, SlotOk, RootOk]
        | undef => show RootOk P w col t (Act.V (a.put (some t) v) t) .undef; rw [V_put_same hlt']; exact h
        | val s m x => show RootOk P w col t (Act.V (a.put (some t) v) t) (.val s m x); rw [V_put_same hlt']; exact h
        | hol s m x hp => show RootOk P w col t (Act.V (a.put (some t) v) t) (.hol s m x hp); rw [V_put_same hlt']; exact h
        | tup cs => show RootOk P w col t (Act.V (a.put (some t) v) t) (.tup cs); rw [V_put_same hlt']; exact h
        | al r p =>
          by_cases hr : r = t
          · simp [Slot.isAl, hr, bif3, SlotOk, RootOk]
          · have e : (r == t) = false := by simpa using hr
            simp only [Slot.isAl, e, bif3]
            refine ⟨hr, ?_⟩
            rw [V_put_same hlt']
            exact AlOk.ctx h (hroot r hr (AlOk.isRoot h)) (V_put_ne hr)
        | pl r p =>
          by_cases hr : r = t
          · simp [Slot.isAl, hr, bif3, SlotOk, RootOk]
          · have e : (r == t) = false := by simpa using hr
            simp only [Slot.isAl, e, bif3]
            refine ⟨hr, ?_⟩
            rw [V_put_same hlt']
            exact PlOk.ctx h (hroot r hr (PlOk.isRoot h)) (V_put_ne hr)
      · rw [gs_out _ _ (by rw [length_put]; omega)]; trivial
    · exact (I.ok t).put_ne ht
theorem InvC.fin {B : Base} {col : Col} {σ : List Slot} {a : Act} {w : World} (I : InvC P B col σ a w) {d : Option Nat} {v : Value} {y : Slot}
    (h : ∀ d', d = some d' → NewOk P w col σ a d' v y) : InvC P B col (fin σ d y) (a.put d v) w := by
  cases d with
  | none => exact I
  | some d => exact I.put (h d rfl)
theorem At.frame' {w w' : World} {b off : Nat} {cs : List Value} (h : At w b off cs) (e : b < w.heap.size → w'.heap[b]? = w.heap[b]?) : At w' b off cs := by
  intro i v hi
  have := h i v hi
  have hlt : b < w.heap.size := by
    rcases Nat.lt_or_ge b w.heap.size with h | h
    · exact h
    · unfold World.cell? at this; simp only [Array.getElem?_eq_none h] at this; cases this
  unfold World.cell? at this ⊢
  simp only [e hlt]
  exact this
theorem Nav.grow : ∀ (s : S) (p : List Nat) {w w' : World} {cs cs' : List Value} {oa oa' : Option Addr}, Nav w s p cs oa cs' oa' →
    (∀ b, b < w.heap.size → w'.heap[b]? = w.heap[b]?) → Nav w' s p cs oa cs' oa' := by
  intro s
  induction s with
  | unit => intro p w w' cs cs' oa oa' h _; exact h
  | int k => intro p w w' cs cs' oa oa' h _; exact h
  | bool => intro p w w' cs cs' oa oa' h _; exact h
  | str => intro p w w' cs cs' oa oa' h _; exact h
  | func a b _ _ => intro p w w' cs cs' oa oa' h _; exact h
  | map k v _ _ => intro p w w' cs cs' oa oa' h _; exact h
  | agg s ih =>
    intro p w w' cs cs' oa oa' h e
    cases p with
    | nil => exact h
    | cons i p => exact ⟨h.1, ih p h.2 e⟩
  | pair a b iha ihb =>
    intro p w w' cs cs' oa oa' h e
    cases p with
    | nil => exact h
    | cons i p =>
      obtain ⟨c1, c2, e1, e2, h⟩ := h
      refine ⟨c1, c2, e1, e2, ?_⟩
      match i with
      | 0 => exact iha p h e
      | 1 => exact ihb p h e
      | _ + 2 => exact absurd h id
  | ptr s ih =>
    intro p w w' cs cs' oa oa' h e
    cases p with
    | nil => exact h
    | cons i p =>
      obtain ⟨e0, ad, ds, e1, e2, e3, ha, h⟩ := h
      exact ⟨e0, ad, ds, e1, e2, e3, ha.frame' (e _), ih p h e⟩
  | slice nl s ih =>
    intro p w w' cs cs' oa oa' h e
    cases p with
    | nil => exact h
    | cons i p =>
      obtain ⟨ad, n, c, ds, e0, e1, e2, e3, ha, h⟩ := h
      exact ⟨ad, n, c, ds, e0, e1, e2, e3, ha.frame' (e _), ih p h e⟩
theorem Copy.grow {w w' : World} {c : Comp} {q : List Nat} {u v : Value} (h : Copy w c q u v) (e : ∀ b, b < w.heap.size → w'.heap[b]? = w.heap[b]?) : Copy w' c q u v := by
  obtain ⟨h1, cs, cs', oa, h2, h3, h4⟩ := h
  exact ⟨h1, cs, cs', oa, h2, h3.grow _ _ e, h4⟩
theorem Place.grow {w w' : World} {c : Comp} {q : List Nat} {u v : Value} (h : Place w c q u v) (e : ∀ b, b < w.heap.size → w'.heap[b]? = w.heap[b]?) : Place w' c q u v := by
  obtain ⟨h1, cs, cs', oa, h2, h3, h4⟩ := h
  exact ⟨h1, cs, cs', oa, h2, h3.grow _ _ e, h4⟩
structure Grown (w w' : World) (col col' : Col) : Prop where
  sz : w.heap.size ≤ w'.heap.size
  mem : ∀ b, b < w.heap.size → w'.heap[b]? = w.heap[b]?
  col : ∀ b, b < w.heap.size → col' b = col b
  out : Out w w'
theorem Rep.grow {s : S} {w w' : World} {col col' : Col} {h : Option (List Nat)} {p : List Nat} {m : M} {x : El s} {cs : List Value}
    (H : Rep P s w col h p m x cs) (G : Grown w w' col col') : Rep P s w' col' h p m x cs :=
  H.stay ⟨fun b q hb hc _ => (G.col b hb).trans hc, fun b hb hc => (G.col b hb).trans hc, fun b hb _ => G.mem b hb, G.sz⟩
theorem RootOk.grow {w w' : World} {col col' : Col} {t : Nat} {v : Value} {s : Slot} (h : RootOk P w col t v s) (G : Grown w w' col col') : RootOk P w' col' t v s := by
  cases s with
  | dead => trivial
  | undef => exact h
  | al r p => trivial
  | pl r p => trivial
  | val s m x => obtain ⟨cs, h1, h2⟩ := h; exact ⟨cs, h1.grow G, h2⟩
  | hol s m x hp => obtain ⟨h0, cs, h1, h2⟩ := h; exact ⟨h0, cs, h1.grow G, h2⟩
  | tup cs =>
    obtain ⟨vs, e, h⟩ := h
    refine ⟨vs, e, fun i c hi => ?_⟩
    obtain ⟨u, cs', h1, h2, h3⟩ := h i c hi
    exact ⟨u, cs', h1, h2.grow G, h3⟩
theorem AlOk.grow {w w' : World} {σ : List Slot} {V : Nat → Value} {r : Nat} {p : List Nat} {v : Value} (h : AlOk w σ V r p v) (e : ∀ b, b < w.heap.size → w'.heap[b]? = w.heap[b]?) : AlOk w' σ V r p v := by
  rcases h with h | ⟨c, hh, pth, q, u, hr, hc⟩
  · exact .inl h
  · exact .inr ⟨c, hh, pth, q, u, hr, hc.grow e⟩
theorem PlOk.grow {w w' : World} {σ : List Slot} {V : Nat → Value} {r : Nat} {p : List Nat} {v : Value} (h : PlOk w σ V r p v) (e : ∀ b, b < w.heap.size → w'.heap[b]? = w.heap[b]?) : PlOk w' σ V r p v := by
  obtain ⟨c, hh, pth, q, u, hr, hc⟩ := h
  exact ⟨c, hh, pth, q, u, hr, hc.grow e⟩
theorem InvC.grow {B : Base} {col col' : Col} {σ : List Slot} {a : Act} {w w' : World} (I : InvC P B col σ a w) (G : Grown w w' col col') : InvC P B col' σ a w' := by
  refine ⟨I.len, I.dfr, ⟨Nat.le_trans I.frm.sz G.sz, fun b hb hc => (G.mem b (Nat.lt_of_lt_of_le hb I.frm.sz)).trans (I.frm.mem b hb hc), fun b hb hc => (G.col b (Nat.lt_of_lt_of_le hb I.frm.sz)).trans (I.frm.col b hb hc), I.frm.out.trans G.out⟩, fun t => ?_⟩
  have h := I.ok t
  cases hs : gs σ t with
  | dead => trivial
  | undef => rw [hs] at h; exact h
  | val s m x => rw [hs] at h; exact RootOk.grow (s := .val s m x) h G
  | hol s m x hp => rw [hs] at h; exact RootOk.grow (s := .hol s m x hp) h G
  | tup cs => rw [hs] at h; exact RootOk.grow (s := .tup cs) h G
  | al r p => rw [hs] at h; exact ⟨h.1, h.2.grow G.mem⟩
  | pl r p => rw [hs] at h; exact ⟨h.1, h.2.grow G.mem⟩
theorem Grown.refl (w : World) (col : Col) : Grown w w col col := ⟨Nat.le_refl _, fun _ _ => rfl, fun _ _ => rfl, .refl _⟩
end Go.Ev

noncomputable section
namespace Go.Ev
variable {P : Program}
theorem IsVal.unique {s : S} {v : Value} {cs cs' : List Value} (h : IsVal s v cs) (h' : IsVal s v cs') : cs = cs' := by
  cases s <;> simp_all [IsVal]
theorem IsVal.value {s : S} {v v' : Value} {cs : List Value} (h : IsVal s v cs) (h' : IsVal s v' cs) : v = v' := by
  cases s <;> simp_all [IsVal]
theorem InvC.root {B : Base} {col : Col} {σ : List Slot} {a : Act} {w : World} (I : InvC P B col σ a w) {r : Nat} {p : List Nat} {c : Comp} {h : Option (List Nat)} {pth q : List Nat} {u : Value}
    (H : RootIs σ (Act.V a) r p c h pth q u) : ∃ cs, Rep P c.s w col h pth c.m c.x cs ∧ IsVal c.s u cs := by
  have hk := I.ok r
  cases H with
  | val e => rw [e] at hk; exact hk
  | hol e _ => rw [e] at hk; exact hk.2
  | tup e e2 e3 e4 e5 =>
    rw [e] at hk
    obtain ⟨vs, hv, hk⟩ := hk
    obtain ⟨u', cs, h1, h2, h3⟩ := hk _ _ e3
    rw [e4] at hv
    injection hv with hv
    subst hv
    rw [e5] at h1
    injection h1 with h1
    subst h1
    exact ⟨cs, h2, h3⟩
theorem InvC.copy {B : Base} {col : Col} {σ : List Slot} {a : Act} {w : World} (I : InvC P B col σ a w) {r : Nat} {p : List Nat} {c : Comp} {h : Option (List Nat)} {pth q : List Nat} {u v : Value}
    (H : RootIs σ (Act.V a) r p c h pth q u) (hc : Copy w c q u v) :
    ∃ cs, Rep P (subS c.s q) w col (subHs h q) (pth ++ q) (subM c.s q c.m) (getP c.s q c.x) cs ∧ IsVal (subS c.s q) v cs := by
  obtain ⟨cs, hr, hu⟩ := I.root H
  obtain ⟨ok, cs1, cs', oa', h1, h2, h3⟩ := hc
  obtain rfl := hu.unique h1
  obtain ⟨cs2, oa2, h4, h5⟩ := hr.nav c.s q (oa := none) ok H.off
  obtain ⟨rfl, rfl⟩ := h2.unique _ _ h4
  exact ⟨_, h5, h3⟩
theorem InvC.place {B : Base} {col : Col} {σ : List Slot} {a : Act} {w : World} (I : InvC P B col σ a w) {r : Nat} {p : List Nat} {c : Comp} {h : Option (List Nat)} {pth q : List Nat} {u v : Value}
    (H : RootIs σ (Act.V a) r p c h pth q u) (hc : Place w c q u v) :
    ∃ cs ad cs0, v = .pointer (some ad) ∧ IsVal c.s u cs0 ∧ Nav w c.s q cs0 none cs (some ad) ∧ Rep P (subS c.s q) w col (subHs h q) (pth ++ q) (subM c.s q c.m) (getP c.s q c.x) cs := by
  obtain ⟨cs, hr, hu⟩ := I.root H
  obtain ⟨ok, cs1, cs', ad, h1, h2, h3⟩ := hc
  obtain rfl := hu.unique h1
  obtain ⟨cs2, oa2, h4, h5⟩ := hr.nav c.s q (oa := none) ok H.off
  obtain ⟨rfl, rfl⟩ := h2.unique _ _ h4
  exact ⟨_, ad, _, h3, h1, h2, h5⟩
def OpdOk (P : Program) (w : World) (col : Col) (σ : List Slot) (a : Act) (v : Value) : Slot → Prop
  | .val s m x => ∃ cs, Rep P s w col none [] .sh x cs ∧ IsVal s v cs ∧ (noOwn m = true ∨ ∀ w col p m, Rep P s w col none p m x cs)
  | .al r p => AlOk w σ (Act.V a) r p v
  | .pl r p => PlOk w σ (Act.V a) r p v
  | .undef => v = Go.undef
  | .dead => True
  | _ => False
theorem Rep.unsh : ∀ (s : S) {w : World} {col : Col} {h : Option (List Nat)} {p : List Nat} {m : M} {x : El s} {cs : List Value}, Rep P s w col h p .sh x cs → noOwn m = true → Rep P s w col h p m x cs := by
  intro s
  induction s with
  | agg s ih => intro w col h p m x cs H hn; exact hole.imp (show hole h cs (size s) (Rep P s w col (subH h 0) (p ++ [0]) .sh x cs) from H) (fun H => ih H (noOwn_agM hn))
  | pair a b iha ihb =>
    intro w col h p m x cs H hn
    refine hole.imp (show hole h cs (size a + size b) (∃ c1 c2, cs = c1 ++ c2 ∧ Rep P a w col (subH h 0) (p ++ [0]) .sh x.1 c1 ∧ Rep P b w col (subH h 1) (p ++ [1]) .sh x.2 c2) from H) (fun H => ?_)
    obtain ⟨c1, c2, e, h1, h2⟩ := H
    exact ⟨c1, c2, e, iha h1 (noOwn_prA hn), ihb h2 (noOwn_prB hn)⟩
  | ptr s ih =>
    intro w col h p m x cs H hn
    refine hole.imp (show hole h cs 1 (∃ ad ds, cs = [.pointer (some ad)] ∧ ad.spot = none ∧
        (isOw .sh = true → col ad.block = some p ∧ OwnB w ad.block (ad.off + size s)) ∧
        (isOw .sh = false → col ad.block = some [] ∧ ad.block < w.heap.size) ∧
        At w ad.block ad.off ds ∧ Rep P s w col (subH h 0) (p ++ [0]) .sh x ds) from H) (fun H => ?_)
    obtain ⟨ad, ds, e, h1, h2, h3, h4, h5⟩ := H
    exact ⟨ad, ds, e, h1, fun hm => (by rw [noOwn_isOw hn] at hm; cases hm), fun _ => h3 rfl, h4, ih h5 (noOwn_elemM hn)⟩
  | slice nl s ih =>
    intro w col h p m xs cs H hn
    refine hole.imp (show hole h cs 1 (∃ a c, cs = [.slice a xs.length c] ∧ xs.length ≤ c ∧ (nl = true → xs = [] → a = none) ∧
        (a = none → xs = [] ∧ c = 0) ∧
        ∀ ad, a = some ad → (c ≠ 0 ∨ isOw M.sh = true → ad.spot = none) ∧
        (isOw .sh = true → col ad.block = some p ∧ OwnB w ad.block (ad.off + c * size s)) ∧
        (isOw .sh = false → xs = [] ∨ (col ad.block = some [] ∧ ad.block < w.heap.size)) ∧
        ∀ i x, xs[i]? = some x → ∃ ds, At w ad.block (ad.off + i * size s) ds ∧ Rep P s w col (subH h i) (p ++ [i]) .sh x ds) from H) (fun H => ?_)
    obtain ⟨b, c, e, h1, h2, h3, H⟩ := H
    refine ⟨b, c, e, h1, h2, h3, fun ad had => ?_⟩
    obtain ⟨k1, k2, k3, k4⟩ := H ad had
    refine ⟨fun h => k1 (h.imp id fun hm => by rw [noOwn_isOw hn] at hm; cases hm), fun hm => (by rw [noOwn_isOw hn] at hm; cases hm), fun _ => k3 rfl, fun i x hi => ?_⟩
    obtain ⟨ds, g1, g2⟩ := k4 i x hi
    exact ⟨ds, g1, ih g2 (noOwn_elemM hn)⟩
  | map k v =>
    intro w col h p m xs cs H hn
    refine hole.imp (show hole h cs 1 (∃ r es clock, cs = [.map (some r)] ∧ w.heap[r]? = some (.map es clock) ∧ ents k v es.toList xs ∧ (isOw .sh = true → col r = some p) ∧ (isOw .sh = false → col r = some [])) from H) (fun H => ?_)
    obtain ⟨r, es, clock, e, h1, h2, h3, h4⟩ := H
    exact ⟨r, es, clock, e, h1, h2, fun hm => (by rw [noOwn_isOw hn] at hm; cases hm), fun _ => h4 rfl⟩
  | _ => intro w col h p m x cs H hn; exact H
theorem OpdOk.reps {w : World} {col : Col} {σ : List Slot} {a : Act} {v : Value} {s : S} {m : M} {x : El s} (h : OpdOk P w col σ a v (.val s m x)) :
    ∃ cs, (∀ p, Rep P s w col none p m x cs) ∧ (∀ p, Rep P s w col none p .sh x cs) ∧ IsVal s v cs := by
  obtain ⟨cs, h1, h2, h3⟩ := h
  refine ⟨cs, fun p => ?_, fun p => h1.path rfl, h2⟩
  rcases h3 with h3 | h3
  · exact Rep.unsh s (h1.path rfl) h3
  · exact h3 _ _ _ _
theorem OpdOk.new {w : World} {col : Col} {σ : List Slot} {a : Act} {v : Value} {y : Slot} (h : OpdOk P w col σ a v y) (d : Nat) : NewOk P w col σ a d v y := by
  cases y with
  | val s m x => obtain ⟨cs, h1, _, h2⟩ := OpdOk.reps h; exact ⟨cs, h1 _, h2⟩
  | al r p => exact h
  | pl r p => exact h
  | undef => exact h
  | dead => trivial
  | hol s m x p => exact absurd h id
  | tup cs => exact absurd h id
theorem subHs_longer : ∀ {hp p : List Nat}, longer hp p = true → subHs (some hp) p ≠ some []
  | _ :: _, [], _ => by simp [subHs]
  | a :: hp, i :: p, h => by
    show subHs (subH (some (a :: hp)) i) p ≠ some []
    unfold subH
    simp only
    split
    · exact subHs_longer (show longer hp p = true from h)
    · rw [subHs_none]; simp
  | [], _, h => by simp [longer] at h
theorem InvC.rdt {B : Base} {col : Col} {σ : List Slot} {a : Act} {w : World} (I : InvC P B col σ a w) (t : Nat) : OpdOk P w col σ a (Act.V a t) (rdt σ t) := by
  have hk := I.ok t
  unfold Ev.rdt
  cases hs : gs σ t with
  | dead => trivial
  | undef => rw [hs] at hk; exact hk
  | val s m x =>
    rw [hs] at hk
    obtain ⟨cs, h1, h2⟩ := hk
    cases hn : noOwn m
    · simp only [hn, bif3]
      show AlOk w σ (Act.V a) t [] (Act.V a t)
      refine .inr ⟨⟨s, m, x⟩, none, [t], [], Act.V a t, .val hs, okP_nil _ _, cs, cs, none, h2, Nav_nil _ _ _ _, ?_⟩
      rw [subS_nil]; exact h2
    · simp only [hn, bif3]
      exact ⟨cs, h1.toSh hn, h2, .inl hn⟩
  | hol s m x hp =>
    rw [hs] at hk
    obtain ⟨h0, cs, h1, h2⟩ := hk
    show AlOk w σ (Act.V a) t [] (Act.V a t)
    refine .inr ⟨⟨s, m, x⟩, some hp, [t], [], Act.V a t, .hol hs trivial, okP_nil _ _, cs, cs, none, h2, Nav_nil _ _ _ _, ?_⟩
    rw [subS_nil]; exact h2
  | tup cs => exact .inl ⟨cs, hs, rfl, rfl⟩
  | al r p => rw [hs] at hk; exact hk.2
  | pl r p => rw [hs] at hk; exact hk.2
theorem Rep_nil (nl : Bool) (s : S) (w : World) (col : Col) (p : List Nat) (m : M) : Rep P (.slice nl s) w col none p m [] [.slice none 0 0] :=
  ⟨none, 0, rfl, Nat.le_refl _, fun _ _ => rfl, fun _ => ⟨rfl, rfl⟩, fun ad h => by cases h⟩
theorem lit_ok (w : World) (col : Col) (σ : List Slot) (a : Act) (sT : Option S) (v : Value) : OpdOk P w col σ a v (lit sT v) := by
  unfold lit
  split
  · exact ⟨_, rfl, rfl, .inl rfl⟩
  · exact ⟨_, rfl, rfl, .inl rfl⟩
  · exact ⟨_, rfl, rfl, .inl rfl⟩
  · split
    · exact ⟨_, Rep_nil _ _ _ _ _ _, rfl, .inr fun w col p m => Rep_nil _ _ _ _ _ _⟩
    · trivial
  · trivial
theorem InvC.rdo {B : Base} {col : Col} {σ : List Slot} {a : Act} {w : World} (I : InvC P B col σ a w) (sT : Option S) (o : Operand) : OpdOk P w col σ a (a.eval o) (rdo σ sT o) := by
  cases o with
  | tmp t => exact I.rdt t
  | const v => exact lit_ok _ _ _ _ _ _
  | global g => trivial
  | func f => trivial
theorem InvC.cont {B : Base} {col : Col} {σ : List Slot} {a : Act} {w : World} (I : InvC P B col σ a w) {v : Value} {sl : Slot} {c : Comp}
    (ho : OpdOk P w col σ a v sl) (hc : sl.cont σ = some c) : ∃ h pth cs, h ≠ some [] ∧ Rep P c.s w col h pth c.m c.x cs ∧ IsVal c.s v cs := by
  cases sl with
  | val s m x =>
    obtain rfl : (⟨s, m, x⟩ : Comp) = c := by simpa [Slot.cont] using hc
    obtain ⟨cs, h1, _, h2⟩ := OpdOk.reps ho
    exact ⟨none, [], cs, by simp, h1 _, h2⟩
  | al r p =>
    rcases ho with ⟨cs, e, hp, e2⟩ | ⟨c0, h, pth, q, u, hr, hcp⟩
    · subst hp; simp [Slot.cont, e] at hc
    · obtain ⟨cs, h1, h2⟩ := I.copy hr hcp
      cases hr with
      | val e =>
        simp only [Slot.cont, e, Option.some.injEq] at hc
        subst hc
        exact ⟨_, _, cs, by rw [subHs_none]; simp, h1, h2⟩
      | hol e hoff =>
        simp only [Slot.cont, e] at hc
        cases hl : longer _ p
        · rw [hl] at hc; simp [bif3] at hc
        · rw [hl] at hc
          simp only [bif3, Option.some.injEq] at hc
          subst hc
          exact ⟨_, _, cs, subHs_longer hl, h1, h2⟩
      | tup e e2 e3 e4 e5 =>
        subst e2
        simp only [Slot.cont, e, e3, Option.some.injEq] at hc
        subst hc
        exact ⟨_, _, cs, by rw [subHs_none]; simp, h1, h2⟩
  | pl r p => simp [Slot.cont] at hc
  | dead => simp [Slot.cont] at hc
  | undef => simp [Slot.cont] at hc
  | tup cs => simp [Slot.cont] at hc
  | hol s m x p => simp [Slot.cont] at hc
theorem InvC.whole {B : Base} {col : Col} {σ : List Slot} {a : Act} {w : World} (I : InvC P B col σ a w) {v : Value} {sl : Slot} {c : Comp}
    (ho : OpdOk P w col σ a v sl) (hc : sl.whole σ = some c) : ∃ pth cs, Rep P c.s w col none pth c.m c.x cs ∧ IsVal c.s v cs := by
  cases sl with
  | val s m x =>
    obtain rfl : (⟨s, m, x⟩ : Comp) = c := by simpa [Slot.whole, Slot.cont] using hc
    obtain ⟨cs, h1, _, h2⟩ := OpdOk.reps ho
    exact ⟨[], cs, h1 _, h2⟩
  | al r p =>
    rcases ho with ⟨cs, e, hp, e2⟩ | ⟨c0, h, pth, q, u, hr, hcp⟩
    · subst hp; simp [Slot.whole, Slot.cont, e] at hc
    · obtain ⟨cs, h1, h2⟩ := I.copy hr hcp
      cases hr with
      | val e =>
        simp only [Slot.whole, Slot.cont, e, Option.some.injEq] at hc
        subst hc
        rw [subHs_none] at h1
        exact ⟨_, cs, h1, h2⟩
      | hol e hoff => simp [Slot.whole, e] at hc
      | tup e e2 e3 e4 e5 =>
        subst e2
        simp only [Slot.whole, Slot.cont, e, e3, Option.some.injEq] at hc
        subst hc
        rw [subHs_none] at h1
        exact ⟨_, cs, h1, h2⟩
  | pl r p => simp [Slot.whole, Slot.cont] at hc
  | dead => simp [Slot.whole, Slot.cont] at hc
  | undef => simp [Slot.whole, Slot.cont] at hc
  | tup cs => simp [Slot.whole, Slot.cont] at hc
  | hol s m x p => simp [Slot.whole, Slot.cont] at hc
theorem Rep.int_val {k : IntKind} {w : World} {col : Col} {h : Option (List Nat)} {p : List Nat} {m : M} {n : Int} {cs : List Value} {v : Value}
    (H : Rep P (.int k) w col h p m n cs) (hn : h ≠ some []) (hv : IsVal (.int k) v cs) : v = .int k n := by
  have := hole.get (show hole h cs 1 (cs = [.int k n]) from H) hn
  have hv : cs = [v] := hv
  simp_all
theorem Rep.bool_val {w : World} {col : Col} {h : Option (List Nat)} {p : List Nat} {m : M} {n : Bool} {cs : List Value} {v : Value}
    (H : Rep P .bool w col h p m n cs) (hn : h ≠ some []) (hv : IsVal .bool v cs) : v = .bool n := by
  have := hole.get (show hole h cs 1 (cs = [.bool n]) from H) hn
  have hv : cs = [v] := hv
  simp_all
theorem Rep.str_val {w : World} {col : Col} {h : Option (List Nat)} {p : List Nat} {m : M} {n : ByteArray} {cs : List Value} {v : Value}
    (H : Rep P .str w col h p m n cs) (hn : h ≠ some []) (hv : IsVal .str v cs) : v = .string n := by
  have := hole.get (show hole h cs 1 (cs = [.string n]) from H) hn
  have hv : cs = [v] := hv
  simp_all
def SliceRep (P : Program) (nl : Bool) (s : S) (w : World) (col : Col) (h : Option (List Nat)) (p : List Nat) (m : M) (xs : List (El s)) (a : Option Addr) (c : Nat) : Prop :=
  xs.length ≤ c ∧ (nl = true → xs = [] → a = none) ∧ (a = none → xs = [] ∧ c = 0) ∧
      ∀ ad, a = some ad → (c ≠ 0 ∨ isOw m = true → ad.spot = none) ∧
        (isOw m = true → col ad.block = some p ∧ OwnB w ad.block (ad.off + c * size s)) ∧
        (isOw m = false → xs = [] ∨ (col ad.block = some [] ∧ ad.block < w.heap.size)) ∧
        ∀ i x, xs[i]? = some x → ∃ ds, At w ad.block (ad.off + i * size s) ds ∧ Rep P s w col (subH h i) (p ++ [i]) (elemM m) x ds
theorem Rep.slice_val {nl : Bool} {s : S} {w : World} {col : Col} {h : Option (List Nat)} {p : List Nat} {m : M} {xs : List (El s)} {cs : List Value} {v : Value}
    (H : Rep P (.slice nl s) w col h p m xs cs) (hn : h ≠ some []) (hv : IsVal (.slice nl s) v cs) : ∃ a c, v = .slice a xs.length c ∧ cs = [.slice a xs.length c] ∧ SliceRep P nl s w col h p m xs a c := by
  obtain ⟨a, c, e, H⟩ := hole.get (show hole h cs 1 (∃ a c, cs = [.slice a xs.length c] ∧ SliceRep P nl s w col h p m xs a c) from H) hn
  have hv : cs = [v] := hv
  refine ⟨a, c, ?_, e, H⟩
  simp_all
def PtrRep (P : Program) (s : S) (w : World) (col : Col) (h : Option (List Nat)) (p : List Nat) (m : M) (x : El s) (ad : Addr) (ds : List Value) : Prop :=
  ad.spot = none ∧
        (isOw m = true → col ad.block = some p ∧ OwnB w ad.block (ad.off + size s)) ∧
        (isOw m = false → col ad.block = some [] ∧ ad.block < w.heap.size) ∧
        At w ad.block ad.off ds ∧ Rep P s w col (subH h 0) (p ++ [0]) (elemM m) x ds
theorem Rep.ptr_val {s : S} {w : World} {col : Col} {h : Option (List Nat)} {p : List Nat} {m : M} {x : El s} {cs : List Value} {v : Value}
    (H : Rep P (.ptr s) w col h p m x cs) (hn : h ≠ some []) (hv : IsVal (.ptr s) v cs) : ∃ ad ds, v = .pointer (some ad) ∧ cs = [.pointer (some ad)] ∧ PtrRep P s w col h p m x ad ds := by
  obtain ⟨ad, ds, e, H⟩ := hole.get (show hole h cs 1 (∃ ad ds, cs = [.pointer (some ad)] ∧ PtrRep P s w col h p m x ad ds) from H) hn
  have hv : cs = [v] := hv
  refine ⟨ad, ds, ?_, e, H⟩
  simp_all
theorem IsVal.agg {s : S} {v : Value} {cs : List Value} (h : IsVal (.agg s) v cs) : v = .agg cs.toArray := h
def zcells : S → List Value
  | .unit => []
  | .int k => [.int k 0]
  | .bool => [.bool false]
  | .str => [.string ByteArray.empty]
  | .slice _ _ => [.slice none 0 0]
  | .agg s => zcells s
  | .pair a b => zcells a ++ zcells b
  | .ptr _ => [.pointer none]
  | .func _ _ => [.nilFunc]
  | .map _ _ => [.map none]
def TInfo (P : Program) (s : S) (T : TypeId) : Prop :=
  ∃ i z, P.info? T = some i ∧ i.size = size s ∧ i.bytes ≤ 128 ∧ i.zero = some z ∧ z.cells.toList = zcells s
def mfind (k v : S) : List (El k × El v) → El k → Nat → Option (Nat × El v)
  | [], _, _ => none
  | y :: l, x, i => if eqEl k x y.1 = true then some (i, y.2) else mfind k v l x (i + 1)
structure KeyT (P : Program) (k : S) (T : TypeId) : Prop where
  shp : keyS k = true
  chk : ∀ (w : World) (e : Bool) (x : El k), (Instr.checkKey e 10000 T (fval k x)).run P w = .ok () w
  find : ∀ (w : World) (v : S) (x : El k) (xs : List (El k × El v)) (es : List MapEntry), ents k v es xs → (Instr.findKey T (fval k x) es).run P w = .ok ((mfind k v xs x 0).map fun y => (y.1, fval v y.2)) w
structure ElemT (P : Program) (v : S) (T : TypeId) : Prop where
  shp : isScalar v = true
  zero : ∀ w : World, (zeroValue T).run P w = .ok (fval v (zero v)) w
def FOne (P : Program) (F : TypeId → Prop) : Nat → List Field → Prop := fun off fs => ∃ f, fs = [f] ∧ f.offset = off ∧ f.name ≠ "_" ∧ F f.type
def ArrT (P : Program) (s : S) (T : TypeId) : Prop := ∃ n e k, P.underlying T = some (.array (n + 1) e) ∧ P.underlying e = some (.int k) ∧ TInfo P (.int k) e ∧ s = .pair .unit (rowS k n)
theorem ArrT.not {s : S} {T : TypeId} (h : ArrT P s T) : isArr s = true := by obtain ⟨n, e, k, _, _, _, rfl⟩ := h; rfl
def FT (P : Program) : S → (TypeId → Prop) × (Nat → List Field → Prop)
  | .int k => let F : TypeId → Prop := fun T => P.underlying T = some (.int k) ∧ TInfo P (.int k) T; (F, FOne P F)
  | .bool => let F : TypeId → Prop := fun T => P.underlying T = some .bool ∧ TInfo P .bool T; (F, FOne P F)
  | .str => let F : TypeId → Prop := fun T => P.underlying T = some .string ∧ TInfo P .str T; (F, FOne P F)
  | .slice nl s => let G := (FT P s).1; let F : TypeId → Prop := fun T => (∃ e, P.underlying T = some (.slice e) ∧ G e) ∧ TInfo P (.slice nl s) T; (F, FOne P F)
  | .ptr s => let G := (FT P s).1; let F : TypeId → Prop := fun T => (∃ e, P.underlying T = some (.pointer e) ∧ G e) ∧ TInfo P (.ptr s) T; (F, FOne P F)
  | .agg s => let G := (FT P s).2; let F : TypeId → Prop := fun T => ((∃ fs, P.underlying T = some (.struct fs) ∧ G 0 fs.toList ∧ P.stoodInHeld T = false ∧ P.eqGuardType P.depth T = false) ∨ ArrT P s T) ∧ TInfo P (.agg s) T; (F, FOne P F)
  | .pair a b => (fun _ => False, fun off fs => ∃ f fs', fs = f :: fs' ∧ f.offset = off ∧ f.name ≠ "_" ∧ (FT P a).1 f.type ∧ (FT P b).2 (off + size a) fs')
  | .func a b => let F : TypeId → Prop := fun T => (∃ a b c, P.underlying T = some (.func a b c)) ∧ TInfo P (.func a b) T; (F, FOne P F)
  | .map k v => let F : TypeId → Prop := fun T => (∃ kt vt, P.underlying T = some (.map kt vt) ∧ KeyT P k kt ∧ ElemT P v vt) ∧ TInfo P (.map k v) T; (F, FOne P F)
  | .unit => (fun _ => False, fun _ _ => False)
def Fits (P : Program) (s : S) (T : TypeId) : Prop := (FT P s).1 T
def FitsF (P : Program) (s : S) (off : Nat) (fs : List Field) : Prop := (FT P s).2 off fs
theorem size_same : ∀ (s s' : S), sameS s s' = true → size s = size s' := by
  intro s
  induction s with
  | agg s ih => intro s' h; cases s' <;> simp [sameS] at h; simp only [size]; exact ih _ h
  | pair a b iha ihb =>
    intro s' h; cases s' <;> simp [sameS] at h
    simp [size, iha _ h.1, ihb _ h.2]
  | _ => intro s' h; cases s' <;> simp_all [sameS, size]
theorem zcells_same : ∀ (s s' : S), sameS s s' = true → zcells s = zcells s' := by
  intro s
  induction s with
  | agg s ih => intro s' h; cases s' <;> simp [sameS] at h; simp only [zcells]; exact ih _ h
  | pair a b iha ihb =>
    intro s' h; cases s' <;> simp [sameS] at h
    simp [zcells, iha _ h.1, ihb _ h.2]
  | int k => intro s' h; cases s' <;> simp [sameS] at h; subst h; rfl
  | _ => intro s' h; cases s' <;> simp_all [sameS, zcells]
theorem TInfo.same {s s' : S} {T : TypeId} (h : TInfo P s T) (e : sameS s s' = true) : TInfo P s' T := by
  obtain ⟨i, z, h1, h2, h3, h4, h5⟩ := h
  exact ⟨i, z, h1, h2.trans (size_same _ _ e), h3, h4, h5.trans (zcells_same _ _ e)⟩
theorem FOne.imp {F G : TypeId → Prop} {off : Nat} {fs : List Field} (h : FOne P F off fs) (e : ∀ T, F T → G T) : FOne P G off fs := by
  obtain ⟨f, h1, h2, h3, h4⟩ := h; exact ⟨f, h1, h2, h3, e _ h4⟩
theorem Fits.same' : ∀ (s s' : S), sameS s s' = true → (∀ T, Fits P s T → Fits P s' T) ∧ ∀ off fs, FitsF P s off fs → FitsF P s' off fs := by
  intro s
  induction s with
  | unit => intro s' h; exact ⟨fun T h => absurd h id, fun off fs h => absurd h id⟩
  | map k v _ _ => intro s' h; cases s' <;> simp [sameS] at h; obtain ⟨rfl, rfl⟩ := h; exact ⟨fun T h => h, fun off fs h => h⟩
  | int k => intro s' h; cases s' <;> simp [sameS] at h; subst h; exact ⟨fun T h => h, fun off fs h => h⟩
  | bool => intro s' h; cases s' <;> simp [sameS] at h; exact ⟨fun T h => h, fun off fs h => h⟩
  | str => intro s' h; cases s' <;> simp [sameS] at h; exact ⟨fun T h => h, fun off fs h => h⟩
  | func a b _ _ =>
    intro s' h; cases s' <;> simp [sameS] at h
    rename_i a' b'
    have key : ∀ T, Fits P (.func a b) T → Fits P (.func a' b') T := fun T h => ⟨h.1, h.2.same (by simpa [sameS] using ‹_›)⟩
    exact ⟨key, fun off fs hf => FOne.imp (P := P) (F := Fits P (.func a b)) (G := Fits P (.func a' b')) hf key⟩
  | slice nl s ih =>
    intro s' h; cases s' <;> simp [sameS] at h
    rename_i nl' s'
    have key : ∀ T, Fits P (.slice nl s) T → Fits P (.slice nl' s') T := by
      rintro T ⟨⟨e, h1, h2⟩, h3⟩
      exact ⟨⟨e, h1, (ih _ h).1 _ h2⟩, h3.same h⟩
    exact ⟨key, fun off fs hf => FOne.imp (P := P) (F := Fits P (.slice nl s)) (G := Fits P (.slice nl' s')) hf key⟩
  | ptr s ih =>
    intro s' h; cases s' <;> simp [sameS] at h
    rename_i s'
    have key : ∀ T, Fits P (.ptr s) T → Fits P (.ptr s') T := by
      rintro T ⟨⟨e, h1, h2⟩, h3⟩
      exact ⟨⟨e, h1, (ih _ h).1 _ h2⟩, h3.same h⟩
    exact ⟨key, fun off fs hf => FOne.imp (P := P) (F := Fits P (.ptr s)) (G := Fits P (.ptr s')) hf key⟩
  | agg s ih =>
    intro s' h; cases s' <;> simp [sameS] at h
    rename_i s'
    have key : ∀ T, Fits P (.agg s) T → Fits P (.agg s') T := by
      rintro T ⟨⟨e, h1, h2, h4⟩ | ⟨n, e, k, h1, h2, h4, h5⟩, h3⟩
      · exact ⟨.inl ⟨e, h1, (ih _ h).2 _ _ h2, h4⟩, h3.same h⟩
      · have e5 : s' = s := by
          subst h5
          have row : ∀ n s', sameS (rowS k n) s' = true → s' = rowS k n := by
            intro n
            induction n with
            | zero => intro s' h; cases s' <;> simp [sameS, rowS] at h; subst h; rfl
            | succ n ih => intro s' h; cases s' <;> simp [sameS, rowS] at h; rename_i a b; obtain ⟨h1, h2⟩ := h; cases a <;> simp [sameS] at h1; subst h1; rw [ih _ h2]; rfl
          cases s' <;> simp [sameS] at h
          rename_i a b
          obtain ⟨h1, h2⟩ := h
          cases a <;> simp [sameS] at h1
          rw [row _ _ h2]
        subst e5
        exact ⟨.inr ⟨n, e, k, h1, h2, h4, h5⟩, h3⟩
    exact ⟨key, fun off fs hf => FOne.imp (P := P) (F := Fits P (.agg s)) (G := Fits P (.agg s')) hf key⟩
  | pair a b iha ihb =>
    intro s' h; cases s' <;> simp [sameS] at h
    rename_i a' b'
    refine ⟨fun T h => absurd h id, fun off fs hf => ?_⟩
    obtain ⟨f, fs', h1, h2, h3, h4, h5⟩ := hf
    exact ⟨f, fs', h1, h2, h3, (iha _ h.1).1 _ h4, by rw [← size_same _ _ h.1]; exact (ihb _ h.2).2 _ _ h5⟩
theorem Fits.same {s s' : S} {T : TypeId} (h : Fits P s T) (e : sameS s s' = true) : Fits P s' T := (Fits.same' s s' e).1 T h
def TyOk (P : Program) (C : Ctx) : Prop := ∀ T s, C.ty T = some s → Fits P s T
theorem chk_ok {R : Type} {C : Ctx} {T : TypeId} {s : S} {K : Option R} {res : R} (hC : TyOk P C) (h : chk C T s K = some res) : Fits P s T ∧ K = some res := by
  unfold chk at h
  split at h
  · rename_i s0 e
    cases hb : sameS s0 s
    · rw [hb] at h; simp [bif3] at h
    · rw [hb] at h; exact ⟨(hC T s0 e).same hb, h⟩
  · simp at h
theorem Fits.info : ∀ {s : S} {T : TypeId}, Fits P s T → TInfo P s T
  | .int _, _, h => h.2
  | .bool, _, h => h.2
  | .str, _, h => h.2
  | .slice _ _, _, h => h.2
  | .ptr _, _, h => h.2
  | .agg _, _, h => h.2
  | .func _ _, _, h => h.2
  | .pair _ _, _, h => absurd h id
  | .map _ _, _, h => h.2
  | .unit, _, h => absurd h id
theorem Fits.struct {s : S} {T : TypeId} (h : Fits P (.agg s) T) (hs : isArr s = false) : ∃ fs, P.underlying T = some (.struct fs) ∧ FitsF P s 0 fs.toList ∧ P.stoodInHeld T = false ∧ P.eqGuardType P.depth T = false := by
  obtain ⟨h | h, _⟩ := h
  · exact h
  · rw [h.not] at hs; cases hs
theorem Fits.pos' : ∀ (s : S), (∀ T, Fits P s T → 1 ≤ size s) ∧ ∀ off fs, FitsF P s off fs → 1 ≤ size s := by
  intro s
  induction s with
  | agg s ih =>
    have k : ∀ T, Fits P (.agg s) T → 1 ≤ size (.agg s) := fun T h => by
      obtain ⟨⟨fs, _, h, _⟩ | ⟨n, e, k, _, _, _, rfl⟩, _⟩ := h
      · exact ih.2 _ _ h
      · have : ∀ n, 1 ≤ size (rowS k n) := fun n => by induction n with | zero => exact Nat.le_refl _ | succ n _ => simp only [rowS, size]; omega
        have := this n
        simp only [size]; omega
    exact ⟨k, fun off fs ⟨f, _, _, _, h⟩ => k _ h⟩
  | pair a b iha ihb => exact ⟨fun T h => absurd h id, fun off fs ⟨f, fs', _, _, _, h, _⟩ => by have := iha.1 _ h; simp only [size]; omega⟩
  | unit => exact ⟨fun T h => absurd h id, fun off fs h => absurd h id⟩
  | _ => exact ⟨fun T h => Nat.le_refl _, fun off fs h => Nat.le_refl _⟩
theorem Fits.pos {s : S} {T : TypeId} (h : Fits P s T) : 1 ≤ size s := (Fits.pos' s).1 T h
theorem Fits.sizeOf {s : S} {T : TypeId} (h : Fits P s T) (w : World) : (Go.sizeOf T).run P w = .ok (size s) w := by
  obtain ⟨i, z, h1, h2, _⟩ := h.info
  simp [Go.sizeOf, typeInfo, h1, h2]
end Go.Ev

noncomputable section
namespace Go.Ev
variable {P : Program}
def PMok : PM → Comp → Prop
  | .sh, c => c.m = .sh
  | .loan m, c => c.m = m
  | .move m, c => c.m = m
def PMsOk : List PM → List Comp → Prop
  | [], [] => True
  | p :: ps, c :: cs => PMok p c ∧ PMsOk ps cs
  | _, _ => False
def ArgsOk (P : Program) (w : World) (col : Col) : Nat → List Comp → List Value → Prop
  | _, [], [] => True
  | j, c :: cs, v :: vs => (∃ ds, Rep P c.s w col none [j] c.m c.x ds ∧ IsVal c.s v ds) ∧ ArgsOk P w col (j + 1) cs vs
  | _, _, _ => False
def loansL : Nat → List PM → List Value → List (Nat × M × Value)
  | j, .loan m :: pm, v :: vs => (j, m, v) :: loansL (j + 1) pm vs
  | j, _ :: pm, _ :: vs => loansL (j + 1) pm vs
  | _, _, _ => []
def LoansOk (P : Program) (w : World) (col : Col) : List (Nat × M × Value) → (lo : S) → El lo → Prop
  | [], _, _ => True
  | [(j, m, v)], lo, y => ∃ ds, Rep P lo w col none [j] m y ds ∧ IsVal lo v ds
  | (j, m, v) :: js, .pair a b, y => (∃ ds, Rep P a w col none [j] m y.1 ds ∧ IsVal a v ds) ∧ LoansOk P w col js b y.2
  | _ :: _ :: _, _, _ => False
def Post (P : Program) (σm : Sem) (w : World) (col : Col) (vs : List Value) (y : El σm.r) (l : El σm.lo) : Ending → World → Prop := fun e w' =>
  ∃ v col', e = .returned v ∧ RootOk P w' col' vs.length v (resSlot σm.nr σm.r σm.mr y) ∧ LoansOk P w' col' (loansL 0 σm.pm vs) σm.lo l ∧ FrmQ w w' col col'
def Contract (P : Program) (f : FuncId) (σm : Sem) : Prop :=
  ∀ (w : World) (col : Col) (cs : List Comp) (vs : List Value), PMsOk σm.pm cs → ArgsOk P w col 0 cs vs →
    ∀ (R : Type) (k : El σm.r → El σm.lo → Option R) (res : R), σm.f cs R k = some res →
      ∃ y l, k y l = some res ∧ Calls P f vs.toArray w (Post P σm w col vs y l)
structure CtxOk (P : Program) (C : Ctx) : Prop where
  ty : TyOk P C
  env : ∀ f σm, σm ∈ C.env f → Contract P f σm
  code : ∀ f σm, σm ∈ C.env f → CallOk P f
  mix : P.follows .mixedOrders = true
theorem PMsOk.append : ∀ {a : List PM} {cs : List Comp} {b : List PM} {ds : List Comp}, PMsOk a cs → PMsOk b ds → PMsOk (a ++ b) (cs ++ ds)
  | [], [], _, _, _, h => h
  | _ :: _, _ :: _, _, _, h, h' => ⟨h.1, PMsOk.append h.2 h'⟩
  | [], _ :: _, _, _, h, _ => absurd h id
  | _ :: _, [], _, _, h, _ => absurd h id
theorem PMsOk.allSh : ∀ {pm : List PM} {cs : List Comp}, allSh pm = true → pm.length = cs.length → (∀ c ∈ cs, c.m = .sh) → PMsOk pm cs
  | [], [], _, _, _ => trivial
  | .sh :: pm, c :: cs, h, hl, hc => ⟨hc c (by simp), PMsOk.allSh (show Ev.allSh pm = true from h) (by simpa using hl) (fun c' h' => hc c' (by simp [h']))⟩
  | .loan _ :: _, _, h, _, _ => by simp [Ev.allSh] at h
  | .move _ :: _, _, h, _, _ => by simp [Ev.allSh] at h
  | [], _ :: _, _, h, _ => by simp at h
  | .sh :: _, [], _, h, _ => by simp at h
theorem ownAt_sh (s : S) (q : List Nat) : ownAt s q .sh = false := ownAt_noOwn s q rfl
theorem Moves.shared {s : S} {w w' : World} {col col' : Col} {p p' : List Nat} (h : Frm w w' col) (hc : ∀ b, b < w.heap.size → col b = some [] → col' b = some []) : Moves s w w' col col' p p' .sh .sh :=
  ⟨rfl, fun b q _ _ ho => (by rw [ownAt_sh] at ho; cases ho), fun b q _ _ ho => (by rw [ownAt_sh] at ho; cases ho), hc,
    fun b hb h' => h'.elim (h.2 b hb) (fun ⟨q, _, ho⟩ => (by rw [ownAt_sh] at ho; cases ho)), h.1⟩
theorem ArgsOk.append {w : World} {col : Col} : ∀ {j : Nat} {cs : List Comp} {vs : List Value} {ds : List Comp} {us : List Value},
    ArgsOk P w col j cs vs → ArgsOk P w col (j + cs.length) ds us → ArgsOk P w col j (cs ++ ds) (vs ++ us)
  | _, [], [], _, _, _, h => h
  | j, c :: cs, v :: vs, ds, us, h, h' => ⟨h.1, ArgsOk.append h.2 (by rw [show j + 1 + cs.length = j + (c :: cs).length from by simp; omega]; exact h')⟩
  | _, [], _ :: _, _, _, h, _ => absurd h id
  | _, _ :: _, [], _, _, h, _ => absurd h id
def CapsOk (P : Program) (w : World) (col : Col) : List Comp → List Value → Prop
  | [], [] => True
  | c :: cs, v :: vs => (c.m = .sh ∧ ∃ ds, Rep P c.s w col none [] .sh c.x ds ∧ IsVal c.s v ds) ∧ CapsOk P w col cs vs
  | _, _ => False
theorem CapsOk.args {w w' : World} {col col' : Col} (hf : Frm w w' col) (hc : ∀ b, b < w.heap.size → col b = some [] → col' b = some []) : ∀ {j : Nat} {cs : List Comp} {vs : List Value}, CapsOk P w col cs vs → ArgsOk P w' col' j cs vs
  | _, [], [], _ => trivial
  | j, c :: cs, v :: vs, h => by
    obtain ⟨⟨hm, ds, h1, h2⟩, h⟩ := h
    refine ⟨⟨ds, ?_, h2⟩, CapsOk.args hf hc h⟩
    rw [hm]
    exact h1.re _ (Moves.shared hf hc)
  | _, [], _ :: _, h => absurd h id
  | _, _ :: _, [], h => absurd h id
theorem CapsOk.modes {w : World} {col : Col} : ∀ {cs : List Comp} {vs : List Value}, CapsOk P w col cs vs → ∀ c ∈ cs, c.m = .sh
  | [], [], _, c, h => by simp at h
  | c :: cs, v :: vs, h, c', h' => by
    rcases List.mem_cons.1 h' with rfl | h'
    · exact h.1.1
    · exact CapsOk.modes h.2 c' h'
  | [], _ :: _, h, _, _ => absurd h id
  | _ :: _, [], h, _, _ => absurd h id
theorem argComps_modes : ∀ (s : S) (x : El s), ∀ c ∈ argComps s x, c.m = .sh := by
  intro s
  induction s with
  | pair a b _ ihb =>
    intro x c h
    rcases List.mem_cons.1 (show c ∈ ⟨a, .sh, x.1⟩ :: argComps b x.2 from h) with rfl | h
    · rfl
    · exact ihb x.2 c h
  | unit => intro x c h; simp [argComps] at h
  | _ => intro x c h; simp [argComps] at h; subst h; rfl
theorem argComps_len : ∀ (s : S) (x : El s), (argComps s x).length = nArgs s := by
  intro s
  induction s with
  | pair a b _ ihb => intro x; simp [argComps, nArgs, ihb]
  | _ => intro x; rfl
theorem Args.ok : ∀ (s : S) {w : World} {col : Col} {x : El s} {vs : List Value} {j : Nat}, Args P s w col x vs → ArgsOk P w col j (argComps s x) vs := by
  intro s
  induction s with
  | pair a b _ ihb =>
    intro w col x vs j h
    obtain ⟨v, ds, vs', e, h1, h2, h3⟩ := h
    subst e
    exact ⟨⟨ds, Rep.path (P := P) (s := a) h1 rfl, h2⟩, ihb h3⟩
  | unit => intro w col x vs j h; have : vs = [] := h; subst this; trivial
  | _ =>
    intro w col x vs j h
    obtain ⟨v, ds, e, h1, h2⟩ := h
    subst e
    exact ⟨⟨ds, Rep.path (P := P) (p := []) h1 rfl, h2⟩, trivial⟩
theorem ArgsOk.len {w : World} {col : Col} : ∀ {j : Nat} {cs : List Comp} {vs : List Value}, ArgsOk P w col j cs vs → cs.length = vs.length
  | _, [], [], _ => rfl
  | j, c :: cs, v :: vs, h => by simp [ArgsOk.len h.2]
  | _, [], _ :: _, h => absurd h id
  | _, _ :: _, [], h => absurd h id
def shCol (col : Col) : Col := fun b => (col b).map fun _ => []
theorem Moves.toSh {s : S} {w : World} {col : Col} {p p' : List Nat} {m : M} : Moves s w w col (shCol col) p p' m .sh :=
  ⟨rfl, fun b q _ _ ho => (by rw [ownAt_sh] at ho; cases ho), fun b q _ h _ _ => by simp [shCol, h], fun b _ h => by simp [shCol, h], fun _ _ _ => rfl, Nat.le_refl _⟩
theorem FrmQ.shCol {w w' : World} {col col' : Col} (h : FrmQ w w' col col') : FrmQ w w' col (shCol col') :=
  ⟨h.sz, h.mem, fun b hb hq => by
    have := h.col b hb hq
    rcases hq with e | e <;> simp [Ev.shCol, this, e], h.out⟩
theorem asFunc_some {σm : Sem} {caps : List Comp} {ps r : S} {x : El ps} {res : El r} (h : asFunc σm caps ps r x = some res) :
    ∃ e : σm.r = r, σm.f (argComps ps x ++ caps) (El r) (fun y _ => some (e ▸ y)) = some res := by
  unfold asFunc at h
  split at h
  · exact ⟨by assumption, h⟩
  · cases h
theorem funcSlot_ok {C : Ctx} (hC : CtxOk P C) {w : World} {col : Col} {σ : List Slot} {a : Act} {sT : Option S} {f : Nat} {caps : List Comp} {us : List Value}
    (hcap : CapsOk P w col caps us) : OpdOk P w col σ a (.func (.func f) #[] us.toArray) (funcSlot C sT f caps) := by
  unfold funcSlot
  split
  · rename_i ps r σm rest henv
    cases hb : (allSh σm.pm && σm.nr == 1 && (nArgs ps + caps.length == σm.pm.length))
    · trivial
    · simp only [Bool.and_eq_true, beq_iff_eq] at hb
      obtain ⟨⟨hall, hnr⟩, hlen⟩ := hb
      have hct := hC.env f σm (by rw [henv]; simp)
      have hco := hC.code f σm (by rw [henv]; simp)
      have key : ∀ p m, Rep P (.func ps r) w col none p m (asFunc σm caps ps r) [.func (.func f) #[] us.toArray] := by
        intro p m
        refine ⟨f, us.toArray, rfl, hco, fun w' col' hf hn x vs hargs res hg => ?_⟩
        obtain ⟨e, hg⟩ := asFunc_some hg
        have hA : ArgsOk P w' col' 0 (argComps ps x ++ caps) (vs ++ us) := (Args.ok ps hargs).append (hcap.args hf hn)
        have hM : PMsOk σm.pm (argComps ps x ++ caps) := PMsOk.allSh hall (by rw [List.length_append, argComps_len, hlen]) (fun c h => by
          rcases List.mem_append.1 h with h | h
          · exact argComps_modes ps x c h
          · exact hcap.modes c h)
        obtain ⟨y, l, hk, hcalls⟩ := hct w' col' _ _ hM hA _ _ _ hg
        have hvs : (vs.toArray ++ us.toArray) = (vs ++ us).toArray := by simp
        rw [hvs]
        refine hcalls.mono ?_
        rintro e' w'' ⟨v, col'', rfl, hroot, _, hfrm⟩
        subst e
        simp only [Option.some.injEq] at hk
        subst hk
        rw [hnr] at hroot
        obtain ⟨ds, hr, hv⟩ := hroot
        exact ⟨v, ds, shCol col'', rfl, hv, hfrm.shCol, hr.re _ Moves.toSh⟩
      exact ⟨_, key [] _, rfl, .inl rfl⟩
  · trivial
theorem InvC.rdo' {C : Ctx} (hC : CtxOk P C) {B : Base} {col : Col} {σ : List Slot} {a : Act} {w : World} (I : InvC P B col σ a w) (sT : Option S) (o : Operand) : OpdOk P w col σ a (a.eval o) (rdo' C σ sT o) := by
  cases o with
  | tmp t => exact I.rdt t
  | const v => exact lit_ok _ _ _ _ _ _
  | global g => trivial
  | func f => exact funcSlot_ok hC (us := []) (caps := []) trivial
section
variable {C : Ctx} {B : Base} {R : Type} {K : List Slot → Option R} {res : R} {next : Act → World → Prop} {Q : Exit → Act → World → Prop} {o : Oper} {σ : List Slot} {a : Act} {w : World}
def Good (P : Program) (B : Base) (K : List Slot → Option R) (res : R) (next : Act → World → Prop) : Prop := ∀ σ a w, Inv P B σ a w → K σ = some res → next a w
theorem op_value {v : Value} {w' : World} (h : (execOp a.eval o).run P w = .ok (.value v) w') (hn : next (a.put o.dst v) w') : o.wp P a w next Q := by
  unfold Oper.wp
  rw [h]
  exact hn
theorem op_skip {w' : World} (h : (execOp a.eval o).run P w = .ok .skip w') (hn : next (a.put o.dst Go.undef) w') : o.wp P a w next Q := by
  unfold Oper.wp
  rw [h]
  exact hn
def isLoad : Op → Bool
  | .load _ _ => true
  | _ => false
def StillW (o : Oper) (a : Act) (w w' : World) : Prop := match o.op with
  | .load _ x => ∀ ad, a.eval x = .pointer (some ad) → w'.heap[ad.block]? = w.heap[ad.block]?
  | _ => True
def InW (o : Oper) (a : Act) (w : World) : Prop := match o.op with
  | .load _ x => ∀ ad, a.eval x = .pointer (some ad) → ad.block < w.heap.size
  | _ => True
theorem StillW.refl (o : Oper) (a : Act) (w : World) : StillW o a w w := by
  unfold StillW; split
  · exact fun _ _ => rfl
  · trivial
def _root_.Go.Oper.st (P : Program) (o : Oper) (a : Act) (w : World) (next : Act → World → Prop) : Prop := ∃ v, (∀ w', StillW o a w w' → (execOp a.eval o).run P w' = .ok (.value v) w') ∧ InW o a w ∧ next (a.put o.dst v) w
theorem st_wp (h : o.st P a w next) : o.wp P a w next Q := by
  obtain ⟨v, h1, _, h2⟩ := h
  exact op_value (h1 w (StillW.refl o a w)) h2
theorem op_k1 (hnl : isLoad o.op = false) {col : Col} (I : InvC P B col σ a w) (hG : Good P B K res next) {v : Value} {sl : Slot} (hrun : ∀ w', (execOp a.eval o).run P w' = .ok (.value v) w')
    (hnew : ∀ d, NewOk P w col σ a d v sl) (he : K (fin σ o.dst sl) = some res) : o.st P a w next :=
  ⟨v, fun w' _ => hrun w', by unfold InW; split <;> first | trivial | (rename_i h; rw [h] at hnl; cases hnl), hG _ _ _ ⟨col, I.fin fun d _ => hnew d⟩ he⟩
theorem NewV1 {col : Col} {d : Nat} {s : S} {x : El s} {v : Value} {cs : List Value} (h : ∀ p, Rep P s w col none p .sh x cs) (hv : IsVal s v cs) : NewOk P w col σ a d v (V1 s x) := ⟨cs, h _, hv⟩
theorem New_int {col : Col} (d : Nat) (k : IntKind) (n : Int) : NewOk P w col σ a d (.int k n) (V1 (.int k) n) := ⟨_, rfl, rfl⟩
theorem New_bool {col : Col} (d : Nat) (b : Bool) : NewOk P w col σ a d (.bool b) (V1 .bool b) := ⟨_, rfl, rfl⟩
theorem New_str {col : Col} (d : Nat) (b : ByteArray) : NewOk P w col σ a d (.string b) (V1 .str b) := ⟨_, rfl, rfl⟩
theorem IntBin.ok {col : Col} (I : InvC P B col σ a w) (hG : Good P B K res next) {op : BinOp} {k : IntKind} {x y : Int} {T T' : TypeId} {ox oy : Operand}
    (hop : o.op = .binOp op T ox oy T') (hx : a.eval ox = .int k x) (hy : a.eval oy = .int k y) (he : intBin op k x y (fun sl => K (fin σ o.dst sl)) = some res) : o.st P a w next := by
  have key : ∀ v sl, (∀ w', (binOp op T (.int k x) (.int k y)).run P w' = .ok v w') → (∀ d, NewOk P w col σ a d v sl) → K (fin σ o.dst sl) = some res → o.st P a w next := by
    intro v sl hr hn hk
    refine op_k1 (by rw [hop]; rfl) I hG ?_ hn hk
    simp [execOp, hop, hx, hy, eqGuard_at_int, hr]
  cases op <;> simp only [intBin] at he
  case quo =>
    split at he
    · rename_i h0
      exact key _ _ (by simp [binOp, Op.intDiv, h0]) (fun d => New_int d _ _) he
    · cases he
  case rem =>
    split at he
    · rename_i h0
      exact key _ _ (by simp [binOp, Op.intDiv, h0]) (fun d => New_int d _ _) he
    · cases he
  case shl =>
    split at he
    · rename_i h0
      exact key _ _ (by simp [binOp, Op.shift, Int.not_lt.2 h0]) (fun d => New_int d _ _) he
    · cases he
  case shr =>
    split at he
    · rename_i h0
      exact key _ _ (by simp [binOp, Op.shift, Int.not_lt.2 h0]) (fun d => New_int d _ _) he
    · cases he
  case add => exact key _ _ (by simp [binOp, Op.intArith]) (fun d => New_int d _ _) he
  case sub => exact key _ _ (by simp [binOp, Op.intArith]) (fun d => New_int d _ _) he
  case mul => exact key _ _ (by simp [binOp, Op.intArith]) (fun d => New_int d _ _) he
  case and => exact key _ _ (by simp [binOp, Op.intBits]) (fun d => New_int d _ _) he
  case or => exact key _ _ (by simp [binOp, Op.intBits]) (fun d => New_int d _ _) he
  case xor => exact key _ _ (by simp [binOp, Op.intBits]) (fun d => New_int d _ _) he
  case andNot => exact key _ _ (by simp [binOp, Op.intBits]) (fun d => New_int d _ _) he
  case eql => exact key _ _ (by simp [binOp, Op.intCmp]) (fun d => New_bool d _) he
  case neq => exact key _ _ (by simp [binOp, Op.intCmp]) (fun d => New_bool d _) he
  case lss => exact key _ _ (by simp [binOp, Op.intCmp]) (fun d => New_bool d _) he
  case leq => exact key _ _ (by simp [binOp, Op.intCmp]) (fun d => New_bool d _) he
  case gtr => exact key _ _ (by simp [binOp, Op.intCmp]) (fun d => New_bool d _) he
  case geq => exact key _ _ (by simp [binOp, Op.intCmp]) (fun d => New_bool d _) he
end
end Go.Ev

noncomputable section
namespace Go.Ev
variable {P : Program}
theorem addr_add {ad : Addr} (h : ad.spot = none) (n : Nat) : ad.add n = ⟨ad.block, ad.off + n, none⟩ := by
  cases ad with
  | mk b o s =>
    simp only at h
    subst h
    unfold Addr.add
    split
    · rename_i e; subst e; rfl
    · rfl
theorem addr_eta {ad : Addr} (h : ad.spot = none) : (⟨ad.block, ad.off, none⟩ : Addr) = ad := by
  cases ad; simp only at h; subst h; rfl
theorem isAgg_not {s : S} {T : TypeId} (h : Fits P s T) (hs : ∀ t, s ≠ .agg t) (w : World) : (isAgg T).run P w = .ok false w := by
  cases s with
  | agg t => exact absurd rfl (hs t)
  | int k => simp [isAgg, run_underlying h.1]
  | bool => simp [isAgg, run_underlying h.1]
  | str => simp [isAgg, run_underlying h.1]
  | slice nl s => obtain ⟨⟨e, h1, _⟩, _⟩ := h; simp [isAgg, run_underlying h1]
  | ptr s => obtain ⟨⟨e, h1, _⟩, _⟩ := h; simp [isAgg, run_underlying h1]
  | func a b => obtain ⟨⟨x, y, z, h1⟩, _⟩ := h; simp [isAgg, run_underlying h1]
  | pair a b => exact absurd h id
  | map a b => obtain ⟨⟨x, y, h1, _⟩, _⟩ := h; simp [isAgg, run_underlying h1]
  | unit => exact absurd h id
theorem isAgg_agg {s : S} {T : TypeId} (h : Fits P (.agg s) T) (w : World) : (isAgg T).run P w = .ok true w := by
  obtain ⟨⟨e, h1, _⟩ | ⟨n, e, k, h1, _⟩, _⟩ := h <;> simp [isAgg, run_underlying h1]
theorem run_loadVar {s : S} {T : TypeId} (h : Fits P s T) {w : World} {ad : Addr} {cs : List Value} (hs : ad.spot = none) (hat : At w ad.block ad.off cs) (hl : cs.length = size s) :
    ∃ v, (loadVar T ad).run P w = .ok v w ∧ IsVal s v cs := by
  by_cases ha : ∃ t, s = .agg t
  · obtain ⟨t, rfl⟩ := ha
    refine ⟨.agg cs.toArray, ?_, rfl⟩
    have hc : (loadCells ad (size (.agg t))).run P w = .ok cs.toArray w := by
      rw [← hl]
      exact run_loadCells_list w ad cs (fun j v hj => by rw [addr_add hs]; exact hat j v hj)
    simp [loadVar, isAgg_agg h, h.sizeOf, hc]
  · have hs' : ∀ t, s ≠ .agg t := fun t e => ha ⟨t, e⟩
    have h1 : size s = 1 := by
      cases s <;> first | rfl | exact absurd rfl (hs' _) | exact absurd h id
    obtain ⟨v, rfl⟩ : ∃ v, cs = [v] := by
      rw [h1] at hl
      match cs, hl with
      | [v], _ => exact ⟨v, rfl⟩
    have hc : w.cell? ad = some v := by have := hat 0 v rfl; simpa [addr_eta hs] using this
    refine ⟨v, by simp [loadVar, isAgg_not h hs', hc], ?_⟩
    cases s <;> first | rfl | exact absurd rfl (hs' _) | exact absurd h id
theorem FitsF.fields : ∀ (s : S) {off : Nat} {fs : List Field}, FitsF P s off fs → fs.length = (fields s).length := by
  intro s
  induction s with
  | pair a b _ ihb =>
    intro off fs ⟨f, fs', e, _, _, _, h⟩
    subst e
    simp [Ev.fields, ihb h]
  | unit => intro off fs h; exact absurd h id
  | _ => intro off fs ⟨f, e, _⟩; subst e; rfl
theorem FitsF.at_ : ∀ (s : S) {off : Nat} {fs : List Field} {j : Nat} {f : Field}, FitsF P s off fs → fs[j]? = some f →
    Fits P (subS s (fp s j)) f.type ∧ (∀ x : El s, okP s (fp s j) x) ∧ off ≤ f.offset ∧
    ∀ (w : World) (cs : List Value) (oa : Option Addr) (cs' : List Value) (oa' : Option Addr), Nav w s (fp s j) cs oa cs' oa' →
      (∀ ad, oa = some ad → ad.spot = none → oa' = some ⟨ad.block, ad.off + (f.offset - off), none⟩) ∧ cs' = (cs.drop (f.offset - off)).take (size (subS s (fp s j))) ∨ cs.length ≠ size s := by
  have one : ∀ (s : S) {off : Nat} {fs : List Field} {j : Nat} {f : Field}, fp s j = [] → FOne P (Fits P s) off fs → fs[j]? = some f →
    Fits P (subS s (fp s j)) f.type ∧ (∀ x : El s, okP s (fp s j) x) ∧ off ≤ f.offset ∧
    ∀ (w : World) (cs : List Value) (oa : Option Addr) (cs' : List Value) (oa' : Option Addr), Nav w s (fp s j) cs oa cs' oa' →
      (∀ ad, oa = some ad → ad.spot = none → oa' = some ⟨ad.block, ad.off + (f.offset - off), none⟩) ∧ cs' = (cs.drop (f.offset - off)).take (size (subS s (fp s j))) ∨ cs.length ≠ size s := by
    intro s off fs j f hf ⟨g, e, h1, h2, h3⟩ hj
    subst e
    obtain rfl : j = 0 := by
      match j, hj with
      | 0, _ => rfl
    simp at hj
    subst hj
    rw [hf, subS_nil]
    refine ⟨h3, fun x => okP_nil s x, Nat.le_of_eq h1.symm, fun w cs oa cs' oa' hn => ?_⟩
    obtain ⟨rfl, rfl⟩ := Nav_nil' hn
    by_cases hl : cs'.length = size s
    · left
      refine ⟨fun ad e hs => ?_, ?_⟩
      · rw [e, h1]; simp [addr_eta hs]
      · rw [h1]; simp [← hl]
    · exact .inr hl
  intro s
  induction s with
  | pair a b _ ihb =>
    intro off fs j f ⟨g, fs', e, h1, h2, h3, h4⟩ hj
    subst e
    match j with
    | 0 =>
      simp at hj
      subst hj
      refine ⟨by rw [show subS (.pair a b) (fp (.pair a b) 0) = a from subS_nil a]; exact h3, fun x => okP_nil a x.1, Nat.le_of_eq h1.symm, fun w cs oa cs' oa' hn => ?_⟩
      obtain ⟨c1, c2, e, hl, hn⟩ := hn
      obtain ⟨rfl, rfl⟩ := Nav_nil' hn
      left
      refine ⟨fun ad e hs => ?_, ?_⟩
      · rw [e, h1]; simp [addr_eta hs]
      · rw [h1, e]
        show cs' = List.take (size (subS a [])) _
        rw [subS_nil, ← hl]
        simp
    | j + 1 =>
      have hj' : fs'[j]? = some f := by simpa using hj
      obtain ⟨k1, k2, k3, k4⟩ := ihb h4 hj'
      refine ⟨k1, fun x => k2 x.2, by omega, fun w cs oa cs' oa' hn => ?_⟩
      obtain ⟨c1, c2, e, hl, hn⟩ := hn
      rcases k4 w c2 _ cs' oa' hn with ⟨k, hk⟩ | k
      · left
        refine ⟨fun ad e hs => ?_, ?_⟩
        · have e3 : ad.off + size a + (f.offset - (off + size a)) = ad.off + (f.offset - off) := by omega
          rw [k _ (by rw [e]; rfl) rfl]
          show some (⟨ad.block, ad.off + size a + (f.offset - (off + size a)), none⟩ : Addr) = _
          rw [e3]
        · rw [hk, e]
          show _ = List.take (size (subS b (fp b j))) _
          rw [List.drop_append, List.drop_eq_nil_of_le (as := c1) (i := f.offset - off) (by omega)]
          simp only [List.nil_append]
          rw [show f.offset - (off + size a) = f.offset - off - c1.length from by omega]
      · right
        rw [e]
        simp only [List.length_append, hl, size]
        omega
  | unit => intro off fs j f h; exact absurd h id
  | map _ _ => exact fun h hj => one _ rfl h hj
  | agg s => exact fun h hj => one _ rfl h hj
  | slice nl s => exact fun h hj => one _ rfl h hj
  | ptr s => exact fun h hj => one _ rfl h hj
  | int k => exact fun h hj => one _ rfl h hj
  | bool => exact fun h hj => one _ rfl h hj
  | str => exact fun h hj => one _ rfl h hj
  | func p r => exact fun h hj => one _ rfl h hj
theorem ltb_lt : ∀ {a b : Nat}, ltb a b = true → a < b
  | _, 0, h => by simp [ltb] at h
  | 0, _ + 1, _ => by omega
  | a + 1, b + 1, h => by have := ltb_lt (show ltb a b = true from h); omega
theorem field_at {s : S} {T : TypeId} {j : Nat} (h : Fits P s T) (hj : okF s j = true) : ∃ t fs f, s = .agg t ∧ P.underlying T = some (.struct fs) ∧ fs[j]? = some f ∧
    Fits P (subS s (fpath s j)) f.type ∧ (∀ x : El s, okP s (fpath s j) x) ∧
    ∀ (w : World) (cs : List Value) (oa : Option Addr) (cs' : List Value) (oa' : Option Addr), Nav w s (fpath s j) cs oa cs' oa' → cs.length = size s →
      (∀ ad, oa = some ad → ad.spot = none → oa' = some ⟨ad.block, ad.off + f.offset, none⟩) ∧ cs' = (cs.drop f.offset).take (size (subS s (fpath s j))) := by
  cases s with
  | agg t =>
    have hj : (!isArr t && ltb j (fields t).length) = true := hj
    simp only [Bool.and_eq_true, Bool.not_eq_true'] at hj
    obtain ⟨fs, h1, h2, _⟩ := h.struct hj.1
    have hl := FitsF.fields t h2
    have hlt := ltb_lt hj.2
    have hjl : j < fs.toList.length := by omega
    have hf : fs.toList[j]? = some (fs.toList[j]) := List.getElem?_eq_getElem hjl
    obtain ⟨k1, k2, k3, k4⟩ := FitsF.at_ t h2 hf
    refine ⟨t, fs, fs.toList[j], rfl, h1, by simp [Array.getElem?_eq_getElem (show j < fs.size by simpa using hjl)], k1, fun x => ⟨rfl, k2 x⟩, fun w cs oa cs' oa' hn hcl => ?_⟩
    rcases k4 w cs oa cs' oa' hn.2 with k | k
    · simp only [Nat.sub_zero, Array.getElem_toList] at k ⊢
      exact k
    · exact absurd hcl k
  | _ => simp [okF] at hj
theorem run_fieldAt {s : S} {T : TypeId} {fs : Array Field} {f : Field} {j : Nat} (h1 : P.underlying T = some (.struct fs)) (h2 : fs[j]? = some f) (h3 : Fits P s f.type) {w : World} {ad : Addr} (hs : ad.spot = none) :
    (Instr.fieldAt T (.pointer (some ad)) j).run P w = .ok (.pointer (some ⟨ad.block, ad.off + f.offset, none⟩)) w := by
  have hp : size s ≠ 0 := by have := h3.pos; omega
  simp [Instr.fieldAt, run_underlying h1, h2, Instr.sureAddr, fieldPlace, h3.sizeOf, hp, addr_add hs]
theorem okP_append : ∀ (s : S) (p q : List Nat) (x : El s), okP s p x → okP (subS s p) q (getP s p x) → okP s (p ++ q) x := by
  intro s
  induction s with
  | agg s ih =>
    intro p q x h h'
    cases p with
    | nil => exact h'
    | cons i p => exact ⟨h.1, ih p q x h.2 h'⟩
  | ptr s ih =>
    intro p q x h h'
    cases p with
    | nil => exact h'
    | cons i p => exact ⟨h.1, ih p q x h.2 h'⟩
  | slice nl s ih =>
    intro p q xs h h'
    cases p with
    | nil => exact h'
    | cons i p =>
      obtain ⟨y, hy, h⟩ := h
      refine ⟨y, hy, ih p q y h ?_⟩
      have hg : getP (.slice nl s) (i :: p) xs = getP s p y := by
        show getP s p ((xs : List (El s)).getD i (zero s)) = getP s p y
        rw [getD_some hy]
      rw [hg] at h'
      exact h'
  | pair a b iha ihb =>
    intro p q x h h'
    cases p with
    | nil => exact h'
    | cons i p =>
      match i with
      | 0 => exact iha p q x.1 h h'
      | 1 => exact ihb p q x.2 h h'
      | _ + 2 => exact absurd h id
  | _ => intro p q x h h'; have : p = [] := h; subst this; exact h'
theorem subS_append : ∀ (s : S) (p q : List Nat), subS s (p ++ q) = subS (subS s p) q := by
  intro s
  induction s with
  | agg s ih => intro p q; cases p with | nil => rfl | cons i p => exact ih p q
  | ptr s ih => intro p q; cases p with | nil => rfl | cons i p => exact ih p q
  | slice nl s ih => intro p q; cases p with | nil => rfl | cons i p => exact ih p q
  | pair a b iha ihb => intro p q; cases p with
    | nil => rfl
    | cons i p => cases i with | zero => exact iha p q | succ i => exact ihb p q
  | _ => intro p q; cases p with
    | nil => rfl
    | cons i p => cases q <;> rfl
theorem Nav.append : ∀ (s : S) (p q : List Nat) {w : World} {cs c1 c2 : List Value} {oa o1 o2 : Option Addr}, Nav w s p cs oa c1 o1 → Nav w (subS s p) q c1 o1 c2 o2 → Nav w s (p ++ q) cs oa c2 o2 := by
  intro s
  induction s with
  | agg s ih =>
    intro p q w cs c1 c2 oa o1 o2 h h'
    cases p with
    | nil => obtain ⟨rfl, rfl⟩ := h; exact h'
    | cons i p => exact ⟨h.1, ih p q h.2 h'⟩
  | pair a b iha ihb =>
    intro p q w cs c1 c2 oa o1 o2 h h'
    cases p with
    | nil => obtain ⟨rfl, rfl⟩ := h; exact h'
    | cons i p =>
      obtain ⟨d1, d2, e, hl, h⟩ := h
      match i with
      | 0 => exact ⟨d1, d2, e, hl, iha p q h h'⟩
      | 1 => exact ⟨d1, d2, e, hl, ihb p q h h'⟩
      | _ + 2 => exact absurd h id
  | ptr s ih =>
    intro p q w cs c1 c2 oa o1 o2 h h'
    cases p with
    | nil => obtain ⟨rfl, rfl⟩ := h; exact h'
    | cons i p =>
      obtain ⟨e0, ad, ds, e, e1, e2, e3, h⟩ := h
      exact ⟨e0, ad, ds, e, e1, e2, e3, ih p q h h'⟩
  | slice nl s ih =>
    intro p q w cs c1 c2 oa o1 o2 h h'
    cases p with
    | nil => obtain ⟨rfl, rfl⟩ := h; exact h'
    | cons i p =>
      obtain ⟨ad, n, c, ds, e, e0, e1, e2, e3, h⟩ := h
      exact ⟨ad, n, c, ds, e, e0, e1, e2, e3, ih p q h h'⟩
  | _ => intro p q w cs c1 c2 oa o1 o2 h h'; obtain ⟨rfl, rfl, rfl⟩ := h; exact h'
theorem offH_append : ∀ {h : Option (List Nat)} {p q : List Nat}, offH h p → offH (subHs h p) q → offH h (p ++ q)
  | _, [], _, _, h => h
  | _, _ :: _, _, h, h' => ⟨h.1, offH_append h.2 h'⟩
theorem RootIs.more {σ : List Slot} {V : Nat → Value} {r : Nat} {p : List Nat} {c : Comp} {h : Option (List Nat)} {pth q : List Nat} {u : Value} (H : RootIs σ V r p c h pth q u) (p' : List Nat)
    (hoff : offH (subHs h q) p') : RootIs σ V r (p ++ p') c h pth (q ++ p') u := by
  cases H with
  | val e => exact .val e
  | hol e hh => exact .hol e (offH_append hh hoff)
  | tup e e2 e3 e4 e5 => subst e2; exact .tup e rfl e3 e4 e5
theorem offH_len : ∀ {hp p : List Nat}, noShorter hp p = true → offH (some hp) p
  | _, [], _ => by cases ‹List Nat› <;> trivial
  | a :: hp, i :: p, h => by
    refine ⟨by simp, ?_⟩
    unfold subH
    simp only
    split
    · exact offH_len (show noShorter hp p = true from h)
    · exact offH_none p
  | [], _ :: _, h => by simp [noShorter] at h
theorem offH_split : ∀ {h : Option (List Nat)} (p q : List Nat), offH h (p ++ q) → offH (subHs h p) q
  | _, [], _, h => h
  | _, _ :: p, q, h => offH_split p q h.2
theorem RootIs.offMore {σ : List Slot} {V : Nat → Value} {r : Nat} {p : List Nat} {c : Comp} {h : Option (List Nat)} {pth q : List Nat} {u : Value} (H : RootIs σ V r p c h pth q u) (p' : List Nat)
    (ho : holeOk σ r (p ++ p') = true) : offH (subHs h q) p' := by
  cases H with
  | val e => rw [subHs_none]; exact offH_none _
  | hol e hh =>
    simp only [holeOk, e] at ho
    exact offH_split _ _ (offH_len ho)
  | tup e e2 e3 e4 e5 => rw [subHs_none]; exact offH_none _
theorem RootIs.cont {σ : List Slot} {V : Nat → Value} {r : Nat} {p : List Nat} {c0 c : Comp} {h : Option (List Nat)} {pth q : List Nat} {u : Value} (H : RootIs σ V r p c0 h pth q u)
    (hc : Slot.cont σ (.al r p) = some c) : c = ⟨subS c0.s q, subM c0.s q c0.m, getP c0.s q c0.x⟩ ∧ subHs h q ≠ some [] := by
  cases H with
  | val e =>
    simp only [Slot.cont, e, Option.some.injEq] at hc
    exact ⟨hc.symm, by rw [subHs_none]; simp⟩
  | hol e hoff =>
    simp only [Slot.cont, e] at hc
    cases hl : longer _ p
    · rw [hl] at hc; simp [bif3] at hc
    · rw [hl] at hc
      simp only [bif3, Option.some.injEq] at hc
      exact ⟨hc.symm, subHs_longer hl⟩
  | tup e e2 e3 e4 e5 =>
    subst e2
    simp only [Slot.cont, e, e3, Option.some.injEq] at hc
    exact ⟨hc.symm, by rw [subHs_none]; simp⟩
end Go.Ev

noncomputable section
namespace Go.Ev
variable {P : Program}
theorem Nav.at_ : ∀ (s : S) (p : List Nat) {w : World} {cs cs' : List Value} {oa oa' : Option Addr}, Nav w s p cs oa cs' oa' →
    (∀ ad, oa = some ad → ad.spot = none ∧ At w ad.block ad.off cs) → ∀ ad, oa' = some ad → ad.spot = none ∧ At w ad.block ad.off cs' := by
  intro s
  induction s with
  | agg s ih =>
    intro p w cs cs' oa oa' h e
    cases p with
    | nil => obtain ⟨rfl, rfl⟩ := h; exact e
    | cons i p => exact ih p h.2 e
  | pair a b iha ihb =>
    intro p w cs cs' oa oa' h e
    cases p with
    | nil => obtain ⟨rfl, rfl⟩ := h; exact e
    | cons i p =>
      obtain ⟨d1, d2, e1, hl, h⟩ := h
      match i with
      | 0 =>
        refine iha p h (fun ad ha => ⟨(e ad ha).1, fun j v hj => (e ad ha).2 j v ?_⟩)
        have hlt : j < d1.length := by
          rcases Nat.lt_or_ge j d1.length with hh | hh
          · exact hh
          · rw [List.getElem?_eq_none hh] at hj; cases hj
        rw [e1, List.getElem?_append_left hlt]; exact hj
      | 1 =>
        refine ihb p h (fun ad ha => ?_)
        cases oa with
        | none => cases ha
        | some a0 =>
          simp only [Option.map_some, Option.some.injEq] at ha
          subst ha
          refine ⟨rfl, fun j v hj => ?_⟩
          have := (e a0 rfl).2 (d1.length + j) v (by rw [e1, List.getElem?_append_right (by omega)]; simpa using hj)
          simp only
          rw [show a0.off + size a + j = a0.off + (d1.length + j) from by omega]
          exact this
      | _ + 2 => exact absurd h id
  | ptr s ih =>
    intro p w cs cs' oa oa' h e
    cases p with
    | nil => obtain ⟨rfl, rfl⟩ := h; exact e
    | cons i p =>
      obtain ⟨e0, ad, ds, e1, e2, e3, ha, h⟩ := h
      refine ih p h (fun ad' h' => ?_)
      injection h' with h'
      subst h'
      exact ⟨e2, ha⟩
  | slice nl s ih =>
    intro p w cs cs' oa oa' h e
    cases p with
    | nil => obtain ⟨rfl, rfl⟩ := h; exact e
    | cons i p =>
      obtain ⟨ad, n, c, ds, e0, e1, e2, e3, ha, h⟩ := h
      refine ih p h (fun ad' h' => ?_)
      injection h' with h'
      subst h'
      exact ⟨rfl, ha⟩
  | _ => intro p w cs cs' oa oa' h e; obtain ⟨rfl, rfl, rfl⟩ := h; exact e
section
variable {C : Ctx} {B : Base} {R : Type} {K : List Slot → Option R} {res : R} {next : Act → World → Prop} {Q : Exit → Act → World → Prop} {o : Oper} {σ : List Slot} {a : Act} {w : World} {col : Col}
theorem AlOk.deref (I : InvC P B col σ a w) {r : Nat} {p : List Nat} {v : Value} (h : AlOk w σ (Act.V a) r p v) {s : S} {m : M} {x : El (.ptr s)} (hc : Slot.cont σ (.al r p) = some ⟨.ptr s, m, x⟩) :
    PlOk w σ (Act.V a) r (p ++ [0]) v := by
  rcases h with ⟨cs, e, hp, e2⟩ | ⟨c0, hh, pth, q, u, hr, hcp⟩
  · subst hp; simp [Slot.cont, e] at hc
  · obtain ⟨hc, hno⟩ := hr.cont hc
    obtain ⟨cs, h1, h2⟩ := I.copy hr hcp
    obtain ⟨ok, cs1, cs', oa', k1, k2, k3⟩ := hcp
    obtain rfl := h2.unique k3
    have hs : subS c0.s q = .ptr s := by injection hc with e _ _; exact e.symm
    refine ⟨c0, hh, pth, q ++ [0], u, hr.more [0] ⟨hno, trivial⟩, ?_⟩
    have key : ∀ (t : S) (y : El t) (m' : M), t = .ptr s → Rep P t w col (subHs hh q) (pth ++ q) m' y cs → IsVal t v cs →
        okP t [0] y ∧ ∃ ad ds, Nav w t [0] cs oa' ds (some ad) ∧ v = .pointer (some ad) := by
      intro t y m' e h1 h2
      subst e
      obtain ⟨ad, ds, e1, e2, hs', _, _, hat, hr'⟩ := h1.ptr_val hno h2
      exact ⟨⟨rfl, okP_nil _ _⟩, ad, ds, ⟨rfl, ad, ds, e2, hs', hr'.len, hat, Nav_nil _ _ _ _⟩, e1⟩
    obtain ⟨o1, ad, ds, n1, n2⟩ := key _ _ _ hs h1 h2
    exact ⟨okP_append _ _ _ _ ok o1, cs1, ds, ad, k1, k2.append _ _ _ n1, n2⟩
theorem PlOk.cont (I : InvC P B col σ a w) {r : Nat} {p : List Nat} {v : Value} (h : PlOk w σ (Act.V a) r p v) {c : Comp} (hc : Slot.cont σ (.al r p) = some c) :
    ∃ ad cs c0 hh pth q u, RootIs σ (Act.V a) r p c0 hh pth q u ∧ c = ⟨subS c0.s q, subM c0.s q c0.m, getP c0.s q c0.x⟩ ∧ subHs hh q ≠ some [] ∧ v = .pointer (some ad) ∧ ad.spot = none ∧ At w ad.block ad.off cs ∧
      Rep P c.s w col (subHs hh q) (pth ++ q) c.m c.x cs ∧ okP c0.s q c0.x ∧ ∃ cs0, IsVal c0.s u cs0 ∧ Nav w c0.s q cs0 none cs (some ad) := by
  obtain ⟨c0, hh, pth, q, u, hr, hcp⟩ := h
  obtain ⟨rfl, hno⟩ := hr.cont hc
  obtain ⟨cs, ad, cs0, e1, e2, e3, e4⟩ := I.place hr hcp
  have := e3.at_ _ _ (fun _ h => by cases h) ad rfl
  exact ⟨ad, cs, c0, hh, pth, q, u, hr, rfl, hno, e1, this.1, this.2, e4, hcp.1, cs0, e2, e3⟩
theorem whole_cont {r : Nat} {p : List Nat} {c : Comp} (h : Slot.whole σ (.al r p) = some c) : Slot.cont σ (.al r p) = some c := by
  simp only [Slot.whole] at h
  split at h
  · cases h
  · exact h
theorem atP_new (I : InvC P B col σ a w) {r : Nat} {p : List Nat} {c : Comp} {v : Value} {K1 : Slot → Option R} (hal : AlOk w σ (Act.V a) r p v) (hc : Slot.cont σ (.al r p) = some c)
    (he : atP σ r p c K1 = some res) : ∃ sl, (∀ d, NewOk P w col σ a d v sl) ∧ K1 sl = some res := by
  unfold atP at he
  cases hn : noOwn c.m
  · rw [hn] at he
    exact ⟨.al r p, fun d => hal, he⟩
  · rw [hn] at he
    simp only [bif3] at he
    split at he
    · rename_i c' hw
      obtain ⟨pth, cs, h1, h2⟩ := I.whole (sl := .al r p) hal hw
      have hcc : c' = c := by
        have h1 := whole_cont hw
        rw [hc] at h1
        injection h1 with h1
        exact h1.symm
      subst hcc
      exact ⟨.val c'.s .sh c'.x, fun d => ⟨cs, h1.toSh hn, h2⟩, he⟩
    · cases he
theorem PlOk.alias {r : Nat} {p : List Nat} {v' : Value} {c0 : Comp} {hh : Option (List Nat)} {pth q : List Nat} {u : Value} {cs : List Value} {ad : Addr}
    (hr : RootIs σ (Act.V a) r p c0 hh pth q u) (ok : okP c0.s q c0.x) (hn : ∃ cs0, IsVal c0.s u cs0 ∧ Nav w c0.s q cs0 none cs (some ad)) (hv : IsVal (subS c0.s q) v' cs) : AlOk w σ (Act.V a) r p v' := by
  obtain ⟨cs0, h1, h2⟩ := hn
  exact .inr ⟨c0, hh, pth, q, u, hr, ok, cs0, cs, _, h1, h2, hv⟩
theorem ptr_any {s : S} {m : M} {x : El (.ptr s)} {v : Value} (h : OpdOk P w col σ a v (.val (.ptr s) m x)) :
    ∃ ad ds, v = .pointer (some ad) ∧ ad.spot = none ∧ col ad.block = some [] ∧ ad.block < w.heap.size ∧ At w ad.block ad.off ds ∧ ∀ p, Rep P s w col none p .sh x ds := by
  obtain ⟨cs, _, h1, h2⟩ := OpdOk.reps h
  obtain ⟨ad, ds, e1, e2, hs, ho, hn, hat, hr⟩ := (h1 []).ptr_val (by simp) h2
  exact ⟨ad, ds, e1, hs, (hn rfl).1, (hn rfl).2, hat, fun p => hr.path rfl⟩
theorem slice_any {nl : Bool} {s : S} {m : M} {xs : List (El s)} {v : Value} (h : OpdOk P w col σ a v (.val (.slice nl s) m xs)) :
    ∃ b c, v = .slice b xs.length c ∧ SliceRep P nl s w col none [] .sh xs b c := by
  obtain ⟨cs, _, h1, h2⟩ := OpdOk.reps h
  obtain ⟨b, c, e1, e2, H⟩ := (h1 []).slice_val (by simp) h2
  exact ⟨b, c, e1, H⟩
theorem subM_sh : ∀ (s : S) (p : List Nat), subM s p .sh = .sh := by
  intro s
  induction s with
  | agg s ih => intro p; cases p with | nil => rfl | cons i p => exact ih p
  | ptr s ih => intro p; cases p with | nil => rfl | cons i p => exact ih p
  | slice nl s ih => intro p; cases p with | nil => rfl | cons i p => exact ih p
  | pair a b iha ihb => intro p; cases p with
    | nil => rfl
    | cons i p => cases i with | zero => exact iha p | succ i => exact ihb p
  | _ => intro p; cases p <;> rfl
theorem run_part {s : S} {T : TypeId} (h : Fits P s T) {cs cs' : List Value} {off : Nat} (hcs : cs' = (cs.drop off).take (size s)) (hl : cs'.length = size s) :
    ∃ v, (∀ w, (part T cs.toArray off).run P w = .ok v w) ∧ IsVal s v cs' := by
  by_cases ha : ∃ t, s = .agg t
  · obtain ⟨t, rfl⟩ := ha
    refine ⟨.agg cs'.toArray, fun w => ?_, rfl⟩
    simp only [part, Sem.run_bind, isAgg_agg h, Result.andThen_ok, if_true, h.sizeOf, Sem.run_pure]
    congr 2
    rw [hcs]
    simp [List.extract_toArray, List.extract_eq_take_drop]
  · have hs' : ∀ t, s ≠ .agg t := fun t e => ha ⟨t, e⟩
    have h1 : size s = 1 := by
      cases s <;> first | rfl | exact absurd rfl (hs' _) | exact absurd h id
    obtain ⟨v, rfl⟩ : ∃ v, cs' = [v] := by
      rw [h1] at hl
      match cs', hl with
      | [v], _ => exact ⟨v, rfl⟩
    have hc : cs[off]? = some v := by
      have : (List.take (size s) (List.drop off cs))[0]? = some v := by rw [← hcs]; rfl
      rw [h1] at this
      simpa using this
    refine ⟨v, by simp [part, isAgg_not h hs', hc], ?_⟩
    cases s <;> first | rfl | exact absurd rfl (hs' _) | exact absurd h id
theorem cell_lt {ad : Addr} {v : Value} (h : w.cell? ad = some v) : ad.block < w.heap.size := by
  rcases Nat.lt_or_ge ad.block w.heap.size with hl | hl
  · exact hl
  · unfold World.cell? at h
    rw [Array.getElem?_eq_none hl] at h
    simp at h
theorem op_load (I : InvC P B col σ a w) (hG : Good P B K res next) {T : TypeId} {x : Operand} {s : S} {ad : Addr} {cs : List Value} {v' : Value} {sl : Slot} (hop : o.op = .load T x) (hx : a.eval x = .pointer (some ad)) (hf : Fits P s T) (hs : ad.spot = none)
    (hat : At w ad.block ad.off cs) (hl : cs.length = size s) (hval : IsVal s v' cs) (hnew : ∀ d, NewOk P w col σ a d v' sl) (he : K (fin σ o.dst sl) = some res) : o.st P a w next := by
  refine ⟨v', fun w' hst => ?_, ?_, hG _ _ _ ⟨col, I.fin fun d _ => hnew d⟩ he⟩
  · unfold StillW at hst
    rw [hop] at hst
    obtain ⟨v2, hrun, hv2⟩ := run_loadVar hf hs (hat.frame (hst ad hx)) hl
    obtain rfl := hv2.value hval
    simp [execOp, hop, hx, Instr.loadAt, Instr.sureAddr, hrun]
  · unfold InW
    rw [hop]
    intro ad' h'
    rw [hx] at h'
    injection h' with h'; injection h' with h'
    subst h'
    have hp := hf.pos
    cases cs with
    | nil => simp at hl; omega
    | cons c cs => exact cell_lt (w := w) (ad := ⟨ad.block, ad.off + 0, none⟩) (hat 0 c rfl)
theorem Load.ok (hC : CtxOk P C) (I : InvC P B col σ a w) (hG : Good P B K res next) {T : TypeId} {x : Operand} (hop : o.op = .load T x)
    (he : loadK C T σ (Ev.rdo σ none x) (fun sl => K (fin σ o.dst sl)) = some res) : o.st P a w next := by
  have hx := I.rdo none x
  generalize hv : a.eval x = v at hx
  have go : ∀ r p, PlOk w σ (Act.V a) r p v → (match Slot.cont σ (.al r p) with
      | some c => chk C T c.s (atP σ r p c (fun sl => K (fin σ o.dst sl)))
      | none => none) = some res → o.st P a w next := by
    intro r p hp he
    split at he
    · rename_i c hc
      obtain ⟨hf, he⟩ := chk_ok hC.ty he
      obtain ⟨ad, cs, c0, hh, pth, q, u, hr, rfl, hno, e1, hs, hat, hrep, ok, hn⟩ := hp.cont I hc
      obtain ⟨v', hrun, hval⟩ := run_loadVar hf hs hat hrep.len
      obtain ⟨sl, hnew, hk⟩ := atP_new I (PlOk.alias hr ok hn hval) hc he
      exact op_load I hG hop (hv.trans e1) hf hs hat hrep.len hval hnew hk
    · cases he
  unfold loadK at he
  split at he
  · rename_i r p hsl
    rw [hsl] at hx
    exact go r p hx he
  · rename_i r p hsl
    rw [hsl] at hx
    split at he
    · rename_i s m x' hc
      exact go r (p ++ [0]) (AlOk.deref I hx hc) he
    · cases he
  · rename_i s m x' hsl
    rw [hsl] at hx
    obtain ⟨hf, he⟩ := chk_ok hC.ty he
    obtain ⟨ad, ds, e1, hs, _, _, hat, hr⟩ := ptr_any hx
    obtain ⟨v', hrun, hval⟩ := run_loadVar hf hs hat (hr []).len
    exact op_load I hG hop (hv.trans e1) hf hs hat (hr []).len hval (sl := .val s .sh x') (fun d => ⟨ds, hr _, hval⟩) he
  · cases he
theorem FieldAddr.ok (hC : CtxOk P C) (I : InvC P B col σ a w) (hG : Good P B K res next) {T : TypeId} {x : Operand} {j : Nat} (hop : o.op = .fieldAddr T x j)
    (he : fieldAddrK C T σ (Ev.rdo σ none x) j (fun sl => K (fin σ o.dst sl)) = some res) : o.st P a w next := by
  have hx := I.rdo none x
  generalize hv : a.eval x = v at hx
  have go : ∀ r p, PlOk w σ (Act.V a) r p v → (match Slot.cont σ (.al r p) with
      | some c => chk C T c.s (bif3 (okF c.s j && holeOk σ r (p ++ fpath c.s j)) (K (fin σ o.dst (.pl r (p ++ fpath c.s j)))) none)
      | none => none) = some res → o.st P a w next := by
    intro r p hp he
    split at he
    · rename_i c hc
      obtain ⟨hf, he⟩ := chk_ok hC.ty he
      cases hj : (okF c.s j && holeOk σ r (p ++ fpath c.s j))
      · rw [hj] at he; simp [bif3] at he
      · rw [hj] at he
        simp only [Bool.and_eq_true] at hj
        obtain ⟨ad, cs, c0, hh, pth, q, u, hr, rfl, hno, e1, hs, hat, hrep, ok, cs0, hn0, hn⟩ := hp.cont I hc
        obtain ⟨t, fs, f, e, k1, k2, k3, k4, k5⟩ := field_at hf hj.1
        have hoff := hr.offMore _ hj.2
        obtain ⟨cs', oa', n1, n2⟩ := hrep.nav _ (fpath (subS c0.s q) j) (oa := some ad) (k4 _) hoff
        have := (k5 w cs (some ad) cs' oa' n1 hrep.len).1 ad rfl hs
        subst this
        refine op_k1 (by rw [hop]; rfl) I hG (v := .pointer (some ⟨ad.block, ad.off + f.offset, none⟩)) ?_ (fun d => ?_) he
        · subst e1
          simp [execOp, hop, hv, run_fieldAt k1 k2 k3 hs]
        · exact ⟨c0, hh, pth, _, u, hr.more _ hoff, okP_append _ _ _ _ ok (k4 _), cs0, cs', _, hn0, hn.append _ _ _ n1, rfl⟩
    · cases he
  unfold fieldAddrK at he
  split at he
  · rename_i r p hsl
    rw [hsl] at hx
    exact go r p hx he
  · rename_i r p hsl
    rw [hsl] at hx
    split at he
    · rename_i s m x' hc
      exact go r (p ++ [0]) (AlOk.deref I hx hc) he
    · cases he
  · rename_i s m x' hsl
    rw [hsl] at hx
    obtain ⟨hf, he⟩ := chk_ok hC.ty he
    cases hj : okF s j
    · rw [hj] at he; simp [bif3] at he
    · rw [hj] at he
      obtain ⟨ad, ds, e1, hs, hcl, hlt, hat, hr⟩ := ptr_any hx
      obtain ⟨t, fs, f, e, k1, k2, k3, k4, k5⟩ := field_at hf hj
      obtain ⟨cs', oa', n1, n2⟩ := (hr []).nav _ (fpath s j) (oa := some ad) (k4 _) (offH_none _)
      have ha := (k5 w ds (some ad) cs' oa' n1 (hr []).len).1 ad rfl hs
      subst ha
      have hat' := n1.at_ _ _ (fun ad' h' => by injection h' with h'; subst h'; exact ⟨hs, hat⟩) _ rfl
      refine op_k1 (by rw [hop]; rfl) I hG (v := .pointer (some ⟨ad.block, ad.off + f.offset, none⟩)) ?_ (fun d => ?_) he
      · subst e1
        simp [execOp, hop, hv, run_fieldAt k1 k2 k3 hs]
      · rw [subHs_none] at n2
        refine ⟨[.pointer (some ⟨ad.block, ad.off + f.offset, none⟩)], ⟨⟨ad.block, ad.off + f.offset, none⟩, cs', rfl, rfl, fun h => by simp [isOw] at h, fun _ => ⟨hcl, hlt⟩, hat'.2, ?_⟩, rfl⟩
        have : subM s (fpath s j) .sh = .sh := subM_sh _ _
        rw [this] at n2
        exact n2.path rfl
  · cases he
theorem Field.ok (hC : CtxOk P C) (I : InvC P B col σ a w) (hG : Good P B K res next) {T : TypeId} {x : Operand} {j : Nat} (hop : o.op = .field T x j)
    (he : fieldK C T σ (Ev.rdo σ none x) j (fun sl => K (fin σ o.dst sl)) = some res) : o.st P a w next := by
  have hx := I.rdo none x
  generalize hv : a.eval x = v at hx
  unfold fieldK at he
  split at he
  · rename_i s m x' hsl
    rw [hsl] at hx
    obtain ⟨hf, he⟩ := chk_ok hC.ty he
    cases hj : okF s j
    · rw [hj] at he; simp [bif3] at he
    · rw [hj] at he
      obtain ⟨cs, _, hr, hval⟩ := OpdOk.reps hx
      obtain ⟨t, fs, f, e, k1, k2, k3, k4, k5⟩ := field_at hf hj
      obtain ⟨cs', oa', n1, n2⟩ := (hr []).nav _ (fpath s j) (oa := none) (k4 _) (offH_none _)
      have hcs := (k5 w cs none cs' oa' n1 (hr []).len).2
      obtain ⟨v', hp, hval'⟩ := run_part k3 (cs := cs) hcs n2.len
      refine op_k1 (by rw [hop]; rfl) I hG (v := v') (sl := .val (subS s (fpath s j)) .sh (getP s (fpath s j) x')) ?_ (fun d => ?_) he
      · subst e
        have hval : v = .agg cs.toArray := hval
        subst hval
        simp [execOp, hop, hv, Instr.field, run_underlying k1, k2, asAgg, hp]
      · rw [subHs_none, subM_sh] at n2
        exact ⟨cs', n2.path rfl, hval'⟩
  · rename_i r p hsl
    rw [hsl] at hx
    split at he
    · rename_i c hc
      obtain ⟨hf, he⟩ := chk_ok hC.ty he
      cases hj : (okF c.s j && holeOk σ r (p ++ fpath c.s j))
      · rw [hj] at he; simp [bif3] at he
      · rw [hj] at he
        simp only [Bool.and_eq_true] at hj
        obtain ⟨t, fs, f, e, k1, k2, k3, k4, k5⟩ := field_at hf hj.1
        rcases hx with ⟨cs, e0, hp, e2⟩ | ⟨c0, hh, pth, q, u, hr, hcp⟩
        · subst hp; simp [Slot.cont, e0] at hc
        · obtain ⟨rfl, hno⟩ := hr.cont hc
          obtain ⟨cs, h1, h2⟩ := I.copy hr hcp
          obtain ⟨ok, cs1, cs', oa', j1, j2, j3⟩ := hcp
          obtain rfl := h2.unique j3
          have hoff := hr.offMore _ hj.2
          obtain ⟨cs2, oa2, n1, n2⟩ := h1.nav _ (fpath (subS c0.s q) j) (oa := oa') (k4 _) hoff
          have hcs := (k5 w cs oa' cs2 oa2 n1 h1.len).2
          obtain ⟨v', hp, hval'⟩ := run_part k3 (cs := cs) hcs n2.len
          have hrun : ∀ w, (execOp a.eval o).run P w = .ok (.value v') w := by
            have hval : v = .agg cs.toArray := by
              simp only at e
              rw [e] at h2
              exact h2
            subst hval
            simp [execOp, hop, hv, Instr.field, run_underlying k1, k2, asAgg, hp]
          have hal : AlOk w σ (Act.V a) r (p ++ fpath (subS c0.s q) j) v' := by
            refine .inr ⟨c0, hh, pth, q ++ fpath (subS c0.s q) j, u, hr.more _ hoff, okP_append _ _ _ _ ok (k4 _), cs1, cs2, oa2, j1, j2.append _ _ _ n1, ?_⟩
            rw [subS_append]
            exact hval'
          simp only [bif3] at he
          split at he
          · rename_i c' hc'
            obtain ⟨sl, hnew, hk⟩ := atP_new I hal hc' he
            exact op_k1 (by rw [hop]; rfl) I hG hrun hnew hk
          · cases he
    · cases he
  · cases he
end
end Go.Ev

noncomputable section
namespace Go.Ev
variable {P : Program}
section
variable {C : Ctx} {B : Base} {R : Type} {K : List Slot → Option R} {res : R} {next : Act → World → Prop} {Q : Exit → Act → World → Prop} {o : Oper} {σ : List Slot} {a : Act} {w : World} {col : Col}
theorem InvC.int (I : InvC P B col σ a w) {sl : Slot} {v : Value} (ho : OpdOk P w col σ a v sl) {k : IntKind} {m : M} {n : Int} (hc : sl.cont σ = some ⟨.int k, m, n⟩) : v = .int k n := by
  obtain ⟨h, pth, cs, hn, h1, h2⟩ := I.cont ho hc
  exact Rep.int_val (k := k) h1 hn h2
theorem InvC.bool (I : InvC P B col σ a w) {sl : Slot} {v : Value} (ho : OpdOk P w col σ a v sl) {m : M} {n : Bool} (hc : sl.cont σ = some ⟨.bool, m, n⟩) : v = .bool n := by
  obtain ⟨h, pth, cs, hn, h1, h2⟩ := I.cont ho hc
  exact Rep.bool_val h1 hn h2
theorem InvC.str (I : InvC P B col σ a w) {sl : Slot} {v : Value} (ho : OpdOk P w col σ a v sl) {m : M} {n : ByteArray} (hc : sl.cont σ = some ⟨.str, m, n⟩) : v = .string n := by
  obtain ⟨h, pth, cs, hn, h1, h2⟩ := I.cont ho hc
  exact Rep.str_val h1 hn h2
theorem withInt_some {sl : Slot} {K1 : Int → Option R} (h : withInt σ sl K1 = some res) : ∃ (k : IntKind) (m : M) (n : Int), sl.cont σ = some ⟨.int k, m, n⟩ ∧ K1 n = some res := by
  unfold withInt at h
  split at h
  · rename_i k m n e; exact ⟨k, m, n, e, h⟩
  · cases h
theorem getElem_of_lt {α : Type} {xs : List α} {i : Int} {d : α} (h0 : 0 ≤ i) (h1 : i < (xs.length : Int)) : xs[i.toNat]? = some (xs.getD i.toNat d) := by
  have : i.toNat < xs.length := by omega
  simp [List.getD, List.getElem?_eq_getElem this]
theorem IndexAddr.ok (hC : CtxOk P C) (I : InvC P B col σ a w) (hG : Good P B K res next) {T : TypeId} {x ix : Operand} (hop : o.op = .indexAddr T x ix)
    (he : (withInt σ (Ev.rdo σ none ix) fun n => indexAddrK C T σ (Ev.rdo σ none x) n (fun sl => K (fin σ o.dst sl))) = some res) : o.st P a w next := by
  have hx := I.rdo none x
  have hi := I.rdo none ix
  obtain ⟨k, mi, i, hci, he⟩ := withInt_some he
  have hiv := I.int hi hci
  generalize hv : a.eval x = v at hx
  have run : ∀ {nl : Bool} {s : S} {b : Option Addr} {n c : Nat} {ad : Addr}, Fits P (.slice nl s) T → v = .slice b n c → b = some ad → ad.spot = none → 0 ≤ i → i < (n : Int) → ∀ w,
      (execOp a.eval o).run P w = .ok (.value (.pointer (some ⟨ad.block, ad.off + i.toNat * size s, none⟩))) w := by
    intro nl s b n c ad hf e1 e2 hs h0 h1 w
    obtain ⟨⟨e, k1, k2⟩, _⟩ := hf
    subst e1; subst e2
    simp [execOp, hop, hv, hiv, Instr.indexAt, asIntOf, run_underlying k1, h0, h1, Fits.sizeOf k2, addr_add hs]
  unfold indexAddrK at he
  split at he
  · rename_i nl s m xs hsl
    rw [hsl] at hx
    obtain ⟨hf, he⟩ := chk_ok hC.ty he
    split at he
    · rename_i h0
      split at he
      · rename_i h1
        obtain ⟨b, c, e1, hlen, _, hnone, H⟩ := slice_any hx
        have hy := getElem_of_lt (d := zero s) h0 h1
        cases b with
        | none => have := (hnone rfl).1; subst this; simp at h1; omega
        | some ad =>
          obtain ⟨hs, _, hn, hx'⟩ := H ad rfl
          have hs := hs (.inl (cap_ne hy hlen))
          obtain ⟨ds, hat, hr⟩ := hx' _ _ hy
          have hb : col ad.block = some [] ∧ ad.block < w.heap.size := by
            rcases hn rfl with h | h
            · subst h; simp at h1; omega
            · exact h
          refine op_k1 (by rw [hop]; rfl) I hG (run hf e1 rfl hs h0 h1) (sl := .val (.ptr s) .sh (xs.getD i.toNat (zero s))) (fun d => ?_) he
          exact ⟨[.pointer (some ⟨ad.block, ad.off + i.toNat * size s, none⟩)], ⟨⟨ad.block, ad.off + i.toNat * size s, none⟩, ds, rfl, rfl, fun h => by simp [isOw] at h, fun _ => hb, hat, hr.path rfl⟩, rfl⟩
      · cases he
    · cases he
  · rename_i r p hsl
    rw [hsl] at hx
    split at he
    · rename_i nl s m xs hc
      obtain ⟨hf, he⟩ := chk_ok hC.ty he
      split at he
      · rename_i h0
        split at he
        · rename_i h1
          cases hho : holeOk σ r (p ++ [i.toNat])
          · rw [hho] at he; simp [bif3] at he
          · rw [hho] at he
            rcases hx with ⟨cs, e0, hp, e2⟩ | ⟨c0, hh, pth, q, u, hr, hcp⟩
            · subst hp; simp [Slot.cont, e0] at hc
            · obtain ⟨hce, hno⟩ := hr.cont hc
              obtain ⟨cs, h1', h2'⟩ := I.copy hr hcp
              obtain ⟨ok, cs1, cs', oa', j1, j2, j3⟩ := hcp
              obtain rfl := h2'.unique j3
              have hoff := hr.offMore _ hho
              have hs : subS c0.s q = .slice nl s := by injection hce with e _ _; exact e.symm
              have key : ∀ (t : S) (y : El t) (m' : M), t = .slice nl s → HEq y xs → Rep P t w col (subHs hh q) (pth ++ q) m' y cs → IsVal t v cs →
                  okP t [i.toNat] y ∧ ∃ ad c ds, v = .slice (some ad) xs.length c ∧ ad.spot = none ∧ Nav w t [i.toNat] cs oa' ds (some ⟨ad.block, ad.off + i.toNat * size s, none⟩) := by
                intro t y m' e hy h1' h2'
                subst e
                obtain rfl := eq_of_heq hy
                obtain ⟨b, c, e1, e2, hlen, _, hnone, H⟩ := h1'.slice_val hno h2'
                have hy := getElem_of_lt (d := zero s) h0 h1
                cases b with
                | none => have h5 := (hnone rfl).1; rw [h5] at h1; simp at h1; omega
                | some ad =>
                  obtain ⟨hs, _, hn, hx'⟩ := H ad rfl
                  have hs := hs (.inl (cap_ne hy hlen))
                  obtain ⟨ds, hat, hr'⟩ := hx' _ _ hy
                  exact ⟨⟨_, hy, okP_nil _ _⟩, ad, c, ds, e1, hs, ad, _, c, ds, e2, by omega, hs, hr'.len, hat, Nav_nil _ _ _ _⟩
              obtain ⟨o1, ad, c, ds, e1, hs', n1⟩ := key _ _ _ hs (by injection hce with _ _ e; exact e.symm) h1' h2'
              refine op_k1 (by rw [hop]; rfl) I hG (run hf e1 rfl hs' h0 h1) (sl := .pl r (p ++ [i.toNat])) (fun d => ?_) he
              exact ⟨c0, hh, pth, _, u, hr.more _ hoff, okP_append _ _ _ _ ok o1, cs1, ds, _, j1, j2.append _ _ _ n1, rfl⟩
        · cases he
      · cases he
    · cases he
  · cases he
theorem Len.ok (hC : CtxOk P C) (I : InvC P B col σ a w) (hG : Good P B K res next) {T : TypeId} {x : Operand} {c : Call} (hop : o.op = .call c) (hcal : c.callee = .builtin .len) (hargs : c.args = #[x]) (hts : c.argTypes = #[T])
    (he : lenK C T ((Ev.rdo σ none x).cont σ) (fun sl => K (fin σ o.dst sl)) = some res) : o.st P a w next := by
  have hx := I.rdo none x
  unfold lenK at he
  split at he
  · rename_i nl s m xs hc
    obtain ⟨hf, he⟩ := chk_ok hC.ty he
    obtain ⟨h, pth, cs, hn, h1, h2⟩ := I.cont hx hc
    obtain ⟨b, c', e1, _⟩ := Rep.slice_val (nl := nl) (s := s) h1 hn h2
    obtain ⟨⟨e, k1, k2⟩, _⟩ := hf
    refine op_k1 (by rw [hop]; rfl) I hG (v := .int .i64 (xs.length : Int)) ?_ (fun d => New_int d _ _) he
    simp [execOp, hop, resolve, hcal, hargs, hts, invoke, builtin, Builtin.len_, e1, run_underlying k1, goInt]
  · rename_i m s hc
    obtain ⟨hf, he⟩ := chk_ok hC.ty he
    have e1 := I.str hx hc
    refine op_k1 (by rw [hop]; rfl) I hG (v := .int .i64 (s.size : Int)) ?_ (fun d => New_int d _ _) he
    simp [execOp, hop, resolve, hcal, hargs, hts, invoke, builtin, Builtin.len_, e1, run_underlying hf.1, goInt]
  · cases he
theorem Un.ok (I : InvC P B col σ a w) (hG : Good P B K res next) {op : UnOp} {T : TypeId} {x : Operand} (hop : o.op = .unOp op T x)
    (he : unK op ((Ev.rdo σ none x).cont σ) (fun sl => K (fin σ o.dst sl)) = some res) : o.st P a w next := by
  have hx := I.rdo none x
  unfold unK at he
  split at he
  · rename_i m b hc
    have e1 := I.bool hx hc
    exact op_k1 (by rw [hop]; rfl) I hG (v := .bool (!b)) (by simp [execOp, hop, e1, Op.unary]) (fun d => New_bool d _) he
  · rename_i k m n hc
    have e1 := I.int hx hc
    exact op_k1 (by rw [hop]; rfl) I hG (v := .int k (k.wrap (0 - n))) (by simp [execOp, hop, e1, Op.unary, Op.intArith]) (fun d => New_int d _ _) he
  · cases he
theorem Move.ok (hC : CtxOk P C) (I : InvC P B col σ a w) (hG : Good P B K res next) {x : Operand} {sT : Option S} (hop : o.op = .move x ∨ o.op = .assign x)
    (he : K (fin σ o.dst (Ev.rdo' C σ sT x)) = some res) : o.st P a w next := by
  have hx := I.rdo' hC sT x
  refine op_k1 (by rcases hop with h | h <;> rw [h] <;> rfl) I hG (v := a.eval x) ?_ (fun d => hx.new d) he
  rcases hop with hop | hop <;> simp [execOp, hop]
theorem Pick.ok (hC : CtxOk P C) (I : InvC P B col σ a w) (hG : Good P B K res next) {c x y : Operand} {sT : Option S} (hop : o.op = .pick c x y)
    (he : (match (Ev.rdo σ none c).cont σ with
      | some ⟨.bool, _, t⟩ => if t = true then K (fin σ o.dst (Ev.rdo' C σ sT x)) else K (fin σ o.dst (Ev.rdo' C σ sT y))
      | _ => none) = some res) : o.st P a w next := by
  have hc := I.rdo none c
  split at he
  · rename_i m t hcc
    have e1 := I.bool hc hcc
    split at he
    · rename_i ht
      exact op_k1 (by rw [hop]; rfl) I hG (v := a.eval x) (by simp [execOp, hop, e1, asBool, ht]) (fun d => (I.rdo' hC sT x).new d) he
    · rename_i ht
      exact op_k1 (by rw [hop]; rfl) I hG (v := a.eval y) (by simp [execOp, hop, e1, asBool, ht]) (fun d => (I.rdo' hC sT y).new d) he
  · cases he
theorem Convert.ok (hC : CtxOk P C) (I : InvC P B col σ a w) (hG : Good P B K res next) {src T : TypeId} {x : Operand} (hop : o.op = .convert src T x) (hsrc : (P.underlying src).isSome = true)
    (he : (match (Ev.rdo σ none x).cont σ, C.ty T with
      | some ⟨.int _, _, n⟩, some (.int k) => K (fin σ o.dst (V1 (.int k) (k.wrap n)))
      | _, _ => none) = some res) : o.st P a w next := by
  have hx := I.rdo none x
  split at he
  · rename_i k' m n k hc hT
    have e1 := I.int hx hc
    have hf := hC.ty T _ hT
    obtain ⟨d, hd⟩ := Option.isSome_iff_exists.1 hsrc
    refine op_k1 (by rw [hop]; rfl) I hG (v := .int k (k.wrap n)) ?_ (fun d => New_int d _ _) he
    simp [execOp, hop, e1, convert, run_underlying hd, run_underlying hf.1, Conv.intToInt]
  · cases he
theorem NilCheck.ok (I : InvC P B col σ a w) (hG : Good P B K res next) {x : Operand} (hop : o.op = .nilCheck x)
    (he : (match Ev.rdo σ none x with
      | .val (.ptr s) m y => K (fin σ o.dst (.val (.ptr s) m y))
      | .al r p => match Slot.cont σ (.al r p) with
        | some ⟨.ptr _, _, _⟩ => K (fin σ o.dst (.al r p))
        | _ => none
      | _ => none) = some res) : o.st P a w next := by
  have hx := I.rdo none x
  generalize hv : a.eval x = v at hx
  split at he
  · rename_i s m y hsl
    rw [hsl] at hx
    obtain ⟨ad, ds, e1, _⟩ := ptr_any hx
    exact op_k1 (by rw [hop]; rfl) I hG (v := v) (by simp [execOp, hop, hv, e1]) (fun d => hx.new d) he
  · rename_i r p hsl
    rw [hsl] at hx
    split at he
    · rename_i s m y hc
      obtain ⟨h, pth, cs, hn, h1, h2⟩ := I.cont (sl := .al r p) hx hc
      obtain ⟨ad, ds, e1, _⟩ := Rep.ptr_val (s := s) h1 hn h2
      exact op_k1 (by rw [hop]; rfl) I hG (v := v) (sl := .al r p) (by simp [execOp, hop, hv, e1]) (fun d => hx) he
    · cases he
  · cases he
theorem Extract.ok (I : InvC P B col σ a w) (hG : Good P B K res next) {x : Operand} {j : Nat} (hop : o.op = .extract x j)
    (he : (match Ev.rdo σ none x with
      | .al r [] => match gs σ r with
        | .tup cs => match nth cs j with
          | some (some _) => K (fin σ o.dst (.al r [j]))
          | _ => none
        | _ => none
      | _ => none) = some res) : o.st P a w next := by
  have hx := I.rdo none x
  generalize hv : a.eval x = v at hx
  split at he
  · rename_i r hsl
    rw [hsl] at hx
    split at he
    · rename_i cs e0
      split at he
      · rename_i c hn
        rcases hx with ⟨cs', e0', hp, e2⟩ | ⟨c0, hh, pth, q, u, hr, hcp⟩
        · have hk := I.ok r
          rw [e0] at hk
          obtain ⟨vs, hvs, hk⟩ := hk
          obtain ⟨u, ds, g1, g2, g3⟩ := hk j c hn
          refine op_k1 (by rw [hop]; rfl) I hG (v := u) (sl := .al r [j]) ?_ (fun d => ?_) he
          · rw [hvs] at e2
            subst e2
            simp [execOp, hop, hv, Instr.extract, g1]
          · refine .inr ⟨c, none, [r, j], [], u, .tup e0 rfl hn hvs g1, okP_nil _ _, ds, ds, none, g3, Nav_nil _ _ _ _, ?_⟩
            rw [subS_nil]; exact g3
        · cases hr with
          | val e => rw [e0] at e; cases e
          | hol e => rw [e0] at e; cases e
          | tup e e2 => cases e2
      · cases he
    · cases he
  · cases he
end
end Go.Ev

noncomputable section
namespace Go.Ev
variable {P : Program}
theorem canEq_arr {s : S} (h : canEq s = true) : isArr s = false := by
  cases s with
  | pair a b => cases a <;> first | rfl | simp [canEq, isScalar] at h
  | _ => rfl
theorem fieldsOf_eq {T : TypeId} {fs : Array Field} (h : P.underlying T = some (.struct fs)) : P.fieldsOf T = fs := by simp [Program.fieldsOf, h]
theorem scalar_eq {w0 : World} {s : S} {T : TypeId} (h : Fits P s T) (hs : isScalar s = true) {w : World} {col : Col} {p p' : List Nat} {m m' : M} {x y : El s} {c c' : List Value} {v v' : Value} (d : Nat)
    (h1 : Rep P s w col none p m x c) (h2 : Rep P s w col none p' m' y c') (hv : IsVal s v c) (hv' : IsVal s v' c') : (Op.equalIn (d + 1) T v v').run P w0 = .ok (eqEl s x y) w0 := by
  cases s with
  | int k => rw [h1.int_val (by simp) hv, h2.int_val (by simp) hv']; exact run_equalIn_int w0 d T k k _ _ h.1
  | bool => rw [h1.bool_val (by simp) hv, h2.bool_val (by simp) hv']; exact run_equalIn_bool' w0 d T _ _ h.1
  | str => rw [h1.str_val (by simp) hv, h2.str_val (by simp) hv']; exact run_equalIn_string w0 d T _ _ h.1
  | _ => simp [isScalar] at hs
theorem eqFields_ok {w0 : World} (d : Nat) {w : World} {col : Col} {A D : List Value} : ∀ (s : S) {off : Nat} {fs : List Field} {p p' : List Nat} {m m' : M} {x y : El s} {c c' : List Value}, FitsF P s off fs → canEq s = true →
    Rep P s w col none p m x c → Rep P s w col none p' m' y c' → c = (A.drop off).take (size s) → c' = (D.drop off).take (size s) → (Op.eqFields (d + 1) A.toArray D.toArray fs).run P w0 = .ok (eqEl s x y) w0 := by
  have one : ∀ (s : S) {off : Nat} {fs : List Field} {p p' : List Nat} {m m' : M} {x y : El s} {c c' : List Value}, FOne P (Fits P s) off fs → isScalar s = true →
    Rep P s w col none p m x c → Rep P s w col none p' m' y c' → c = (A.drop off).take (size s) → c' = (D.drop off).take (size s) → (Op.eqFields (d + 1) A.toArray D.toArray fs).run P w0 = .ok (eqEl s x y) w0 := by
    intro s off fs p p' m m' x y c c' ⟨f, e, h1, h2, h3⟩ hs r1 r2 e1 e2
    subst e
    subst h1
    obtain ⟨v, g1, g2⟩ := run_part h3 e1 r1.len
    obtain ⟨v', g3, g4⟩ := run_part h3 e2 r2.len
    have := scalar_eq (w0 := w0) h3 hs d r1 r2 g2 g4
    simp only [Op.eqFields, ne_eq, h2, not_false_eq_true, if_true, Sem.run_bind, g1, g3, this, Result.andThen_ok]
    cases eqEl s x y <;> simp
  intro s
  induction s with
  | pair a b _ ihb =>
    intro off fs p p' m m' x y c c' ⟨f, fs', e, h1, h2, h3, h4⟩ hc r1 r2 e1 e2
    subst e
    subst h1
    simp only [canEq, Bool.and_eq_true] at hc
    obtain ⟨c1, c2, k1, k2, k3⟩ := r1
    obtain ⟨c1', c2', k1', k2', k3'⟩ := r2
    have l1 := Rep.len (P := P) a k2
    have l2 := Rep.len (P := P) b k3
    have l1' := Rep.len (P := P) a k2'
    have l2' := Rep.len (P := P) b k3'
    have split : ∀ (L q1 q2 : List Value), q1 ++ q2 = (L.drop f.offset).take (size (.pair a b)) → q1.length = size a → q2.length = size b →
        q1 = (L.drop f.offset).take (size a) ∧ q2 = (L.drop (f.offset + size a)).take (size b) := by
      intro L q1 q2 e l1 l2
      constructor
      · have := congrArg (List.take (size a)) e
        rw [List.take_left' l1, List.take_take] at this
        rw [this]; congr 1; simp only [size]; omega
      · have := congrArg (List.drop (size a)) e
        rw [List.drop_left' l1, List.drop_take, List.drop_drop] at this
        rw [this]; congr 1; simp only [size]; omega
    obtain ⟨s1, s2⟩ := split A c1 c2 (by rw [← k1]; exact e1) l1 l2
    obtain ⟨s1', s2'⟩ := split D c1' c2' (by rw [← k1']; exact e2) l1' l2'
    obtain ⟨v, g1, g2⟩ := run_part h3 s1 l1
    obtain ⟨v', g3, g4⟩ := run_part h3 s1' l1'
    have q1 := scalar_eq (w0 := w0) h3 hc.1 d k2 k2' g2 g4
    have q2 := ihb h4 hc.2 k3 k3' s2 s2'
    simp only [Op.eqFields, ne_eq, h2, not_false_eq_true, if_true, Sem.run_bind, g1, g3, q1, Result.andThen_ok, eqEl]
    cases eqEl a x.1 y.1
    · simp
    · simpa using q2
  | int k => exact fun h hc => one _ h rfl
  | bool => exact fun h hc => one _ h rfl
  | str => exact fun h hc => one _ h rfl
  | _ => intro off fs p p' m m' x y c c' h hc; simp [canEq] at hc
section
variable {C : Ctx} {B : Base} {R : Type} {K : List Slot → Option R} {res : R} {next : Act → World → Prop} {Q : Exit → Act → World → Prop} {o : Oper} {σ : List Slot} {a : Act} {w : World} {col : Col}
theorem Bin.ok (hC : CtxOk P C) (I : InvC P B col σ a w) (hG : Good P B K res next) {op : BinOp} {T T' : TypeId} {ox oy : Operand} (hop : o.op = .binOp op T ox oy T')
    {sT sT' : Option S} {x y : Comp} (hx : (Ev.rdo σ sT ox).whole σ = some x) (hy : (Ev.rdo σ sT' oy).whole σ = some y)
    (he : binK C T op x y (isNil oy) (fun sl => K (fin σ o.dst sl)) = some res) : o.st P a w next := by
  have hox := I.rdo sT ox
  have hoy := I.rdo sT' oy
  obtain ⟨px, cx, rx, vx⟩ := I.whole hox hx
  obtain ⟨py, cy, ry, vy⟩ := I.whole hoy hy
  unfold binK at he
  split at he
  · rename_i k m n k' m' n'
    cases hk : (k == k')
    · rw [hk] at he; simp [bif3] at he
    · rw [hk] at he
      have : k = k' := by simpa using hk
      subst this
      exact IntBin.ok I hG hop (rx.int_val (by simp) vx) (ry.int_val (by simp) vy) he
  · rename_i m b m' b'
    obtain ⟨hf, he⟩ := chk_ok hC.ty he
    have e1 := rx.bool_val (by simp) vx
    have e2 := ry.bool_val (by simp) vy
    have hq : ∀ w, (Op.equalIn 10000 T (.bool b) (.bool b')).run P w = .ok (b == b') w := fun w => run_equalIn_bool' w 9999 T b b' hf.1
    have hb1 : ∀ w, (binOp .eql T (.bool b) (.bool b')).run P w = .ok (.bool (b == b')) w := by
      intro w
      show ((Op.equal T (.bool b) (.bool b')) >>= fun r => pure (Value.bool r)).run P w = _
      rw [Sem.run_bind]
      show Result.andThen ((Op.equalIn 10000 T (.bool b) (.bool b')).run P w) _ = _
      rw [hq]; rfl
    have hb2 : ∀ w, (binOp .neq T (.bool b) (.bool b')).run P w = .ok (.bool (b != b')) w := by
      intro w
      show ((Op.equal T (.bool b) (.bool b')) >>= fun r => pure (Value.bool (!r))).run P w = _
      rw [Sem.run_bind]
      show Result.andThen ((Op.equalIn 10000 T (.bool b) (.bool b')).run P w) _ = _
      rw [hq]; rfl
    split at he
    · exact op_k1 (by rw [hop]; rfl) I hG (v := .bool (b == b')) (fun w => by simp only [execOp, hop, e1, e2, eqGuard_at_bool, Sem.run_bind, Sem.run_pure, Result.andThen_ok, hb1]) (fun d => New_bool d _) he
    · exact op_k1 (by rw [hop]; rfl) I hG (v := .bool (b != b')) (fun w => by simp only [execOp, hop, e1, e2, eqGuard_at_bool, Sem.run_bind, Sem.run_pure, Result.andThen_ok, hb2]) (fun d => New_bool d _) he
    · cases he
  · rename_i m b m' b'
    have e1 := rx.str_val (by simp) vx
    have e2 := ry.str_val (by simp) vy
    split at he
    · split at he
      · rename_i hl
        have hl' : ¬ (((b.size + b'.size : Nat) : Int) > 9223372036854775807) := by unfold LIM at hl; omega
        refine op_k1 (by rw [hop]; rfl) I hG (v := .string (b ++ b')) (fun w => ?_) (fun d => New_str d _) he
        simp only [execOp, hop, e1, e2, eqGuard_at_string, binOp, Op.stringOp, IntKind.max_i64]
        simp only [if_neg hl']
        simp
      · cases he
    · exact op_k1 (by rw [hop]; rfl) I hG (v := .bool (b.toList == b'.toList)) (by simp [execOp, hop, e1, e2, eqGuard_at_string, binOp, Op.stringOp]) (fun d => New_bool d _) he
    · exact op_k1 (by rw [hop]; rfl) I hG (v := .bool (!(b.toList == b'.toList))) (by simp [execOp, hop, e1, e2, eqGuard_at_string, binOp, Op.stringOp]) (fun d => New_bool d _) he
    · cases he
  · rename_i nl s m xs nl' s' m' ys
    obtain ⟨hf, he⟩ := chk_ok hC.ty he
    cases hn : isNil oy
    · rw [hn] at he; simp [bif3] at he
    · rw [hn] at he
      simp only [bif3] at he
      have e2 : a.eval oy = .slice none 0 0 := by
        unfold isNil at hn
        split at hn
        · rfl
        · cases hn
      obtain ⟨b, c, e1, _, _, h2, h3, _⟩ := rx.slice_val (by simp) vx
      obtain ⟨⟨e, k1, _⟩, _⟩ := hf
      have hq : ∀ w, (Op.equalIn 10000 T (.slice b xs.length c) (.slice none 0 0)).run P w = .ok b.isNone w := by
        have h' : ∀ w d, (Op.equalIn (d + 1) T (.slice b xs.length c) (.slice none 0 0)).run P w = .ok b.isNone w := by
          intro w d; cases b <;> simp [Op.equalIn, run_underlying k1]
        exact fun w => h' w 9999
      have hb1 : ∀ w, (binOp .eql T (.slice b xs.length c) (.slice none 0 0)).run P w = .ok (.bool b.isNone) w := by
        intro w
        show ((Op.equal T (.slice b xs.length c) (.slice none 0 0)) >>= fun r => pure (Value.bool r)).run P w = _
        rw [Sem.run_bind]
        show Result.andThen ((Op.equalIn 10000 T (.slice b xs.length c) (.slice none 0 0)).run P w) _ = _
        rw [hq]; rfl
      have hb2 : ∀ w, (binOp .neq T (.slice b xs.length c) (.slice none 0 0)).run P w = .ok (.bool (!b.isNone)) w := by
        intro w
        show ((Op.equal T (.slice b xs.length c) (.slice none 0 0)) >>= fun r => pure (Value.bool (!r))).run P w = _
        rw [Sem.run_bind]
        show Result.andThen ((Op.equalIn 10000 T (.slice b xs.length c) (.slice none 0 0)).run P w) _ = _
        rw [hq]; rfl
      have hb : (xs.length = 0 → nl = true → b.isNone = true) ∧ (xs.length ≠ 0 → b.isNone = false) := by
        refine ⟨fun h hh => by rw [h2 hh (List.length_eq_zero_iff.1 h)]; rfl, fun h => ?_⟩
        cases b with
        | none => have := (h3 rfl).1; subst this; exact absurd rfl h
        | some ad => rfl
      split at he
      · have hrun : ∀ w, (execOp a.eval o).run P w = .ok (.value (.bool b.isNone)) w := fun w => by simp only [execOp, hop, e1, e2, eqGuard_at_slice, Sem.run_bind, Sem.run_pure, Result.andThen_ok, hb1, hb2]
        cases hnl : nl
        · rw [hnl] at he
          simp only [bif3] at he
          split at he
          · rename_i h0
            simp only [hb.2 h0] at hrun
            exact op_k1 (by rw [hop]; rfl) I hG hrun (fun d => New_bool d _) he
          · cases he
        · rw [hnl] at he
          simp only [bif3] at he
          refine op_k1 (by rw [hop]; rfl) I hG hrun (fun d => ?_) he
          by_cases h0 : xs.length = 0
          · rw [hb.1 h0 hnl]; simp only [h0, decide_true]; exact New_bool d _
          · rw [hb.2 h0]; simp only [h0, decide_false]; exact New_bool d _
      · have hrun : ∀ w, (execOp a.eval o).run P w = .ok (.value (.bool (!b.isNone))) w := fun w => by simp only [execOp, hop, e1, e2, eqGuard_at_slice, Sem.run_bind, Sem.run_pure, Result.andThen_ok, hb1, hb2]
        cases hnl : nl
        · rw [hnl] at he
          simp only [bif3] at he
          split at he
          · rename_i h0
            simp only [hb.2 h0] at hrun
            exact op_k1 (by rw [hop]; rfl) I hG hrun (fun d => New_bool d _) he
          · cases he
        · rw [hnl] at he
          simp only [bif3] at he
          refine op_k1 (by rw [hop]; rfl) I hG hrun (fun d => ?_) he
          by_cases h0 : xs.length = 0
          · rw [hb.1 h0 hnl]; simp only [h0, decide_true]; exact New_bool d _
          · rw [hb.2 h0]; simp only [h0, decide_false]; exact New_bool d _
      · cases he
  · rename_i s m x s' m' y
    obtain ⟨hf, he⟩ := chk_ok hC.ty he
    rw [dif_eq] at he
    split at he
    · rename_i hss
      subst hss
      cases hce : canEq s'
      · rw [hce] at he; simp [bif3] at he
      · rw [hce] at he
        simp only [bif3] at he
        obtain ⟨fs, k1, k2, k3, k4⟩ := hf.struct (canEq_arr hce)
        have e1 : a.eval ox = .agg cx.toArray := vx
        have e2 : a.eval oy = .agg cy.toArray := vy
        have rx' : Rep P s' w col none (px ++ [0]) (agM m) x cx := rx
        have ry' : Rep P s' w col none (py ++ [0]) (agM m') y cy := ry
        have hq : ∀ w, (Op.equalIn 10000 T (.agg cx.toArray) (.agg cy.toArray)).run P w = .ok (eqEl s' x y) w := by
          intro w
          rw [run_equalIn_agg w 9999 T cx.toArray cy.toArray (by rw [fieldsOf_eq k1]; exact k1) k3, fieldsOf_eq k1]
          refine eqFields_ok 9998 s' k2 hce rx' ry' ?_ ?_
          · rw [List.drop_zero, ← rx'.len, List.take_length]
          · rw [List.drop_zero, ← ry'.len, List.take_length]
        have hg := fun w op => run_eqGuard_agg w op T ox oy cx.toArray cy.toArray k4
        split at he
        · refine op_k1 (by rw [hop]; rfl) I hG (v := .bool (eqEl s' x y)) (fun w => ?_) (fun d => New_bool d _) he
          simp only [execOp, hop, e1, e2, Sem.run_bind, hg, Result.andThen_ok, run_eql_struct, hq, Sem.run_pure]
        · refine op_k1 (by rw [hop]; rfl) I hG (v := .bool (!eqEl s' x y)) (fun w => ?_) (fun d => New_bool d _) he
          simp only [execOp, hop, e1, e2, Sem.run_bind, hg, Result.andThen_ok, run_neq_struct, hq, Sem.run_pure]
        · cases he
    · cases he
  · cases he
end
end Go.Ev

noncomputable section
namespace Go.Ev
variable {P : Program}
theorem zcells_len : ∀ (s : S), zeroable s = true → (zcells s).length = size s := by
  intro s
  induction s with
  | agg s ih => intro h; exact ih h
  | pair a b iha ihb => intro h; simp only [zeroable, Bool.and_eq_true] at h; simp [zcells, size, iha h.1, ihb h.2]
  | unit => intro h; rfl
  | _ => intro h; first | rfl | simp [zeroable] at h
theorem Rep_zero : ∀ (s : S) (w : World) (col : Col) (p : List Nat), zeroable s = true → Rep P s w col none p (topM s) (zero s) (zcells s) := by
  intro s
  induction s with
  | agg s ih => intro w col p h; exact ih w col (p ++ [0]) h
  | pair a b iha ihb =>
    intro w col p h
    simp only [zeroable, Bool.and_eq_true] at h
    exact ⟨_, _, rfl, iha w col _ h.1, ihb w col _ h.2⟩
  | slice nl s _ => intro w col p h; exact Rep_nil _ _ _ _ _ _
  | int k => intro w col p h; rfl
  | unit => intro w col p h; rfl
  | bool => intro w col p h; rfl
  | str => intro w col p h; rfl
  | _ => intro w col p h; simp [zeroable] at h
def colNew (w : World) (col : Col) (p : List Nat) : Col := fun b => if b = w.heap.size then some p else col b
theorem grown_alloc (w : World) (col : Col) (p : List Nat) (o : Obj) : Grown w (w.alloc o) col (colNew w col p) := by
  refine ⟨by simp, fun b hb => heap_alloc_old w o b hb, fun b hb => ?_, ⟨rfl, rfl, rfl⟩⟩
  unfold colNew
  rw [if_neg (by omega)]
theorem colNew_new (w : World) (col : Col) (p : List Nat) : colNew w col p w.heap.size = some p := by simp [colNew]
theorem At_new (w : World) (arr : Array Value) (t : TypeId) {off : Nat} {cs : List Value} (h : ∀ j v, cs[j]? = some v → arr[off + j]? = some v) : At (w.alloc (.cells arr t)) w.heap.size off cs := by
  intro j v hj
  unfold World.cell?
  rw [heap_alloc_new]
  simpa using h j v hj
theorem OwnB_new (w : World) (arr : Array Value) (t : TypeId) {n : Nat} (h : n ≤ arr.size) : OwnB (w.alloc (.cells arr t)) w.heap.size n := ⟨arr, t, heap_alloc_new w _, h⟩
section
variable {C : Ctx} {B : Base} {R : Type} {K : List Slot → Option R} {res : R} {next : Act → World → Prop} {Q : Exit → Act → World → Prop} {o : Oper} {σ : List Slot} {a : Act} {w : World} {col : Col}
theorem op_new (I : InvC P B col σ a w) (hG : Good P B K res next) {v : Value} {sl : Slot} {w' : World} {col' : Nat → Col} (hrun : (execOp a.eval o).run P w = .ok (.value v) w')
    (hgrow : ∀ d, Grown w w' col (col' d)) (hnew : ∀ d, NewOk P w' (col' d) σ a d v sl) (he : K (fin σ o.dst sl) = some res) : o.wp P a w next Q := by
  refine op_value hrun (hG _ _ _ ?_ he)
  cases hd : o.dst with
  | none => exact ⟨col' 0, I.grow (hgrow 0)⟩
  | some d =>
    refine ⟨col' d, (I.grow (hgrow d)).fin (d := some d) (fun d' h => ?_)⟩
    injection h with h
    subst h
    exact hnew d
theorem Alloc.ok (hC : CtxOk P C) (I : InvC P B col σ a w) (hG : Good P B K res next) {T : TypeId} (hop : o.op = .alloc T)
    (he : stO (C.ty T) (fun s => bif3 (zeroable s) (K (fin σ o.dst (.val (.ptr s) (.ow (topM s)) (zero s)))) none) = some res) : o.wp P a w next Q := by
  unfold stO at he
  split at he
  · rename_i s hT
    have hf := hC.ty T s hT
    simp only at he
    cases hz : zeroable s
    · rw [hz] at he; simp [bif3] at he
    · rw [hz] at he
      obtain ⟨i, z, h1, h2, h3, h4, h5⟩ := hf.info
      have hl := zcells_len s hz
      have hcz : z.cells = (zcells s).toArray := by rw [← h5]
      refine op_new I hG (v := .pointer (some ⟨w.heap.size, 0, none⟩)) (w' := w.alloc (.cells z.cells T)) (col' := fun d => colNew w col [d]) ?_ (fun d => grown_alloc w col [d] _) (fun d => ?_) he
      · simp [execOp, hop, Instr.alloc, zeroValue, typeInfo, h1, h4, newVar, newRow]
      · refine ⟨[.pointer (some ⟨w.heap.size, 0, none⟩)], ⟨⟨w.heap.size, 0, none⟩, zcells s, rfl, rfl, fun _ => ⟨colNew_new w col [d], OwnB_new w _ T ?_⟩, fun h => by simp [isOw] at h, At_new w _ T ?_, ?_⟩, rfl⟩
        · rw [hcz]; simp [hl]
        · intro j v hj; rw [hcz]; simpa using hj
        · exact Rep_zero s _ _ _ hz
  · cases he
theorem madeCells_at {z : Array Value} {n i sz j : Nat} (hz : z.size = sz) (hj : j < sz) (hn : i * sz + j < n) : (madeCells z n)[i * sz + j]? = some z[j]! := by
  have hm : (i * sz + j) % z.size = j := by
    rw [hz, Nat.add_comm, Nat.add_mul_mod_self_right]
    exact Nat.mod_eq_of_lt hj
  simp [madeCells, hn, hm]
theorem MakeSlice.ok (hC : CtxOk P C) (I : InvC P B col σ a w) (hG : Good P B K res next) {T : TypeId} {n c : Operand} (hop : o.op = .makeSlice T n c)
    (he : (withInt σ (Ev.rdo σ none n) fun x => withInt σ (Ev.rdo σ none c) fun y => makeSliceK (C.ty T) x y (opEq n c) (fun sl => K (fin σ o.dst sl))) = some res) : o.wp P a w next Q := by
  obtain ⟨kx, mx', x, hcx, he⟩ := withInt_some he
  obtain ⟨ky, my, y, hcy, he⟩ := withInt_some he
  have e1 := I.int (I.rdo none n) hcx
  have e2 := I.int (I.rdo none c) hcy
  unfold makeSliceK at he
  split at he
  · rename_i nl s hT
    have hf := hC.ty T _ hT
    obtain ⟨⟨e, k1, k2⟩, _⟩ := hf
    cases hz : zeroable s
    · rw [hz] at he; simp [bif3] at he
    · rw [hz] at he
      simp only [bif3] at he
      split at he
      · rename_i h0
        have fin_ : x ≤ y → y ≤ LIM → K (fin σ o.dst (.val (.slice false s) (topM (.slice false s)) (List.replicate x.toNat (zero s)))) = some res → o.wp P a w next Q := by
          intro hxy hlim he
          obtain ⟨i, z, h1, h2, h3, h4, h5⟩ := Fits.info k2
          have hpos := Fits.pos k2
          have hl := zcells_len s hz
          have hcz : z.cells = (zcells s).toArray := by rw [← h5]
          have hb : (i.bytes : Int) * y ≤ 281474976710656 := by
            have h128 : (i.bytes : Int) ≤ 128 := by exact_mod_cast h3
            have hy0 : 0 ≤ y := by omega
            have := Int.mul_le_mul_of_nonneg_right h128 hy0
            unfold LIM at hlim
            omega
          have hrun := run_make w T e i z k1 h1 h4 kx ky x y h0 hxy hb (by unfold LIM at hlim; omega)
          refine op_new I hG (v := .slice (some ⟨w.heap.size, 0, none⟩) x.toNat y.toNat) (w' := w.alloc (.cells (madeCells z.cells (y.toNat * i.size)) e)) (col' := fun d => colNew w col [d]) (by simp [execOp, hop, e1, e2, hrun]) (fun d => grown_alloc w col [d] _) (fun d => ?_) he
          refine ⟨[.slice (some ⟨w.heap.size, 0, none⟩) x.toNat y.toNat], ?_, rfl⟩
          have hlen : (List.replicate x.toNat (zero s)).length = x.toNat := List.length_replicate
          refine ⟨some ⟨w.heap.size, 0, none⟩, y.toNat, by rw [hlen], by rw [hlen]; omega, fun h => by simp at h, fun h => by simp at h, fun ad had => ?_⟩
          injection had with had
          subst had
          refine ⟨fun _ => rfl, fun _ => ⟨colNew_new w col [d], OwnB_new w _ e ?_⟩, fun h => by simp [isOw, topM] at h, fun j u hj => ?_⟩
          · rw [size_madeCells, h2]; simp
          · have hjl : j < x.toNat := by
              rcases Nat.lt_or_ge j x.toNat with h | h
              · exact h
              · rw [List.getElem?_eq_none (by simpa using h)] at hj; cases hj
            have hu : u = zero s := by
              rw [List.getElem?_replicate] at hj
              simp [hjl] at hj
              exact hj.symm
            subst hu
            refine ⟨zcells s, At_new w _ e (fun q v hq => ?_), Rep_zero s _ _ _ hz⟩
            have hql : q < size s := by
              rw [← hl]
              rcases Nat.lt_or_ge q (zcells s).length with h | h
              · exact h
              · rw [List.getElem?_eq_none h] at hq; cases hq
            have hzs : z.cells.size = size s := by rw [hcz]; simp [hl]
            have hbound : j * size s + q < y.toNat * i.size := by
              rw [h2]
              have : (j + 1) * size s ≤ y.toNat * size s := Nat.mul_le_mul_right _ (by omega)
              rw [Nat.succ_mul] at this
              omega
            have := madeCells_at (z := z.cells) (n := y.toNat * i.size) (i := j) hzs hql hbound
            simp only [Nat.zero_add]
            rw [this, hcz]
            have hq' : q < (zcells s).length := by omega
            rw [List.getElem?_eq_getElem hq'] at hq
            simp [hq'] at hq ⊢
            exact hq
        cases hoe : opEq n c
        · rw [hoe] at he
          simp only [bif3] at he
          split at he
          · split at he
            · exact fin_ (by assumption) (by assumption) he
            · cases he
          · cases he
        · rw [hoe] at he
          simp only [bif3] at he
          have hnc : n = c := by
            unfold opEq at hoe
            split at hoe
            · have := by simpa using hoe
              rw [this]
            · cases hoe
          have hxy : x = y := by
            rw [hnc, e2] at e1
            injection e1 with _ e1
            exact e1.symm
          split at he
          · exact fin_ (by omega) (by omega) he
          · cases he
      · cases he
  · cases he
theorem Index.ok (hC : CtxOk P C) (I : InvC P B col σ a w) (hG : Good P B K res next) {T : TypeId} {x ix : Operand} (hop : o.op = .index T x ix)
    (he : (withInt σ (Ev.rdo σ none ix) fun n => match (Ev.rdo σ none x).cont σ with
      | some ⟨.str, _, s⟩ => chk C T .str (@ite _ (0 ≤ n) (Classical.propDecidable _) (@ite _ (n < (s.size : Int)) (Classical.propDecidable _) (K (fin σ o.dst (V1 (.int .u8) (bt s n)))) none) none)
      | _ => none) = some res) : o.st P a w next := by
  obtain ⟨k, mi, i, hci, he⟩ := withInt_some he
  have hiv := I.int (I.rdo none ix) hci
  split at he
  · rename_i m s hc
    obtain ⟨hf, he⟩ := chk_ok hC.ty he
    have e1 := I.str (I.rdo none x) hc
    split at he
    · rename_i h0
      split at he
      · rename_i h1
        have hlt : i.toNat < s.size := by omega
        have hg : s[i.toNat]? = some (s.get! i.toNat) := by
          have h3 : s[i.toNat]? = some s[i.toNat] := getElem?_pos s i.toNat hlt
          rw [h3]
          congr 1
          show s.data[i.toNat] = s.data[i.toNat]!
          rw [getElem!_pos s.data i.toNat hlt]
        refine op_k1 (by rw [hop]; rfl) I hG (v := .int .u8 (bt s i)) ?_ (fun d => New_int d _ _) he
        simp [execOp, hop, hiv, e1, Instr.index, asIntOf, run_underlying hf.1, h0, hg, bt]
      · cases he
    · cases he
  · cases he
end
end Go.Ev

noncomputable section
namespace Go.Ev
variable {P : Program}
theorem meet_le_left : ∀ (a b : M), le (meet a b) a = true
  | .sh, b => by cases b <;> rfl
  | .ow a, b => by cases b <;> first | rfl | exact meet_le_left a _
  | .ag a, b => by cases b <;> first | rfl | exact meet_le_left a _
  | .pr a c, b => by cases b <;> first | rfl | simp [meet, le, meet_le_left a, meet_le_left c]
theorem meet_le_right : ∀ (a b : M), le (meet a b) b = true
  | .sh, b => by cases b <;> rfl
  | .ow a, b => by cases b <;> first | rfl | exact meet_le_right a _
  | .ag a, b => by cases b <;> first | rfl | exact meet_le_right a _
  | .pr a c, b => by cases b <;> first | rfl | simp [meet, le, meet_le_right a, meet_le_right c]
theorem le_subM : ∀ (s : S) (p : List Nat) {a b : M}, le a b = true → le (subM s p a) (subM s p b) = true := by
  intro s
  induction s with
  | agg s ih => intro p a b h; cases p with | nil => exact h | cons i p => exact ih p (le_agM h)
  | ptr s ih => intro p a b h; cases p with | nil => exact h | cons i p => exact ih p (le_elemM h)
  | slice nl s ih => intro p a b h; cases p with | nil => exact h | cons i p => exact ih p (le_elemM h)
  | pair a b iha ihb => intro p x y h; cases p with
    | nil => exact h
    | cons i p => cases i with | zero => exact iha p (le_prA h) | succ i => exact ihb p (le_prB h)
  | _ => intro p a b h; cases p <;> first | exact h | rfl
theorem le_ow {a m : M} (h : isOw m = true) (h' : le a (elemM m) = true) : le (.ow a) m = true := by
  cases m <;> simp_all [isOw, elemM, le]
theorem le_ag {a m : M} (h' : le a (agM m) = true) : le (.ag a) m = true := by
  cases m <;> first | exact h' | exact noOwn_le (a := .ag a) (show noOwn a = true from le_noOwn (a := a) (b := .sh) h' rfl)
theorem le_pr {a b m : M} (h : le a (prA m) = true) (h' : le b (prB m) = true) : le (.pr a b) m = true := by
  cases m <;> first | (simp only [le, Bool.and_eq_true]; exact ⟨h, h'⟩) | (simp only [le, noOwn, Bool.and_eq_true]; exact ⟨le_noOwn h rfl, le_noOwn h' rfl⟩)
theorem setM_le : ∀ (s : S) (p : List Nat) (m y : M), le y (subM s p m) = true → le (setM s p m y) m = true := by
  intro s
  induction s with
  | agg s ih => intro p m y h; cases p with | nil => exact h | cons i p => exact le_ag (ih p _ y h)
  | pair a b iha ihb =>
    intro p m y h
    cases p with
    | nil => exact h
    | cons i p => cases i with
      | zero => exact le_pr (iha p _ y h) (le_refl _)
      | succ i => exact le_pr (le_refl _) (ihb p _ y h)
  | slice nl s ih =>
    intro p m y h
    cases p with
    | nil => exact h
    | cons i p =>
      show le (bif3 (isOw m) (.ow (meet (elemM m) (setM s p (elemM m) y))) .sh) m = true
      cases hm : isOw m
      · exact noOwn_le rfl
      · exact le_ow hm (meet_le_left _ _)
  | ptr s ih =>
    intro p m y h
    cases p with
    | nil => exact h
    | cons i p =>
      show le (bif3 (isOw m) (.ow (setM s p (elemM m) y)) .sh) m = true
      cases hm : isOw m
      · exact noOwn_le rfl
      · exact le_ow hm (ih p _ y h)
  | _ => intro p m y h; cases p <;> first | exact h | exact noOwn_le rfl
theorem subM_setM : ∀ (s : S) (p : List Nat) (m y : M), le (subM s p (setM s p m y)) y = true := by
  intro s
  induction s with
  | agg s ih => intro p m y; cases p with | nil => exact le_refl _ | cons i p => exact ih p _ y
  | pair a b iha ihb =>
    intro p m y
    cases p with
    | nil => exact le_refl _
    | cons i p => cases i with
      | zero => exact iha p _ y
      | succ i => exact ihb p _ y
  | slice nl s ih =>
    intro p m y
    cases p with
    | nil => exact le_refl _
    | cons i p =>
      show le (subM s p (elemM (bif3 (isOw m) (.ow (meet (elemM m) (setM s p (elemM m) y))) .sh))) y = true
      cases hm : isOw m
      · show le (subM s p .sh) y = true
        rw [subM_sh]; exact noOwn_le rfl
      · exact le_trans (le_subM s p (meet_le_right _ _)) (ih p _ y)
  | ptr s ih =>
    intro p m y
    cases p with
    | nil => exact le_refl _
    | cons i p =>
      show le (subM s p (elemM (bif3 (isOw m) (.ow (setM s p (elemM m) y)) .sh))) y = true
      cases hm : isOw m
      · show le (subM s p .sh) y = true
        rw [subM_sh]; exact noOwn_le rfl
      · exact ih p _ y
  | _ => intro p m y; cases p <;> first | exact le_refl _ | exact noOwn_le rfl
theorem InvC.chg {B : Base} {col col' : Col} {σ σ' : List Slot} {a : Act} {w : World} (I : InvC P B col σ a w) (hlen : σ'.length = σ.length)
    (hq : ∀ b, b < w.heap.size → Quiet (col b) → col' b = col b) (hok : ∀ t, SlotOk P w col' σ' (Act.V a) t (gs σ' t)) : InvC P B col' σ' a w :=
  ⟨by rw [hlen]; exact I.len, I.dfr, ⟨I.frm.sz, I.frm.mem, fun b hb hc => by
    have := I.frm.col b hb hc
    rw [hq b (Nat.lt_of_lt_of_le hb I.frm.sz) (by rw [this]; exact hc), this], I.frm.out⟩, hok⟩
def reCol (col : Col) (f : List Nat → Option (List Nat)) (p : List Nat) : Col := fun b =>
  match col b with
  | some c => if p.isPrefixOf c then f (c.drop p.length) else some c
  | none => none
theorem reCol_own (col : Col) (f : List Nat → Option (List Nat)) (p q : List Nat) {b : Nat} (h : col b = some (p ++ q)) : reCol col f p b = f q := by
  unfold reCol
  rw [h]
  simp
theorem reCol_ne (col : Col) (f : List Nat → Option (List Nat)) (p : List Nat) {b : Nat} (h : ∀ q, col b ≠ some (p ++ q)) : reCol col f p b = col b := by
  unfold reCol
  split
  · rename_i c hc
    split
    · rename_i hp
      obtain ⟨q, hq⟩ := List.isPrefixOf_iff_prefix.1 hp
      exact absurd (hc.trans (by rw [hq])) (h q)
    · exact hc.symm
  · rename_i hc; exact hc.symm
theorem reCol_quiet (col : Col) (f : List Nat → Option (List Nat)) {p : List Nat} (hp : p ≠ []) {b : Nat} (h : Quiet (col b)) : reCol col f p b = col b := by
  refine reCol_ne col f p (fun q e => ?_)
  rcases h with h | h <;> rw [h] at e
  · cases e
  · injection e with e
    exact hp (List.append_eq_nil_iff.1 e.symm).1
def Apart (p p' : List Nat) : Prop := ∀ q q', p ++ q ≠ p' ++ q'
theorem Apart.root {t r : Nat} (h : t ≠ r) (p p' : List Nat) : Apart (t :: p) (r :: p') := fun q q' e => by
  simp only [List.cons_append, List.cons.injEq] at e
  exact h e.1
theorem Apart.tup {t i j : Nat} (h : i ≠ j) : Apart [t, i] [t, j] := fun q q' e => by
  simp only [List.cons_append, List.nil_append, List.cons.injEq, true_and] at e
  exact h e.1
theorem Rep.apart {s : S} {w : World} {col : Col} {h : Option (List Nat)} {p p' : List Nat} {m : M} {x : El s} {cs : List Value} (H : Rep P s w col h p m x cs) (hp : Apart p p') (hne : p' ≠ []) (f : List Nat → Option (List Nat)) :
    Rep P s w (reCol col f p') h p m x cs := by
  refine H.stay ⟨fun b q _ hc _ => ?_, fun b _ hc => ?_, fun _ _ _ => rfl, Nat.le_refl _⟩
  · rw [reCol_ne col f p' (fun q' e => hp q q' (by rw [hc] at e; injection e))]; exact hc
  · rw [reCol_quiet col f hne (.inr hc)]; exact hc
theorem RootOk.apart {w : World} {col : Col} {t r : Nat} {v : Value} {s : Slot} (h : RootOk P w col t v s) (hne : t ≠ r) (p' : List Nat) (f : List Nat → Option (List Nat)) : RootOk P w (reCol col f (r :: p')) t v s := by
  cases s with
  | dead => trivial
  | undef => exact h
  | al r p => trivial
  | pl r p => trivial
  | val s m x => obtain ⟨cs, h1, h2⟩ := h; exact ⟨cs, h1.apart (Apart.root hne _ _) (by simp) f, h2⟩
  | hol s m x hp => obtain ⟨h0, cs, h1, h2⟩ := h; exact ⟨h0, cs, h1.apart (Apart.root hne _ _) (by simp) f, h2⟩
  | tup cs =>
    obtain ⟨vs, e, h⟩ := h
    refine ⟨vs, e, fun i c hi => ?_⟩
    obtain ⟨u, cs', h1, h2, h3⟩ := h i c hi
    exact ⟨u, cs', h1, h2.apart (Apart.root hne _ _) (by simp) f, h3⟩
def lessF (s : S) (m' : M) (p : List Nat) : List Nat → Option (List Nat) := fun q => if ownAt s q m' then some (p ++ q) else some []
theorem Rep.less {s : S} {w : World} {col : Col} {h : Option (List Nat)} {p : List Nat} {m m' : M} {x : El s} {cs : List Value} (H : Rep P s w col h p m x cs) (hp : p ≠ []) (hle : le m' m = true) :
    Rep P s w (reCol col (lessF s m' p) p) h p m' x cs := by
  refine H.re s ⟨hle, fun b q _ hc ho => ?_, fun b q _ hc _ ho => ?_, fun b _ hc => ?_, fun _ _ _ => rfl, Nat.le_refl _⟩
  · rw [reCol_own _ _ _ _ hc]; simp [lessF, ho]
  · rw [reCol_own _ _ _ _ hc]; simp [lessF, ho]
  · rw [reCol_quiet _ _ hp (.inr hc)]; exact hc
def moveF (p : List Nat) : List Nat → Option (List Nat) := fun q => some (p ++ q)
theorem Rep.move {s : S} {w : World} {col : Col} {h : Option (List Nat)} {p p' : List Nat} {m : M} {x : El s} {cs : List Value} (H : Rep P s w col h p m x cs) (hp : p ≠ []) :
    Rep P s w (reCol col (moveF p') p) h p' m x cs := by
  refine H.re s ⟨le_refl _, fun b q _ hc ho => ?_, fun b q _ hc h1 h2 => (by rw [h1] at h2; cases h2), fun b _ hc => ?_, fun _ _ _ => rfl, Nat.le_refl _⟩
  · rw [reCol_own _ _ _ _ hc]; rfl
  · rw [reCol_quiet _ _ hp (.inr hc)]; exact hc
def FreeP (σ : List Slot) : List Nat → Prop
  | [r] => (gs σ r).isRoot = false
  | [r, i] => (gs σ r).isRoot = false ∨ ∃ cs, gs σ r = .tup cs ∧ ∀ c, nth cs i ≠ some (some c)
  | _ => False
theorem FreeP.ne {σ : List Slot} {p : List Nat} (h : FreeP σ p) : p ≠ [] := by rintro rfl; exact h
theorem RootOk.free {w : World} {col : Col} {σ : List Slot} {t : Nat} {v : Value} {p : List Nat} (hf : FreeP σ p) (h : RootOk P w col t v (gs σ t)) (f : List Nat → Option (List Nat)) : RootOk P w (reCol col f p) t v (gs σ t) := by
  match p, hf with
  | [r], hf =>
    by_cases e : t = r
    · subst e
      have hf : (gs σ t).isRoot = false := hf
      cases hs : gs σ t <;> rw [hs] at h hf <;> first | exact h | trivial | (simp [Slot.isRoot] at hf)
    · exact h.apart e [] f
  | [r, i], hf =>
    by_cases e : t = r
    · subst e
      rcases hf with hf | ⟨cs, hcs, hn⟩
      · cases hs : gs σ t <;> rw [hs] at h hf <;> first | exact h | trivial | simp [Slot.isRoot] at hf
      · rw [hcs] at h ⊢
        obtain ⟨vs, e, h⟩ := h
        refine ⟨vs, e, fun j c hj => ?_⟩
        obtain ⟨u, cs', h1, h2, h3⟩ := h j c hj
        have hij : j ≠ i := by rintro rfl; exact hn c hj
        exact ⟨u, cs', h1, h2.apart (Apart.tup hij) (by simp) f, h3⟩
    · exact h.apart e [i] f
theorem InvC.recol {B : Base} {col : Col} {σ : List Slot} {a : Act} {w : World} (I : InvC P B col σ a w) {p : List Nat} (hf : FreeP σ p) (f : List Nat → Option (List Nat)) : InvC P B (reCol col f p) σ a w := by
  refine I.chg rfl (fun b _ hq => reCol_quiet col f hf.ne hq) (fun t => ?_)
  have h := I.ok t
  cases hs : gs σ t with
  | al r q => rw [hs] at h; exact h
  | pl r q => rw [hs] at h; exact h
  | dead => trivial
  | undef => rw [hs] at h; exact h
  | val s m x => rw [hs] at h; have := RootOk.free hf (by rw [hs]; exact h) f; rw [hs] at this; exact this
  | hol s m x hp => rw [hs] at h; have := RootOk.free hf (by rw [hs]; exact h) f; rw [hs] at this; exact this
  | tup cs => rw [hs] at h; have := RootOk.free hf (by rw [hs]; exact h) f; rw [hs] at this; exact this
end Go.Ev

noncomputable section
namespace Go.Ev
universe u
variable {P : Program}
def Less (σ σ2 : List Slot) : Prop := σ2.length = σ.length ∧ ∀ t, gs σ2 t = gs σ t ∨ gs σ2 t = .dead ∨ (∃ s m m' x, gs σ t = .val s m x ∧ gs σ2 t = .val s m' x) ∨
  (∃ cs cs', gs σ t = .tup cs ∧ gs σ2 t = .tup cs' ∧ ∀ i c, nth cs' i = some (some c) → nth cs i = some (some c))
theorem Less.refl (σ : List Slot) : Less σ σ := ⟨rfl, fun _ => .inl rfl⟩
def LessAt (σ σ2 : List Slot) (t : Nat) : Prop := gs σ2 t = gs σ t ∨ gs σ2 t = .dead ∨ (∃ s m m' x, gs σ t = .val s m x ∧ gs σ2 t = .val s m' x) ∨
  (∃ cs cs', gs σ t = .tup cs ∧ gs σ2 t = .tup cs' ∧ ∀ i c, nth cs' i = some (some c) → nth cs i = some (some c))
theorem LessAt.trans {σ σ2 σ3 : List Slot} {t : Nat} (h : LessAt σ σ2 t) (h' : LessAt σ2 σ3 t) : LessAt σ σ3 t := by
  unfold LessAt at h h' ⊢
  rcases h' with e | e | ⟨s, m, m', x, e, e'⟩ | ⟨cs, cs', e, e', hn⟩
  · rw [e]; exact h
  · exact .inr (.inl e)
  · rcases h with k | k | ⟨s1, m1, m1', x1, k, k'⟩ | ⟨ds, ds', k, k', _⟩
    · exact .inr (.inr (.inl ⟨s, m, m', x, k.symm.trans e, e'⟩))
    · rw [k] at e; cases e
    · rw [k'] at e
      injection e with e1 e2 e3
      subst e1
      have e3 := eq_of_heq e3
      subst e3
      exact .inr (.inr (.inl ⟨_, m1, m', _, k, e'⟩))
    · rw [k'] at e; cases e
  · rcases h with k | k | ⟨s1, m1, m1', x1, k, k'⟩ | ⟨ds, ds', k, k', hn'⟩
    · exact .inr (.inr (.inr ⟨cs, cs', k.symm.trans e, e', hn⟩))
    · rw [k] at e; cases e
    · rw [k'] at e; cases e
    · rw [k'] at e
      injection e with e
      subst e
      exact .inr (.inr (.inr ⟨ds, cs', k, e', fun i c hi => hn' i c (hn i c hi)⟩))
theorem Less.trans {σ σ2 σ3 : List Slot} (h : Less σ σ2) (h' : Less σ2 σ3) : Less σ σ3 := ⟨h'.1.trans h.1, fun t => LessAt.trans (h.2 t) (h'.2 t)⟩
structure Later (w : World) (σ : List Slot) (col : Col) (σ2 : List Slot) (col2 : Col) : Prop where
  less : Less σ σ2
  sh : ∀ b, b < w.heap.size → col b = some [] → col2 b = some []
theorem Later.refl (w : World) (σ : List Slot) (col : Col) : Later w σ col σ col := ⟨Less.refl _, fun _ _ h => h⟩
theorem Later.trans {w : World} {σ σ2 σ3 : List Slot} {col col2 col3 : Col} (h : Later w σ col σ2 col2) (h' : Later w σ2 col2 σ3 col3) : Later w σ col σ3 col3 :=
  ⟨h.less.trans h'.less, fun b hb hc => h'.sh b hb (h.sh b hb hc)⟩
theorem put_root {σ : List Slot} {r : Nat} {y : Slot} (hy : ∀ d, y.isAl d = false) : ps (kill r σ) r y = Ev.put σ r y := by
  unfold Ev.put; rw [hy]
theorem InvC.replace {B : Base} {col col' : Col} {σ : List Slot} {a : Act} {w : World} (I : InvC P B col σ a w) {r : Nat} {y : Slot} (hq : ∀ b, b < w.heap.size → Quiet (col b) → col' b = col b)
    (hroots : ∀ t, t ≠ r → RootOk P w col t (Act.V a t) (gs σ t) → RootOk P w col' t (Act.V a t) (gs σ t)) (hy : RootOk P w col' r (Act.V a r) y) (hna : ∀ d, y.isAl d = false) : InvC P B col' (Ev.put σ r y) a w := by
  refine I.chg (length_put _ _ _) hq (fun t => ?_)
  by_cases ht : t = r
  · subst ht
    by_cases hl : t < σ.length
    · have : gs (Ev.put σ t y) t = y := by
        unfold Ev.put
        rw [gs_ps_same _ _ _ (by rw [length_kill]; exact hl), hna]
      rw [this]
      cases y with
      | al r p => have := hna r; simp [Slot.isAl] at this
      | pl r p => have := hna r; simp [Slot.isAl] at this
      | dead => trivial
      | undef => exact hy
      | val s m x => exact hy
      | hol s m x p => exact hy
      | tup cs => exact hy
    · rw [gs_out _ _ (by rw [length_put]; omega)]; trivial
  · have hgt : gs (Ev.put σ r y) t = bif3 ((gs σ t).isAl r) .dead (gs σ t) := by
      unfold Ev.put; rw [gs_ps_ne _ _ _ _ ht, gs_kill]
    have hroot : ∀ u, u ≠ r → (gs σ u).isRoot = true → gs (Ev.put σ r y) u = gs σ u := by
      intro u hu ho
      unfold Ev.put; rw [gs_ps_ne _ _ _ _ hu, gs_kill, isRoot_isAl ho]
    have h := I.ok t
    rw [hgt]
    cases hs : gs σ t with
    | dead => trivial
    | undef => rw [hs] at h; exact h
    | val s m x => have := hroots t ht (by rw [hs]; rw [hs] at h; exact h); rw [hs] at this; exact this
    | hol s m x hp => have := hroots t ht (by rw [hs]; rw [hs] at h; exact h); rw [hs] at this; exact this
    | tup cs => have := hroots t ht (by rw [hs]; rw [hs] at h; exact h); rw [hs] at this; exact this
    | al u p =>
      rw [hs] at h
      by_cases hu : u = r
      · simp [hu, Slot.isAl, bif3, SlotOk, RootOk]
      · have e : (u == r) = false := by simpa using hu
        simp only [Slot.isAl, e, bif3]
        exact ⟨h.1, h.2.ctx (hroot u hu h.2.isRoot) rfl⟩
    | pl u p =>
      rw [hs] at h
      by_cases hu : u = r
      · simp [hu, Slot.isAl, bif3, SlotOk, RootOk]
      · have e : (u == r) = false := by simpa using hu
        simp only [Slot.isAl, e, bif3]
        exact ⟨h.1, h.2.ctx (hroot u hu h.2.isRoot) rfl⟩
theorem Less.put_dead {σ : List Slot} {r : Nat} : Less σ (Ev.put σ r .dead) := by
  refine ⟨length_put _ _ _, fun t => ?_⟩
  by_cases ht : t = r
  · subst ht
    by_cases hl : t < σ.length
    · right; left
      unfold Ev.put
      rw [gs_ps_same _ _ _ (by rw [length_kill]; exact hl)]; rfl
    · left
      rw [gs_out _ _ (by rw [length_put]; omega), gs_out _ _ (by omega)]
  · have hgt : gs (Ev.put σ r .dead) t = bif3 ((gs σ t).isAl r) .dead (gs σ t) := by
      unfold Ev.put; rw [gs_ps_ne _ _ _ _ ht, gs_kill]
    rw [hgt]
    cases (gs σ t).isAl r
    · exact .inl rfl
    · exact .inr (.inl rfl)
theorem InvC.remode {B : Base} {col col' : Col} {σ : List Slot} {a : Act} {w : World} (I : InvC P B col σ a w) {r : Nat} {s : S} {m m' : M} {x : El s} (hr : gs σ r = .val s m x) (hq : ∀ b, b < w.heap.size → Quiet (col b) → col' b = col b)
    (hroots : ∀ t, t ≠ r → RootOk P w col t (Act.V a t) (gs σ t) → RootOk P w col' t (Act.V a t) (gs σ t)) (hy : RootOk P w col' r (Act.V a r) (.val s m' x)) : InvC P B col' (ps σ r (.val s m' x)) a w := by
  have hl : r < σ.length := lt_of_gs hr (by simp)
  have hroot : ∀ u p c h pth q v, RootIs σ (Act.V a) u p c h pth q v → ∃ c', RootIs (ps σ r (.val s m' x)) (Act.V a) u p c' h pth q v ∧ ∃ e : c'.s = c.s, e ▸ c'.x = c.x := by
    intro u p c h pth q v H
    by_cases hu : u = r
    · subst hu
      cases H with
      | val e => rw [hr] at e; injection e with e1 e2 e3; subst e1; have e3 := eq_of_heq e3; subst e3
                 exact ⟨⟨_, m', _⟩, .val (gs_ps_same _ _ _ hl), rfl, rfl⟩
      | hol e => rw [hr] at e; cases e
      | tup e => rw [hr] at e; cases e
    · exact ⟨c, H.ctx (gs_ps_ne _ _ _ _ hu) rfl, rfl, rfl⟩
  have hcopy : ∀ {c c' : Comp} {q : List Nat} {u v : Value}, (∃ e : c'.s = c.s, e ▸ c'.x = c.x) → Copy w c q u v → Copy w c' q u v := by
    rintro ⟨s1, m1, x1⟩ ⟨s2, m2, x2⟩ q u v ⟨e, e'⟩ h
    simp only at e e'
    subst e
    simp only at e'
    subst e'
    exact h
  have hplace : ∀ {c c' : Comp} {q : List Nat} {u v : Value}, (∃ e : c'.s = c.s, e ▸ c'.x = c.x) → Place w c q u v → Place w c' q u v := by
    rintro ⟨s1, m1, x1⟩ ⟨s2, m2, x2⟩ q u v ⟨e, e'⟩ h
    simp only at e e'
    subst e
    simp only at e'
    subst e'
    exact h
  refine I.chg (length_ps _ _ _) hq (fun t => ?_)
  by_cases ht : t = r
  · subst ht
    rw [gs_ps_same _ _ _ hl]; exact hy
  · rw [gs_ps_ne _ _ _ _ ht]
    have h := I.ok t
    cases hs : gs σ t with
    | dead => trivial
    | undef => rw [hs] at h; exact h
    | val s m x => have := hroots t ht (by rw [hs]; rw [hs] at h; exact h); rw [hs] at this; exact this
    | hol s m x hp => have := hroots t ht (by rw [hs]; rw [hs] at h; exact h); rw [hs] at this; exact this
    | tup cs => have := hroots t ht (by rw [hs]; rw [hs] at h; exact h); rw [hs] at this; exact this
    | al u p =>
      rw [hs] at h
      refine ⟨h.1, ?_⟩
      rcases h.2 with ⟨cs, e, hp, e2⟩ | ⟨c, hh, pth, q, v, hr', hc⟩
      · have hu : u ≠ r := by rintro rfl; rw [hr] at e; cases e
        exact .inl ⟨cs, (gs_ps_ne _ _ _ _ hu).trans e, hp, e2⟩
      · obtain ⟨c', h1, h2⟩ := hroot _ _ _ _ _ _ _ hr'
        exact .inr ⟨c', hh, pth, q, v, h1, hcopy h2 hc⟩
    | pl u p =>
      rw [hs] at h
      refine ⟨h.1, ?_⟩
      obtain ⟨c, hh, pth, q, v, hr', hc⟩ := h.2
      obtain ⟨c', h1, h2⟩ := hroot _ _ _ _ _ _ _ hr'
      exact ⟨c', hh, pth, q, v, h1, hplace h2 hc⟩
theorem Less.remode {σ : List Slot} {r : Nat} {s : S} {m m' : M} {x : El s} (hr : gs σ r = .val s m x) : Less σ (ps σ r (.val s m' x)) := by
  have hl : r < σ.length := lt_of_gs hr (by simp)
  refine ⟨length_ps _ _ _, fun t => ?_⟩
  by_cases ht : t = r
  · subst ht
    exact .inr (.inr (.inl ⟨s, m, m', x, hr, gs_ps_same _ _ _ hl⟩))
  · exact .inl (gs_ps_ne _ _ _ _ ht)
theorem InvC.less {B : Base} {col : Col} {σ : List Slot} {a : Act} {w : World} (I : InvC P B col σ a w) {r : Nat} {s : S} {m m' : M} {x : El s} (hr : gs σ r = .val s m x) (hle : le m' m = true) :
    InvC P B (reCol col (lessF s m' [r]) [r]) (ps σ r (.val s m' x)) a w := by
  have hk := I.ok r
  rw [hr] at hk
  obtain ⟨cs, h1, h2⟩ := hk
  exact I.remode hr (fun b _ hq => reCol_quiet _ _ (by simp) hq) (fun t ht h => h.apart ht [] _) ⟨cs, h1.less (by simp) hle, h2⟩
theorem nth_setNone {α : Type u} : ∀ (cs : List (Option α)) (i j : Nat) (c : α), nth (setNone cs i) j = some (some c) → j ≠ i ∧ nth cs j = some (some c)
  | [], _, _, _, h => by simp [setNone, nth] at h
  | _ :: _, 0, 0, _, h => by simp [setNone, nth] at h
  | _ :: _, 0, j + 1, _, h => ⟨by omega, h⟩
  | _ :: _, i + 1, 0, _, h => ⟨by omega, h⟩
  | _ :: cs, i + 1, j + 1, c, h => by
    obtain ⟨h1, h2⟩ := nth_setNone cs i j c h
    exact ⟨by omega, h2⟩
theorem nth_setNone_ne {α : Type u} : ∀ (cs : List (Option α)) (i j : Nat), j ≠ i → nth (setNone cs i) j = nth cs j
  | [], _, _, _ => rfl
  | _ :: _, 0, 0, h => absurd rfl h
  | _ :: _, 0, _ + 1, _ => rfl
  | _ :: _, _ + 1, 0, _ => rfl
  | _ :: cs, i + 1, j + 1, h => nth_setNone_ne cs i j (fun e => h (by rw [e]))
theorem gs_keepT (r i : Nat) : ∀ (σ σ2 : List Slot) (t : Nat), σ2.length = σ.length →
    gs (keepT r i σ σ2) t = bif3 (isDead (gs σ2 t) && tupAl r i (gs σ t)) (gs σ t) (gs σ2 t)
  | [], [], t, _ => rfl
  | s :: σ, s2 :: σ2, 0, _ => rfl
  | s :: σ, s2 :: σ2, t + 1, h => gs_keepT r i σ σ2 t (by simpa using h)
  | [], _ :: _, t, h => by simp at h
  | _ :: _, [], t, h => by simp at h
theorem length_keepT (r i : Nat) : ∀ (σ σ2 : List Slot), (keepT r i σ σ2).length = σ2.length
  | [], σ2 => by cases σ2 <;> rfl
  | s :: σ, [] => rfl
  | s :: σ, s2 :: σ2 => by simp [keepT, length_keepT r i σ σ2]
theorem InvC.keepT {B B' : Base} {col col' : Col} {σ σ4 : List Slot} {a : Act} {w w' : World} {r i : Nat} {cs : List (Option Comp)} (I0 : InvC P B col σ a w) (I : InvC P B' col' σ4 a w')
    (hg : gs σ r = .tup cs) (hg4 : gs σ4 r = .tup (setNone cs i)) (hw : w' = w) :
    InvC P B' col' (Ev.keepT r i σ σ4) a w' := by
  subst hw
  have hl : σ4.length = σ.length := by rw [← I.len, ← I0.len]
  have hroot : ∀ r', (gs σ4 r').isRoot = true → gs (Ev.keepT r i σ σ4) r' = gs σ4 r' := by
    intro r h
    rw [gs_keepT _ _ _ _ _ hl]
    cases hs : gs σ4 r <;> rw [hs] at h <;> first | rfl | cases h
  refine ⟨by rw [length_keepT]; exact I.len, I.dfr, I.frm, fun t => ?_⟩
  have h := I.ok t
  rw [gs_keepT _ _ _ _ _ hl]
  cases hc : isDead (gs σ4 t) && tupAl r i (gs σ t)
  · show SlotOk P _ col' _ (Act.V a) t (gs σ4 t)
    cases hs : gs σ4 t with
    | al r p => rw [hs] at h; exact ⟨h.1, h.2.ctx (hroot r h.2.isRoot) rfl⟩
    | pl r p => rw [hs] at h; exact ⟨h.1, h.2.ctx (hroot r h.2.isRoot) rfl⟩
    | _ => rw [hs] at h; exact h
  · show SlotOk P _ col' _ (Act.V a) t (gs σ t)
    rw [Bool.and_eq_true] at hc
    have hb := hc.2
    have h0 := I0.ok t
    cases hs : gs σ t with
    | al r' p =>
      rw [hs] at hb h0
      cases p with
      | nil => cases hb
      | cons j p =>
        simp only [tupAl, Bool.and_eq_true, Bool.not_eq_true'] at hb
        obtain ⟨hb0, hb1⟩ := hb
        have hb0 := Nat.eq_of_beq_eq_true hb0
        subst hb0
        have hj : j ≠ i := Nat.ne_of_beq_eq_false hb1
        obtain ⟨hne, ha⟩ := h0
        refine ⟨hne, ?_⟩
        rcases ha with ⟨_, _, hp, _⟩ | ⟨c, hh, pth, q, u, hr, hcp⟩
        · cases hp
        · refine .inr ⟨c, hh, pth, q, u, ?_, hcp⟩
          cases hr with
          | val e => rw [hg] at e; cases e
          | hol e => rw [hg] at e; cases e
          | tup e e2 e3 e4 e5 =>
            injection e2 with e2 e2'
            subst e2; subst e2'
            rw [hg] at e
            injection e with e
            subst e
            exact .tup ((hroot _ (by rw [hg4]; rfl)).trans hg4) rfl ((nth_setNone_ne _ _ _ hj).trans e3) e4 e5
    | _ => rw [hs] at hb; cases hb
theorem bif3_pick {α : Sort _} {b : Bool} {x y : α} : (b = true ∧ bif3 b x y = x) ∨ (b = false ∧ bif3 b x y = y) := by cases b; exact .inr ⟨rfl, rfl⟩; exact .inl ⟨rfl, rfl⟩
theorem take_ok {B : Base} {col : Col} {σ σ2 : List Slot} {a : Act} {w : World} (I : InvC P B col σ a w) {v : Value} {sl : Slot} {fz : Bool} {c : Comp} {mr : Option Nat}
    (ho : OpdOk P w col σ a v sl) (ht : take σ fz sl = some (c, σ2, mr)) :
    ∃ col2 pth cs, InvC P B col2 σ2 a w ∧ Later w σ col σ2 col2 ∧ Rep P c.s w col2 none pth c.m c.x cs ∧ IsVal c.s v cs ∧ (FreeP σ2 pth ∨ ∀ p, Rep P c.s w col2 none p c.m c.x cs) ∧
      (∀ r, mr = some r → v = Act.V a r ∧ gs σ2 r = .dead ∧ r < σ.length) ∧
      (∀ d, (gs σ d).isRoot = false → ∀ (q : List Nat) {s' : S} {h' : Option (List Nat)} {m' : M} {x' : El s'} {cs' : List Value}, Rep P s' w col h' (d :: q) m' x' cs' → Rep P s' w col2 h' (d :: q) m' x' cs') ∧
      ∀ r, pth.head? = some r → (gs σ r).isRoot = true := by
  have frz : ∀ {r : Nat} {p : List Nat} {s : S} {m : M} {x : El s}, gs σ r = .val s m x → AlOk w σ (Act.V a) r p v →
      ∃ col2 pth cs, InvC P B col2 (ps σ r (.val s (setM s p m .sh) x)) a w ∧ Later w σ col (ps σ r (.val s (setM s p m .sh) x)) col2 ∧ Rep P (subS s p) w col2 none pth .sh (getP s p x) cs ∧ IsVal (subS s p) v cs ∧
        (FreeP (ps σ r (.val s (setM s p m .sh) x)) pth ∨ ∀ q, Rep P (subS s p) w col2 none q .sh (getP s p x) cs) ∧ (∀ r', (none : Option Nat) = some r' → v = Act.V a r' ∧ gs (ps σ r (.val s (setM s p m .sh) x)) r' = .dead ∧ r' < σ.length) ∧
        (∀ d, (gs σ d).isRoot = false → ∀ (q : List Nat) {s' : S} {h' : Option (List Nat)} {m' : M} {x' : El s'} {cs' : List Value}, Rep P s' w col h' (d :: q) m' x' cs' → Rep P s' w col2 h' (d :: q) m' x' cs') ∧
        ∀ r, pth.head? = some r → (gs σ r).isRoot = true := by
    intro r p s m x hg hal
    have hle : le (setM s p m .sh) m = true := setM_le s p m .sh (noOwn_le rfl)
    have I2 := I.less hg hle
    have hl : r < σ.length := lt_of_gs hg (by simp)
    rcases hal with ⟨cs, e, hp, e2⟩ | ⟨c0, hh, pth, q, u, hr, hcp⟩
    · rw [hg] at e; cases e
    · cases hr with
      | hol e => rw [hg] at e; cases e
      | tup e => rw [hg] at e; cases e
      | val e =>
        rw [hg] at e
        injection e with e1 e2 e3
        subst e1
        have e3 := eq_of_heq e3
        subst e3
        obtain ⟨cs, h1, h2⟩ := I2.copy (c := ⟨s, setM s p m .sh, x⟩) (p := p) (.val (gs_ps_same _ _ _ hl)) hcp
        rw [subHs_none] at h1
        have hno : noOwn (subM s p (setM s p m .sh)) = true := le_noOwn (subM_setM s p m .sh) rfl
        refine ⟨_, [], cs, I2, ⟨Less.remode hg, fun b _ hc => ?_⟩, h1.toSh hno, h2, .inr fun q => h1.toSh hno, (fun r h => by cases h), (fun d hd q s' h' m' x' cs' H => H.apart (Apart.root (fun e => by rw [e, hg] at hd; cases hd) _ _) (by simp) _), (fun r h => by cases h)⟩
        rw [reCol_quiet _ _ (by simp) (.inr hc)]; exact hc
  cases sl with
  | val s m x =>
    simp only [take, Option.some.injEq, Prod.mk.injEq] at ht
    obtain ⟨rfl, rfl, rfl⟩ := ht
    obtain ⟨cs, h1, h2, h3⟩ := OpdOk.reps ho
    exact ⟨col, [], cs, I, Later.refl _ _ _, h1 _, h3, .inr h1, (fun r h => by cases h), (fun _ _ _ _ _ _ _ _ h => h), (fun r h => by cases h)⟩
  | al r p =>
    simp only [take] at ht
    split at ht
    · rename_i s m x hg
      split at ht
      · rename_i _ _
        simp only [Option.some.injEq, Prod.mk.injEq] at ht
        obtain ⟨rfl, rfl, rfl⟩ := ht
        have hl : r < σ.length := lt_of_gs hg (by simp)
        have hk := I.ok r
        rw [hg] at hk
        obtain ⟨cs, h1, h2⟩ := hk
        have hv : v = Act.V a r := by
          rcases ho with ⟨cs', e, hp, e2⟩ | ⟨c0, hh, pth, q, u, hr, hcp⟩
          · exact e2
          · cases hr with
            | hol e => rw [hg] at e; cases e
            | tup e => rw [hg] at e; cases e
            | val e =>
              obtain ⟨_, cs1, cs2, oa, k1, k2, k3⟩ := hcp
              obtain ⟨rfl, _⟩ := Nav_nil' k2
              rw [subS_nil] at k3
              exact k3.value k1
        have hdead : gs (Ev.put σ r .dead) r = .dead := by
          unfold Ev.put; rw [gs_ps_same _ _ _ (by rw [length_kill]; exact hl)]; rfl
        rw [put_root (fun _ => rfl)]
        refine ⟨col, [r], cs, I.replace (fun _ _ _ => rfl) (fun _ _ h => h) trivial (fun _ => rfl), ⟨Less.put_dead, fun _ _ h => h⟩, h1, by rw [hv]; exact h2, .inl ?_, fun r' h => ?_, (fun _ _ _ _ _ _ _ _ h => h), (fun r' h => by injection h with h; subst h; rw [hg]; rfl)⟩
        · show (gs (Ev.put σ r .dead) r).isRoot = false
          rw [hdead]; rfl
        · injection h with h; subst h; exact ⟨hv, hdead, hl⟩
      · rcases bif3_pick (b := isPtr s && !noOwn (subM s [0] m)) (x := some ((⟨subS s [0], subM s [0] m, getP s [0] x⟩ : Comp), ps (kill r σ) r .dead, (none : Option Nat))) (y := some ((⟨subS s [0], .sh, getP s [0] x⟩ : Comp), ps σ r (.val s (setM s [0] m .sh) x), (none : Option Nat))) with ⟨hb, e⟩ | ⟨hb, e⟩
        · rw [e] at ht
          simp only [Option.some.injEq, Prod.mk.injEq] at ht
          obtain ⟨rfl, rfl, rfl⟩ := ht
          have hl : r < σ.length := lt_of_gs hg (by simp)
          have hcp : Copy w ⟨s, m, x⟩ [0] (Act.V a r) v := by
            rcases ho with ⟨cs', e, hp, e2⟩ | ⟨c0, hh, pth, q, u, hr, hcp⟩
            · cases hp
            · cases hr with
              | hol e => rw [hg] at e; cases e
              | tup e => rw [hg] at e; cases e
              | val e =>
                rw [hg] at e
                injection e with e1 e2 e3
                subst e1
                have e3 := eq_of_heq e3
                subst e3
                exact hcp
          obtain ⟨cs, h1, h2⟩ := I.copy (.val hg) hcp
          rw [subHs_none] at h1
          have hdead : gs (Ev.put σ r .dead) r = .dead := by
            unfold Ev.put; rw [gs_ps_same _ _ _ (by rw [length_kill]; exact hl)]; rfl
          rw [put_root (fun _ => rfl)]
          refine ⟨col, [r, 0], cs, I.replace (fun _ _ _ => rfl) (fun _ _ h => h) trivial (fun _ => rfl), ⟨Less.put_dead, fun _ _ h => h⟩, h1, h2, .inl (.inl ?_), fun r' h => (by cases h), (fun _ _ _ _ _ _ _ _ h => h), (fun r' h => by injection h with h; subst h; rw [hg]; rfl)⟩
          rw [hdead]; rfl
        · rw [e] at ht
          simp only [Option.some.injEq, Prod.mk.injEq] at ht
          obtain ⟨rfl, rfl, rfl⟩ := ht
          exact frz hg ho
      · rename_i p' _ _
        simp only [Option.some.injEq, Prod.mk.injEq] at ht
        obtain ⟨rfl, rfl, rfl⟩ := ht
        exact frz hg ho
    · rename_i cs hg
      split at ht
      · rename_i i
        split at ht
        · rename_i c' hn
          simp only [Option.some.injEq, Prod.mk.injEq] at ht
          obtain ⟨rfl, rfl, rfl⟩ := ht
          have hl : r < σ.length := lt_of_gs hg (by simp)
          have hk := I.ok r
          rw [hg] at hk
          obtain ⟨vs, hvs, hk⟩ := hk
          obtain ⟨u, ds, g1, g2, g3⟩ := hk i c' hn
          have hv : v = u := by
            rcases ho with ⟨cs', e, hp, e2⟩ | ⟨c0, hh, pth, q, u', hr, hcp⟩
            · cases hp
            · cases hr with
              | val e => rw [hg] at e; cases e
              | hol e => rw [hg] at e; cases e
              | tup e e2 e3 e4 e5 =>
                injection e2 with e2 e2'
                subst e2; subst e2'
                rw [hg] at e
                injection e with e
                subst e
                rw [hn] at e3
                injection e3 with e3
                injection e3 with e3
                subst e3
                rw [hvs] at e4
                injection e4 with e4
                subst e4
                rw [g1] at e5
                injection e5 with e5
                subst e5
                obtain ⟨_, cs1, cs2, oa, k1, k2, k3⟩ := hcp
                obtain ⟨rfl, _⟩ := Nav_nil' k2
                rw [subS_nil] at k3
                exact k3.value k1
          rw [put_root (fun _ => rfl)]
          have hgs0 : gs (Ev.put σ r (.tup (setNone cs i))) r = .tup (setNone cs i) := by
            unfold Ev.put; rw [gs_ps_same _ _ _ (by rw [length_kill]; exact hl)]; rfl
          have hgs : gs (Ev.keepT r i σ (Ev.put σ r (.tup (setNone cs i)))) r = .tup (setNone cs i) := by
            rw [gs_keepT _ _ _ _ _ (length_put _ _ _), hgs0]; rfl
          refine ⟨col, [r, i], ds, I.keepT (I.replace (fun _ _ _ => rfl) (fun _ _ h => h) ⟨vs, hvs, fun j c hj => hk j c (nth_setNone cs i j c hj).2⟩ (fun _ => rfl)) hg hgs0 rfl, ⟨⟨by rw [length_keepT]; exact length_put _ _ _, fun t => ?_⟩, fun _ _ h => h⟩, g2, by rw [hv]; exact g3, .inl (.inr ⟨_, hgs, fun c h => (nth_setNone cs i i c h).1 rfl⟩), (fun r h => by cases h), (fun _ _ _ _ _ _ _ _ h => h), (fun r' h => by injection h with h; subst h; rw [hg]; rfl)⟩
          by_cases ht : t = r
          · subst ht
            exact .inr (.inr (.inr ⟨cs, _, hg, hgs, fun j c hj => (nth_setNone cs i j c hj).2⟩))
          · have hgt : gs (Ev.put σ r (.tup (setNone cs i))) t = bif3 ((gs σ t).isAl r) .dead (gs σ t) := by
              unfold Ev.put; rw [gs_ps_ne _ _ _ _ ht, gs_kill]
            rw [gs_keepT _ _ _ _ _ (length_put _ _ _)]
            have h2 : gs (Ev.put σ r (.tup (setNone cs i))) t = gs σ t ∨ gs (Ev.put σ r (.tup (setNone cs i))) t = .dead := by
              rw [hgt]
              cases (gs σ t).isAl r
              · exact .inl rfl
              · exact .inr rfl
            cases (isDead (gs (Ev.put σ r (.tup (setNone cs i))) t) && tupAl r i (gs σ t))
            · rcases h2 with e | e
              · exact .inl e
              · exact .inr (.inl e)
            · exact .inl rfl
        · cases ht
      · cases ht
    · cases ht
  | pl r p => simp [take] at ht
  | dead => simp [take] at ht
  | undef => simp [take] at ht
  | tup cs => simp [take] at ht
  | hol s m x p => simp [take] at ht
end Go.Ev

noncomputable section
namespace Go.Ev
variable {P : Program}
theorem InvC.dead {B : Base} {col : Col} {σ : List Slot} {a : Act} {w : World} (I : InvC P B col σ a w) (d : Nat) : InvC P B col (Ev.put σ d .dead) a w :=
  I.replace (fun _ _ _ => rfl) (fun _ _ h => h) trivial (fun _ => rfl)
theorem gs_put_same {σ : List Slot} {d : Nat} {y : Slot} (h : d < σ.length) : gs (Ev.put σ d y) d = bif3 (y.isAl d) .dead y := by
  unfold Ev.put; exact gs_ps_same _ _ _ (by rw [length_kill]; exact h)
theorem gs_put_ne {σ : List Slot} {d t : Nat} {y : Slot} (h : t ≠ d) : gs (Ev.put σ d y) t = bif3 ((gs σ t).isAl d) .dead (gs σ t) := by
  unfold Ev.put; rw [gs_ps_ne _ _ _ _ h, gs_kill]
theorem gs_put_dead {σ : List Slot} {d : Nat} : gs (Ev.put σ d .dead) d = .dead := by
  by_cases h : d < σ.length
  · rw [gs_put_same h]; rfl
  · exact gs_out _ _ (by rw [length_put]; omega)
theorem OpdOk.later {col col2 : Col} {σ σ2 : List Slot} {a : Act} {w : World} {v : Value} {sl : Slot} {fz : Bool} {c : Comp} {σ3 : List Slot} {mr : Option Nat} (h : OpdOk P w col σ a v sl) (L : Later w σ col σ2 col2)
    (ht : take σ2 fz sl = some (c, σ3, mr)) : OpdOk P w col2 σ2 a v sl := by
  cases sl with
  | val s m x =>
    obtain ⟨cs, h1, h2, h3⟩ := h
    exact ⟨cs, h1.re _ ⟨rfl, fun b q _ _ ho => (by rw [ownAt_sh] at ho; cases ho), fun b q _ _ ho => (by rw [ownAt_sh] at ho; cases ho), L.sh, fun _ _ _ => rfl, Nat.le_refl _⟩, h2, h3⟩
  | al r p =>
    simp only [take] at ht
    rcases h with ⟨cs, e, hp, e2⟩ | ⟨c0, hh, pth, q, u, hr, hcp⟩
    · subst hp
      rcases L.less.2 r with k | k | ⟨s1, m1, m1', x1, k, k'⟩ | ⟨ds, ds', k, k', _⟩
      · exact .inl ⟨cs, k.trans e, rfl, e2⟩
      · rw [k] at ht; cases ht
      · rw [k] at e; cases e
      · exact .inl ⟨ds', k', rfl, e2⟩
    · cases hr with
      | val e =>
        rcases L.less.2 r with k | k | ⟨s1, m1, m1', x1, k, k'⟩ | ⟨ds, ds', k, k', _⟩
        · exact .inr ⟨_, _, _, _, _, .val (k.trans e), hcp⟩
        · rw [k] at ht; cases ht
        · rw [e] at k
          injection k with k1 k2 k3
          subst k1
          have k3 := eq_of_heq k3
          subst k3
          exact .inr ⟨⟨_, m1', _⟩, _, _, _, _, .val k', hcp⟩
        · rw [e] at k; cases k
      | hol e =>
        rcases L.less.2 r with k | k | ⟨s1, m1, m1', x1, k, k'⟩ | ⟨ds, ds', k, k', _⟩
        · rw [k, e] at ht; cases ht
        · rw [k] at ht; cases ht
        · rw [e] at k; cases k
        · rw [e] at k; cases k
      | tup e e2 e3 e4 e5 =>
        subst e2
        rcases L.less.2 r with k | k | ⟨s1, m1, m1', x1, k, k'⟩ | ⟨ds, ds', k, k', hn⟩
        · exact .inr ⟨_, _, _, _, _, .tup (k.trans e) rfl e3 e4 e5, hcp⟩
        · rw [k] at ht; cases ht
        · rw [e] at k; cases k
        · rw [k'] at ht
          simp only at ht
          split at ht
          · rename_i i' heq
            injection heq with h1 h2
            subst h1; subst h2
            split at ht
            · rename_i c' hc'
              rw [e] at k
              injection k with k
              subst k
              have := hn _ _ hc'
              rw [e3] at this
              injection this with this
              injection this with this
              subst this
              exact .inr ⟨_, _, _, _, _, .tup k' rfl hc' e4 e5, hcp⟩
            · cases ht
          · cases ht
  | pl r p => simp [take] at ht
  | dead => simp [take] at ht
  | undef => simp [take] at ht
  | tup cs => simp [take] at ht
  | hol s m x p => simp [take] at ht
theorem InvC.to {B : Base} {col : Col} {σ : List Slot} {a : Act} {w : World} (I : InvC P B col σ a w) {pth : List Nat} {s : S} {m : M} {x : El s} {cs : List Value} (h : Rep P s w col none pth m x cs)
    (hf : FreeP σ pth ∨ ∀ p, Rep P s w col none p m x cs) (p : List Nat) : ∃ col', InvC P B col' σ a w ∧ Rep P s w col' none p m x cs ∧ (∀ b, b < w.heap.size → col b = some [] → col' b = some []) ∧
      ∀ r p', p'.head? = some r → (∀ r', pth.head? = some r' → r ≠ r') → ∀ {s' : S} {h' : Option (List Nat)} {m' : M} {x' : El s'} {cs' : List Value}, Rep P s' w col h' p' m' x' cs' → Rep P s' w col' h' p' m' x' cs' := by
  rcases hf with hf | hf
  · refine ⟨_, I.recol hf (moveF p), h.move hf.ne, fun b _ hc => by rw [reCol_quiet _ _ hf.ne (.inr hc)]; exact hc, fun r p' hp hne s' h' m' x' cs' H => ?_⟩
    match pth, p', hf, hp with
    | r' :: pt, r'' :: pt', hf, hp =>
      simp only [List.head?_cons, Option.some.injEq] at hp
      subst hp
      exact H.apart (Apart.root (hne r' rfl) _ _) (by simp) _
  · exact ⟨col, I, hf p, fun _ _ h => h, fun _ _ _ _ _ _ _ _ _ H => H⟩
theorem AlOk.kept {w : World} {σ : List Slot} {V : Nat → Value} {r d : Nat} {p : List Nat} {v : Value} (h : AlOk w σ V r p v) (hr : r ≠ d) : AlOk w (Ev.put σ d .dead) V r p v :=
  h.ctx (by rw [gs_put_ne hr, isRoot_isAl h.isRoot]) rfl
theorem OpdOk.put_dead {col : Col} {σ : List Slot} {a : Act} {w : World} {v : Value} {sl : Slot} {fz : Bool} {c : Comp} {σ3 : List Slot} {mr : Option Nat} (h : OpdOk P w col σ a v sl) {d : Nat}
    (ht : take (Ev.put σ d .dead) fz sl = some (c, σ3, mr)) : OpdOk P w col (Ev.put σ d .dead) a v sl :=
  h.later ⟨Less.put_dead, fun _ _ h => h⟩ ht
theorem InvC.setAl {B : Base} {col : Col} {σ : List Slot} {a : Act} {w : World} (I : InvC P B col σ a w) {r d : Nat} {q : List Nat} (hd : gs σ r = .dead) (hne : r ≠ d) (h : AlOk w σ (Act.V a) d q (Act.V a r)) : InvC P B col (ps σ r (.al d q)) a w := by
  have hroot : ∀ u, (gs σ u).isRoot = true → gs (ps σ r (.al d q)) u = gs σ u := by
    intro u hu
    refine gs_ps_ne _ _ _ _ ?_
    rintro rfl
    rw [hd] at hu; cases hu
  refine I.chg (length_ps _ _ _) (fun _ _ _ => rfl) (fun t => ?_)
  by_cases ht : t = r
  · subst ht
    by_cases hl : t < σ.length
    · rw [gs_ps_same _ _ _ hl]
      exact ⟨fun e => hne e.symm, h.ctx (hroot _ h.isRoot) rfl⟩
    · rw [gs_out _ _ (by rw [length_ps]; omega)]; trivial
  · rw [gs_ps_ne _ _ _ _ ht]
    have hk := I.ok t
    cases hs : gs σ t with
    | dead => trivial
    | undef => rw [hs] at hk; exact hk
    | val s m x => rw [hs] at hk; exact hk
    | hol s m x hp => rw [hs] at hk; exact hk
    | tup cs => rw [hs] at hk; exact hk
    | al u p => rw [hs] at hk; exact ⟨hk.1, hk.2.ctx (hroot _ hk.2.isRoot) rfl⟩
    | pl u p => rw [hs] at hk; exact ⟨hk.1, hk.2.ctx (hroot _ hk.2.isRoot) rfl⟩
section
variable {C : Ctx} {B : Base} {R : Type} {K : List Slot → Option R} {res : R} {next : Act → World → Prop} {Q : Exit → Act → World → Prop} {o : Oper} {σ : List Slot} {a : Act} {w : World} {col : Col}
theorem aliased_ok {a' : Act} {d : Nat} {q : List Nat} {mr : Option Nat} (I : InvC P B col σ a' w) (h1 : ∀ r, mr = some r → r ≠ d → gs σ r = .dead)
    (h2 : ∀ r s m x, mr = some r → r ≠ d → gs σ d = .val s m x → AlOk w σ (Act.V a') d q (Act.V a' r)) : InvC P B col (aliased σ d q mr) a' w := by
  unfold aliased
  split
  · exact I
  · rename_i r
    split
    · rename_i s m x hgd
      cases hrd : (r == d)
      · have hne : r ≠ d := by simpa using hrd
        exact I.setAl (h1 r rfl hne) hne (h2 r s m x rfl hne hgd)
      · exact I
    · exact I
theorem Assign.ok (hC : CtxOk P C) (I : InvC P B col σ a w) (hG : Good P B K res next) {x : Operand} {sT : Option S} {fz : Bool} (hop : o.op = .assign x)
    (he : assignK σ fz o.dst (Ev.rdo' C σ sT x) K = some res) : o.wp P a w next Q := by
  have hx := I.rdo' hC sT x
  have hrun : (execOp a.eval o).run P w = .ok (.value (a.eval x)) w := by simp [execOp, hop]
  generalize hv : a.eval x = v at hx hrun
  unfold assignK at he
  split at he
  · cases he
  · rename_i d hd
    have go : ∀ fz, (match take (Ev.put σ d .dead) fz (Ev.rdo' C σ sT x) with
        | some (c, σ, mr) => K (aliased (Ev.put σ d (.val c.s c.m c.x)) d [] mr)
        | none => none) = some res → o.wp P a w next Q := by
      intro fz he
      split at he
      · rename_i c σ2 mr ht
        obtain ⟨col2, pth, cs, I2, L, hr, hval, hf, hmr, _⟩ := take_ok (I.dead d) (hx.put_dead ht) ht
        obtain ⟨col3, I3, hr3, _⟩ := I2.to hr hf [d]
        have I4 : InvC P B col3 (Ev.put σ2 d (.val c.s c.m c.x)) (a.put (some d) v) w := I3.put (y := .val c.s c.m c.x) ⟨cs, hr3, hval⟩
        refine op_value hrun (hG _ _ _ ⟨col3, ?_⟩ he)
        rw [hd]
        refine aliased_ok I4 (fun r hr0 hne => ?_) (fun r s m x hr0 hne hgd => ?_)
        · rw [gs_put_ne hne, (hmr r hr0).2.1]; rfl
        · obtain ⟨e1, e2, e3⟩ := hmr r hr0
          have hlt : d < σ2.length := by
            have := lt_of_gs hgd (by simp); rw [length_put] at this; exact this
          rw [V_put_ne hne, ← e1]
          have hgd' : gs (Ev.put σ2 d (.val c.s c.m c.x)) d = .val c.s c.m c.x := by rw [gs_put_same hlt]; rfl
          refine .inr ⟨⟨c.s, c.m, c.x⟩, none, [d], [], _, .val hgd', okP_nil _ _, cs, cs, none, ?_, Nav_nil _ _ _ _, ?_⟩
          · rw [V_put_same (by rw [I2.len]; omega)]; exact hval
          · rw [subS_nil]; exact hval
      · cases he
    split at he
    · split at he
      · exact go _ he
      · exact go _ he
      · cases fz
        · exact op_value hrun (hG _ _ _ ⟨col, by rw [hd]; exact I.put (hx.new d)⟩ he)
        · exact go _ he
    · exact op_value hrun (hG _ _ _ ⟨col, by rw [hd]; exact I.put (hx.new d)⟩ he)
end
end Go.Ev

noncomputable section
namespace Go.Ev
variable {P : Program}
theorem Rep.oneCell : ∀ (s : S) {w : World} {col : Col} {p : List Nat} {m : M} {x : El s} {cs : List Value}, Rep P s w col none p m x cs → ∀ v ∈ cs, v.oneCell' = true := by
  intro s
  induction s with
  | agg s ih => intro w col p m x cs H; exact ih (p := p ++ [0]) (m := agM m) H
  | pair a b iha ihb =>
    intro w col p m x cs H v hv
    obtain ⟨c1, c2, e, h1, h2⟩ := H
    subst e
    rcases List.mem_append.1 hv with hv | hv
    · exact iha h1 v hv
    · exact ihb h2 v hv
  | unit => intro w col p m x cs H v hv; have : cs = [] := H; subst this; simp at hv
  | int k => intro w col p m x cs H v hv; have : cs = [.int k x] := H; subst this; simp at hv; subst hv; rfl
  | bool => intro w col p m x cs H v hv; have : cs = [.bool x] := H; subst this; simp at hv; subst hv; rfl
  | str => intro w col p m x cs H v hv; have : cs = [.string x] := H; subst this; simp at hv; subst hv; rfl
  | slice nl s _ => intro w col p m x cs H v hv; obtain ⟨b, c, e, _⟩ := H; subst e; simp at hv; subst hv; rfl
  | ptr s _ => intro w col p m x cs H v hv; obtain ⟨b, c, e, _⟩ := H; subst e; simp at hv; subst hv; rfl
  | func a b _ _ => intro w col p m x cs H v hv; obtain ⟨b, c, e, _⟩ := H; subst e; simp at hv; subst hv; rfl
  | map a b _ _ => intro w col p m x cs H v hv; obtain ⟨_, _, _, e, _⟩ := H; subst e; simp at hv; subst hv; rfl
theorem Rep.cells {s : S} {w : World} {col : Col} {p : List Nat} {m : M} {x : El s} {cs : List Value} {v : Value} (H : Rep P s w col none p m x cs) (hv : IsVal s v cs) : v.cells = cs.toArray := by
  cases s with
  | agg s => have : v = .agg cs.toArray := hv; subst this; rfl
  | pair a b => exact absurd hv id
  | unit => exact absurd hv id
  | _ =>
    have hv : cs = [v] := hv
    subst hv
    have := Rep.oneCell _ H v (by simp)
    cases v <;> first | rfl | simp [Value.oneCell'] at this
section
variable {C : Ctx} {B : Base} {R : Type} {K : List Slot → Option R} {res : R} {next : Act → World → Prop} {Q : Exit → Act → World → Prop} {o : Oper} {σ : List Slot} {a : Act} {w : World} {col : Col}
theorem Box.ok (hC : CtxOk P C) (I : InvC P B col σ a w) (hG : Good P B K res next) {T : TypeId} {x : Operand} {sT : Option S} {fz : Bool} {d : Nat} (hop : o.op = .box T x) (hd : o.dst = some d)
    (he : (match take (Ev.put σ d .dead) fz (Ev.rdo' C (Ev.put σ d .dead) sT x) with
      | some (c, σ, mr) => K (aliased (Ev.put σ d (.val (.ptr c.s) (.ow c.m) c.x)) d [0] mr)
      | none => none) = some res) : o.wp P a w next Q := by
  have I1 := I.dead d
  have hx := I1.rdo' hC sT x
  generalize hv : a.eval x = v at hx
  split at he
  · rename_i c σ2 mr ht
    obtain ⟨col2, pth, cs, I2, L, hr, hval, hf, hmr, _⟩ := take_ok I1 hx ht
    obtain ⟨col3, I3, hr3, _⟩ := I2.to hr hf [d, 0]
    have hcells := hr.cells hval
    have G := grown_alloc w col3 [d] (.cells v.cells T)
    have I4 := I3.grow G
    have hr4 := hr3.grow G
    have hat : At (w.alloc (.cells v.cells T)) w.heap.size 0 cs := At_new w _ T (fun j u hj => by rw [hcells]; simpa using hj)
    have hrep : Rep P (.ptr c.s) (w.alloc (.cells v.cells T)) (colNew w col3 [d]) none [d] (.ow c.m) c.x [.pointer (some ⟨w.heap.size, 0, none⟩)] :=
      ⟨⟨w.heap.size, 0, none⟩, cs, rfl, rfl, fun _ => ⟨colNew_new w col3 [d], OwnB_new w _ T (by rw [hcells]; simp [hr.len])⟩, fun h => by simp [isOw] at h, hat, hr4⟩
    have I5 := I4.put (d := d) (v := .pointer (some ⟨w.heap.size, 0, none⟩)) (y := .val (.ptr c.s) (.ow c.m) c.x) ⟨_, hrep, rfl⟩
    refine op_value (v := .pointer (some ⟨w.heap.size, 0, none⟩)) (w' := w.alloc (.cells v.cells T)) (by simp [execOp, hop, hv, Instr.box, newVar, newRow]) (hG _ _ _ ⟨colNew w col3 [d], ?_⟩ he)
    rw [hd]
    refine aliased_ok I5 (fun r hr0 hne => ?_) (fun r s m x hr0 hne hgd => ?_)
    · rw [gs_put_ne hne, (hmr r hr0).2.1]; rfl
    · obtain ⟨e1, e2, e3⟩ := hmr r hr0
      have hlt : d < σ2.length := by
        have := lt_of_gs hgd (by simp); rw [length_put] at this; exact this
      rw [V_put_ne hne, ← e1]
      have hgd' : gs (Ev.put σ2 d (.val (.ptr c.s) (.ow c.m) c.x)) d = .val (.ptr c.s) (.ow c.m) c.x := by rw [gs_put_same hlt]; rfl
      refine .inr ⟨⟨.ptr c.s, .ow c.m, c.x⟩, none, [d], [0], _, .val hgd', ⟨rfl, okP_nil _ _⟩, [.pointer (some ⟨w.heap.size, 0, none⟩)], cs, _, ?_, ⟨rfl, ⟨w.heap.size, 0, none⟩, cs, rfl, rfl, hr.len, hat, Nav_nil _ _ _ _⟩, ?_⟩
      · rw [V_put_same (by rw [I2.len]; omega)]; rfl
      · rw [show subS (.ptr c.s) [0] = c.s from subS_nil _]; exact hval
  · cases he
end
def TakenOk (P : Program) (w : World) (col : Col) (d : Nat) : List (List Nat) → List Comp → List Value → Prop
  | q :: qs, c :: cs, v :: vs => (∃ ds, Rep P c.s w col none (d :: q) c.m c.x ds ∧ IsVal c.s v ds) ∧ TakenOk P w col d qs cs vs
  | [], [], [] => True
  | _, _, _ => False
def SlotsOk (P : Program) (w : World) (col : Col) (σ : List Slot) (a : Act) : List Slot → List Value → Prop
  | sl :: sls, v :: vs => OpdOk P w col σ a v sl ∧ SlotsOk P w col σ a sls vs
  | [], [] => True
  | _, _ => False
theorem TakenOk.keep {w : World} {col col' : Col} {d : Nat} (h : ∀ (q : List Nat) {s' : S} {h' : Option (List Nat)} {m' : M} {x' : El s'} {cs' : List Value}, Rep P s' w col h' (d :: q) m' x' cs' → Rep P s' w col' h' (d :: q) m' x' cs') :
    ∀ {qs : List (List Nat)} {cs : List Comp} {vs : List Value}, TakenOk P w col d qs cs vs → TakenOk P w col' d qs cs vs
  | q :: qs, c :: cs, v :: vs, ⟨⟨ds, h1, h2⟩, h3⟩ => ⟨⟨ds, h q h1, h2⟩, TakenOk.keep h h3⟩
  | [], [], [], _ => trivial
  | [], [], _ :: _, hh => absurd hh id
  | [], _ :: _, _, hh => absurd hh id
  | _ :: _, [], _, hh => absurd hh id
  | _ :: _, _ :: _, [], hh => absurd hh id
theorem FreeP.head {σ : List Slot} {pth : List Nat} (h : FreeP σ pth) : ∃ r, pth.head? = some r := by
  match pth, h with
  | [r], _ => exact ⟨r, rfl⟩
  | [r, i], _ => exact ⟨r, rfl⟩
theorem takeAll_ok {B : Base} {a : Act} {w : World} {fz : Bool} {d : Nat} : ∀ (sls : List Slot) (qs : List (List Nat)) (vs : List Value) {col0 col : Col} {σ0 σ σ2 : List Slot} {cs : List Comp}, InvC P B col σ a w → Later w σ0 col0 σ col → gs σ d = .dead →
    SlotsOk P w col0 σ0 a sls vs → qs.length = sls.length → takeAll σ fz sls = some (cs, σ2) →
    ∃ col2, InvC P B col2 σ2 a w ∧ gs σ2 d = .dead ∧ TakenOk P w col2 d qs cs vs ∧ (∀ b, b < w.heap.size → col b = some [] → col2 b = some []) ∧
      ∀ (q : List Nat) {s' : S} {h' : Option (List Nat)} {m' : M} {x' : El s'} {cs' : List Value}, Rep P s' w col h' (d :: q) m' x' cs' → Rep P s' w col2 h' (d :: q) m' x' cs'
  | [], [], [], col0, col, σ0, σ, σ2, cs, I, L, hd, _, _, ht => by
    simp only [takeAll, Option.some.injEq, Prod.mk.injEq] at ht
    obtain ⟨rfl, rfl⟩ := ht
    exact ⟨col, I, hd, trivial, fun _ _ h => h, fun _ _ _ _ _ _ h => h⟩
  | sl :: sls, q :: qs, v :: vs, col0, col, σ0, σ, σ2, cs, I, L, hd, hs, hl, ht => by
    simp only [takeAll] at ht
    split at ht
    · rename_i c σ1 mr h1
      split at ht
      · rename_i cs' σ2' h2
        simp only [Option.some.injEq, Prod.mk.injEq] at ht
        obtain ⟨rfl, rfl⟩ := ht
        obtain ⟨col1, pth, ds, I1, L1, hr, hval, hf, _, hk1, hroot⟩ := take_ok I (hs.1.later L h1) h1
        have hd1 : gs σ1 d = .dead := by
          rcases L1.less.2 d with k | k | ⟨s1, m1, m1', x1, k, k'⟩ | ⟨ds, ds', k, k', _⟩
          · exact k.trans hd
          · exact k
          · rw [hd] at k; cases k
          · rw [hd] at k; cases k
        obtain ⟨col2, I2, hr2, hsh, hkeep⟩ := I1.to hr hf (d :: q)
        have hL2 : Later w σ0 col0 σ1 col2 := ⟨(L.trans L1).less, fun b hb hc => hsh b hb ((L.trans L1).sh b hb hc)⟩
        obtain ⟨col3, I3, hd3, hT, hsh3, hk3⟩ := takeAll_ok sls qs vs I2 hL2 hd1 hs.2 (by simpa using hl) h2
        refine ⟨col3, I3, hd3, ⟨⟨ds, hk3 q hr2, hval⟩, hT⟩, fun b hb hc => hsh3 b hb (hsh b hb (L1.sh b hb hc)), ?_⟩
        intro q' s' h' m' x' cs' H
        refine hk3 q' (hkeep d (d :: q') rfl (fun r' hr' e => ?_) (hk1 d (by rw [hd]; rfl) q' H))
        have := hroot r' hr'
        rw [← e, hd] at this
        cases this
      · cases ht
    · cases ht
  | [], [], _ :: _, _, _, _, _, _, _, _, _, _, h, _, _ => absurd h id
  | [], _ :: _, _, _, _, _, _, _, _, _, _, _, _, h, _ => by simp at h
  | _ :: _, [], _, _, _, _, _, _, _, _, _, _, _, h, _ => by simp at h
  | _ :: _, _ :: _, [], _, _, _, _, _, _, _, _, _, h, _, _ => absurd h id
end Go.Ev
