/- A part of the abstract evaluator: no condition. -/
import Derived.Calls
import Derived.Below
set_option linter.unusedVariables false
set_option linter.unusedSimpArgs false
namespace Go.AE
inductive AV where
 | v (x : Value)
 | junk
 | un
 | sl (n : Nat) (cs : List AV)
 | ref (id off len : Nat)
 | ptr (id off : Nat)
 | cp (cs : List AV)
 | ag (cs : List AV)
 | tup (xs : List AV)
 | fn (f : FuncId) (first cap : List AV)
 | mp (es : List (Value × AV))
 | mr (id : Nat)
 | own (e sz n : Nat) (cs : List AV)
 | lend (sz n : Nat) (cs : List AV)
 | lptr (cs : List AV)
 deriving Inhabited
inductive Ob where
 | arr (e sz : Nat) (cs : List AV)
 | row (refs : Bool) (sz : Nat) (cs : List AV)
 | mp (es : List (Value × AV))
 | it (s : List UInt8) (pos : Nat)
 | dead
 | fence
 deriving Inhabited
structure St where
 t : List (Nat × AV)
 m : List Ob
structure TI where
 d : TypeDesc
 size : Nat
 bytes : Nat
 zero : Value
structure bI where
 ty : List (Nat × TI)
 flat : List Nat := []
def uV : List (Nat × TI) → Nat → Option TI
 | [], _ => none
 | (k, x) :: l, n => if k = n then some x else uV l n
def bI.ti (C : bI) (t : Nat) : Option TI := uV C.ty t
def TI.agg (i : TI) : Bool := match i.d with | .struct _ => true | .array _ _ => true | _ => false
def get : List (Nat × AV) → Nat → AV
 | [], _ => .junk
 | (k, x) :: l, n => if k = n then x else get l n
def put : List (Nat × AV) → Nat → AV → List (Nat × AV)
 | [], n, y => [(n, y)]
 | (k, x) :: l, n, y => if k = n then (n, y) :: l else (k, x) :: put l n y
def nth : List AV → Nat → AV
 | [], _ => .junk
 | x :: _, 0 => x
 | _ :: l, n + 1 => nth l n
def obj : List Ob → Nat → Ob
 | [], _ => .dead
 | x :: _, 0 => x
 | _ :: l, n + 1 => obj l n
def cD : List Ob → Nat → Ob → List Ob
 | [], _, _ => []
 | _ :: l, 0, y => y :: l
 | x :: l, n + 1, y => x :: cD l n y
def nU : List AV → Nat → AV → List AV
 | [], _, _ => []
 | _ :: l, 0, y => y :: l
 | x :: l, n + 1, y => x :: nU l n y
def ev (s : St) : Operand → AV
 | .tmp k => get s.t k
 | .const v => .v v
 | .func f => .fn f [] []
 | .global _ => .junk
def wg (b : Bool) (A B : Prop) : Prop := (b = true → A) ∧ (b = false → B)
def kL : List UInt8 → List UInt8 → Bool
 | _, [] => false
 | [], _ :: _ => true
 | a :: x, b :: y => a < b || (a == b && kL x y)
def fout (o : Option Nat) (K : Value → Prop) : Prop := match o with | some r => K (.float .f64 r) | none => False
def fadd (a b : Nat) : Option Nat := FloatKind.f64.format.add a b
def fsub (a b : Nat) : Option Nat := FloatKind.f64.format.sub a b
def ford (a b : Nat) : Option Ordering := FloatKind.f64.format.order a b
def fbin (op : BinOp) (a b : Nat) (K : Value → Prop) : Prop :=
 match op with
 | .add => fout (fadd a b) K
 | .sub => fout (fsub a b) K
 | .eql => K (.bool (ford a b == some .eq))
 | .neq => K (.bool (ford a b != some .eq))
 | .lss => K (.bool (ford a b == some .lt))
 | .leq => K (.bool (ford a b == some .lt || ford a b == some .eq))
 | .gtr => K (.bool (ford a b == some .gt))
 | .geq => K (.bool (ford a b == some .gt || ford a b == some .eq))
 | _ => False
def cout (o p : Option Nat) (K : Value → Prop) : Prop := match o, p with | some r, some q => K (.complex .f64 r q) | _, _ => False
def cbin (op : BinOp) (a b c d : Nat) (K : Value → Prop) : Prop :=
 match op with
 | .add => cout (fadd a c) (fadd b d) K
 | .eql => K (.bool (ford a c == some .eq && ford b d == some .eq))
 | .neq => K (.bool (!(ford a c == some .eq && ford b d == some .eq)))
 | _ => False
def bin (op : BinOp) (x y : Value) (K : Value → Prop) : Prop :=
 match op, x, y with
 | .add, .int k a, .int k' b => k = k' ∧ K (.int k (k.wrap (a + b)))
 | .sub, .int k a, .int k' b => k = k' ∧ K (.int k (k.wrap (a - b)))
 | .mul, .int k a, .int k' b => k = k' ∧ K (.int k (k.wrap (a * b)))
 | .quo, .int k a, .int k' b => k = k' ∧ b ≠ 0 ∧ K (.int k (k.wrap (a.tdiv b)))
 | .rem, .int k a, .int k' b => k = k' ∧ b ≠ 0 ∧ K (.int k (a.tmod b))
 | .and, .int k a, .int k' b => k = k' ∧ K (.int k (k.wrap ((BitVec.ofInt k.bits a &&& BitVec.ofInt k.bits b).toNat)))
 | .or, .int k a, .int k' b => k = k' ∧ K (.int k (k.wrap ((BitVec.ofInt k.bits a ||| BitVec.ofInt k.bits b).toNat)))
 | .xor, .int k a, .int k' b => k = k' ∧ K (.int k (k.wrap ((BitVec.ofInt k.bits a ^^^ BitVec.ofInt k.bits b).toNat)))
 | .andNot, .int k a, .int k' b => k = k' ∧ K (.int k (k.wrap ((BitVec.ofInt k.bits a &&& ~~~ BitVec.ofInt k.bits b).toNat)))
 | .shl, .int k a, .int _ b => 0 ≤ b ∧ K (.int k (k.wrap (a * 2 ^ (min b.toNat k.bits))))
 | .shr, .int k a, .int _ b => 0 ≤ b ∧ K (.int k (a.fdiv (2 ^ (min b.toNat k.bits))))
 | .eql, .int k a, .int k' b => k = k' ∧ K (.bool (a == b))
 | .neq, .int k a, .int k' b => k = k' ∧ K (.bool (a != b))
 | .lss, .int k a, .int k' b => k = k' ∧ K (.bool (decide (a < b)))
 | .leq, .int k a, .int k' b => k = k' ∧ K (.bool (decide (a ≤ b)))
 | .gtr, .int k a, .int k' b => k = k' ∧ K (.bool (decide (a > b)))
 | .geq, .int k a, .int k' b => k = k' ∧ K (.bool (decide (a ≥ b)))
 | .add, .string a, .string b => a.data.toList.length + b.data.toList.length ≤ 9223372036854775807 ∧ K (.string ⟨(a.data.toList ++ b.data.toList).toArray⟩)
 | .eql, .string a, .string b => K (.bool (a.data.toList == b.data.toList))
 | .neq, .string a, .string b => K (.bool (!(a.data.toList == b.data.toList)))
 | .lss, .string a, .string b => K (.bool (kL a.data.toList b.data.toList))
 | .gtr, .string a, .string b => K (.bool (!(kL a.data.toList b.data.toList || a.data.toList == b.data.toList)))
 | .leq, .string a, .string b => K (.bool (kL a.data.toList b.data.toList || a.data.toList == b.data.toList))
 | .geq, .string a, .string b => K (.bool (!kL a.data.toList b.data.toList))
 | op, .float .f64 a, .float .f64 b => fbin op a b K
 | op, .complex .f64 a b, .complex .f64 c d => cbin op a b c d K
 | _, _, _ => False
def un (op : UnOp) (x : Value) (K : Value → Prop) : Prop :=
 match op, x with
 | .not, .bool b => K (.bool (!b))
 | .neg, .int k n => K (.int k (k.wrap (0 - n)))
 | _, _ => False
end Go.AE
