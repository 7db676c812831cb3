/- A part of the abstract evaluator: no condition. -/
import Derived.Test.YtoppecphhiiiiaaGreatDoorAERep
import Derived.Laws.Cells
import Derived.Laws.Build
import Derived.Laws.Unary
import Derived.Laws.BytesString
import Derived.Tactics
set_option linter.unusedVariables false
set_option linter.unusedSimpArgs false
namespace Go.AE
structure bI.Ok (C : bI) (P : Program) : Prop where
 ty : ∀ t i, C.ti t = some i → P.underlying t = some i.d ∧ ∃ j, P.info? t = some j ∧ j.size = i.size ∧ j.bytes = i.bytes ∧ j.zero = some i.zero ∧ i.zero.cells.size = i.size
 mixed : P.follows .mixedOrders = true
 flat : ∀ t, t ∈ C.flat → P.stoodInHeld t = false ∧ P.eqGuardType P.depth t = false := by intro t h; cases h
def bI.td (C : bI) (t : Nat) : Option TypeDesc := (C.ti t).map (·.d)
def bI.fld (C : bI) (t f : Nat) : Option (Nat × TI) :=
 match C.ti t with
 | some i => match i.d with
  | .struct fs => match fs[f]? with
   | some fd => match C.ti fd.type with
    | some j => some (fd.offset, j)
    | none => none
   | none => none
  | _ => none
 | none => none
def gP (i : TI) (cs : List AV) (off : Nat) (K : AV → Prop) : Prop :=
 match i.agg with
 | true => off + i.size ≤ cs.length ∧ K (.ag ((cs.drop off).take i.size))
 | false => off < cs.length ∧ K (nth cs off)
def solid : AV → Bool
 | .v _ => true
 | .sl _ _ => true
 | .cp _ => true
 | .mp _ => true
 | _ => false
def bV : AV → List AV
 | .ag cs => cs
 | x => [x]
def dI : AV → Bool
 | .v x => x.oneCell'
 | .sl _ _ => true
 | .ref _ _ _ => true
 | .ptr _ _ => true
 | .cp _ => true
 | .fn _ _ _ => true
 | .mp _ => true
 | .mr _ => true
 | _ => false
def setCells (cs : List AV) : Nat → List AV → List AV
 | _, [] => cs
 | i, x :: l => setCells (nU cs i x) (i + 1) l
def jJ : List AV → Option (List UInt8)
 | [] => some []
 | .v (.int .u8 n) :: l => (jJ l).map (UInt8.ofNat n.toNat :: ·)
 | _ => none
def iG (s : St) (sz : Nat) : AV → Option (Nat × List AV)
 | .sl n cs => some (n, cs)
 | .v (.slice none 0 0) => some (0, [])
 | .v (.slice (some ⟨_, _, none⟩) 0 _) => some (0, [])
 | .ref id off len => match obj s.m id with
  | .arr _ _ cs => some (len, (cs.drop off).take (len * sz))
  | .row false _ cs => some (len, (cs.drop off).take (len * sz))
  | _ => none
 | _ => none
def kS (d : TypeDesc) (x : AV) (K : AV → Prop) : Prop :=
 match d, x with
 | .string, .v (.string b) => K (.v (.int .i64 b.data.toList.length))
 | .slice _, .sl n _ => K (.v (.int .i64 n))
 | .slice _, .v (.slice none 0 0) => K (.v (.int .i64 0))
 | .slice _, .ref _ _ n => K (.v (.int .i64 n))
 | .array n _, _ => K (.v (.int .i64 n))
 | _, _ => False
def kv (K : AV → Prop) (r : Value) : Prop := K (.v r)
def sY (k : IntKind) (b : Nat) (K : Value → Prop) : Prop := match (FloatKind.f64.decode b).toInt .zero with | some n => k.min ≤ n ∧ n ≤ k.max ∧ K (.int k n) | none => False
def wG (x : AV) (K : Value → Prop) : Prop := match x with | .v (.complex .f64 a _) => K (.float .f64 a) | _ => False
def vF (x : AV) (K : Value → Prop) : Prop := match x with | .v (.complex .f64 _ b) => K (.float .f64 b) | _ => False
def uR (x y : AV) (K : Value → Prop) : Prop := match x, y with | .v (.float .f64 a), .v (.float .f64 b) => K (.complex .f64 a b) | _, _ => False
def bB (C : bI) (s : St) (op : Op) (K : AV → Prop) : Prop :=
 match op with
 | .move x => K (ev s x)
 | .assign x => K (ev s x)
 | .pick c a b => match ev s c with
  | .v (.bool t) => wg t (K (ev s a)) (K (ev s b))
  | _ => False
 | .binOp op t x y _ => match ev s x, ev s y with
  | .v (.bool a), .v (.bool b) => (match op with
   | .eql => C.td t = some .bool ∧ K (.v (.bool (a == b)))
   | .neq => C.td t = some .bool ∧ K (.v (.bool (!(a == b))))
   | _ => False)
  | .v a, .v b => bin op a b (kv K)
  | _, _ => False
 | .unOp op _ x => match ev s x with
  | .v a => un op a (kv K)
  | _ => False
 | .extract x i => match ev s x with
  | .tup xs => i < xs.length ∧ K (nth xs i)
  | _ => False
 | .index t x i => match C.td t, ev s x, ev s i with
  | some .string, .v (.string b), .v (.int _ j) => 0 ≤ j ∧ j < b.data.toList.length ∧ K (.v (.int .u8 (b.data.toList.getD j.toNat 0).toNat))
  | some (.array n e), .ag cs, .v (.int _ j) => 0 ≤ j ∧ j < n ∧ (match C.ti e with | some ie => gP ie cs (j.toNat * ie.size) K | none => False)
  | _, _, _ => False
 | .indexAddr t x i => match C.td t, ev s x, ev s i with
  | some (.slice e), .sl n cs, .v (.int _ j) => 0 ≤ j ∧ j < n ∧ (match C.ti e with | some ie => K (.cp (cs.drop (j.toNat * ie.size))) | none => False)
  | some (.slice e), .ref id off n, .v (.int _ j) => 0 ≤ j ∧ j < n ∧ (match C.ti e with | some ie => K (.ptr id (off + j.toNat * ie.size)) | none => False)
  | some (.array n e), .ptr id off, .v (.int _ j) => 0 ≤ j ∧ j < n ∧ (match C.ti e with | some ie => K (.ptr id (off + j.toNat * ie.size)) | none => False)
  | some (.array n e), .cp cs, .v (.int _ j) => 0 ≤ j ∧ j < n ∧ (match C.ti e with | some ie => K (.cp (cs.drop (j.toNat * ie.size))) | none => False)
  | _, _, _ => False
 | .load t x => match C.ti t, ev s x with
  | some i, .cp cs => gP i cs 0 K
  | some i, .ptr id off => (match obj s.m id with
   | .arr _ _ cs => gP i cs off K
   | .row _ _ cs => gP i cs off K
   | _ => False)
  | _, _ => False
 | .field t x f => match C.fld t f, ev s x with
  | some (o, i), .ag cs => gP i cs o K
  | _, _ => False
 | .fieldAddr t x f => match C.fld t f, ev s x with
  | some (o, i), .cp cs => 0 < i.size ∧ K (.cp (cs.drop o))
  | some (o, i), .ptr id off => 0 < i.size ∧ K (.ptr id (off + o))
  | _, _ => False
 | .nilCheck x => match ev s x with
  | .cp cs => K (.cp cs)
  | .ptr id off => K (.ptr id off)
  | _ => False
 | .makeFunc (.func f) first cap => K (.fn f (first.toList.map (ev s)) (cap.toList.map (ev s)))
 | .convert src dst x => match C.td src, C.td dst, ev s x with
  | some _, some (.int k), .v (.int _ n) => K (.v (.int k (k.wrap n)))
  | some .string, some .string, .v (.string b) => K (.v (.string b))
  | some (.int _), some .string, .v (.int _ n) => K (.v (.string ⟨(Utf8.encode n).data.toList.toArray⟩))
  | some _, some (.float .f64), .v (.int _ n) => K (.v (.float .f64 (FloatKind.f64.nearest n)))
  | some _, some (.int k), .v (.float .f64 b) => sY k b (kv K)
  | some (.slice e), some .string, x => C.td e = some (.int .u8) ∧ (match iG s 1 x with
   | some (n, cs) => (match jJ cs with
    | some l => n = l.length ∧ K (.v (.string ⟨l.toArray⟩))
    | none => False)
   | none => False)
  | _, _, _ => False
 | .slice t x lo hi none => match C.td t, ev s x with
  | some .string, .v (.string b) =>
   (match lo.map (ev s), hi.map (ev s) with
   | none, none => K (.v (.string b))
   | some (.v (.int _ l)), none => 0 ≤ l ∧ l ≤ b.data.toList.length ∧ K (.v (.string ⟨(b.data.toList.drop l.toNat).toArray⟩))
   | none, some (.v (.int _ h)) => 0 ≤ h ∧ h ≤ b.data.toList.length ∧ K (.v (.string ⟨(b.data.toList.take h.toNat).toArray⟩))
   | some (.v (.int _ l)), some (.v (.int _ h)) => 0 ≤ l ∧ l ≤ h ∧ h ≤ b.data.toList.length ∧ K (.v (.string ⟨((b.data.toList.take h.toNat).drop l.toNat).toArray⟩))
   | _, _ => False)
  | some (.slice e), .sl n cs => (match C.ti e with
   | some ie => (match lo.map (ev s), hi.map (ev s) with
    | none, none => K (.sl n cs)
    | some (.v (.int _ l)), none => 0 ≤ l ∧ l ≤ n ∧ cs.length = n * ie.size ∧ K (.sl (n - l.toNat) (cs.drop (l.toNat * ie.size)))
    | none, some (.v (.int _ h)) => 0 ≤ h ∧ h ≤ n ∧ cs.length = n * ie.size ∧ K (.sl h.toNat (cs.take (h.toNat * ie.size)))
    | some (.v (.int _ l)), some (.v (.int _ h)) => 0 ≤ l ∧ l ≤ h ∧ h ≤ n ∧ cs.length = n * ie.size ∧ K (.sl (h.toNat - l.toNat) ((cs.take (h.toNat * ie.size)).drop (l.toNat * ie.size)))
    | _, _ => False)
   | none => False)
  | some (.slice e), .ref id off n => (match C.ti e with
   | some ie => (match lo.map (ev s), hi.map (ev s) with
    | none, none => K (.ref id off n)
    | some (.v (.int _ l)), none => 0 ≤ l ∧ l ≤ n ∧ 0 < ie.size ∧ K (.ref id (off + l.toNat * ie.size) (n - l.toNat))
    | none, some (.v (.int _ h)) => 0 ≤ h ∧ h ≤ n ∧ K (.ref id off h.toNat)
    | some (.v (.int _ l)), some (.v (.int _ h)) => 0 ≤ l ∧ l ≤ h ∧ h ≤ n ∧ 0 < ie.size ∧ K (.ref id (off + l.toNat * ie.size) (h.toNat - l.toNat))
    | _, _ => False)
   | none => False)
  | _, _ => False
 | .call { callee := .builtin .len, args, argTypes } => match args.toList, argTypes.toList with
  | [x], [t] => (match C.ti t with | some i => kS i.d (ev s x) K | none => False)
  | _, _ => False
 | .call { callee := .builtin .min, args, .. } => match args.toList.map (ev s) with
  | [.v (.int k a), .v (.int k' b)] => k = k' ∧ K (.v (.int k (if b < a then b else a)))
  | _ => False
 | .call { callee := .builtin .max, args, .. } => match args.toList.map (ev s) with
  | [.v (.int k a), .v (.int k' b)] => k = k' ∧ K (.v (.int k (if b > a then b else a)))
  | _ => False
 | .call { callee := .builtin .real, args, .. } => match args.toList.map (ev s) with
  | [x] => wG x (kv K)
  | _ => False
 | .call { callee := .builtin .imag, args, .. } => match args.toList.map (ev s) with
  | [x] => vF x (kv K)
  | _ => False
 | .call { callee := .builtin .complex, args, .. } => match args.toList.map (ev s) with
  | [x, y] => uR x y (kv K)
  | _ => False
 | _ => False
end Go.AE
