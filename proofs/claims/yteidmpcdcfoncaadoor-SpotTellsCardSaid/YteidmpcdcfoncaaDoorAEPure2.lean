/- A part of the abstract evaluator: no condition. -/
import Derived.Test.YteidmpcdcfoncaaDoorAEPure
set_option linter.unusedVariables false
set_option linter.unusedSimpArgs false
/- More operations that turn nothing: structs built, maps looked up, flat structs and functions compared. -/
namespace Go.AE

mutual
def names : AV → Bool
  | .ref _ _ _ => true
  | .ptr _ _ => true
  | .mr _ => true
  | .ag cs => namess cs
  | .tup cs => namess cs
  | .fn _ a b => namess a || namess b
  | _ => false
def namess : List AV → Bool
  | [] => false
  | x :: l => names x || namess l
end

mutual
def plainV : AV → Option Value
  | .v x => some x
  | .ag cs => match plainVs cs with | some l => some (.agg l.toArray) | none => none
  | _ => none
def plainVs : List AV → Option (List Value)
  | [] => some []
  | x :: l => match plainV x with
    | some v => (match plainVs l with | some m => some (v :: m) | none => none)
    | none => none
end

def eq1 : Value → Value → Bool
  | .int _ a, .int _ b => a == b
  | .bool a, .bool b => a == b
  | .string a, .string b => a.data.toList == b.data.toList
  | _, _ => false
def eqs : List Value → List Value → Bool
  | [], [] => true
  | a :: l, b :: m => eq1 a b && eqs l m
  | _, _ => false
/-- Equality of plain values, and of flat aggregates of them. -/
def eqK : Value → Value → Bool
  | .agg a, .agg b => eqs a.toList b.toList
  | a, b => eq1 a b

def is1 : TypeDesc → Value → Bool
  | .int k, .int k' _ => k == k'
  | .bool, .bool _ => true
  | .string, .string _ => true
  | _, _ => false

def fitsCs (C : Ctx) : List Field → Nat → List Value → Bool
  | [], _, [] => true
  | f :: fs, k, v :: vs => f.offset == k && (f.name != "_") && (match C.td f.type with | some d => is1 d v | none => false) && fitsCs C fs (k + 1) vs
  | _, _, _ => false
/-- A value that is one of a plain type, or of a flat struct. -/
def fitsK (C : Ctx) (t : Nat) : Value → Bool
  | .agg vs => match C.td t with
    | some (.struct fs) => C.flat.contains t && fitsCs C fs.toList 0 vs.toList
    | _ => false
  | v => match C.td t with | some d => is1 d v | none => false

def mget (k : Value) : List (Value × AV) → Option AV
  | [] => none
  | (k', x) :: l => match eqK k k' with | true => some x | false => mget k l
def mput (k : Value) (x : AV) : List (Value × AV) → List (Value × AV)
  | [] => [(k, x)]
  | (k', y) :: l => match eqK k k' with | true => (k, x) :: l | false => (k', y) :: mput k x l

def mapOf (s : St) : AV → Option (List (Value × AV))
  | .mp es => some es
  | .mr id => match obj s.m id with | .mp es => some es | _ => none
  | .v (.map none) => some []
  | _ => none

def zeroAV : Value → AV
  | .agg cs => .ag (cs.toList.map .v)
  | v => .v v

def okV (ok : Bool) (x : AV) (b : Bool) : AV := match ok with | true => .tup [x, .v (.bool b)] | false => x

/-- A key, and what stands by it. -/
def MG (o : Option AV) (A : AV → Prop) (B : Prop) : Prop := match o with | some x => A x | none => B

def fillCells (C : Ctx) (fs : List Field) (cs : List AV) : List (Nat × AV) → (List AV → Prop) → Prop
  | [], K => K cs
  | (j, x) :: l, K => match fs[j]? with
    | some fd => (match C.ti fd.type with
      | some i => (cellsAV x).length = i.size ∧ fd.offset + i.size ≤ cs.length ∧ (cellsAV x).all oneC = true ∧ fillCells C fs (setCells cs fd.offset (cellsAV x)) l K
      | none => False)
    | none => False

def kag (K : AV → Prop) (cs : List AV) : Prop := K (.ag cs)

def buildOp (C : Ctx) (i : Option TI) (ps : List (Nat × AV)) (K : AV → Prop) : Prop := match i with
  | some i => (match i.d with
    | .struct fs => (fs.toList.all fun f => (C.ti f.type).isSome) = true ∧ fillCells C fs.toList (i.zero.cells.toList.map .v) ps (kag K)
    | _ => False)
  | none => False

def lookOp (C : Ctx) (d : Option TypeDesc) (es : Option (List (Value × AV))) (k : Option Value) (ok : Bool) (K : AV → Prop) : Prop := match d, es, k with
  | some (.map kt e), some es, some key => (match C.ti e with
    | some ie => fitsK C kt key = true ∧ (∀ e ∈ es, fitsK C kt e.1 = true) ∧ MG (mget key es) (fun x => K (okV ok x true)) (K (okV ok (zeroAV ie.zero) false))
    | none => False)
  | _, _, _ => False

/-- Is a slice nil? -/
def nilP (x : AV) (K : Bool → Prop) : Prop := match x with
  | .sl n _ => 0 < n ∧ K false
  | .ref _ _ n => 0 < n ∧ K false
  | .v (.slice none 0 0) => K true
  | .v (.slice (some _) _ _) => K false
  | _ => False

/-- Two aggregates, or two functions, compared; a slice and nil. -/
def bin2 (C : Ctx) (op : BinOp) (t : Nat) (x y : AV) (K : AV → Prop) (D : Prop) : Prop := match x, y with
  | .ag cs, .ag ds => (match op, plainVs cs, plainVs ds with
    | .eql, some a, some b => fitsK C t (.agg a.toArray) = true ∧ fitsK C t (.agg b.toArray) = true ∧ K (.v (.bool (eqs a b)))
    | .neq, some a, some b => fitsK C t (.agg a.toArray) = true ∧ fitsK C t (.agg b.toArray) = true ∧ K (.v (.bool (!eqs a b)))
    | _, _, _ => False)
  | .fn _ _ _, .v .nilFunc => (match op, C.td t with
    | .eql, some (.func _ _ _) => K (.v (.bool false))
    | .neq, some (.func _ _ _) => K (.v (.bool true))
    | _, _ => False)
  | .v .nilFunc, .v .nilFunc => (match op, C.td t with
    | .eql, some (.func _ _ _) => K (.v (.bool true))
    | .neq, some (.func _ _ _) => K (.v (.bool false))
    | _, _ => False)
  | x, .v (.slice none 0 0) => (match op, C.td t with
    | .eql, some (.slice _) => nilP x fun b => K (.v (.bool b))
    | .neq, some (.slice _) => nilP x fun b => K (.v (.bool (!b)))
    | _, _ => False)
  | _, _ => D

def pure2 (C : Ctx) (s : St) (op : Op) (K : AV → Prop) : Prop :=
  match op with
  | .build t parts => buildOp C (C.ti t) (parts.toList.map fun p => (p.1, ev s p.2)) K
  | .lookup t x ix ok => lookOp C (C.td t) (mapOf s (ev s x)) (plainV (ev s ix)) ok K
  | .binOp o t x y u => bin2 C o t (ev s x) (ev s y) K (pureOp C s (.binOp o t x y u) K)
  | _ => pureOp C s op K

end Go.AE
