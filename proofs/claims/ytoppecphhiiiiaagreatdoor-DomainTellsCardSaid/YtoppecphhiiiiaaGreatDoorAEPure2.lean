/- A part of the abstract evaluator: no condition. -/
import Derived.Test.YtoppecphhiiiiaaGreatDoorAEPure
set_option linter.unusedVariables false
set_option linter.unusedSimpArgs false
namespace Go.AE
mutual
def names : AV → Bool
 | .ref _ _ _ => true
 | .ptr _ _ => true
 | .mr _ => true
 | .ag cs => namess cs
 | .tup cs => namess cs
 | .fn _ a b => namess a || namess b
 | _ => false
def namess : List AV → Bool
 | [] => false
 | x :: l => names x || namess l
end
mutual
def gQ : AV → Option Value
 | .v x => some x
 | .ag cs => match fO cs with | some l => some (.agg l.toArray) | none => none
 | _ => none
def fO : List AV → Option (List Value)
 | [] => some []
 | x :: l => match gQ x with
  | some v => (match fO l with | some m => some (v :: m) | none => none)
  | none => none
end
def gL : Value → Value → Bool
 | .int _ a, .int _ b => a == b
 | .bool a, .bool b => a == b
 | .string a, .string b => a.data.toList == b.data.toList
 | _, _ => false
def eqs : List Value → List Value → Bool
 | [], [] => true
 | a :: l, b :: m => gL a b && eqs l m
 | _, _ => false
def gM : Value → Value → Bool
 | .agg a, .agg b => eqs a.toList b.toList
 | a, b => gL a b
def iJ : TypeDesc → Value → Bool
 | .int k, .int k' _ => k == k'
 | .bool, .bool _ => true
 | .string, .string _ => true
 | _, _ => false
def iI (C : bI) : List Field → Nat → List Value → Bool
 | [], _, [] => true
 | f :: fs, k, v :: vs => f.offset == k && (f.name != "_") && (match C.td f.type with | some d => iJ d v | none => false) && iI C fs (k + 1) vs
 | _, _, _ => false
def cC (C : bI) (t : Nat) : Value → Bool
 | .agg vs => match C.td t with
  | some (.struct fs) => C.flat.contains t && iI C fs.toList 0 vs.toList
  | _ => false
 | v => match C.td t with | some d => iJ d v | none => false
def mget (k : Value) : List (Value × AV) → Option AV
 | [] => none
 | (k', x) :: l => match gM k k' with | true => some x | false => mget k l
def mput (k : Value) (x : AV) : List (Value × AV) → List (Value × AV)
 | [] => [(k, x)]
 | (k', y) :: l => match gM k k' with | true => (k, x) :: l | false => (k', y) :: mput k x l
def iV (s : St) : AV → Option (List (Value × AV))
 | .mp es => some es
 | .mr id => match obj s.m id with | .mp es => some es | _ => none
 | .v (.map none) => some []
 | _ => none
def qH : Value → AV
 | .agg cs => .ag (cs.toList.map .v)
 | v => .v v
def pS (ok : Bool) (x : AV) (b : Bool) : AV := match ok with | true => .tup [x, .v (.bool b)] | false => x
def MG (o : Option AV) (A : AV → Prop) (B : Prop) : Prop := match o with | some x => A x | none => B
def kE (C : bI) (fs : List Field) (cs : List AV) : List (Nat × AV) → (List AV → Prop) → Prop
 | [], K => K cs
 | (j, x) :: l, K => match fs[j]? with
  | some fd => (match C.ti fd.type with
   | some i => (bV x).length = i.size ∧ fd.offset + i.size ≤ cs.length ∧ (bV x).all dI = true ∧ kE C fs (setCells cs fd.offset (bV x)) l K
   | none => False)
  | none => False
def kag (K : AV → Prop) (cs : List AV) : Prop := K (.ag cs)
def nD (C : bI) (i : Option TI) (ps : List (Nat × AV)) (K : AV → Prop) : Prop := match i with
 | some i => (match i.d with
  | .struct fs => (fs.toList.all fun f => (C.ti f.type).isSome) = true ∧ kE C fs.toList (i.zero.cells.toList.map .v) ps (kag K)
  | _ => False)
 | none => False
def jN (C : bI) (d : Option TypeDesc) (es : Option (List (Value × AV))) (k : Option Value) (ok : Bool) (K : AV → Prop) : Prop := match d, es, k with
 | some (.map kt e), some es, some key => (match C.ti e with
  | some ie => cC C kt key = true ∧ (∀ e ∈ es, cC C kt e.1 = true) ∧ MG (mget key es) (fun x => K (pS ok x true)) (K (pS ok (qH ie.zero) false))
  | none => False)
 | _, _, _ => False
def jR (x : AV) (K : Bool → Prop) : Prop := match x with
 | .sl n _ => 0 < n ∧ K false
 | .ref _ _ n => 0 < n ∧ K false
 | .v (.slice none 0 0) => K true
 | .v (.slice (some _) _ _) => K false
 | _ => False
def cO (C : bI) (op : BinOp) (t : Nat) (x y : AV) (K : AV → Prop) (D : Prop) : Prop := match x, y with
 | .ag cs, .ag ds => (match op, fO cs, fO ds with
  | .eql, some a, some b => cC C t (.agg a.toArray) = true ∧ cC C t (.agg b.toArray) = true ∧ K (.v (.bool (eqs a b)))
  | .neq, some a, some b => cC C t (.agg a.toArray) = true ∧ cC C t (.agg b.toArray) = true ∧ K (.v (.bool (!eqs a b)))
  | _, _, _ => False)
 | .fn _ _ _, .v .nilFunc => (match op, C.td t with
  | .eql, some (.func _ _ _) => K (.v (.bool false))
  | .neq, some (.func _ _ _) => K (.v (.bool true))
  | _, _ => False)
 | .v .nilFunc, .v .nilFunc => (match op, C.td t with
  | .eql, some (.func _ _ _) => K (.v (.bool true))
  | .neq, some (.func _ _ _) => K (.v (.bool false))
  | _, _ => False)
 | x, .v (.slice none 0 0) => (match op, C.td t with
  | .eql, some (.slice _) => jR x fun b => K (.v (.bool b))
  | .neq, some (.slice _) => jR x fun b => K (.v (.bool (!b)))
  | _, _ => False)
 | _, _ => D
def jS (C : bI) (s : St) (op : Op) (K : AV → Prop) : Prop :=
 match op with
 | .build t parts => nD C (C.ti t) (parts.toList.map fun p => (p.1, ev s p.2)) K
 | .lookup t x ix ok => jN C (C.td t) (iV s (ev s x)) (gQ (ev s ix)) ok K
 | .binOp o t x y u => cO C o t (ev s x) (ev s y) K (bB C s (.binOp o t x y u) K)
 | _ => bB C s op K
end Go.AE
