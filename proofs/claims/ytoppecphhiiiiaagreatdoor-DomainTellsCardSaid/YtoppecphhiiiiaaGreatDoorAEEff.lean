/- A part of the abstract evaluator: no condition. -/
import Derived.Test.YtoppecphhiiiiaaGreatDoorAEMem
import Derived.Lib.ConvBytes
import GoSem.Conv.StringToRunes
set_option linter.unusedVariables false
set_option linter.unusedSimpArgs false
namespace Go.AE
def kput (s : St) (d : Option Nat) (K : St → Prop) (x : AV) : Prop := K ⟨putD s.t d x, s.m⟩
def kapp (K : List AV → Prop) (pre cs : List AV) : Prop := K (pre ++ cs)
def dS (s : St) (d : Option Nat) (x : AV) (o : Ob) : St := ⟨putD s.t d x, s.m ++ [o]⟩
def klit (s : St) (d : Option Nat) (len e sz : Nat) (K : St → Prop) (cs : List AV) : Prop := K (dS s d (.ref s.m.length 0 len) (.arr e sz cs))
def j3 (sz : Nat) : Nat → List (Nat × AV) → (List AV → Prop) → Prop
 | _, [], K => K []
 | i, (j, x) :: l, K => j = i ∧ (bV x).length = sz ∧ (bV x).all (fun c => dI c && solid c) = true ∧ j3 sz (i + 1) l (kapp K (bV x))
def loose : List (Nat × AV) → Bool
 | [] => false
 | (_, x) :: l => !(bV x).all solid || loose l
def oD (sz : Nat) : Nat → List (Nat × AV) → (List AV → Prop) → Prop
 | _, [], K => K []
 | i, (j, x) :: l, K => j = i ∧ (bV x).length = sz ∧ (bV x).all dI = true ∧ oD sz (i + 1) l (kapp K (bV x))
def yP (s : St) (d : Option Nat) (len sz : Nat) (K : St → Prop) (cs : List AV) : Prop := K (dS s d (.ref s.m.length 0 len) (.row true sz cs))
def vN (s : St) (d : Option Nat) (len e sz : Nat) (ps : List (Nat × AV)) (K : St → Prop) (b : Bool) : Prop := match b with
 | false => j3 sz 0 ps (klit s d len e sz K)
 | true => oD sz 0 ps (yP s d len sz K)
def xI (s : St) (d : Option Nat) (i : TI) (e : Nat) (x : AV) (n : Nat) (ncs : List AV) (K : St → Prop) : Prop :=
 match x with
 | .v (.slice none 0 0) => ncs.length = n * i.size ∧ 0 < i.size ∧ n ≤ 4611686018427387904 ∧ n * i.bytes ≤ 140737488355328 ∧ K (dS s d (.ref s.m.length 0 n) (.arr e i.size ncs))
 | .ref id 0 len => match obj s.m id with
  | .arr e' sz cs => e' = e ∧ sz = i.size ∧ cs.length = len * sz ∧ ncs.length = n * i.size ∧ len + n ≤ 4611686018427387904 ∧ (len + n) * i.bytes ≤ 140737488355328 ∧
    K ⟨putD (gO id s.t) d (.ref id 0 (len + n)), cD (eH id s.m) id (.arr e sz (cs ++ ncs))⟩
  | _ => False
 | _ => False
def pR (C : bI) (s : St) (d : Option Nat) (ty : Option TypeDesc) (m : AV) (k : Option Value) (x : AV) (K : St → Prop) : Prop := match ty, m, k with
 | some (.map kt _), .mr id, some key => (match obj s.m id with
  | .mp es => cC C kt key = true ∧ (∀ e ∈ es, cC C kt e.1 = true) ∧ names x = false ∧ K ⟨putD s.t d .junk, cD s.m id (.mp (mput key x es))⟩
  | _ => False)
 | _, _, _ => False
def kY (l : List UInt8) : List Value := (Conv.runesFrom ⟨l.toArray⟩ l.length 0 #[]).toList
def u4 (s : St) (d : Option Nat) (e : Nat) (t : Option TypeDesc) (b : ByteArray) (K : St → Prop) : Prop := match t with
 | some (.int .u8) => b.data.toList.length ≤ 4611686018427387904 ∧ K (dS s d (.ref s.m.length 0 b.data.toList.length) (.row false 1 (b.data.toList.map fun c => .v (.int .u8 c.toNat))))
 | some (.int .i32) => b.data.toList.length ≤ 70368744177664 ∧ K (dS s d (.ref s.m.length 0 (kY b.data.toList).length) (.arr e 1 ((kY b.data.toList).map AV.v)))
 | _ => False
def gH (C : bI) (s : St) (o : Oper) (K : St → Prop) : Prop :=
 match o.op with
 | .assign (.const (.slice none 0 0)) => (match C.td o.type with
  | some (.slice e) => (match C.ti e with | some i => 0 < i.size ∧ K (dS s o.dst (.ref s.m.length 0 0) (.arr e i.size [])) | none => False)
  | _ => False)
 | .buildSlice t len parts => (match C.td t with
  | some (.slice e) => (match C.ti e with
   | some i => parts.toList.length = len ∧ 0 < i.size ∧ len * i.size ≤ 16777216 ∧ vN s o.dst len e i.size (parts.toList.map fun p => (p.1, ev s p.2)) K (loose (parts.toList.map fun p => (p.1, ev s p.2)))
   | none => False)
  | _ => False)
 | .box t x => (match C.ti t with
  | some _ => (bV (ev s x)).all dI = true ∧ K (dS s o.dst (.ptr s.m.length 0) (.row true 1 (bV (ev s x))))
  | none => False)
 | .alloc t => (match C.ti t with
  | some i => K (dS s o.dst (.ptr s.m.length 0) (.row true 1 (i.zero.cells.toList.map .v))) ∧ i.zero.cells.all (·.oneCell') = true
  | none => False)
 | .call { callee := .builtin .append, args, argTypes } => (match args.toList.map (ev s), argTypes.toList with
  | [x, y], [t, u] => (match C.td t with
   | some (.slice e) => (match C.ti e with
    | some i => u = t ∧ (match iG s i.size y with
     | some (n, ncs) => xI s o.dst i e x n ncs K
     | none => False)
    | none => False)
   | _ => False)
  | _, _ => False)
 | .store t p x => (match C.ti t, ev s p with
  | some i, .ptr id off => (match obj s.m id with
   | .arr e sz cs => (bV (ev s x)).length = i.size ∧ off + i.size ≤ cs.length ∧ (bV (ev s x)).all (fun c => dI c && solid c) = true ∧
     K ⟨putD s.t o.dst .junk, cD s.m id (.arr e sz (setCells cs off (bV (ev s x))))⟩
   | .row true sz cs => (bV (ev s x)).length = i.size ∧ off + i.size ≤ cs.length ∧ (bV (ev s x)).all dI = true ∧
     K ⟨putD s.t o.dst .junk, cD s.m id (.row true sz (setCells cs off (bV (ev s x))))⟩
   | .row false sz cs => (bV (ev s x)).length = i.size ∧ off + i.size ≤ cs.length ∧ (bV (ev s x)).all (fun c => dI c && solid c) = true ∧
     K ⟨putD s.t o.dst .junk, cD s.m id (.row false sz (setCells cs off (bV (ev s x))))⟩
   | _ => False)
  | _, _ => False)
 | .range t x => (match C.td t, ev s x with
  | some .string, .v (.string b) => K (dS s o.dst (.ptr s.m.length 0) (.it b.data.toList 0))
  | _, _ => False)
 | .next it true => (match ev s it with
  | .ptr id 0 => (match obj s.m id with
   | .it t pos => wg (decide (pos < t.length))
     (K ⟨putD s.t o.dst (.tup [.v (.bool true), .v (.int .i64 pos), .v (.int .i32 (Utf8.decode ⟨t.toArray⟩ pos).1)]), cD s.m id (.it t (pos + (Utf8.decode ⟨t.toArray⟩ pos).2))⟩)
     (K ⟨putD s.t o.dst (.tup [.v (.bool false)]), s.m⟩)
   | _ => False)
  | _ => False)
 | .convert src dst x => (match C.td src, C.td dst, ev s x with
  | some .string, some (.slice e), .v (.string b) => u4 s o.dst e (C.td e) b K
  | _, _, _ => bB C s o.op (kput s o.dst K))
 | .makeMap _ none => K (dS s o.dst (.mr s.m.length) (.mp []))
 | .mapUpdate t m k x => pR C s o.dst (C.td t) (ev s m) (gQ (ev s k)) (ev s x) K
 | .insert t m k x => pR C s o.dst (C.td t) (ev s m) (gQ (ev s k)) (ev s x) K
 | _ => jS C s o.op (kput s o.dst K)
end Go.AE
