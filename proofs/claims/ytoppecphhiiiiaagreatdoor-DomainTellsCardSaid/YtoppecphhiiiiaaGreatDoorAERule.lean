/- A part of the abstract evaluator: no condition. -/
import Derived.Test.YtoppecphhiiiiaaGreatDoorAETac
set_option linter.unusedVariables false
set_option linter.unusedSimpArgs false
namespace Go.AE
section
variable {C : bI} {P : Program} {Q : Exit → St → Prop} {s : St} {K : AV → Prop} {L : St → Prop} {d : Option Nat} {ty : Nat}
theorem z4c (x : Operand) : cG C P s d (.move x) ty L = L ⟨putD s.t d (ev s x), s.m⟩ := rfl
theorem z3q (k : Nat) : cG C P s d (.assign (.tmp k)) ty L = L ⟨putD s.t d (get s.t k), s.m⟩ := rfl
theorem z3k (k : IntKind) (n : Int) : cG C P s d (.assign (.const (.int k n))) ty L = L ⟨putD s.t d (.v (.int k n)), s.m⟩ := rfl
theorem z3i (b : Bool) : cG C P s d (.assign (.const (.bool b))) ty L = L ⟨putD s.t d (.v (.bool b)), s.m⟩ := rfl
theorem z3p (b : ByteArray) : cG C P s d (.assign (.const (.string b))) ty L = L ⟨putD s.t d (.v (.string b)), s.m⟩ := rfl
theorem z3j (f : FuncId) : cG C P s d (.assign (.func f)) ty L = L ⟨putD s.t d (.fn f [] []), s.m⟩ := rfl
def NI2 (s : St) (d : Option Nat) (e : Nat) (i : Option TI) (L : St → Prop) : Prop := match i with | some i => 0 < i.size ∧ L (dS s d (.ref s.m.length 0 0) (.arr e i.size [])) | none => False
def NI (C : bI) (s : St) (d : Option Nat) (t : Option TypeDesc) (L : St → Prop) : Prop := match t with | some (.slice e) => NI2 s d e (C.ti e) L | _ => False
theorem z3m : cG C P s d (.assign (.const (.slice none 0 0))) ty L = NI C s d (C.td ty) L := rfl
theorem KR (e : Nat) : NI C s d (some (.slice e)) L = NI2 s d e (C.ti e) L := rfl
theorem KQ (e : Nat) (i : TI) : NI2 s d e (some i) L = (0 < i.size ∧ L (dS s d (.ref s.m.length 0 0) (.arr e i.size []))) := rfl
theorem z4f (c a b : Operand) : cG C P s d (.pick c a b) ty L = bB C s (.pick c a b) (kput s d L) := rfl
theorem z4j (o : UnOp) (t : Nat) (x : Operand) : cG C P s d (.unOp o t x) ty L = bB C s (.unOp o t x) (kput s d L) := rfl
theorem z3x (x : Operand) (i : Nat) : cG C P s d (.extract x i) ty L = bB C s (.extract x i) (kput s d L) := rfl
theorem z40 (t : Nat) (x i : Operand) : cG C P s d (.index t x i) ty L = bB C s (.index t x i) (kput s d L) := rfl
theorem z41 (t : Nat) (x i : Operand) : cG C P s d (.indexAddr t x i) ty L = bB C s (.indexAddr t x i) (kput s d L) := rfl
theorem z44 (t : Nat) (x : Operand) : cG C P s d (.load t x) ty L = bB C s (.load t x) (kput s d L) := rfl
theorem z3y (t : Nat) (x : Operand) (f : Nat) : cG C P s d (.field t x f) ty L = bB C s (.field t x f) (kput s d L) := rfl
theorem z3z (t : Nat) (x : Operand) (f : Nat) : cG C P s d (.fieldAddr t x f) ty L = bB C s (.fieldAddr t x f) (kput s d L) := rfl
theorem z4e (x : Operand) : cG C P s d (.nilCheck x) ty L = bB C s (.nilCheck x) (kput s d L) := rfl
theorem z47 (f : FuncId) (a b : Array Operand) : cG C P s d (.makeFunc (.func f) a b) ty L = bB C s (.makeFunc (.func f) a b) (kput s d L) := rfl
theorem z4h (t : Nat) (x : Operand) (lo hi : Option Operand) : cG C P s d (.slice t x lo hi none) ty L = bB C s (.slice t x lo hi none) (kput s d L) := rfl
theorem z43 (a : Array Operand) (t : Array Nat) : cG C P s d (.call { callee := .builtin .len, args := a, argTypes := t }) ty L = bB C s (.call { callee := .builtin .len, args := a, argTypes := t }) (kput s d L) := rfl
theorem z4b (a : Array Operand) (t : Array Nat) : cG C P s d (.call { callee := .builtin .min, args := a, argTypes := t }) ty L = bB C s (.call { callee := .builtin .min, args := a, argTypes := t }) (kput s d L) := rfl
theorem z4a (a : Array Operand) (t : Array Nat) : cG C P s d (.call { callee := .builtin .max, args := a, argTypes := t }) ty L = bB C s (.call { callee := .builtin .max, args := a, argTypes := t }) (kput s d L) := rfl
theorem Z5 (x : Operand) : dZ C P s d (.move x) L = L ⟨putD s.t d (ev s x), s.m⟩ := rfl
theorem YO (x : Operand) : dZ C P s d (.assign x) L = L ⟨putD s.t d (ev s x), s.m⟩ := rfl
theorem Z7 (c a b : Operand) : dZ C P s d (.pick c a b) L = bB C s (.pick c a b) (kput s d L) := rfl
theorem Z9 (o : UnOp) (t : Nat) (x : Operand) : dZ C P s d (.unOp o t x) L = bB C s (.unOp o t x) (kput s d L) := rfl
theorem YU (x : Operand) (i : Nat) : dZ C P s d (.extract x i) L = bB C s (.extract x i) (kput s d L) := rfl
theorem YX (t : Nat) (x i : Operand) : dZ C P s d (.index t x i) L = bB C s (.index t x i) (kput s d L) := rfl
theorem YY (t : Nat) (x i : Operand) : dZ C P s d (.indexAddr t x i) L = bB C s (.indexAddr t x i) (kput s d L) := rfl
theorem Z0 (t : Nat) (x : Operand) : dZ C P s d (.load t x) L = bB C s (.load t x) (kput s d L) := rfl
theorem YV (t : Nat) (x : Operand) (f : Nat) : dZ C P s d (.field t x f) L = bB C s (.field t x f) (kput s d L) := rfl
theorem YW (t : Nat) (x : Operand) (f : Nat) : dZ C P s d (.fieldAddr t x f) L = bB C s (.fieldAddr t x f) (kput s d L) := rfl
theorem Z6 (x : Operand) : dZ C P s d (.nilCheck x) L = bB C s (.nilCheck x) (kput s d L) := rfl
theorem Z2 (f : FuncId) (a b : Array Operand) : dZ C P s d (.makeFunc (.func f) a b) L = bB C s (.makeFunc (.func f) a b) (kput s d L) := rfl
theorem YT (t u : Nat) (x : Operand) : dZ C P s d (.convert t u x) L = bB C s (.convert t u x) (kput s d L) := rfl
theorem Z8 (t : Nat) (x : Operand) (lo hi : Option Operand) : dZ C P s d (.slice t x lo hi none) L = bB C s (.slice t x lo hi none) (kput s d L) := rfl
theorem YZ (a : Array Operand) (t : Array Nat) : dZ C P s d (.call { callee := .builtin .len, args := a, argTypes := t }) L = bB C s (.call { callee := .builtin .len, args := a, argTypes := t }) (kput s d L) := rfl
theorem Z4 (a : Array Operand) (t : Array Nat) : dZ C P s d (.call { callee := .builtin .min, args := a, argTypes := t }) L = bB C s (.call { callee := .builtin .min, args := a, argTypes := t }) (kput s d L) := rfl
theorem Z3 (a : Array Operand) (t : Array Nat) : dZ C P s d (.call { callee := .builtin .max, args := a, argTypes := t }) L = bB C s (.call { callee := .builtin .max, args := a, argTypes := t }) (kput s d L) := rfl
def CA (P : Program) (s : St) (d : Option Nat) (x : AV) (xs : List AV) (L : St → Prop) : Prop := match x with | .fn k first cap => WC P s d k (first ++ xs ++ cap) L | _ => False
def CQ (P : Program) (s : St) (d : Option Nat) (x : AV) (xs : List AV) (L : St → Prop) : Prop := match x with | .fn k first cap => QC P s d k (first ++ xs ++ cap) L | _ => False
theorem z3v (f : Operand) (a : Array Operand) (t : Array Nat) : cG C P s d (.call { callee := .value f, args := a, argTypes := t }) ty L = CA P s d (ev s f) (a.toList.map (ev s)) L := rfl
theorem YS (f : Operand) (a : Array Operand) (t : Array Nat) : dZ C P s d (.call { callee := .value f, args := a, argTypes := t }) L = CQ P s d (ev s f) (a.toList.map (ev s)) L := rfl
theorem II (k : FuncId) (first cap xs : List AV) : CA P s d (.fn k first cap) xs L = WC P s d k (first ++ xs ++ cap) L := rfl
theorem IO (k : FuncId) (first cap xs : List AV) : CQ P s d (.fn k first cap) xs L = QC P s d k (first ++ xs ++ cap) L := rfl
def PK (c x y : AV) (K : AV → Prop) : Prop := match c with | .v (.bool t) => wg t (K x) (K y) | _ => False
theorem YG (c a b : Operand) : bB C s (.pick c a b) K = PK (ev s c) (ev s a) (ev s b) K := rfl
theorem B7 (t : Bool) (x y : AV) : PK (.v (.bool t)) x y K = WG t (K x) (K y) := (nC t _ _).symm
def BI (C : bI) (o : BinOp) (t : Nat) (x y : AV) (K : AV → Prop) : Prop := match x, y with
  | .v (.bool a), .v (.bool b) => (match o with
   | .eql => C.td t = some .bool ∧ K (.v (.bool (a == b)))
   | .neq => C.td t = some .bool ∧ K (.v (.bool (!(a == b))))
   | _ => False)
  | .v a, .v b => bin o a b (kv K)
  | _, _ => False
theorem Y4 (o : BinOp) (t : Nat) (x y : Operand) (u : Nat) : bB C s (.binOp o t x y u) K = BI C o t (ev s x) (ev s y) K := rfl
section
variable {t : Nat} {k k' : IntKind} {a b : Int} {x y : ByteArray}
theorem HL : BI C .add t (.v (.int k a)) (.v (.int k b)) K = K (.v (.int k (k.wrap (a + b)))) := by simp [BI, bin, kv]
theorem I9 : BI C .sub t (.v (.int k a)) (.v (.int k b)) K = K (.v (.int k (k.wrap (a - b)))) := by simp [BI, bin, kv]
theorem HV : BI C .mul t (.v (.int k a)) (.v (.int k b)) K = K (.v (.int k (k.wrap (a * b)))) := by simp [BI, bin, kv]
theorem HY : BI C .quo t (.v (.int k a)) (.v (.int k b)) K = (b ≠ 0 ∧ K (.v (.int k (k.wrap (a.tdiv b))))) := by simp [BI, bin, kv]
theorem HZ : BI C .rem t (.v (.int k a)) (.v (.int k b)) K = (b ≠ 0 ∧ K (.v (.int k (a.tmod b)))) := by simp [BI, bin, kv]
theorem HM : BI C .and t (.v (.int k a)) (.v (.int k b)) K = K (.v (.int k (k.wrap ((BitVec.ofInt k.bits a &&& BitVec.ofInt k.bits b).toNat)))) := by simp [BI, bin, kv]
theorem HX : BI C .or t (.v (.int k a)) (.v (.int k b)) K = K (.v (.int k (k.wrap ((BitVec.ofInt k.bits a ||| BitVec.ofInt k.bits b).toNat)))) := by simp [BI, bin, kv]
theorem IB : BI C .xor t (.v (.int k a)) (.v (.int k b)) K = K (.v (.int k (k.wrap ((BitVec.ofInt k.bits a ^^^ BitVec.ofInt k.bits b).toNat)))) := by simp [BI, bin, kv]
theorem HN : BI C .andNot t (.v (.int k a)) (.v (.int k b)) K = K (.v (.int k (k.wrap ((BitVec.ofInt k.bits a &&& ~~~ BitVec.ofInt k.bits b).toNat)))) := by simp [BI, bin, kv]
theorem I4 : BI C .shl t (.v (.int k a)) (.v (.int k' b)) K = (0 ≤ b ∧ K (.v (.int k (k.wrap (a * 2 ^ (min b.toNat k.bits)))))) := by simp [BI, bin, kv]
theorem I5 : BI C .shr t (.v (.int k a)) (.v (.int k' b)) K = (0 ≤ b ∧ K (.v (.int k (a.fdiv (2 ^ (min b.toNat k.bits)))))) := by simp [BI, bin, kv]
theorem HQ : BI C .eql t (.v (.int k a)) (.v (.int k b)) K = K (.v (.bool (a == b))) := by simp [BI, bin, kv]
theorem HW : BI C .neq t (.v (.int k a)) (.v (.int k b)) K = K (.v (.bool (a != b))) := by simp [BI, bin, kv]
theorem HU : BI C .lss t (.v (.int k a)) (.v (.int k b)) K = K (.v (.bool (decide (a < b)))) := by simp [BI, bin, kv]
theorem HT : BI C .leq t (.v (.int k a)) (.v (.int k b)) K = K (.v (.bool (decide (a ≤ b)))) := by simp [BI, bin, kv]
theorem HS : BI C .gtr t (.v (.int k a)) (.v (.int k b)) K = K (.v (.bool (decide (a > b)))) := by simp [BI, bin, kv]
theorem HR : BI C .geq t (.v (.int k a)) (.v (.int k b)) K = K (.v (.bool (decide (a ≥ b)))) := by simp [BI, bin, kv]
theorem I0 : BI C .add t (.v (.string x)) (.v (.string y)) K = (x.data.toList.length + y.data.toList.length ≤ 9223372036854775807 ∧ K (.v (.string ⟨(x.data.toList ++ y.data.toList).toArray⟩))) := rfl
theorem I1 : BI C .eql t (.v (.string x)) (.v (.string y)) K = K (.v (.bool (x.data.toList == y.data.toList))) := rfl
theorem I8 : BI C .neq t (.v (.string x)) (.v (.string y)) K = K (.v (.bool (!(x.data.toList == y.data.toList)))) := rfl
theorem I7 : BI C .lss t (.v (.string x)) (.v (.string y)) K = K (.v (.bool (kL x.data.toList y.data.toList))) := rfl
theorem I3 : BI C .gtr t (.v (.string x)) (.v (.string y)) K = K (.v (.bool (!(kL x.data.toList y.data.toList || x.data.toList == y.data.toList)))) := rfl
theorem I6 : BI C .leq t (.v (.string x)) (.v (.string y)) K = K (.v (.bool (kL x.data.toList y.data.toList || x.data.toList == y.data.toList))) := rfl
theorem I2 : BI C .geq t (.v (.string x)) (.v (.string y)) K = K (.v (.bool (!kL x.data.toList y.data.toList))) := rfl
theorem HO (p q : Bool) : BI C .eql t (.v (.bool p)) (.v (.bool q)) K = (C.td t = some .bool ∧ K (.v (.bool (p == q)))) := rfl
theorem HP (p q : Bool) : BI C .neq t (.v (.bool p)) (.v (.bool q)) K = (C.td t = some .bool ∧ K (.v (.bool (!(p == q))))) := rfl
end
section
variable {t : Nat} {a b c d : Nat}
end
def UN (o : UnOp) (x : AV) (K : AV → Prop) : Prop := match x with | .v a => un o a (kv K) | _ => False
theorem YI (o : UnOp) (t : Nat) (x : Operand) : bB C s (.unOp o t x) K = UN o (ev s x) K := rfl
theorem N9 (b : Bool) : UN .not (.v (.bool b)) K = K (.v (.bool (!b))) := rfl
theorem N8 (k : IntKind) (n : Int) : UN .neg (.v (.int k n)) K = K (.v (.int k (k.wrap (0 - n)))) := rfl
def EX (x : AV) (i : Nat) (K : AV → Prop) : Prop := match x with | .tup xs => i < xs.length ∧ K (nth xs i) | _ => False
theorem Y5 (x : Operand) (i : Nat) : bB C s (.extract x i) K = EX (ev s x) i K := rfl
theorem J3 (xs : List AV) (i : Nat) : EX (.tup xs) i K = (i < xs.length ∧ K (nth xs i)) := rfl
def PB (agg : Bool) (size : Nat) (cs : List AV) (off : Nat) (K : AV → Prop) : Prop := match agg with
  | true => off + size ≤ cs.length ∧ K (.ag ((cs.drop off).take size))
  | false => off < cs.length ∧ K (nth cs off)
theorem KX (size off : Nat) (cs : List AV) : PB true size cs off K = (off + size ≤ cs.length ∧ K (.ag ((cs.drop off).take size))) := rfl
theorem KW (size off : Nat) (cs : List AV) : PB false size cs off K = (off < cs.length ∧ K (nth cs off)) := rfl
def PO (i : Option TI) (cs : List AV) (off : Nat) (K : AV → Prop) : Prop := match i with | some i => gP i cs off K | none => False
theorem L6 (i : TI) (cs : List AV) (off : Nat) : PO (some i) cs off K = PB i.agg i.size cs off K := rfl
def IX (C : bI) (t : Option TypeDesc) (x i : AV) (K : AV → Prop) : Prop := match t, x, i with
  | some .string, .v (.string b), .v (.int _ j) => 0 ≤ j ∧ j < b.data.toList.length ∧ K (.v (.int .u8 (b.data.toList.getD j.toNat 0).toNat))
  | some (.array n e), .ag cs, .v (.int _ j) => 0 ≤ j ∧ j < n ∧ (match C.ti e with | some ie => gP ie cs (j.toNat * ie.size) K | none => False)
  | _, _, _ => False
theorem Y8 (t : Nat) (x i : Operand) : bB C s (.index t x i) K = IX C (C.td t) (ev s x) (ev s i) K := rfl
theorem K7 (b : ByteArray) (k : IntKind) (j : Int) : IX C (some .string) (.v (.string b)) (.v (.int k j)) K = (0 ≤ j ∧ j < b.data.toList.length ∧ K (.v (.int .u8 (b.data.toList.getD j.toNat 0).toNat))) := rfl
def PI (i : Option TI) (cs : List AV) (j : Nat) (K : AV → Prop) : Prop := match i with | some ie => gP ie cs (j * ie.size) K | none => False
theorem KZ (i : TI) (cs : List AV) (j : Nat) : PI (some i) cs j K = PB i.agg i.size cs (j * i.size) K := rfl
theorem K6 (n e : Nat) (cs : List AV) (k : IntKind) (j : Int) : IX C (some (.array n e)) (.ag cs) (.v (.int k j)) K = (0 ≤ j ∧ j < n ∧ PI (C.ti e) cs j.toNat K) := rfl
def IA (C : bI) (t : Option TypeDesc) (x i : AV) (K : AV → Prop) : Prop := match t, x, i with
  | some (.slice e), .sl n cs, .v (.int _ j) => 0 ≤ j ∧ j < n ∧ (match C.ti e with | some ie => K (.cp (cs.drop (j.toNat * ie.size))) | none => False)
  | some (.slice e), .ref id off n, .v (.int _ j) => 0 ≤ j ∧ j < n ∧ (match C.ti e with | some ie => K (.ptr id (off + j.toNat * ie.size)) | none => False)
  | some (.array n e), .ptr id off, .v (.int _ j) => 0 ≤ j ∧ j < n ∧ (match C.ti e with | some ie => K (.ptr id (off + j.toNat * ie.size)) | none => False)
  | some (.array n e), .cp cs, .v (.int _ j) => 0 ≤ j ∧ j < n ∧ (match C.ti e with | some ie => K (.cp (cs.drop (j.toNat * ie.size))) | none => False)
  | _, _, _ => False
def IC (i : Option TI) (cs : List AV) (j : Nat) (K : AV → Prop) : Prop := match i with | some ie => K (.cp (cs.drop (j * ie.size))) | none => False
def IP (i : Option TI) (id off j : Nat) (K : AV → Prop) : Prop := match i with | some ie => K (.ptr id (off + j * ie.size)) | none => False
theorem K4 (i : TI) (cs : List AV) (j : Nat) : IC (some i) cs j K = K (.cp (cs.drop (j * i.size))) := rfl
theorem K5 (i : TI) (id off j : Nat) : IP (some i) id off j K = K (.ptr id (off + j * i.size)) := rfl
theorem Y9 (t : Nat) (x i : Operand) : bB C s (.indexAddr t x i) K = IA C (C.td t) (ev s x) (ev s i) K := rfl
section
variable (e n id off : Nat) (cs : List AV) (k : IntKind) (j : Int)
theorem K0 : IA C (some (.slice e)) (.sl n cs) (.v (.int k j)) K = (0 ≤ j ∧ j < n ∧ IC (C.ti e) cs j.toNat K) := rfl
theorem JZ : IA C (some (.slice e)) (.ref id off n) (.v (.int k j)) K = (0 ≤ j ∧ j < n ∧ IP (C.ti e) id off j.toNat K) := rfl
theorem JY : IA C (some (.array n e)) (.ptr id off) (.v (.int k j)) K = (0 ≤ j ∧ j < n ∧ IP (C.ti e) id off j.toNat K) := rfl
theorem JX : IA C (some (.array n e)) (.cp cs) (.v (.int k j)) K = (0 ≤ j ∧ j < n ∧ IC (C.ti e) cs j.toNat K) := rfl
end
def LO (i : TI) (o : Ob) (off : Nat) (K : AV → Prop) : Prop := match o with
   | .arr _ _ cs => gP i cs off K
   | .row _ _ cs => gP i cs off K
   | _ => False
def LD (s : St) (i : Option TI) (x : AV) (K : AV → Prop) : Prop := match i, x with
  | some i, .cp cs => gP i cs 0 K
  | some i, .ptr id off => LO i (obj s.m id) off K
  | _, _ => False
theorem YB (t : Nat) (x : Operand) : bB C s (.load t x) K = LD s (C.ti t) (ev s x) K := rfl
theorem K9 (i : TI) (cs : List AV) : LD s (some i) (.cp cs) K = PB i.agg i.size cs 0 K := rfl
theorem KA (i : TI) (id off : Nat) : LD s (some i) (.ptr id off) K = LO i (obj s.m id) off K := rfl
theorem KD (i : TI) (e sz off : Nat) (cs : List AV) : LO i (.arr e sz cs) off K = PB i.agg i.size cs off K := rfl
theorem KE (i : TI) (r : Bool) (sz off : Nat) (cs : List AV) : LO i (.row r sz cs) off K = PB i.agg i.size cs off K := rfl
def FD (f : Option (Nat × TI)) (x : AV) (K : AV → Prop) : Prop := match f, x with | some (o, i), .ag cs => gP i cs o K | _, _ => False
theorem Y6 (t : Nat) (x : Operand) (f : Nat) : bB C s (.field t x f) K = FD (C.fld t f) (ev s x) K := rfl
theorem J8 (o : Nat) (i : TI) (cs : List AV) : FD (some (o, i)) (.ag cs) K = PB i.agg i.size cs o K := rfl
def FA (f : Option (Nat × TI)) (x : AV) (K : AV → Prop) : Prop := match f, x with
  | some (o, i), .cp cs => 0 < i.size ∧ K (.cp (cs.drop o))
  | some (o, i), .ptr id off => 0 < i.size ∧ K (.ptr id (off + o))
  | _, _ => False
theorem Y7 (t : Nat) (x : Operand) (f : Nat) : bB C s (.fieldAddr t x f) K = FA (C.fld t f) (ev s x) K := rfl
theorem J4 (o : Nat) (i : TI) (cs : List AV) : FA (some (o, i)) (.cp cs) K = (0 < i.size ∧ K (.cp (cs.drop o))) := rfl
theorem J5 (o : Nat) (i : TI) (id off : Nat) : FA (some (o, i)) (.ptr id off) K = (0 < i.size ∧ K (.ptr id (off + o))) := rfl
def NC (x : AV) (K : AV → Prop) : Prop := match x with | .cp cs => K (.cp cs) | .ptr id off => K (.ptr id off) | _ => False
theorem YF (x : Operand) : bB C s (.nilCheck x) K = NC (ev s x) K := rfl
theorem KO (cs : List AV) : NC (.cp cs) K = K (.cp cs) := rfl
theorem KP (id off : Nat) : NC (.ptr id off) K = K (.ptr id off) := rfl
theorem YC (f : FuncId) (a b : Array Operand) : bB C s (.makeFunc (.func f) a b) K = K (.fn f (a.toList.map (ev s)) (b.toList.map (ev s))) := rfl
def uB (n : Nat) (l : Option (List UInt8)) (K : AV → Prop) : Prop := match l with | some l => n = l.length ∧ K (.v (.string ⟨l.toArray⟩)) | none => False
def CB (x : Option (Nat × List AV)) (K : AV → Prop) : Prop := match x with | some (n, cs) => uB n (jJ cs) K | none => False
def CV (C : bI) (s : St) (t u : Option TypeDesc) (x : AV) (K : AV → Prop) : Prop := match t, u, x with
  | some _, some (.int k), .v (.int _ n) => K (.v (.int k (k.wrap n)))
  | some .string, some .string, .v (.string b) => K (.v (.string b))
  | some (.int _), some .string, .v (.int _ n) => K (.v (.string ⟨(Utf8.encode n).data.toList.toArray⟩))
  | some _, some (.float .f64), .v (.int _ n) => K (.v (.float .f64 (FloatKind.f64.nearest n)))
  | some _, some (.int k), .v (.float .f64 b) => sY k b (kv K)
  | some (.slice e), some .string, x => C.td e = some (.int .u8) ∧ CB (iG s 1 x) K
  | _, _, _ => False
theorem DS (t u : Nat) (x : Operand) : bB C s (.convert t u x) K = CV C s (C.td t) (C.td u) (ev s x) K := by
 unfold bB CV CB uB
 rfl
theorem IT (k0 k k1 : IntKind) (n : Int) : CV C s (some (.int k0)) (some (.int k)) (.v (.int k1 n)) K = K (.v (.int k (k.wrap n))) := rfl
theorem IV (b : ByteArray) : CV C s (some .string) (some .string) (.v (.string b)) K = K (.v (.string b)) := rfl
theorem IU (k0 k1 : IntKind) (n : Int) : CV C s (some (.int k0)) (some .string) (.v (.int k1 n)) K = K (.v (.string ⟨(Utf8.encode n).data.toList.toArray⟩)) := rfl
theorem IS (e : Nat) (x : AV) : CV C s (some (.slice e)) (some .string) x K = (C.td e = some (.int .u8) ∧ CB (iG s 1 x) K) := rfl
theorem IK (n : Nat) (cs : List AV) : CB (some (n, cs)) K = uB n (jJ cs) K := rfl
theorem IJ (n : Nat) (l : List UInt8) : uB n (some l) K = (n = l.length ∧ K (.v (.string ⟨l.toArray⟩))) := rfl
def CW (C : bI) (s : St) (d : Option Nat) (t u : Option TypeDesc) (x : AV) (L : St → Prop) : Prop := match t, u, x with
  | some .string, some (.slice e), .v (.string b) => u4 s d e (C.td e) b L
  | _, _, _ => CV C s t u x (kput s d L)
theorem z3w (t u : Nat) (x : Operand) : cG C P s d (.convert t u x) ty L = CW C s d (C.td t) (C.td u) (ev s x) L := by
 unfold cG CW gH
 simp only [DS]
 split <;> first
  | rfl
  | (split <;> simp_all <;> (intros; exact Iff.rfl))
theorem IY (k0 k k1 : IntKind) (n : Int) : CW C s d (some (.int k0)) (some (.int k)) (.v (.int k1 n)) L = L ⟨putD s.t d (.v (.int k (k.wrap n))), s.m⟩ := rfl
theorem J0 (b : ByteArray) : CW C s d (some .string) (some .string) (.v (.string b)) L = L ⟨putD s.t d (.v (.string b)), s.m⟩ := rfl
theorem IZ (k0 k1 : IntKind) (n : Int) : CW C s d (some (.int k0)) (some .string) (.v (.int k1 n)) L = L ⟨putD s.t d (.v (.string ⟨(Utf8.encode n).data.toList.toArray⟩)), s.m⟩ := rfl
theorem IW (e : Nat) (x : AV) : CW C s d (some (.slice e)) (some .string) x L = (C.td e = some (.int .u8) ∧ CB (iG s 1 x) (kput s d L)) := rfl
theorem J1 (e : Nat) (b : ByteArray) : CW C s d (some .string) (some (.slice e)) (.v (.string b)) L = u4 s d e (C.td e) b L := rfl
theorem z2y (e : Nat) (b : ByteArray) : u4 s d e (some (.int .u8)) b L = (b.data.toList.length ≤ 4611686018427387904 ∧ L (dS s d (.ref s.m.length 0 b.data.toList.length) (.row false 1 (b.data.toList.map U8)))) := rfl
theorem z2x (e : Nat) (b : ByteArray) : u4 s d e (some (.int .i32)) b L = (b.data.toList.length ≤ 70368744177664 ∧ L (dS s d (.ref s.m.length 0 (kY b.data.toList).length) (.arr e 1 ((kY b.data.toList).map AV.v)))) := rfl
def CR (o : Ob) (off len sz : Nat) : Option (Nat × List AV) := match o with
  | .arr _ _ cs => some (len, (cs.drop off).take (len * sz))
  | .row false _ cs => some (len, (cs.drop off).take (len * sz))
  | _ => none
theorem OU (sz n : Nat) (cs : List AV) : iG s sz (.sl n cs) = some (n, cs) := rfl
theorem OS (sz : Nat) : iG s sz (.v (.slice none 0 0)) = some (0, []) := rfl
theorem OR (sz b o c : Nat) : iG s sz (.v (.slice (some ⟨b, o, none⟩) 0 c)) = some (0, []) := rfl
theorem OT (sz id off len : Nat) : iG s sz (.ref id off len) = CR (obj s.m id) off len sz := rfl
theorem IQ (e z off len sz : Nat) (cs : List AV) : CR (.arr e z cs) off len sz = some (len, (cs.drop off).take (len * sz)) := rfl
theorem IR (z off len sz : Nat) (cs : List AV) : CR (.row false z cs) off len sz = some (len, (cs.drop off).take (len * sz)) := rfl
def S1 (b : List UInt8) (lo hi : Option AV) (K : AV → Prop) : Prop := match lo, hi with
   | none, none => K (.v (.string ⟨b.toArray⟩))
   | some (.v (.int _ l)), none => 0 ≤ l ∧ l ≤ b.length ∧ K (.v (.string ⟨(b.drop l.toNat).toArray⟩))
   | none, some (.v (.int _ h)) => 0 ≤ h ∧ h ≤ b.length ∧ K (.v (.string ⟨(b.take h.toNat).toArray⟩))
   | some (.v (.int _ l)), some (.v (.int _ h)) => 0 ≤ l ∧ l ≤ h ∧ h ≤ b.length ∧ K (.v (.string ⟨((b.take h.toNat).drop l.toNat).toArray⟩))
   | _, _ => False
def S2 (n sz : Nat) (cs : List AV) (lo hi : Option AV) (K : AV → Prop) : Prop := match lo, hi with
        | none, none => K (.sl n cs)
        | some (.v (.int _ l)), none => 0 ≤ l ∧ l ≤ n ∧ cs.length = n * sz ∧ K (.sl (n - l.toNat) (cs.drop (l.toNat * sz)))
        | none, some (.v (.int _ h)) => 0 ≤ h ∧ h ≤ n ∧ cs.length = n * sz ∧ K (.sl h.toNat (cs.take (h.toNat * sz)))
        | some (.v (.int _ l)), some (.v (.int _ h)) => 0 ≤ l ∧ l ≤ h ∧ h ≤ n ∧ cs.length = n * sz ∧ K (.sl (h.toNat - l.toNat) ((cs.take (h.toNat * sz)).drop (l.toNat * sz)))
        | _, _ => False
def S3 (id off n sz : Nat) (lo hi : Option AV) (K : AV → Prop) : Prop := match lo, hi with
        | none, none => K (.ref id off n)
        | some (.v (.int _ l)), none => 0 ≤ l ∧ l ≤ n ∧ 0 < sz ∧ K (.ref id (off + l.toNat * sz) (n - l.toNat))
        | none, some (.v (.int _ h)) => 0 ≤ h ∧ h ≤ n ∧ K (.ref id off h.toNat)
        | some (.v (.int _ l)), some (.v (.int _ h)) => 0 ≤ l ∧ l ≤ h ∧ h ≤ n ∧ 0 < sz ∧ K (.ref id (off + l.toNat * sz) (h.toNat - l.toNat))
        | _, _ => False
def S2o (i : Option TI) (n : Nat) (cs : List AV) (lo hi : Option AV) (K : AV → Prop) : Prop := match i with | some i => S2 n i.size cs lo hi K | none => False
def S3o (i : Option TI) (id off n : Nat) (lo hi : Option AV) (K : AV → Prop) : Prop := match i with | some i => S3 id off n i.size lo hi K | none => False
theorem M8 (i : TI) (n : Nat) (cs : List AV) (lo hi : Option AV) : S2o (some i) n cs lo hi K = S2 n i.size cs lo hi K := rfl
theorem MD (i : TI) (id off n : Nat) (lo hi : Option AV) : S3o (some i) id off n lo hi K = S3 id off n i.size lo hi K := rfl
def SL (C : bI) (t : Option TypeDesc) (x : AV) (lo hi : Option AV) (K : AV → Prop) : Prop := match t, x with
  | some .string, .v (.string b) => S1 b.data.toList lo hi K
  | some (.slice e), .sl n cs => S2o (C.ti e) n cs lo hi K
  | some (.slice e), .ref id off n => S3o (C.ti e) id off n lo hi K
  | _, _ => False
theorem YH (t : Nat) (x : Operand) (lo hi : Option Operand) : bB C s (.slice t x lo hi none) K = SL C (C.td t) (ev s x) (lo.map (ev s)) (hi.map (ev s)) K := rfl
theorem MH (b : ByteArray) (lo hi : Option AV) : SL C (some .string) (.v (.string b)) lo hi K = S1 b.data.toList lo hi K := rfl
theorem MF (e n : Nat) (cs : List AV) (lo hi : Option AV) : SL C (some (.slice e)) (.sl n cs) lo hi K = S2o (C.ti e) n cs lo hi K := rfl
theorem ME (e id off n : Nat) (lo hi : Option AV) : SL C (some (.slice e)) (.ref id off n) lo hi K = S3o (C.ti e) id off n lo hi K := rfl
section
variable (b : List UInt8) (k k' : IntKind) (l h : Int) (n sz id off : Nat) (cs : List AV)
theorem LW : S1 b none none K = K (.v (.string ⟨b.toArray⟩)) := rfl
theorem M0 : S1 b (some (.v (.int k l))) none K = (0 ≤ l ∧ l ≤ b.length ∧ K (.v (.string ⟨(b.drop l.toNat).toArray⟩))) := rfl
theorem LZ : S1 b none (some (.v (.int k h))) K = (0 ≤ h ∧ h ≤ b.length ∧ K (.v (.string ⟨(b.take h.toNat).toArray⟩))) := rfl
theorem LY : S1 b (some (.v (.int k l))) (some (.v (.int k' h))) K = (0 ≤ l ∧ l ≤ h ∧ h ≤ b.length ∧ K (.v (.string ⟨((b.take h.toNat).drop l.toNat).toArray⟩))) := rfl
theorem M1 : S2 n sz cs none none K = K (.sl n cs) := rfl
theorem M7 : S2 n sz cs (some (.v (.int k l))) none K = (0 ≤ l ∧ l ≤ n ∧ cs.length = n * sz ∧ K (.sl (n - l.toNat) (cs.drop (l.toNat * sz)))) := rfl
theorem M6 : S2 n sz cs none (some (.v (.int k h))) K = (0 ≤ h ∧ h ≤ n ∧ cs.length = n * sz ∧ K (.sl h.toNat (cs.take (h.toNat * sz)))) := rfl
theorem M5 : S2 n sz cs (some (.v (.int k l))) (some (.v (.int k' h))) K = (0 ≤ l ∧ l ≤ h ∧ h ≤ n ∧ cs.length = n * sz ∧ K (.sl (h.toNat - l.toNat) ((cs.take (h.toNat * sz)).drop (l.toNat * sz)))) := rfl
theorem M9 : S3 id off n sz none none K = K (.ref id off n) := rfl
theorem MC : S3 id off n sz (some (.v (.int k l))) none K = (0 ≤ l ∧ l ≤ n ∧ 0 < sz ∧ K (.ref id (off + l.toNat * sz) (n - l.toNat))) := rfl
theorem MB : S3 id off n sz none (some (.v (.int k h))) K = (0 ≤ h ∧ h ≤ n ∧ K (.ref id off h.toNat)) := rfl
theorem MA : S3 id off n sz (some (.v (.int k l))) (some (.v (.int k' h))) K = (0 ≤ l ∧ l ≤ h ∧ h ≤ n ∧ 0 < sz ∧ K (.ref id (off + l.toNat * sz) (h.toNat - l.toNat))) := rfl
end
def LN (i : Option TI) (x : AV) (K : AV → Prop) : Prop := match i with | some i => kS i.d x K | none => False
theorem KC (i : TI) (x : AV) : LN (some i) x K = kS i.d x K := rfl
theorem YA (x : Operand) (t : Nat) : bB C s (.call { callee := .builtin .len, args := [x].toArray, argTypes := [t].toArray }) K = LN (C.ti t) (ev s x) K := rfl
theorem UV (b : ByteArray) : kS .string (.v (.string b)) K = K (.v (.int .i64 b.data.toList.length)) := rfl
theorem UU (e n : Nat) (cs : List AV) : kS (.slice e) (.sl n cs) K = K (.v (.int .i64 n)) := rfl
theorem US (e : Nat) : kS (.slice e) (.v (.slice none 0 0)) K = K (.v (.int .i64 0)) := rfl
theorem UT (e id off n : Nat) : kS (.slice e) (.ref id off n) K = K (.v (.int .i64 n)) := rfl
theorem UR (n e : Nat) (x : AV) : kS (.array n e) x K = K (.v (.int .i64 n)) := by cases x <;> rfl
def MN (x y : AV) (K : AV → Prop) : Prop := match [x, y] with | [.v (.int k a), .v (.int k' b)] => k = k' ∧ K (.v (.int k (if b < a then b else a))) | _ => False
def MX (x y : AV) (K : AV → Prop) : Prop := match [x, y] with | [.v (.int k a), .v (.int k' b)] => k = k' ∧ K (.v (.int k (if b > a then b else a))) | _ => False
theorem YE (x y : Operand) (t : Array Nat) : bB C s (.call { callee := .builtin .min, args := [x, y].toArray, argTypes := t }) K = MN (ev s x) (ev s y) K := rfl
theorem YD (x y : Operand) (t : Array Nat) : bB C s (.call { callee := .builtin .max, args := [x, y].toArray, argTypes := t }) K = MX (ev s x) (ev s y) K := rfl
theorem KK (k : IntKind) (a b : Int) : MN (.v (.int k a)) (.v (.int k b)) K = K (.v (.int k (if b < a then b else a))) := by simp [MN]
theorem KN (k : IntKind) (a b : Int) : MX (.v (.int k a)) (.v (.int k b)) K = K (.v (.int k (if b > a then b else a))) := by simp [MX]
def BU2 (s : St) (d : Option Nat) (e len : Nat) (ps : List (Nat × AV)) (i : Option TI) (L : St → Prop) : Prop := match i with
   | some i => ps.length = len ∧ 0 < i.size ∧ len * i.size ≤ 16777216 ∧ vN s d len e i.size ps L (loose ps)
   | none => False
def BU (C : bI) (s : St) (d : Option Nat) (len : Nat) (ps : List (Nat × AV)) (t : Option TypeDesc) (L : St → Prop) : Prop := match t with
  | some (.slice e) => BU2 s d e len ps (C.ti e) L
  | _ => False
theorem z3u (t len : Nat) (ps : Array (Nat × Operand)) : cG C P s d (.buildSlice t len ps) ty L = BU C s d len (ps.toList.map fun p => (p.1, ev s p.2)) (C.td t) L := by
 unfold cG gH BU BU2
 simp only [List.length_map]
 generalize C.td t = o
 cases o with
 | none => rfl
 | some x => cases x <;> first | rfl | (rename_i e; show (match C.ti e with | some _ => _ | none => _) = (match C.ti e with | some _ => _ | none => _); cases C.ti e <;> rfl)
theorem IF (len : Nat) (ps : List (Nat × AV)) (e : Nat) : BU C s d len ps (some (.slice e)) L = BU2 s d e len ps (C.ti e) L := rfl
theorem IE (len : Nat) (ps : List (Nat × AV)) (e : Nat) (i : TI) : BU2 s d e len ps (some i) L = (ps.length = len ∧ 0 < i.size ∧ len * i.size ≤ 16777216 ∧ vN s d len e i.size ps L (loose ps)) := rfl
theorem VP : loose [] = false := rfl
theorem VO (j : Nat) (x : AV) (l : List (Nat × AV)) : loose ((j, x) :: l) = (!(bV x).all solid || loose l) := rfl
theorem V1 (len e sz : Nat) (ps : List (Nat × AV)) : vN s d len e sz ps L false = j3 sz 0 ps (klit s d len e sz L) := rfl
theorem V2 (len e sz : Nat) (ps : List (Nat × AV)) : vN s d len e sz ps L true = oD sz 0 ps (yP s d len sz L) := rfl
theorem V7 (sz i : Nat) (M : List AV → Prop) : oD sz i [] M = M [] := rfl
theorem V6 (sz i j : Nat) (x : AV) (l : List (Nat × AV)) (M : List AV → Prop) : oD sz i ((j, x) :: l) M = (j = i ∧ (bV x).length = sz ∧ (bV x).all dI = true ∧ oD sz (i + 1) l (kapp M (bV x))) := rfl
theorem UF (len sz : Nat) (cs : List AV) : yP s d len sz L cs = L (dS s d (.ref s.m.length 0 len) (.row true sz cs)) := rfl
theorem V4 (sz i : Nat) (M : List AV → Prop) : j3 sz i [] M = M [] := rfl
theorem V3 (sz i j : Nat) (x : AV) (l : List (Nat × AV)) (M : List AV → Prop) : j3 sz i ((j, x) :: l) M = (j = i ∧ (bV x).length = sz ∧ (bV x).all (fun c => dI c && solid c) = true ∧ j3 sz (i + 1) l (kapp M (bV x))) := rfl
theorem OQ (x : Value) : bV (.v x) = [.v x] := rfl
theorem OP (n : Nat) (cs : List AV) : bV (.sl n cs) = [.sl n cs] := rfl
theorem OJ (cs : List AV) : bV (.cp cs) = [.cp cs] := rfl
theorem ON (id off n : Nat) : bV (.ref id off n) = [.ref id off n] := rfl
theorem OM (id off : Nat) : bV (.ptr id off) = [.ptr id off] := rfl
theorem OK (f : FuncId) (a b : List AV) : bV (.fn f a b) = [.fn f a b] := rfl
theorem OH (cs : List AV) : bV (.ag cs) = cs := rfl
def BX (i : Option TI) (s : St) (d : Option Nat) (cs : List AV) (L : St → Prop) : Prop := match i with
  | some _ => cs.all dI = true ∧ L (dS s d (.ptr s.m.length 0) (.row true 1 cs))
  | none => False
theorem z3s (t : Nat) (x : Operand) : cG C P s d (.box t x) ty L = BX (C.ti t) s d (bV (ev s x)) L := rfl
theorem IG (i : TI) (cs : List AV) : BX (some i) s d cs L = (cs.all dI = true ∧ L (dS s d (.ptr s.m.length 0) (.row true 1 cs))) := rfl
def AL (i : Option TI) (s : St) (d : Option Nat) (L : St → Prop) : Prop := match i with
  | some i => L (dS s d (.ptr s.m.length 0) (.row true 1 (i.zero.cells.toList.map .v))) ∧ i.zero.cells.all (·.oneCell') = true
  | none => False
theorem z3g (t : Nat) : cG C P s d (.alloc t) ty L = AL (C.ti t) s d L := rfl
theorem GC (i : TI) : AL (some i) s d L = (L (dS s d (.ptr s.m.length 0) (.row true 1 (i.zero.cells.toList.map .v))) ∧ i.zero.cells.all (·.oneCell') = true) := rfl
def uA (s : St) (d : Option Nat) (i : TI) (e : Nat) (x : AV) (y : Option (Nat × List AV)) (L : St → Prop) : Prop := match y with
  | some (n, ncs) => xI s d i e x n ncs L
  | none => False
def AP2 (s : St) (d : Option Nat) (i : Option TI) (e : Nat) (x y : AV) (L : St → Prop) : Prop := match i with
  | some i => uA s d i e x (iG s i.size y) L
  | none => False
def AP (C : bI) (s : St) (d : Option Nat) (t : Option TypeDesc) (x y : AV) (L : St → Prop) : Prop := match t with
  | some (.slice e) => AP2 s d (C.ti e) e x y L
  | _ => False
theorem z3h (x y : Operand) (t : Nat) : cG C P s d (.call { callee := .builtin .append, args := [x, y].toArray, argTypes := [t, t].toArray }) ty L = AP C s d (C.td t) (ev s x) (ev s y) L := by
 unfold cG gH AP AP2 uA
 simp only [List.map_cons, List.map_nil, true_and]
 generalize C.td t = o
 cases o with
 | none => rfl
 | some x => cases x <;> first | rfl | (rename_i e; show (match C.ti e with | some _ => _ | none => _) = (match C.ti e with | some _ => _ | none => _); cases C.ti e <;> rfl)
theorem GK (e : Nat) (x y : AV) : AP C s d (some (.slice e)) x y L = AP2 s d (C.ti e) e x y L := rfl
theorem GE (i : TI) (e : Nat) (x y : AV) : AP2 s d (some i) e x y L = uA s d i e x (iG s i.size y) L := rfl
def AP5 (s : St) (d : Option Nat) (i : TI) (e id len n : Nat) (ncs : List AV) (o : Ob) (L : St → Prop) : Prop := match o with
  | .arr e' sz cs => e' = e ∧ sz = i.size ∧ cs.length = len * sz ∧ ncs.length = n * i.size ∧ len + n ≤ 4611686018427387904 ∧ (len + n) * i.bytes ≤ 140737488355328 ∧
    L ⟨putD (gO id s.t) d (.ref id 0 (len + n)), cD (eH id s.m) id (.arr e sz (cs ++ ncs))⟩
  | _ => False
theorem GH (i : TI) (e id len n : Nat) (ncs : List AV) : uA s d i e (.ref id 0 len) (some (n, ncs)) L = AP5 s d i e id len n ncs (obj s.m id) L := rfl
theorem GF (i : TI) (e n : Nat) (ncs : List AV) : uA s d i e (.v (.slice none 0 0)) (some (n, ncs)) L = (ncs.length = n * i.size ∧ 0 < i.size ∧ n ≤ 4611686018427387904 ∧ n * i.bytes ≤ 140737488355328 ∧ L (dS s d (.ref s.m.length 0 n) (.arr e i.size ncs))) := rfl
theorem GJ (i : TI) (e e' sz id len n : Nat) (cs ncs : List AV) : AP5 s d i e id len n ncs (.arr e' sz cs) L = (e' = e ∧ sz = i.size ∧ cs.length = len * sz ∧ ncs.length = n * i.size ∧ len + n ≤ 4611686018427387904 ∧ (len + n) * i.bytes ≤ 140737488355328 ∧
    L ⟨putD (gO id s.t) d (.ref id 0 (len + n)), cD (eH id s.m) id (.arr e sz (cs ++ ncs))⟩) := rfl
def uG (s : St) (d : Option Nat) (i : TI) (id off : Nat) (xs : List AV) (o : Ob) (L : St → Prop) : Prop := match o with
   | .arr e sz cs => xs.length = i.size ∧ off + i.size ≤ cs.length ∧ xs.all (fun c => dI c && solid c) = true ∧
     L ⟨putD s.t d .junk, cD s.m id (.arr e sz (setCells cs off xs))⟩
   | .row true sz cs => xs.length = i.size ∧ off + i.size ≤ cs.length ∧ xs.all dI = true ∧
     L ⟨putD s.t d .junk, cD s.m id (.row true sz (setCells cs off xs))⟩
   | .row false sz cs => xs.length = i.size ∧ off + i.size ≤ cs.length ∧ xs.all (fun c => dI c && solid c) = true ∧
     L ⟨putD s.t d .junk, cD s.m id (.row false sz (setCells cs off xs))⟩
   | _ => False
def ST (s : St) (d : Option Nat) (i : Option TI) (p : AV) (xs : List AV) (L : St → Prop) : Prop := match i, p with
  | some i, .ptr id off => uG s d i id off xs (obj s.m id) L
  | _, _ => False
theorem z4i (t : Nat) (p x : Operand) : cG C P s d (.store t p x) ty L = ST s d (C.ti t) (ev s p) (bV (ev s x)) L := rfl
theorem MM (i : TI) (id off : Nat) (xs : List AV) : ST s d (some i) (.ptr id off) xs L = uG s d i id off xs (obj s.m id) L := rfl
theorem MJ (i : TI) (id off e sz : Nat) (cs xs : List AV) : uG s d i id off xs (.arr e sz cs) L = (xs.length = i.size ∧ off + i.size ≤ cs.length ∧ xs.all (fun c => dI c && solid c) = true ∧
     L ⟨putD s.t d .junk, cD s.m id (.arr e sz (setCells cs off xs))⟩) := rfl
theorem ML (i : TI) (id off sz : Nat) (cs xs : List AV) : uG s d i id off xs (.row true sz cs) L = (xs.length = i.size ∧ off + i.size ≤ cs.length ∧ xs.all dI = true ∧
     L ⟨putD s.t d .junk, cD s.m id (.row true sz (setCells cs off xs))⟩) := rfl
theorem MK (i : TI) (id off sz : Nat) (cs xs : List AV) : uG s d i id off xs (.row false sz cs) L = (xs.length = i.size ∧ off + i.size ≤ cs.length ∧ xs.all (fun c => dI c && solid c) = true ∧
     L ⟨putD s.t d .junk, cD s.m id (.row false sz (setCells cs off xs))⟩) := rfl
def RG (s : St) (d : Option Nat) (t : Option TypeDesc) (x : AV) (L : St → Prop) : Prop := match t, x with
  | some .string, .v (.string b) => L (dS s d (.ptr s.m.length 0) (.it b.data.toList 0))
  | _, _ => False
theorem z4g (t : Nat) (x : Operand) : cG C P s d (.range t x) ty L = RG s d (C.td t) (ev s x) L := rfl
theorem LT (b : ByteArray) : RG s d (some .string) (.v (.string b)) L = L (dS s d (.ptr s.m.length 0) (.it b.data.toList 0)) := rfl
def NX2 (s : St) (d : Option Nat) (id : Nat) (o : Ob) (L : St → Prop) : Prop := match o with
   | .it t pos => wg (decide (pos < t.length))
     (L ⟨putD s.t d (.tup [.v (.bool true), .v (.int .i64 pos), .v (.int .i32 (Utf8.decode ⟨t.toArray⟩ pos).1)]), cD s.m id (.it t (pos + (Utf8.decode ⟨t.toArray⟩ pos).2))⟩)
     (L ⟨putD s.t d (.tup [.v (.bool false)]), s.m⟩)
   | _ => False
def NX (s : St) (d : Option Nat) (x : AV) (L : St → Prop) : Prop := match x with | .ptr id 0 => NX2 s d id (obj s.m id) L | _ => False
theorem z4d (it : Operand) : cG C P s d (.next it true) ty L = NX s d (ev s it) L := rfl
theorem KT (id : Nat) : NX s d (.ptr id 0) L = NX2 s d id (obj s.m id) L := rfl
theorem KS (id : Nat) (t : List UInt8) (pos : Nat) : NX2 s d id (.it t pos) L = WG (decide (pos < t.length))
     (L ⟨putD s.t d (.tup [.v (.bool true), .v (.int .i64 pos), .v (.int .i32 (Utf8.decode ⟨t.toArray⟩ pos).1)]), cD s.m id (.it t (pos + (Utf8.decode ⟨t.toArray⟩ pos).2))⟩)
     (L ⟨putD s.t d (.tup [.v (.bool false)]), s.m⟩) := (nC _ _ _).symm
def GO (C : bI) (P : Program) (ops : List Oper) (Q : Exit → St → Prop) (os : List Oper) (k : Option Nat) (want : Bool) (d : Option Nat) (op : Op) (ty : Nat) (s : St) : Prop := match k with
  | none => False
  | some k => GD C P ops Q os (get s.t k) k want d op ty s
def GP (C : bI) (P : Program) (ops : List Oper) (Q : Exit → St → Prop) (os : List Oper) (ph : Ph) (k : Option Nat) (want : Bool) (d : Option Nat) (op : Op) (s : St) : Prop := match k with
  | none => False
  | some k => GQ C P ops Q os ph (get s.t k) k want d op s
section
variable (ops os : List Oper) (op : Op) (pos : String) (af : Array Edge) (j k : Nat) (want : Bool)
theorem NF : WR C P ops Q ({ dst := d, op := op, type := ty, pos := pos, after := af, guard := some (j, true) } :: os) s = GO C P ops Q os (gU ops j) true d op ty s := z90 ..
theorem NE : WR C P ops Q ({ dst := d, op := op, type := ty, pos := pos, after := af, guard := some (j, false) } :: os) s = GO C P ops Q os (gU ops j) false d op ty s := z8z ..
theorem LL (ph : Ph) : QR C P ops Q ({ dst := d, op := op, type := ty, pos := pos, after := af, guard := some (j, true) } :: os) ph s = QK C P ops Q os ph d op ty (GP C P ops Q os ph (gU ops j) true d op s) s (dC op) := z8w ..
theorem LK (ph : Ph) : QR C P ops Q ({ dst := d, op := op, type := ty, pos := pos, after := af, guard := some (j, false) } :: os) ph s = QK C P ops Q os ph d op ty (GP C P ops Q os ph (gU ops j) false d op s) s (dC op) := z8v ..
theorem JN : GO C P ops Q os (some k) want d op ty s = GD C P ops Q os (get s.t k) k want d op ty s := rfl
theorem JO (ph : Ph) : GP C P ops Q os ph (some k) want d op s = GQ C P ops Q os ph (get s.t k) k want d op s := rfl
end
def EO (id n : Nat) (used : List Nat) (o : Ob) (K : AV → List Nat → Prop) : Prop := match o with
  | .arr e sz cs => used.contains id = false ∧ cs.length = n * sz ∧ K (.own e sz n cs) (used ++ [id])
  | _ => False
section
variable {M : AV → List Nat → Prop} {M2 : List AV → List Nat → Prop} (u : List Nat)
theorem R7 (id n : Nat) : kO s u (.ref id 0 n) M = EO id n u (obj s.m id) M := rfl
theorem J2 (id n e sz : Nat) (cs : List AV) : EO id n u (.arr e sz cs) M = (u.contains id = false ∧ cs.length = n * sz ∧ M (.own e sz n cs) (u ++ [id])) := rfl
theorem R9 (x : Value) : kO s u (.v x) M = M (.v x) u := rfl
theorem R8 (n : Nat) (cs : List AV) : kO s u (.sl n cs) M = M (.sl n cs) u := rfl
theorem R4 (cs : List AV) : kO s u (.cp cs) M = M (.cp cs) u := rfl
theorem R6 (es : List (Value × AV)) : kO s u (.mp es) M = M (.mp es) u := rfl
theorem R3 (xs : List AV) : kO s u (.ag xs) M = mG s u xs fun ys u => M (.ag ys) u := rfl
theorem R5 (f : FuncId) (a b : List AV) : kO s u (.fn f a b) M = ((namess a || namess b) = false ∧ M (.fn f a b) u) := rfl
theorem RH : mG s u [] M2 = M2 [] u := rfl
theorem RF (x : AV) (l : List AV) : mG s u (x :: l) M2 = kO s u x fun y u => mG s u l fun ys u' => M2 (y :: ys) u' := rfl
theorem z04 (z : Bool) (ts : List ResultVar) (r : AV) : tP C z ts r .ret s = lT C s ts (nH z s r) := rfl
theorem z03 (z : Bool) (ts : List ResultVar) (r : AV) : tP C z ts r .normal s = lT C s ts (nH z s r) := rfl
theorem ZZ (K : List AV → Prop) : lT C s [] K = K [] := rfl
theorem ZY (r : ResultVar) (rs : List ResultVar) (K : List AV → Prop) : lT C s (r :: rs) K = wK C s r fun x => lT C s rs fun xs => K (x :: xs) := rfl
theorem ZX (t : Nat) (K : AV → Prop) : wK C s (.tmp t) K = K (get s.t t) := rfl
theorem ZW (p t : Nat) (K : AV → Prop) : wK C s (.cell p t) K = bB C s (.load t (.tmp p)) K := rfl
theorem RB (r : AV) : nH false s r [] = (.tup [] = r) := rfl
theorem RC (r x : AV) : nH false s r [x] = kO s [] x fun y _ => y = r := rfl
theorem RA (r x y : AV) (l : List AV) : nH false s r (x :: y :: l) = mG s [] (x :: y :: l) fun ys _ => .tup ys = r := rfl
theorem RE (r x : AV) : nH true s r [x] = (fz s x = r) := rfl
theorem RD (r x y : AV) (l : List AV) : nH true s r (x :: y :: l) = (.tup (fzs s (x :: y :: l)) = r) := rfl
end
theorem QX (k : Nat) : ev s (.tmp k) = get s.t k := rfl
theorem QV (v : Value) : ev s (.const v) = .v v := rfl
theorem QW (f : FuncId) : ev s (.func f) = .fn f [] [] := rfl
theorem X0 (v : Value) : dI (.v v) = v.oneCell' := rfl
theorem WZ (n : Nat) (cs : List AV) : dI (.sl n cs) = true := rfl
theorem WY (id off n : Nat) : dI (.ref id off n) = true := rfl
theorem WX (id off : Nat) : dI (.ptr id off) = true := rfl
theorem WT (cs : List AV) : dI (.cp cs) = true := rfl
theorem WU (f : FuncId) (a b : List AV) : dI (.fn f a b) = true := rfl
theorem WV (es : List (Value × AV)) : dI (.mp es) = true := rfl
theorem z1m (v : Value) : solid (.v v) = true := rfl
theorem z1l (n : Nat) (cs : List AV) : solid (.sl n cs) = true := rfl
theorem z1g (cs : List AV) : solid (.cp cs) = true := rfl
theorem z1h (f : FuncId) (a b : List AV) : solid (.fn f a b) = false := rfl
theorem z1j (i o : Nat) : solid (.ptr i o) = false := rfl
theorem z1k (i o n : Nat) : solid (.ref i o n) = false := rfl
theorem z1i (es : List (Value × AV)) : solid (.mp es) = true := rfl
theorem X5 (k : IntKind) (n : Int) : (Value.int k n).oneCell' = true := rfl
theorem X3 (b : Bool) : (Value.bool b).oneCell' = true := rfl
theorem X9 (b : ByteArray) : (Value.string b).oneCell' = true := rfl
theorem X8 (p : Option Addr) (n c : Nat) : (Value.slice p n c).oneCell' = true := rfl
theorem TN (id : Nat) (x : AV) : kF id x = bif aJ id x then .junk else x := by unfold kF; cases aJ id x <;> rfl
def TO (C : bI) (P : Program) (o : Option Oper) (L : St → Prop) (s : St) : Prop := match o with | some o => dN C s o.dst o.op L | none => False
def OO (C : bI) (P : Program) (o : Option Oper) (L : St → Prop) (s : St) : Prop := match o with | some o => wop C P s o L | none => False
structure PR (C : bI) (P : Program) (ops : List Oper) (Q : St → Prop) (pl : jD) (s : St) : Prop where
 out : pops C P ops Q pl s
theorem oX (ops : List Oper) (Q : St → Prop) (pl : jD) : PR C P ops Q pl = pops C P ops Q pl := by funext s; exact propext ⟨fun h => h.out, fun h => ⟨h⟩⟩
theorem L7 (ops : List Oper) (Q : St → Prop) : PR C P ops Q .done s = Q s := by rw [oX]; rfl
theorem L9 (ops : List Oper) (Q : St → Prop) (i : Nat) (p : jD) : PR C P ops Q (.take i p) s = TO C P ops[i]? (PR C P ops Q p) s := by rw [oX, oX]; rfl
theorem L8 (ops : List Oper) (Q : St → Prop) (i : Nat) (p : jD) : PR C P ops Q (.one i p) s = OO C P ops[i]? (PR C P ops Q p) s := by rw [oX, oX]; rfl
theorem LA (ops : List Oper) (Q : St → Prop) (i j : Nat) (p q : jD) : PR C P ops Q (.two i p j q) s = (OO C P ops[i]? (PR C P ops Q p) s ∧ OO C P ops[j]? (PR C P ops Q q) s) := by rw [oX, oX, oX]; rfl
theorem KU (op : Op) (ty : Nat) (pos : String) (af : Array Edge) (g : Option (Nat × Bool)) : OO C P (some { dst := d, op := op, type := ty, pos := pos, after := af, guard := g }) L s = cG C P s d op ty L := AM _ _ _ _ _ _ _
theorem N7 (op : Op) (ty : Nat) (pos : String) (af : Array Edge) (g : Option (Nat × Bool)) : TO C P (some { dst := d, op := op, type := ty, pos := pos, after := af, guard := g }) L s = dN C s d op L := rfl
theorem z2e (x : Operand) : dN C s d (.move x) L = L ⟨putD s.t d (ev s x), s.m⟩ := rfl
theorem z2a (x : Operand) : dN C s d (.assign x) L = L ⟨putD s.t d (ev s x), s.m⟩ := rfl
theorem z2b (o : BinOp) (t u : Nat) (x y : Operand) : dN C s d (.binOp o t x y u) L = ((fN (ev s x) && (fN (ev s y) && true)) = true ∧ bB C s (.binOp o t x y u) (kpl s d L)) := by simp [dN, dN.slotOnlyP, Op.operands]
theorem z2f (c x y : Operand) : dN C s d (.pick c x y) L = ((fN (ev s c) && (fN (ev s x) && fN (ev s y))) = true ∧ bB C s (.pick c x y) (kpl s d L)) := by simp [dN, dN.slotOnlyP, Op.operands]
theorem z2m (o : UnOp) (t : Nat) (x : Operand) : dN C s d (.unOp o t x) L = (fN (ev s x) = true ∧ bB C s (.unOp o t x) (kpl s d L)) := by simp [dN, dN.slotOnlyP, Op.operands]
theorem z2c (t : Nat) (x y : Operand) : dN C s d (.index t x y) L = ((fN (ev s x) && fN (ev s y)) = true ∧ bB C s (.index t x y) (kpl s d L)) := by simp [dN, dN.slotOnlyP, Op.operands]
theorem z2g (t : Nat) (x : Operand) : dN C s d (.slice t x none none none) L = (fN (ev s x) = true ∧ bB C s (.slice t x none none none) (kpl s d L)) := by simp [dN, dN.slotOnlyP, Op.operands]
theorem z2h (t : Nat) (x y : Operand) : dN C s d (.slice t x (some y) none none) L = ((fN (ev s x) && fN (ev s y)) = true ∧ bB C s (.slice t x (some y) none none) (kpl s d L)) := by simp [dN, dN.slotOnlyP, Op.operands]
theorem z2i (t : Nat) (x z : Operand) : dN C s d (.slice t x none (some z) none) L = ((fN (ev s x) && fN (ev s z)) = true ∧ bB C s (.slice t x none (some z) none) (kpl s d L)) := by simp [dN, dN.slotOnlyP, Op.operands]
theorem z2j (t : Nat) (x y z : Operand) : dN C s d (.slice t x (some y) (some z) none) L = ((fN (ev s x) && (fN (ev s y) && fN (ev s z))) = true ∧ bB C s (.slice t x (some y) (some z) none) (kpl s d L)) := by simp [dN, dN.slotOnlyP, Op.operands]
theorem UH (x : AV) : kpl s d L x = (fN x = true ∧ L ⟨putD s.t d x, s.m⟩) := rfl
theorem XS (x : Value) : fN (.v x) = true := rfl
theorem bA (l : List Oper) (h : QR C P l Q l (.p1 none) s) : DR C P l Q s := ⟨.inl (by rw [oY] at h; exact h)⟩
theorem rW (pl : jD) (l : List Oper) (hok : j4 l.toArray l.length (Array.replicate l.length false) pl = true) (h : PR C P l (Q .normal) pl s) : DR C P l Q s := ⟨.inr ⟨pl, by simpa using hok, h.out⟩⟩
structure WE (P : Program) (f : FuncId) (as : List AV) (nm : Bool) (K : AV → Prop) (X : Prop) : Prop where
 out : (∃ r, aG P f as r ∧ (nm = false ∨ clean r) ∧ K r) ∨ X
structure LX (P : Program) (s : St) (d : Option Nat) (f : FuncId) (args : List AV) (L : St → Prop) : Prop where
 out : lcall P s d f args L
def ks (s : St) (d : Option Nat) (L : St → Prop) (r : AV) : Prop := L (vG s d r)
def kq (s : St) (d : Option Nat) (L : St → Prop) (r : AV) : Prop := aQ (unown r) = true ∧ L ⟨putD s.t d (unown r), s.m⟩
theorem UK (r : AV) : ks s d L r = L (vG s d r) := rfl
theorem UJ (r : AV) : kq s d L r = (aQ (unown r) = true ∧ L ⟨putD s.t d (unown r), s.m⟩) := rfl
theorem ND (f : FuncId) (args : List AV) : WC P s d f args L = WE P f (fzs s args) (namess args) (ks s d L) (LX P s d f args L) := by
 rw [NB]
 exact propext ⟨fun h => ⟨h.imp id fun h => ⟨h⟩⟩, fun h => h.out.imp id fun h => h.out⟩
theorem LG (f : FuncId) (args : List AV) : QC P s d f args L = (belows s.m.length args = true ∧ WE P f (fzs s args) (namess args) (kq s d L) False) := by
 rw [LE]; exact propext ⟨fun ⟨r, h1, h2, h2', h3, h4⟩ => ⟨h2', ⟨.inl ⟨r, h1, h2, h3, h4⟩⟩⟩, fun ⟨h2', h⟩ => (let ⟨r, h1, h2, h3, h4⟩ := h.out.resolve_right id; ⟨r, h1, h2, h2', h3, h4⟩)⟩
theorem z8y {f : FuncId} {as : List AV} {nm : Bool} {r : AV} {X : Prop} (hs : aG P f as r) (hc : nm = false ∨ clean r) (hk : K r) : WE P f as nm K X := ⟨.inl ⟨r, hs, hc, hk⟩⟩
def LR (σ : List Nat) (m0 : List Ob) (as : List AV) (m1 : List Ob) (r : AV) (s : St) (d : Option Nat) (args : List AV) (L : St → Prop) : Prop :=
 fZ σ = true ∧ aT σ.length (cY σ s.m.length) s.m σ m0 ∧ j2 m0 m1 = true ∧ belows σ.length as = true ∧ rens (cY σ s.m.length) as = args ∧ L (BD s d σ m0 m1 r)
theorem dG (σ : List Nat) {f : FuncId} {m0 m1 : List Ob} {as args fa : List AV} {r : AV} {nm : Bool} (hs : eV P f m0 as m1 r) (h : LR σ m0 as m1 r s d args L) : WE P f fa nm K (LX P s d f args L) := by
 obtain ⟨h1, h2, h3, h4, h5, h6⟩ := h
 exact ⟨.inr ⟨⟨σ, m0, as, m1, r, hs, h1, h2, h3, h4, h5, h6⟩⟩⟩
theorem KH (σ : List Nat) (m0 : List Ob) (as : List AV) (m1 : List Ob) (r : AV) (args : List AV) : LR σ m0 as m1 r s d args L = (fZ σ = true ∧ aT σ.length (cY σ s.m.length) s.m σ m0 ∧ j2 m0 m1 = true ∧ belows σ.length as = true ∧ rens (cY σ s.m.length) as = args ∧
 L ⟨putD (kR (aN σ m0) s.t) d (ren (cY σ s.m.length) r), aP (cY σ s.m.length) (eZ (aN σ m0) s.m) σ m1 ++ (m1.drop σ.length).map (renO (cY σ s.m.length))⟩) := rfl
theorem z02 (ts : List ResultVar) (m1 : List Ob) (r : AV) : zV C ts m1 r .ret s = lT C s ts (sX s m1 r) := rfl
theorem z01 (ts : List ResultVar) (m1 : List Ob) (r : AV) : zV C ts m1 r .normal s = lT C s ts (sX s m1 r) := rfl
theorem QZ (m1 : List Ob) (r : AV) : sX s m1 r [] = (.tup [] = r ∧ aI s.m m1 ∧ belowM m1.length m1 = true ∧ below m1.length r = true) := rfl
theorem R0 (m1 : List Ob) (r x : AV) : sX s m1 r [x] = (x = r ∧ aI s.m m1 ∧ belowM m1.length m1 = true ∧ below m1.length r = true) := rfl
theorem QY (m1 : List Ob) (r x y : AV) (l : List AV) : sX s m1 r (x :: y :: l) = (.tup (x :: y :: l) = r ∧ aI s.m m1 ∧ belowM m1.length m1 = true ∧ below m1.length r = true) := rfl
theorem z3d (m : List Ob) : aI m [] = (aD m = true) := by simp only [aI]
theorem z3c (p o : Ob) (m l : List Ob) : aI (p :: m) (o :: l) = ((o = .dead ∧ aC p = false ∨ o = p) ∧ aI m l) := by simp only [aI]
def FZ (o : Ob) (off n : Nat) : AV := match o with
  | .arr _ sz cs => .sl n ((cs.drop off).take (n * sz))
  | .row false sz cs => .sl n ((cs.drop off).take (n * sz))
  | _ => .junk
def FZP (s : St) (o : Ob) (off : Nat) : AV := match o with
  | .arr _ _ cs => .cp (cs.drop off)
  | .row false _ cs => .cp (cs.drop off)
  | .row true _ cs => .cp ((cs.map (dW s)).drop off)
  | _ => .junk
theorem SN (v : Value) : fz s (.v v) = .v v := rfl
theorem SM : fz s .un = .un := rfl
theorem SH (n : Nat) (cs : List AV) : fz s (.sl n cs) = .sl n cs := rfl
theorem SB (cs : List AV) : fz s (.cp cs) = .cp cs := rfl
theorem SD (es : List (Value × AV)) : fz s (.mp es) = .mp es := rfl
theorem SA (cs : List AV) : fz s (.ag cs) = .ag (fzs s cs) := rfl
theorem SK (cs : List AV) : fz s (.tup cs) = .tup (fzs s cs) := rfl
theorem SC (f : FuncId) (a b : List AV) : fz s (.fn f a b) = .fn f (fzs s a) (fzs s b) := rfl
theorem SG (id off n : Nat) : fz s (.ref id off n) = FZ (obj s.m id) off n := rfl
theorem SF (id off : Nat) : fz s (.ptr id off) = FZP s (obj s.m id) off := rfl
theorem JD (e sz off n : Nat) (cs : List AV) : FZ (.arr e sz cs) off n = .sl n ((cs.drop off).take (n * sz)) := rfl
theorem JE (sz off n : Nat) (cs : List AV) : FZ (.row false sz cs) off n = .sl n ((cs.drop off).take (n * sz)) := rfl
theorem JA (e sz off : Nat) (cs : List AV) : FZP s (.arr e sz cs) off = .cp (cs.drop off) := rfl
theorem JB (sz off : Nat) (cs : List AV) : FZP s (.row false sz cs) off = .cp (cs.drop off) := rfl
theorem JC (sz off : Nat) (cs : List AV) : FZP s (.row true sz cs) off = .cp ((cs.map (dW s)).drop off) := rfl
theorem S9 (v : Value) : dW s (.v v) = .v v := rfl
theorem S7 (n : Nat) (cs : List AV) : dW s (.sl n cs) = .sl n cs := rfl
theorem RZ (cs : List AV) : dW s (.cp cs) = .cp cs := rfl
theorem S4 (es : List (Value × AV)) : dW s (.mp es) = .mp es := rfl
theorem S6 (id off n : Nat) : dW s (.ref id off n) = FZ (obj s.m id) off n := rfl
theorem z2d {α : Type} (f : α → AV) (l : List α) : (l.map f).take l.length = l.map f := List.take_of_length_le (by simp)
theorem zar (e sz n : Nat) (l : List UInt8) : clean (.own e sz n (l.map U8)) := by
 intro c hc
 obtain ⟨x, _, rfl⟩ := List.mem_map.1 hc
 exact ⟨_, rfl⟩
theorem zap (e sz n : Nat) (l : List Int) : clean (.own e sz n (l.map aB)) := by
 intro c hc
 obtain ⟨x, _, rfl⟩ := List.mem_map.1 hc
 exact ⟨_, rfl⟩
theorem zaq (e sz n : Nat) (l : List (List UInt8)) : clean (.own e sz n (l.map Sv)) := by
 intro c hc
 obtain ⟨x, _, rfl⟩ := List.mem_map.1 hc
 exact ⟨_, rfl⟩
theorem zas (v : Value) : clean (.v v) := trivial
theorem bE (xs : List AV) (h : cleans xs) : clean (.tup xs) := h
theorem zat : cleans [] := trivial
theorem bF (x : AV) (l : List AV) (h : clean x) (k : cleans l) : cleans (x :: l) := ⟨h, k⟩
theorem z1c (k e sz : Nat) (cs : List AV) : oS k (.arr e sz cs) = .arr e sz cs := rfl
theorem z1d (k sz : Nat) (cs : List AV) : oS k (.row false sz cs) = .row false sz cs := rfl
theorem z3r (o : BinOp) (t : Nat) (x y : Operand) (u : Nat) : cG C P s d (.binOp o t x y u) ty L = cO C o t (ev s x) (ev s y) (kput s d L) (BI C o t (ev s x) (ev s y) (kput s d L)) := rfl
theorem YP (o : BinOp) (t : Nat) (x y : Operand) (u : Nat) : dZ C P s d (.binOp o t x y u) L = cO C o t (ev s x) (ev s y) (kput s d L) (BI C o t (ev s x) (ev s y) (kput s d L)) := rfl
section
variable {o : BinOp} {t : Nat} {D : Prop}
theorem HB (k k' : IntKind) (a b : Int) : cO C o t (.v (.int k a)) (.v (.int k' b)) K D = D := rfl
theorem H8 (a b : Bool) : cO C o t (.v (.bool a)) (.v (.bool b)) K D = D := rfl
theorem HK (a b : ByteArray) : cO C o t (.v (.string a)) (.v (.string b)) K D = D := rfl
def rV (C : bI) (t : Nat) (a b : Option (List Value)) (f : Bool → Bool) (K : AV → Prop) : Prop := match a, b with
 | some a, some b => cC C t (.agg a.toArray) = true ∧ cC C t (.agg b.toArray) = true ∧ K (.v (.bool (f (eqs a b))))
 | _, _ => False
theorem H6 (cs ds : List AV) : cO C .eql t (.ag cs) (.ag ds) K D = rV C t (fO cs) (fO ds) id K := by
 simp only [cO, rV]; cases fO cs <;> cases fO ds <;> rfl
theorem H7 (cs ds : List AV) : cO C .neq t (.ag cs) (.ag ds) K D = rV C t (fO cs) (fO ds) not K := by
 simp only [cO, rV]; cases fO cs <;> cases fO ds <;> rfl
theorem H0 (a b : List Value) : rV C t (some a) (some b) id K = (cC C t (.agg a.toArray) = true ∧ cC C t (.agg b.toArray) = true ∧ K (.v (.bool (eqs a b)))) := rfl
theorem H1 (a b : List Value) : rV C t (some a) (some b) not K = (cC C t (.agg a.toArray) = true ∧ cC C t (.agg b.toArray) = true ∧ K (.v (.bool (!eqs a b)))) := rfl
def iP (d : Option TypeDesc) (X : Prop) : Prop := match d with
 | some (.slice _) => X
 | _ => False
def o7 (t : Option TypeDesc) (b : Bool) (K : AV → Prop) : Prop := match t with | some (.func _ _ _) => K (.v (.bool b)) | _ => False
theorem H9 (f : FuncId) (a b : List AV) : cO C .eql t (.fn f a b) (.v .nilFunc) K D = o7 (C.td t) false K := by
 simp only [cO, o7]; cases C.td t with | none => rfl | some d => cases d <;> rfl
theorem HA (f : FuncId) (a b : List AV) : cO C .neq t (.fn f a b) (.v .nilFunc) K D = o7 (C.td t) true K := by
 simp only [cO, o7]; cases C.td t with | none => rfl | some d => cases d <;> rfl
theorem HE : cO C .eql t (.v .nilFunc) (.v .nilFunc) K D = o7 (C.td t) true K := by
 simp only [cO, o7]; cases C.td t with | none => rfl | some d => cases d <;> rfl
theorem HF : cO C .neq t (.v .nilFunc) (.v .nilFunc) K D = o7 (C.td t) false K := by
 simp only [cO, o7]; cases C.td t with | none => rfl | some d => cases d <;> rfl
theorem HI (n : Nat) (cs : List AV) : cO C .eql t (.sl n cs) (.v (.slice none 0 0)) K D = iP (C.td t) (0 < n ∧ K (.v (.bool false))) := by
 simp only [cO, iP, jR]; cases C.td t with | none => rfl | some d => cases d <;> rfl
theorem HJ (n : Nat) (cs : List AV) : cO C .neq t (.sl n cs) (.v (.slice none 0 0)) K D = iP (C.td t) (0 < n ∧ K (.v (.bool true))) := by
 simp only [cO, iP, jR]; cases C.td t with | none => rfl | some d => cases d <;> rfl
theorem HG (id off n : Nat) : cO C .eql t (.ref id off n) (.v (.slice none 0 0)) K D = iP (C.td t) (0 < n ∧ K (.v (.bool false))) := by
 simp only [cO, iP, jR]; cases C.td t with | none => rfl | some d => cases d <;> rfl
theorem HH (id off n : Nat) : cO C .neq t (.ref id off n) (.v (.slice none 0 0)) K D = iP (C.td t) (0 < n ∧ K (.v (.bool true))) := by
 simp only [cO, iP, jR]; cases C.td t with | none => rfl | some d => cases d <;> rfl
theorem HC : cO C .eql t (.v (.slice none 0 0)) (.v (.slice none 0 0)) K D = iP (C.td t) (K (.v (.bool true))) := by
 simp only [cO, iP, jR]; cases C.td t with | none => rfl | some d => cases d <;> rfl
theorem HD : cO C .neq t (.v (.slice none 0 0)) (.v (.slice none 0 0)) K D = iP (C.td t) (K (.v (.bool false))) := by
 simp only [cO, iP, jR]; cases C.td t with | none => rfl | some d => cases d <;> rfl
theorem H4 (a : Addr) (n c : Nat) : cO C .eql t (.v (.slice (some a) n c)) (.v (.slice none 0 0)) K D = iP (C.td t) (K (.v (.bool false))) := by
 simp only [cO, iP, jR]; cases C.td t with | none => rfl | some d => cases d <;> rfl
theorem H5 (a : Addr) (n c : Nat) : cO C .neq t (.v (.slice (some a) n c)) (.v (.slice none 0 0)) K D = iP (C.td t) (K (.v (.bool true))) := by
 simp only [cO, iP, jR]; cases C.td t with | none => rfl | some d => cases d <;> rfl
theorem H3 (e : Nat) (X : Prop) : iP (some (.slice e)) X = X := rfl
theorem H2 (a b : Array TypeId) (v e : Bool) : o7 (some (.func a b v)) e K = K (.v (.bool e)) := rfl
end
theorem QL : eqs [] [] = true := rfl
theorem QJ (a b : Value) (l m : List Value) : eqs (a :: l) (b :: m) = (gL a b && eqs l m) := rfl
theorem QF (k k' : IntKind) (a b : Int) : gL (.int k a) (.int k' b) = (a == b) := rfl
theorem QE (a b : Bool) : gL (.bool a) (.bool b) = (a == b) := rfl
theorem QH (a b : ByteArray) : gL (.string a) (.string b) = (a.data.toList == b.data.toList) := rfl
def PVs (x : Value) (o : Option (List Value)) : Option (List Value) := match o with | some l => some (x :: l) | none => none
def PVa (o : Option (List Value)) : Option Value := match o with | some l => some (.agg l.toArray) | none => none
theorem XW (x : Value) : gQ (.v x) = some x := by simp [gQ]
theorem XV (cs : List AV) : gQ (.ag cs) = PVa (fO cs) := by simp only [gQ, PVa]; cases fO cs <;> rfl
theorem LB (l : List Value) : PVa (some l) = some (.agg l.toArray) := rfl
theorem XY : fO [] = some [] := by simp [fO]
theorem XX (x : Value) (l : List AV) : fO (.v x :: l) = PVs x (fO l) := by simp only [fO, gQ, PVs]; cases fO l <;> rfl
theorem LC (x : Value) (l : List Value) : PVs x (some l) = some (x :: l) := rfl
theorem z3t (t : Nat) (ps : Array (Nat × Operand)) : cG C P s d (.build t ps) ty L = nD C (C.ti t) (ps.toList.map fun p => (p.1, ev s p.2)) (kput s d L) := rfl
theorem YQ (t : Nat) (ps : Array (Nat × Operand)) : dZ C P s d (.build t ps) L = nD C (C.ti t) (ps.toList.map fun p => (p.1, ev s p.2)) (kput s d L) := rfl
theorem ID (fs : List Field) (sz b : Nat) (z : Value) (ps : List (Nat × AV)) : nD C (some ⟨.struct fs.toArray, sz, b, z⟩) ps K = ((fs.all fun f => (C.ti f.type).isSome) = true ∧ kE C fs (z.cells.toList.map .v) ps (kag K)) := rfl
theorem TK (cs : List AV) : kag K cs = K (.ag cs) := rfl
section
variable (fs : List Field) (cs : List AV) (M : List AV → Prop)
def FC2 (C : bI) (fs : List Field) (cs : List AV) (l : List (Nat × AV)) (M : List AV → Prop) (xs : List AV) (off : Nat) (i : Option TI) : Prop := match i with
 | some i => xs.length = i.size ∧ off + i.size ≤ cs.length ∧ xs.all dI = true ∧ kE C fs (setCells cs off xs) l M
 | none => False
def FC (C : bI) (fs : List Field) (cs : List AV) (l : List (Nat × AV)) (M : List AV → Prop) (x : AV) (f : Option Field) : Prop := match f with
 | some fd => FC2 C fs cs l M (bV x) fd.offset (C.ti fd.type)
 | none => False
theorem RK : kE C fs cs [] M = M cs := rfl
theorem RJ (j : Nat) (x : AV) (l : List (Nat × AV)) : kE C fs cs ((j, x) :: l) M = FC C fs cs l M x fs[j]? := by
 simp only [kE, FC, FC2]
 cases fs[j]? with
 | none => rfl
 | some fd => simp only; cases C.ti fd.type <;> rfl
theorem J7 (fd : Field) (x : AV) (l : List (Nat × AV)) : FC C fs cs l M x (some fd) = FC2 C fs cs l M (bV x) fd.offset (C.ti fd.type) := rfl
theorem J6 (i : TI) (off : Nat) (xs : List AV) (l : List (Nat × AV)) : FC2 C fs cs l M xs off (some i) = (xs.length = i.size ∧ off + i.size ≤ cs.length ∧ xs.all dI = true ∧ kE C fs (setCells cs off xs) l M) := rfl
end
theorem OW (cs : Array Value) : (Value.agg cs).cells = cs := rfl
theorem z17 (cs : List AV) (i : Nat) : setCells cs i [] = cs := rfl
theorem z16 (cs : List AV) (i : Nat) (x : AV) (l : List AV) : setCells cs i (x :: l) = setCells (nU cs i x) (i + 1) l := rfl
theorem A7 (c x : AV) (l : List AV) : nU (c :: l) 0 x = x :: l := rfl
theorem z19 (c x : AV) (l : List AV) (n : Nat) : nU (c :: l) (n + 1) x = c :: nU l n x := rfl
theorem OL (id : Nat) : bV (.mr id) = [.mr id] := rfl
theorem OI (cs : List AV) : bV (.ag cs) = cs := rfl
theorem z45 (t : Nat) (x i : Operand) (ok : Bool) : cG C P s d (.lookup t x i ok) ty L = jN C (C.td t) (iV s (ev s x)) (gQ (ev s i)) ok (kput s d L) := rfl
theorem Z1 (t : Nat) (x i : Operand) (ok : Bool) : dZ C P s d (.lookup t x i ok) L = jN C (C.td t) (iV s (ev s x)) (gQ (ev s i)) ok (kput s d L) := rfl
def LK2 (C : bI) (kt : Nat) (i : Option TI) (es : List (Value × AV)) (key : Value) (ok : Bool) (K : AV → Prop) : Prop := match i with
 | some ie => cC C kt key = true ∧ (∀ e ∈ es, cC C kt e.1 = true) ∧ MG (mget key es) (fun x => K (pS ok x true)) (K (pS ok (qH ie.zero) false))
 | none => False
theorem VE (kt e : Nat) (es : List (Value × AV)) (key : Value) (ok : Bool) : jN C (some (.map kt e)) (some es) (some key) ok K = LK2 C kt (C.ti e) es key ok K := by
 simp only [jN, LK2]; cases C.ti e <;> rfl
theorem KB (kt : Nat) (ie : TI) (es : List (Value × AV)) (key : Value) (ok : Bool) : LK2 C kt (some ie) es key ok K = (cC C kt key = true ∧ (∀ e ∈ es, cC C kt e.1 = true) ∧ MG (mget key es) (fun x => K (pS ok x true)) (K (pS ok (qH ie.zero) false))) := rfl
theorem KJ (x : AV) (A : AV → Prop) (B : Prop) : MG (some x) A B = A x := rfl
theorem KI (A : AV → Prop) (B : Prop) : MG none A B = B := rfl
theorem WS (x : AV) (b : Bool) : pS true x b = .tup [x, .v (.bool b)] := rfl
theorem WQ (x : AV) (b : Bool) : pS false x b = x := rfl
theorem z4s (cs : Array Value) : qH (.agg cs) = .ag (cs.toList.map .v) := rfl
theorem z4t (k : IntKind) (n : Int) : qH (.int k n) = .v (.int k n) := rfl
theorem z4u : qH .nilFunc = .v .nilFunc := rfl
def MO (o : Ob) : Option (List (Value × AV)) := match o with | .mp es => some es | _ => none
theorem VX (es : List (Value × AV)) : iV s (.mp es) = some es := rfl
theorem VY (id : Nat) : iV s (.mr id) = MO (obj s.m id) := by simp only [iV, MO]; cases obj s.m id <;> rfl
theorem KL (es : List (Value × AV)) : MO (.mp es) = some es := rfl
theorem z48 (t : Nat) : cG C P s d (.makeMap t none) ty L = L (dS s d (.mr s.m.length) (.mp [])) := rfl
theorem z49 (t : Nat) (m k x : Operand) : cG C P s d (.mapUpdate t m k x) ty L = pR C s d (C.td t) (ev s m) (gQ (ev s k)) (ev s x) L := rfl
theorem z42 (t : Nat) (m k x : Operand) : cG C P s d (.insert t m k x) ty L = pR C s d (C.td t) (ev s m) (gQ (ev s k)) (ev s x) L := rfl
def MU2 (C : bI) (s : St) (d : Option Nat) (kt id : Nat) (key : Value) (x : AV) (o : Ob) (L : St → Prop) : Prop := match o with
 | .mp es => cC C kt key = true ∧ (∀ e ∈ es, cC C kt e.1 = true) ∧ names x = false ∧ L ⟨putD s.t d .junk, cD s.m id (.mp (mput key x es))⟩
 | _ => False
theorem W6 (kt e id : Nat) (key : Value) (x : AV) : pR C s d (some (.map kt e)) (.mr id) (some key) x L = MU2 C s d kt id key x (obj s.m id) L := by
 simp only [pR, MU2]; cases obj s.m id <;> rfl
theorem KM (kt id : Nat) (key : Value) (x : AV) (es : List (Value × AV)) : MU2 C s d kt id key x (.mp es) L = (cC C kt key = true ∧ (∀ e ∈ es, cC C kt e.1 = true) ∧ names x = false ∧ L ⟨putD s.t d .junk, cD s.m id (.mp (mput key x es))⟩) := rfl
def uD (o : Ob) : AV := match o with | .mp es => .mp es | _ => .junk
theorem SE (id : Nat) : fz s (.mr id) = uD (obj s.m id) := by simp only [fz, uD]; cases obj s.m id <;> rfl
theorem S5 (id : Nat) : dW s (.mr id) = uD (obj s.m id) := by simp only [dW, uD]; cases obj s.m id <;> rfl
theorem J9 (es : List (Value × AV)) : uD (.mp es) = .mp es := rfl
theorem WW (id : Nat) : dI (.mr id) = true := rfl
theorem X6 (p : Option Nat) : (Value.map p).oneCell' = true := rfl
theorem X7 : Value.nilFunc.oneCell' = true := rfl
theorem X4 (f : Fn) (a b : Array Value) : (Value.func f a b).oneCell' = true := rfl
theorem YR (t len : Nat) (ps : Array (Nat × Operand)) : dZ C P s d (.buildSlice t len ps) L = pQ C (C.td t) len (ps.toList.map fun p => (p.1, ev s p.2)) (kput s d L) := rfl
def LQ2 (len : Nat) (ps : List (Nat × AV)) (K : AV → Prop) (i : Option TI) : Prop := match i with
 | some i => ps.length = len ∧ 0 < i.size ∧ len * i.size ≤ 16777216 ∧ j3 i.size 0 ps (fun cs => K (.sl len cs))
 | none => False
theorem V5 (e len : Nat) (ps : List (Nat × AV)) : pQ C (some (.slice e)) len ps K = LQ2 len ps K (C.ti e) := by
 simp only [pQ, LQ2]; cases C.ti e <;> rfl
theorem KG (i : TI) (len : Nat) (ps : List (Nat × AV)) : LQ2 len ps K (some i) = (ps.length = len ∧ 0 < i.size ∧ len * i.size ≤ 16777216 ∧ j3 i.size 0 ps (fun cs => K (.sl len cs))) := rfl
section
variable (ops os : List Oper) (ph : Ph) (op : Op) (A : Prop)
theorem LJ : QK C P ops Q os ph d op ty A s .quiet = A := rfl
theorem LH (t : Nat) : QK C P ops Q os (.p1 none) d op ty A s (.alloc t) = QR C P ops Q os (.p1 (some t)) ⟨putD s.t d (.ptr s.m.length 0), s.m⟩ := rfl
theorem LI : QK C P ops Q os ph d op ty A s .loud = kU C ph (fun s => cG C P s d op ty (QR C P ops Q os .p2)) s := rfl
end
def PF (i : Option TI) (L : St → Prop) (s : St) : Prop := match i with
 | some i => i.zero.cells.all (·.oneCell') = true ∧ L ⟨s.t, s.m ++ [.row true 1 (i.zero.cells.toList.map .v)]⟩
 | none => False
theorem YL : kU C .p2 L s = L s := rfl
theorem YK : kU C (.p1 none) L s = L s := rfl
theorem YM (t : Nat) : kU C (.p1 (some t)) L s = PF (C.ti t) L s := by simp only [kU, PF]; cases C.ti t <;> rfl
theorem KY (i : TI) : PF (some i) L s = (i.zero.cells.all (·.oneCell') = true ∧ L ⟨s.t, s.m ++ [.row true 1 (i.zero.cells.toList.map .v)]⟩) := rfl
theorem TQ (t : Nat) : dC (.alloc t) = .alloc t := rfl
theorem UC (t : Nat) (x y : Operand) : dC (.store t x y) = .loud := rfl
theorem U7 (x : Operand) : dC (.move x) = .quiet := rfl
theorem TR (x : Operand) : dC (.assign x) = .quiet := rfl
theorem UA (x y z : Operand) : dC (.pick x y z) = .quiet := rfl
theorem TS (o : BinOp) (t : Nat) (x y : Operand) (u : Nat) : dC (.binOp o t x y u) = .quiet := rfl
theorem UD (o : UnOp) (t : Nat) (x : Operand) : dC (.unOp o t x) = .quiet := rfl
theorem TY (x : Operand) (i : Nat) : dC (.extract x i) = .quiet := rfl
theorem U2 (t : Nat) (x i : Operand) : dC (.index t x i) = .quiet := rfl
theorem U3 (t : Nat) (x i : Operand) : dC (.indexAddr t x i) = .quiet := rfl
theorem U4 (t : Nat) (x : Operand) : dC (.load t x) = .quiet := rfl
theorem TZ (t : Nat) (x : Operand) (f : Nat) : dC (.field t x f) = .quiet := rfl
theorem U1 (t : Nat) (x : Operand) (f : Nat) : dC (.fieldAddr t x f) = .quiet := rfl
theorem U9 (x : Operand) : dC (.nilCheck x) = .quiet := rfl
theorem U6 (f : Fn) (a b : Array Operand) : dC (.makeFunc f a b) = .quiet := rfl
theorem TX (t u : Nat) (x : Operand) : dC (.convert t u x) = .quiet := rfl
theorem UB (t : Nat) (x : Operand) (lo hi mx : Option Operand) : dC (.slice t x lo hi mx) = .quiet := rfl
theorem TW (c : Call) : dC (.call c) = .quiet := rfl
theorem TT (t : Nat) (ps : Array (Nat × Operand)) : dC (.build t ps) = .quiet := rfl
theorem TU (t n : Nat) (ps : Array (Nat × Operand)) : dC (.buildSlice t n ps) = .quiet := rfl
theorem U5 (t : Nat) (x i : Operand) (ok : Bool) : dC (.lookup t x i ok) = .quiet := rfl
end
end Go.AE
