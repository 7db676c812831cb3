/- A part of the abstract evaluator: no condition. -/
import Derived.Test.YtoppecphhiiiiaaGreatDoorAETac
set_option linter.unusedVariables false
set_option linter.unusedSimpArgs false
namespace Go.AE
section
variable {C : Ctx} {P : Program} {Q : Exit → St → Prop} {s : St} {K : AV → Prop} {L : St → Prop} {d : Option Nat} {ty : Nat}
theorem zrj (x : Operand) : z4f C P s d (.move x) ty L = L ⟨putD s.t d (ev s x), s.m⟩ := rfl
theorem z94 (k : Nat) : z4f C P s d (.assign (.tmp k)) ty L = L ⟨putD s.t d (get s.t k), s.m⟩ := rfl
theorem z92 (k : IntKind) (n : Int) : z4f C P s d (.assign (.const (.int k n))) ty L = L ⟨putD s.t d (.v (.int k n)), s.m⟩ := rfl
theorem z7y (b : Bool) : z4f C P s d (.assign (.const (.bool b))) ty L = L ⟨putD s.t d (.v (.bool b)), s.m⟩ := rfl
theorem z63 (b : ByteArray) : z4f C P s d (.assign (.const (.string b))) ty L = L ⟨putD s.t d (.v (.string b)), s.m⟩ := rfl
theorem z7z (f : FuncId) : z4f C P s d (.assign (.func f)) ty L = L ⟨putD s.t d (.fn f [] []), s.m⟩ := rfl
def NI2 (s : St) (d : Option Nat) (e : Nat) (i : Option TI) (L : St → Prop) : Prop := match i with | some i => 0 < i.size ∧ L (z33 s d (.ref s.m.length 0 0) (.arr e i.size [])) | none => False
def NI (C : Ctx) (s : St) (d : Option Nat) (t : Option TypeDesc) (L : St → Prop) : Prop := match t with | some (.slice e) => NI2 s d e (C.ti e) L | _ => False
theorem z93 : z4f C P s d (.assign (.const (.slice none 0 0))) ty L = NI C s d (C.td ty) L := rfl
theorem zw3 (e : Nat) : NI C s d (some (.slice e)) L = NI2 s d e (C.ti e) L := rfl
theorem zw2 (e : Nat) (i : TI) : NI2 s d e (some i) L = (0 < i.size ∧ L (z33 s d (.ref s.m.length 0 0) (.arr e i.size []))) := rfl
theorem zrl (c a b : Operand) : z4f C P s d (.pick c a b) ty L = z06 C s (.pick c a b) (kput s d L) := rfl
theorem zrm (o : UnOp) (t : Nat) (x : Operand) : z4f C P s d (.unOp o t x) ty L = z06 C s (.unOp o t x) (kput s d L) := rfl
theorem zef (x : Operand) (i : Nat) : z4f C P s d (.extract x i) ty L = z06 C s (.extract x i) (kput s d L) := rfl
theorem zmf (t : Nat) (x i : Operand) : z4f C P s d (.index t x i) ty L = z06 C s (.index t x i) (kput s d L) := rfl
theorem zaj (t : Nat) (x i : Operand) : z4f C P s d (.indexAddr t x i) ty L = z06 C s (.indexAddr t x i) (kput s d L) := rfl
theorem zri (t : Nat) (x : Operand) : z4f C P s d (.load t x) ty L = z06 C s (.load t x) (kput s d L) := rfl
theorem zme (t : Nat) (x : Operand) (f : Nat) : z4f C P s d (.field t x f) ty L = z06 C s (.field t x f) (kput s d L) := rfl
theorem zai (t : Nat) (x : Operand) (f : Nat) : z4f C P s d (.fieldAddr t x f) ty L = z06 C s (.fieldAddr t x f) (kput s d L) := rfl
theorem zcr (x : Operand) : z4f C P s d (.nilCheck x) ty L = z06 C s (.nilCheck x) (kput s d L) := rfl
theorem zcq (f : FuncId) (a b : Array Operand) : z4f C P s d (.makeFunc (.func f) a b) ty L = z06 C s (.makeFunc (.func f) a b) (kput s d L) := rfl
theorem zmh (t : Nat) (x : Operand) (lo hi : Option Operand) : z4f C P s d (.slice t x lo hi none) ty L = z06 C s (.slice t x lo hi none) (kput s d L) := rfl
theorem zz6 (a : Array Operand) (t : Array Nat) : z4f C P s d (.call { callee := .builtin .len, args := a, argTypes := t }) ty L = z06 C s (.call { callee := .builtin .len, args := a, argTypes := t }) (kput s d L) := rfl
theorem zz8 (a : Array Operand) (t : Array Nat) : z4f C P s d (.call { callee := .builtin .min, args := a, argTypes := t }) ty L = z06 C s (.call { callee := .builtin .min, args := a, argTypes := t }) (kput s d L) := rfl
theorem zz7 (a : Array Operand) (t : Array Nat) : z4f C P s d (.call { callee := .builtin .max, args := a, argTypes := t }) ty L = z06 C s (.call { callee := .builtin .max, args := a, argTypes := t }) (kput s d L) := rfl
theorem zqi (x : Operand) : z9y C P s d (.move x) L = L ⟨putD s.t d (ev s x), s.m⟩ := rfl
theorem zhh (x : Operand) : z9y C P s d (.assign x) L = L ⟨putD s.t d (ev s x), s.m⟩ := rfl
theorem zqj (c a b : Operand) : z9y C P s d (.pick c a b) L = z06 C s (.pick c a b) (kput s d L) := rfl
theorem zqk (o : UnOp) (t : Nat) (x : Operand) : z9y C P s d (.unOp o t x) L = z06 C s (.unOp o t x) (kput s d L) := rfl
theorem ze8 (x : Operand) (i : Nat) : z9y C P s d (.extract x i) L = z06 C s (.extract x i) (kput s d L) := rfl
theorem zlh (t : Nat) (x i : Operand) : z9y C P s d (.index t x i) L = z06 C s (.index t x i) (kput s d L) := rfl
theorem zac (t : Nat) (x i : Operand) : z9y C P s d (.indexAddr t x i) L = z06 C s (.indexAddr t x i) (kput s d L) := rfl
theorem zqh (t : Nat) (x : Operand) : z9y C P s d (.load t x) L = z06 C s (.load t x) (kput s d L) := rfl
theorem zlg (t : Nat) (x : Operand) (f : Nat) : z9y C P s d (.field t x f) L = z06 C s (.field t x f) (kput s d L) := rfl
theorem zab (t : Nat) (x : Operand) (f : Nat) : z9y C P s d (.fieldAddr t x f) L = z06 C s (.fieldAddr t x f) (kput s d L) := rfl
theorem zcd (x : Operand) : z9y C P s d (.nilCheck x) L = z06 C s (.nilCheck x) (kput s d L) := rfl
theorem zcc (f : FuncId) (a b : Array Operand) : z9y C P s d (.makeFunc (.func f) a b) L = z06 C s (.makeFunc (.func f) a b) (kput s d L) := rfl
theorem ze7 (t u : Nat) (x : Operand) : z9y C P s d (.convert t u x) L = z06 C s (.convert t u x) (kput s d L) := rfl
theorem zli (t : Nat) (x : Operand) (lo hi : Option Operand) : z9y C P s d (.slice t x lo hi none) L = z06 C s (.slice t x lo hi none) (kput s d L) := rfl
theorem zyf (a : Array Operand) (t : Array Nat) : z9y C P s d (.call { callee := .builtin .len, args := a, argTypes := t }) L = z06 C s (.call { callee := .builtin .len, args := a, argTypes := t }) (kput s d L) := rfl
theorem zyh (a : Array Operand) (t : Array Nat) : z9y C P s d (.call { callee := .builtin .min, args := a, argTypes := t }) L = z06 C s (.call { callee := .builtin .min, args := a, argTypes := t }) (kput s d L) := rfl
theorem zyg (a : Array Operand) (t : Array Nat) : z9y C P s d (.call { callee := .builtin .max, args := a, argTypes := t }) L = z06 C s (.call { callee := .builtin .max, args := a, argTypes := t }) (kput s d L) := rfl
def CA (P : Program) (s : St) (d : Option Nat) (x : AV) (xs : List AV) (L : St → Prop) : Prop := match x with | .fn k first cap => WC P s d k (first ++ xs ++ cap) L | _ => False
def CQ (P : Program) (s : St) (d : Option Nat) (x : AV) (xs : List AV) (L : St → Prop) : Prop := match x with | .fn k first cap => QC P s d k (first ++ xs ++ cap) L | _ => False
theorem zrh (f : Operand) (a : Array Operand) (t : Array Nat) : z4f C P s d (.call { callee := .value f, args := a, argTypes := t }) ty L = CA P s d (ev s f) (a.toList.map (ev s)) L := rfl
theorem zqg (f : Operand) (a : Array Operand) (t : Array Nat) : z9y C P s d (.call { callee := .value f, args := a, argTypes := t }) L = CQ P s d (ev s f) (a.toList.map (ev s)) L := rfl
theorem y0jg (k : FuncId) (first cap xs : List AV) : CA P s d (.fn k first cap) xs L = WC P s d k (first ++ xs ++ cap) L := rfl
theorem y0ji (k : FuncId) (first cap xs : List AV) : CQ P s d (.fn k first cap) xs L = QC P s d k (first ++ xs ++ cap) L := rfl
def PK (c x y : AV) (K : AV → Prop) : Prop := match c with | .v (.bool t) => wg t (K x) (K y) | _ => False
theorem zhe (c a b : Operand) : z06 C s (.pick c a b) K = PK (ev s c) (ev s a) (ev s b) K := rfl
theorem zrr (t : Bool) (x y : AV) : PK (.v (.bool t)) x y K = WG t (K x) (K y) := (zie t _ _).symm
def BI (C : Ctx) (o : BinOp) (t : Nat) (x y : AV) (K : AV → Prop) : Prop := match x, y with
   | .v (.bool a), .v (.bool b) => (match o with
     | .eql => C.td t = some .bool ∧ K (.v (.bool (a == b)))
     | .neq => C.td t = some .bool ∧ K (.v (.bool (!(a == b))))
     | _ => False)
   | .v a, .v b => bin o a b (kv K)
   | _, _ => False
theorem ze3 (o : BinOp) (t : Nat) (x y : Operand) (u : Nat) : z06 C s (.binOp o t x y u) K = BI C o t (ev s x) (ev s y) K := rfl
section
variable {t : Nat} {k k' : IntKind} {a b : Int} {x y : ByteArray}
theorem y0cv : BI C .add t (.v (.int k a)) (.v (.int k b)) K = K (.v (.int k (k.wrap (a + b)))) := by simp [BI, bin, kv]
theorem y0d8 : BI C .sub t (.v (.int k a)) (.v (.int k b)) K = K (.v (.int k (k.wrap (a - b)))) := by simp [BI, bin, kv]
theorem y0d2 : BI C .mul t (.v (.int k a)) (.v (.int k b)) K = K (.v (.int k (k.wrap (a * b)))) := by simp [BI, bin, kv]
theorem y0d4 : BI C .quo t (.v (.int k a)) (.v (.int k b)) K = (b ≠ 0 ∧ K (.v (.int k (k.wrap (a.tdiv b))))) := by simp [BI, bin, kv]
theorem y0d5 : BI C .rem t (.v (.int k a)) (.v (.int k b)) K = (b ≠ 0 ∧ K (.v (.int k (a.tmod b)))) := by simp [BI, bin, kv]
theorem y0cw : BI C .and t (.v (.int k a)) (.v (.int k b)) K = K (.v (.int k (k.wrap ((BitVec.ofInt k.bits a &&& BitVec.ofInt k.bits b).toNat)))) := by simp [BI, bin, kv]
theorem y0jf : BI C .or t (.v (.int k a)) (.v (.int k b)) K = K (.v (.int k (k.wrap ((BitVec.ofInt k.bits a ||| BitVec.ofInt k.bits b).toNat)))) := by simp [BI, bin, kv]
theorem y0d9 : BI C .xor t (.v (.int k a)) (.v (.int k b)) K = K (.v (.int k (k.wrap ((BitVec.ofInt k.bits a ^^^ BitVec.ofInt k.bits b).toNat)))) := by simp [BI, bin, kv]
theorem zoc : BI C .andNot t (.v (.int k a)) (.v (.int k b)) K = K (.v (.int k (k.wrap ((BitVec.ofInt k.bits a &&& ~~~ BitVec.ofInt k.bits b).toNat)))) := by simp [BI, bin, kv]
theorem y0d6 : BI C .shl t (.v (.int k a)) (.v (.int k' b)) K = (0 ≤ b ∧ K (.v (.int k (k.wrap (a * 2 ^ (min b.toNat k.bits)))))) := by simp [BI, bin, kv]
theorem y0d7 : BI C .shr t (.v (.int k a)) (.v (.int k' b)) K = (0 ≤ b ∧ K (.v (.int k (a.fdiv (2 ^ (min b.toNat k.bits)))))) := by simp [BI, bin, kv]
theorem y0cx : BI C .eql t (.v (.int k a)) (.v (.int k b)) K = K (.v (.bool (a == b))) := by simp [BI, bin, kv]
theorem y0d3 : BI C .neq t (.v (.int k a)) (.v (.int k b)) K = K (.v (.bool (a != b))) := by simp [BI, bin, kv]
theorem y0d1 : BI C .lss t (.v (.int k a)) (.v (.int k b)) K = K (.v (.bool (decide (a < b)))) := by simp [BI, bin, kv]
theorem y0d0 : BI C .leq t (.v (.int k a)) (.v (.int k b)) K = K (.v (.bool (decide (a ≤ b)))) := by simp [BI, bin, kv]
theorem y0cz : BI C .gtr t (.v (.int k a)) (.v (.int k b)) K = K (.v (.bool (decide (a > b)))) := by simp [BI, bin, kv]
theorem y0cy : BI C .geq t (.v (.int k a)) (.v (.int k b)) K = K (.v (.bool (decide (a ≥ b)))) := by simp [BI, bin, kv]
theorem y024 : BI C .add t (.v (.string x)) (.v (.string y)) K = (x.data.toList.length + y.data.toList.length ≤ 9223372036854775807 ∧ K (.v (.string ⟨(x.data.toList ++ y.data.toList).toArray⟩))) := rfl
theorem y025 : BI C .eql t (.v (.string x)) (.v (.string y)) K = K (.v (.bool (x.data.toList == y.data.toList))) := rfl
theorem y02a : BI C .neq t (.v (.string x)) (.v (.string y)) K = K (.v (.bool (!(x.data.toList == y.data.toList)))) := rfl
theorem y029 : BI C .lss t (.v (.string x)) (.v (.string y)) K = K (.v (.bool (z4h x.data.toList y.data.toList))) := rfl
theorem y027 : BI C .gtr t (.v (.string x)) (.v (.string y)) K = K (.v (.bool (!(z4h x.data.toList y.data.toList || x.data.toList == y.data.toList)))) := rfl
theorem y028 : BI C .leq t (.v (.string x)) (.v (.string y)) K = K (.v (.bool (z4h x.data.toList y.data.toList || x.data.toList == y.data.toList))) := rfl
theorem y026 : BI C .geq t (.v (.string x)) (.v (.string y)) K = K (.v (.bool (!z4h x.data.toList y.data.toList))) := rfl
theorem y022 (p q : Bool) : BI C .eql t (.v (.bool p)) (.v (.bool q)) K = (C.td t = some .bool ∧ K (.v (.bool (p == q)))) := rfl
theorem y023 (p q : Bool) : BI C .neq t (.v (.bool p)) (.v (.bool q)) K = (C.td t = some .bool ∧ K (.v (.bool (!(p == q))))) := rfl
end
section
variable {t : Nat} {a b c d : Nat}
end
def UN (o : UnOp) (x : AV) (K : AV → Prop) : Prop := match x with | .v a => un o a (kv K) | _ => False
theorem zhf (o : UnOp) (t : Nat) (x : Operand) : z06 C s (.unOp o t x) K = UN o (ev s x) K := rfl
theorem y0ej (b : Bool) : UN .not (.v (.bool b)) K = K (.v (.bool (!b))) := rfl
theorem y0ei (k : IntKind) (n : Int) : UN .neg (.v (.int k n)) K = K (.v (.int k (k.wrap (0 - n)))) := rfl
def EX (x : AV) (i : Nat) (K : AV → Prop) : Prop := match x with | .tup xs => i < xs.length ∧ K (nth xs i) | _ => False
theorem zaa (x : Operand) (i : Nat) : z06 C s (.extract x i) K = EX (ev s x) i K := rfl
theorem y0do (xs : List AV) (i : Nat) : EX (.tup xs) i K = (i < xs.length ∧ K (nth xs i)) := rfl
def PB (agg : Bool) (size : Nat) (cs : List AV) (off : Nat) (K : AV → Prop) : Prop := match agg with
   | true => off + size ≤ cs.length ∧ K (.ag ((cs.drop off).take size))
   | false => off < cs.length ∧ K (nth cs off)
theorem y04b (size off : Nat) (cs : List AV) : PB true size cs off K = (off + size ≤ cs.length ∧ K (.ag ((cs.drop off).take size))) := rfl
theorem zw5 (size off : Nat) (cs : List AV) : PB false size cs off K = (off < cs.length ∧ K (nth cs off)) := rfl
def PO (i : Option TI) (cs : List AV) (off : Nat) (K : AV → Prop) : Prop := match i with | some i => z3e i cs off K | none => False
theorem y04e (i : TI) (cs : List AV) (off : Nat) : PO (some i) cs off K = PB i.agg i.size cs off K := rfl
def IX (C : Ctx) (t : Option TypeDesc) (x i : AV) (K : AV → Prop) : Prop := match t, x, i with
   | some .string, .v (.string b), .v (.int _ j) => 0 ≤ j ∧ j < b.data.toList.length ∧ K (.v (.int .u8 (b.data.toList.getD j.toNat 0).toNat))
   | some (.array n e), .ag cs, .v (.int _ j) => 0 ≤ j ∧ j < n ∧ (match C.ti e with | some ie => z3e ie cs (j.toNat * ie.size) K | none => False)
   | _, _, _ => False
theorem ze5 (t : Nat) (x i : Operand) : z06 C s (.index t x i) K = IX C (C.td t) (ev s x) (ev s i) K := rfl
theorem y0dx (b : ByteArray) (k : IntKind) (j : Int) : IX C (some .string) (.v (.string b)) (.v (.int k j)) K = (0 ≤ j ∧ j < b.data.toList.length ∧ K (.v (.int .u8 (b.data.toList.getD j.toNat 0).toNat))) := rfl
def PI (i : Option TI) (cs : List AV) (j : Nat) (K : AV → Prop) : Prop := match i with | some ie => z3e ie cs (j * ie.size) K | none => False
theorem y04d (i : TI) (cs : List AV) (j : Nat) : PI (some i) cs j K = PB i.agg i.size cs (j * i.size) K := rfl
theorem y0dw (n e : Nat) (cs : List AV) (k : IntKind) (j : Int) : IX C (some (.array n e)) (.ag cs) (.v (.int k j)) K = (0 ≤ j ∧ j < n ∧ PI (C.ti e) cs j.toNat K) := rfl
def IA (C : Ctx) (t : Option TypeDesc) (x i : AV) (K : AV → Prop) : Prop := match t, x, i with
   | some (.slice e), .sl n cs, .v (.int _ j) => 0 ≤ j ∧ j < n ∧ (match C.ti e with | some ie => K (.cp (cs.drop (j.toNat * ie.size))) | none => False)
   | some (.slice e), .ref id off n, .v (.int _ j) => 0 ≤ j ∧ j < n ∧ (match C.ti e with | some ie => K (.ptr id (off + j.toNat * ie.size)) | none => False)
   | some (.array n e), .ptr id off, .v (.int _ j) => 0 ≤ j ∧ j < n ∧ (match C.ti e with | some ie => K (.ptr id (off + j.toNat * ie.size)) | none => False)
   | some (.array n e), .cp cs, .v (.int _ j) => 0 ≤ j ∧ j < n ∧ (match C.ti e with | some ie => K (.cp (cs.drop (j.toNat * ie.size))) | none => False)
   | _, _, _ => False
def IC (i : Option TI) (cs : List AV) (j : Nat) (K : AV → Prop) : Prop := match i with | some ie => K (.cp (cs.drop (j * ie.size))) | none => False
def IP (i : Option TI) (id off j : Nat) (K : AV → Prop) : Prop := match i with | some ie => K (.ptr id (off + j * ie.size)) | none => False
theorem y044 (i : TI) (cs : List AV) (j : Nat) : IC (some i) cs j K = K (.cp (cs.drop (j * i.size))) := rfl
theorem y045 (i : TI) (id off j : Nat) : IP (some i) id off j K = K (.ptr id (off + j * i.size)) := rfl
theorem z7v (t : Nat) (x i : Operand) : z06 C s (.indexAddr t x i) K = IA C (C.td t) (ev s x) (ev s i) K := rfl
section
variable (e n id off : Nat) (cs : List AV) (k : IntKind) (j : Int)
theorem y0jw : IA C (some (.slice e)) (.sl n cs) (.v (.int k j)) K = (0 ≤ j ∧ j < n ∧ IC (C.ti e) cs j.toNat K) := rfl
theorem y0dv : IA C (some (.slice e)) (.ref id off n) (.v (.int k j)) K = (0 ≤ j ∧ j < n ∧ IP (C.ti e) id off j.toNat K) := rfl
theorem y0du : IA C (some (.array n e)) (.ptr id off) (.v (.int k j)) K = (0 ≤ j ∧ j < n ∧ IP (C.ti e) id off j.toNat K) := rfl
theorem y0jv : IA C (some (.array n e)) (.cp cs) (.v (.int k j)) K = (0 ≤ j ∧ j < n ∧ IC (C.ti e) cs j.toNat K) := rfl
end
def LO (i : TI) (o : Ob) (off : Nat) (K : AV → Prop) : Prop := match o with
     | .arr _ _ cs => z3e i cs off K
     | .row _ _ cs => z3e i cs off K
     | _ => False
def LD (s : St) (i : Option TI) (x : AV) (K : AV → Prop) : Prop := match i, x with
   | some i, .cp cs => z3e i cs 0 K
   | some i, .ptr id off => LO i (obj s.m id) off K
   | _, _ => False
theorem zhd (t : Nat) (x : Operand) : z06 C s (.load t x) K = LD s (C.ti t) (ev s x) K := rfl
theorem y0jx (i : TI) (cs : List AV) : LD s (some i) (.cp cs) K = PB i.agg i.size cs 0 K := rfl
theorem y0dy (i : TI) (id off : Nat) : LD s (some i) (.ptr id off) K = LO i (obj s.m id) off K := rfl
theorem y0dz (i : TI) (e sz off : Nat) (cs : List AV) : LO i (.arr e sz cs) off K = PB i.agg i.size cs off K := rfl
theorem y0e0 (i : TI) (r : Bool) (sz off : Nat) (cs : List AV) : LO i (.row r sz cs) off K = PB i.agg i.size cs off K := rfl
def FD (f : Option (Nat × TI)) (x : AV) (K : AV → Prop) : Prop := match f, x with | some (o, i), .ag cs => z3e i cs o K | _, _ => False
theorem ze4 (t : Nat) (x : Operand) (f : Nat) : z06 C s (.field t x f) K = FD (C.fld t f) (ev s x) K := rfl
theorem y0jk (o : Nat) (i : TI) (cs : List AV) : FD (some (o, i)) (.ag cs) K = PB i.agg i.size cs o K := rfl
def FA (f : Option (Nat × TI)) (x : AV) (K : AV → Prop) : Prop := match f, x with
   | some (o, i), .cp cs => 0 < i.size ∧ K (.cp (cs.drop o))
   | some (o, i), .ptr id off => 0 < i.size ∧ K (.ptr id (off + o))
   | _, _ => False
theorem z7u (t : Nat) (x : Operand) (f : Nat) : z06 C s (.fieldAddr t x f) K = FA (C.fld t f) (ev s x) K := rfl
theorem y0jj (o : Nat) (i : TI) (cs : List AV) : FA (some (o, i)) (.cp cs) K = (0 < i.size ∧ K (.cp (cs.drop o))) := rfl
theorem y0dq (o : Nat) (i : TI) (id off : Nat) : FA (some (o, i)) (.ptr id off) K = (0 < i.size ∧ K (.ptr id (off + o))) := rfl
def NC (x : AV) (K : AV → Prop) : Prop := match x with | .cp cs => K (.cp cs) | .ptr id off => K (.ptr id off) | _ => False
theorem z8q (x : Operand) : z06 C s (.nilCheck x) K = NC (ev s x) K := rfl
theorem y0k1 (cs : List AV) : NC (.cp cs) K = K (.cp cs) := rfl
theorem y0e4 (id off : Nat) : NC (.ptr id off) K = K (.ptr id off) := rfl
theorem z8p (f : FuncId) (a b : Array Operand) : z06 C s (.makeFunc (.func f) a b) K = K (.fn f (a.toList.map (ev s)) (b.toList.map (ev s))) := rfl
def CB2 (n : Nat) (l : Option (List UInt8)) (K : AV → Prop) : Prop := match l with | some l => n = l.length ∧ K (.v (.string ⟨l.toArray⟩)) | none => False
def CB (x : Option (Nat × List AV)) (K : AV → Prop) : Prop := match x with | some (n, cs) => CB2 n (z3m cs) K | none => False
def CV (C : Ctx) (s : St) (t u : Option TypeDesc) (x : AV) (K : AV → Prop) : Prop := match t, u, x with
   | some _, some (.int k), .v (.int _ n) => K (.v (.int k (k.wrap n)))
   | some .string, some .string, .v (.string b) => K (.v (.string b))
   | some (.int _), some .string, .v (.int _ n) => K (.v (.string ⟨(Utf8.encode n).data.toList.toArray⟩))
   | some _, some (.float .f64), .v (.int _ n) => K (.v (.float .f64 (FloatKind.f64.nearest n)))
   | some _, some (.int k), .v (.float .f64 b) => f2i k b (kv K)
   | some (.slice e), some .string, x => C.td e = some (.int .u8) ∧ CB (z2q s 1 x) K
   | _, _, _ => False
theorem z6b (t u : Nat) (x : Operand) : z06 C s (.convert t u x) K = CV C s (C.td t) (C.td u) (ev s x) K := by
 unfold z06 CV CB CB2
 rfl
theorem y0di (k0 k k1 : IntKind) (n : Int) : CV C s (some (.int k0)) (some (.int k)) (.v (.int k1 n)) K = K (.v (.int k (k.wrap n))) := rfl
theorem y0dj (b : ByteArray) : CV C s (some .string) (some .string) (.v (.string b)) K = K (.v (.string b)) := rfl
theorem y03s (k0 k1 : IntKind) (n : Int) : CV C s (some (.int k0)) (some .string) (.v (.int k1 n)) K = K (.v (.string ⟨(Utf8.encode n).data.toList.toArray⟩)) := rfl
theorem zvs (e : Nat) (x : AV) : CV C s (some (.slice e)) (some .string) x K = (C.td e = some (.int .u8) ∧ CB (z2q s 1 x) K) := rfl
theorem y03r (n : Nat) (cs : List AV) : CB (some (n, cs)) K = CB2 n (z3m cs) K := rfl
theorem zvr (n : Nat) (l : List UInt8) : CB2 n (some l) K = (n = l.length ∧ K (.v (.string ⟨l.toArray⟩))) := rfl
def CW (C : Ctx) (s : St) (d : Option Nat) (t u : Option TypeDesc) (x : AV) (L : St → Prop) : Prop := match t, u, x with
   | some .string, some (.slice e), .v (.string b) => y01f s d e (C.td e) b L
   | _, _, _ => CV C s t u x (kput s d L)
theorem zee (t u : Nat) (x : Operand) : z4f C P s d (.convert t u x) ty L = CW C s d (C.td t) (C.td u) (ev s x) L := by
 unfold z4f CW z5q
 simp only [z6b]
 split <;> first
   | rfl
   | (split <;> simp_all <;> (intros; exact Iff.rfl))
theorem y0dk (k0 k k1 : IntKind) (n : Int) : CW C s d (some (.int k0)) (some (.int k)) (.v (.int k1 n)) L = L ⟨putD s.t d (.v (.int k (k.wrap n))), s.m⟩ := rfl
theorem y0dl (b : ByteArray) : CW C s d (some .string) (some .string) (.v (.string b)) L = L ⟨putD s.t d (.v (.string b)), s.m⟩ := rfl
theorem y03t (k0 k1 : IntKind) (n : Int) : CW C s d (some (.int k0)) (some .string) (.v (.int k1 n)) L = L ⟨putD s.t d (.v (.string ⟨(Utf8.encode n).data.toList.toArray⟩)), s.m⟩ := rfl
theorem zvt (e : Nat) (x : AV) : CW C s d (some (.slice e)) (some .string) x L = (C.td e = some (.int .u8) ∧ CB (z2q s 1 x) (kput s d L)) := rfl
theorem zje (e : Nat) (b : ByteArray) : CW C s d (some .string) (some (.slice e)) (.v (.string b)) L = y01f s d e (C.td e) b L := rfl
theorem zz2 (e : Nat) (b : ByteArray) : y01f s d e (some (.int .u8)) b L = (b.data.toList.length ≤ 4611686018427387904 ∧ L (z33 s d (.ref s.m.length 0 b.data.toList.length) (.row false 1 (b.data.toList.map U8)))) := rfl
theorem zrc (e : Nat) (b : ByteArray) : y01f s d e (some (.int .i32)) b L = (b.data.toList.length ≤ 70368744177664 ∧ L (z33 s d (.ref s.m.length 0 (z4m b.data.toList).length) (.arr e 1 ((z4m b.data.toList).map AV.v)))) := rfl
def CR (o : Ob) (off len sz : Nat) : Option (Nat × List AV) := match o with
   | .arr _ _ cs => some (len, (cs.drop off).take (len * sz))
   | .row false _ cs => some (len, (cs.drop off).take (len * sz))
   | _ => none
theorem zjp (sz n : Nat) (cs : List AV) : z2q s sz (.sl n cs) = some (n, cs) := rfl
theorem zft (sz : Nat) : z2q s sz (.v (.slice none 0 0)) = some (0, []) := rfl
theorem zfs (sz b o c : Nat) : z2q s sz (.v (.slice (some ⟨b, o, none⟩) 0 c)) = some (0, []) := rfl
theorem zfu (sz id off len : Nat) : z2q s sz (.ref id off len) = CR (obj s.m id) off len sz := rfl
theorem y0dg (e z off len sz : Nat) (cs : List AV) : CR (.arr e z cs) off len sz = some (len, (cs.drop off).take (len * sz)) := rfl
theorem y0dh (z off len sz : Nat) (cs : List AV) : CR (.row false z cs) off len sz = some (len, (cs.drop off).take (len * sz)) := rfl
def S1 (b : List UInt8) (lo hi : Option AV) (K : AV → Prop) : Prop := match lo, hi with
     | none, none => K (.v (.string ⟨b.toArray⟩))
     | some (.v (.int _ l)), none => 0 ≤ l ∧ l ≤ b.length ∧ K (.v (.string ⟨(b.drop l.toNat).toArray⟩))
     | none, some (.v (.int _ h)) => 0 ≤ h ∧ h ≤ b.length ∧ K (.v (.string ⟨(b.take h.toNat).toArray⟩))
     | some (.v (.int _ l)), some (.v (.int _ h)) => 0 ≤ l ∧ l ≤ h ∧ h ≤ b.length ∧ K (.v (.string ⟨((b.take h.toNat).drop l.toNat).toArray⟩))
     | _, _ => False
def S2 (n sz : Nat) (cs : List AV) (lo hi : Option AV) (K : AV → Prop) : Prop := match lo, hi with
       | none, none => K (.sl n cs)
       | some (.v (.int _ l)), none => 0 ≤ l ∧ l ≤ n ∧ cs.length = n * sz ∧ K (.sl (n - l.toNat) (cs.drop (l.toNat * sz)))
       | none, some (.v (.int _ h)) => 0 ≤ h ∧ h ≤ n ∧ cs.length = n * sz ∧ K (.sl h.toNat (cs.take (h.toNat * sz)))
       | some (.v (.int _ l)), some (.v (.int _ h)) => 0 ≤ l ∧ l ≤ h ∧ h ≤ n ∧ cs.length = n * sz ∧ K (.sl (h.toNat - l.toNat) ((cs.take (h.toNat * sz)).drop (l.toNat * sz)))
       | _, _ => False
def S3 (id off n sz : Nat) (lo hi : Option AV) (K : AV → Prop) : Prop := match lo, hi with
       | none, none => K (.ref id off n)
       | some (.v (.int _ l)), none => 0 ≤ l ∧ l ≤ n ∧ 0 < sz ∧ K (.ref id (off + l.toNat * sz) (n - l.toNat))
       | none, some (.v (.int _ h)) => 0 ≤ h ∧ h ≤ n ∧ K (.ref id off h.toNat)
       | some (.v (.int _ l)), some (.v (.int _ h)) => 0 ≤ l ∧ l ≤ h ∧ h ≤ n ∧ 0 < sz ∧ K (.ref id (off + l.toNat * sz) (h.toNat - l.toNat))
       | _, _ => False
def S2o (i : Option TI) (n : Nat) (cs : List AV) (lo hi : Option AV) (K : AV → Prop) : Prop := match i with | some i => S2 n i.size cs lo hi K | none => False
def S3o (i : Option TI) (id off n : Nat) (lo hi : Option AV) (K : AV → Prop) : Prop := match i with | some i => S3 id off n i.size lo hi K | none => False
theorem zwb (i : TI) (n : Nat) (cs : List AV) (lo hi : Option AV) : S2o (some i) n cs lo hi K = S2 n i.size cs lo hi K := rfl
theorem zwc (i : TI) (id off n : Nat) (lo hi : Option AV) : S3o (some i) id off n lo hi K = S3 id off n i.size lo hi K := rfl
def SL (C : Ctx) (t : Option TypeDesc) (x : AV) (lo hi : Option AV) (K : AV → Prop) : Prop := match t, x with
   | some .string, .v (.string b) => S1 b.data.toList lo hi K
   | some (.slice e), .sl n cs => S2o (C.ti e) n cs lo hi K
   | some (.slice e), .ref id off n => S3o (C.ti e) id off n lo hi K
   | _, _ => False
theorem ze6 (t : Nat) (x : Operand) (lo hi : Option Operand) : z06 C s (.slice t x lo hi none) K = SL C (C.td t) (ev s x) (lo.map (ev s)) (hi.map (ev s)) K := rfl
theorem y0ef (b : ByteArray) (lo hi : Option AV) : SL C (some .string) (.v (.string b)) lo hi K = S1 b.data.toList lo hi K := rfl
theorem y0kc (e n : Nat) (cs : List AV) (lo hi : Option AV) : SL C (some (.slice e)) (.sl n cs) lo hi K = S2o (C.ti e) n cs lo hi K := rfl
theorem y0ee (e id off n : Nat) (lo hi : Option AV) : SL C (some (.slice e)) (.ref id off n) lo hi K = S3o (C.ti e) id off n lo hi K := rfl
section
variable (b : List UInt8) (k k' : IntKind) (l h : Int) (n sz id off : Nat) (cs : List AV)
theorem y0eb : S1 b none none K = K (.v (.string ⟨b.toArray⟩)) := rfl
theorem y0k7 : S1 b (some (.v (.int k l))) none K = (0 ≤ l ∧ l ≤ b.length ∧ K (.v (.string ⟨(b.drop l.toNat).toArray⟩))) := rfl
theorem y0k6 : S1 b none (some (.v (.int k h))) K = (0 ≤ h ∧ h ≤ b.length ∧ K (.v (.string ⟨(b.take h.toNat).toArray⟩))) := rfl
theorem y04k : S1 b (some (.v (.int k l))) (some (.v (.int k' h))) K = (0 ≤ l ∧ l ≤ h ∧ h ≤ b.length ∧ K (.v (.string ⟨((b.take h.toNat).drop l.toNat).toArray⟩))) := rfl
theorem y0ec : S2 n sz cs none none K = K (.sl n cs) := rfl
theorem y0k9 : S2 n sz cs (some (.v (.int k l))) none K = (0 ≤ l ∧ l ≤ n ∧ cs.length = n * sz ∧ K (.sl (n - l.toNat) (cs.drop (l.toNat * sz)))) := rfl
theorem y0k8 : S2 n sz cs none (some (.v (.int k h))) K = (0 ≤ h ∧ h ≤ n ∧ cs.length = n * sz ∧ K (.sl h.toNat (cs.take (h.toNat * sz)))) := rfl
theorem y04l : S2 n sz cs (some (.v (.int k l))) (some (.v (.int k' h))) K = (0 ≤ l ∧ l ≤ h ∧ h ≤ n ∧ cs.length = n * sz ∧ K (.sl (h.toNat - l.toNat) ((cs.take (h.toNat * sz)).drop (l.toNat * sz)))) := rfl
theorem y0ed : S3 id off n sz none none K = K (.ref id off n) := rfl
theorem y0kb : S3 id off n sz (some (.v (.int k l))) none K = (0 ≤ l ∧ l ≤ n ∧ 0 < sz ∧ K (.ref id (off + l.toNat * sz) (n - l.toNat))) := rfl
theorem y0ka : S3 id off n sz none (some (.v (.int k h))) K = (0 ≤ h ∧ h ≤ n ∧ K (.ref id off h.toNat)) := rfl
theorem y04m : S3 id off n sz (some (.v (.int k l))) (some (.v (.int k' h))) K = (0 ≤ l ∧ l ≤ h ∧ h ≤ n ∧ 0 < sz ∧ K (.ref id (off + l.toNat * sz) (h.toNat - l.toNat))) := rfl
end
def LN (i : Option TI) (x : AV) (K : AV → Prop) : Prop := match i with | some i => zd7 i.d x K | none => False
theorem y046 (i : TI) (x : AV) : LN (some i) x K = zd7 i.d x K := rfl
theorem zl9 (x : Operand) (t : Nat) : z06 C s (.call { callee := .builtin .len, args := [x].toArray, argTypes := [t].toArray }) K = LN (C.ti t) (ev s x) K := rfl
theorem zdr (b : ByteArray) : zd7 .string (.v (.string b)) K = K (.v (.int .i64 b.data.toList.length)) := rfl
theorem zxm (e n : Nat) (cs : List AV) : zd7 (.slice e) (.sl n cs) K = K (.v (.int .i64 n)) := rfl
theorem zpq (e : Nat) : zd7 (.slice e) (.v (.slice none 0 0)) K = K (.v (.int .i64 0)) := rfl
theorem zpr (e id off n : Nat) : zd7 (.slice e) (.ref id off n) K = K (.v (.int .i64 n)) := rfl
theorem zgw (n e : Nat) (x : AV) : zd7 (.array n e) x K = K (.v (.int .i64 n)) := by cases x <;> rfl
def MN (x y : AV) (K : AV → Prop) : Prop := match [x, y] with | [.v (.int k a), .v (.int k' b)] => k = k' ∧ K (.v (.int k (if b < a then b else a))) | _ => False
def MX (x y : AV) (K : AV → Prop) : Prop := match [x, y] with | [.v (.int k a), .v (.int k' b)] => k = k' ∧ K (.v (.int k (if b > a then b else a))) | _ => False
theorem zlb (x y : Operand) (t : Array Nat) : z06 C s (.call { callee := .builtin .min, args := [x, y].toArray, argTypes := t }) K = MN (ev s x) (ev s y) K := rfl
theorem zla (x y : Operand) (t : Array Nat) : z06 C s (.call { callee := .builtin .max, args := [x, y].toArray, argTypes := t }) K = MX (ev s x) (ev s y) K := rfl
theorem y0e1 (k : IntKind) (a b : Int) : MN (.v (.int k a)) (.v (.int k b)) K = K (.v (.int k (if b < a then b else a))) := by simp [MN]
theorem y0e3 (k : IntKind) (a b : Int) : MX (.v (.int k a)) (.v (.int k b)) K = K (.v (.int k (if b > a then b else a))) := by simp [MX]
def BU2 (s : St) (d : Option Nat) (e len : Nat) (ps : List (Nat × AV)) (i : Option TI) (L : St → Prop) : Prop := match i with
     | some i => ps.length = len ∧ 0 < i.size ∧ len * i.size ≤ 16777216 ∧ zpt s d len e i.size ps L (loose ps)
     | none => False
def BU (C : Ctx) (s : St) (d : Option Nat) (len : Nat) (ps : List (Nat × AV)) (t : Option TypeDesc) (L : St → Prop) : Prop := match t with
   | some (.slice e) => BU2 s d e len ps (C.ti e) L
   | _ => False
theorem z95 (t len : Nat) (ps : Array (Nat × Operand)) : z4f C P s d (.buildSlice t len ps) ty L = BU C s d len (ps.toList.map fun p => (p.1, ev s p.2)) (C.td t) L := by
 unfold z4f z5q BU BU2
 simp only [List.length_map]
 generalize C.td t = o
 cases o with
 | none => rfl
 | some x => cases x <;> first | rfl | (rename_i e; show (match C.ti e with | some _ => _ | none => _) = (match C.ti e with | some _ => _ | none => _); cases C.ti e <;> rfl)
theorem zum (len : Nat) (ps : List (Nat × AV)) (e : Nat) : BU C s d len ps (some (.slice e)) L = BU2 s d e len ps (C.ti e) L := rfl
theorem zul (len : Nat) (ps : List (Nat × AV)) (e : Nat) (i : TI) : BU2 s d e len ps (some i) L = (ps.length = len ∧ 0 < i.size ∧ len * i.size ≤ 16777216 ∧ zpt s d len e i.size ps L (loose ps)) := rfl
theorem zpw : loose [] = false := rfl
theorem zku (j : Nat) (x : AV) (l : List (Nat × AV)) : loose ((j, x) :: l) = (!(z0i x).all solid || loose l) := rfl
theorem zdt (len e sz : Nat) (ps : List (Nat × AV)) : zpt s d len e sz ps L false = z29 sz 0 ps (klit s d len e sz L) := rfl
theorem zgx (len e sz : Nat) (ps : List (Nat × AV)) : zpt s d len e sz ps L true = zc2 sz 0 ps (y0bb s d len sz L) := rfl
theorem zkn (sz i : Nat) (M : List AV → Prop) : zc2 sz i [] M = M [] := rfl
theorem zgy (sz i j : Nat) (x : AV) (l : List (Nat × AV)) (M : List AV → Prop) : zc2 sz i ((j, x) :: l) M = (j = i ∧ (z0i x).length = sz ∧ (z0i x).all z78 = true ∧ zc2 sz (i + 1) l (kapp M (z0i x))) := rfl
theorem zxj (len sz : Nat) (cs : List AV) : y0bb s d len sz L cs = L (z33 s d (.ref s.m.length 0 len) (.row true sz cs)) := rfl
theorem zdu (sz i : Nat) (M : List AV → Prop) : z29 sz i [] M = M [] := rfl
theorem zc1 (sz i j : Nat) (x : AV) (l : List (Nat × AV)) (M : List AV → Prop) : z29 sz i ((j, x) :: l) M = (j = i ∧ (z0i x).length = sz ∧ (z0i x).all (fun c => z78 c && solid c) = true ∧ z29 sz (i + 1) l (kapp M (z0i x))) := rfl
theorem zon (x : Value) : z0i (.v x) = [.v x] := rfl
theorem zjo (n : Nat) (cs : List AV) : z0i (.sl n cs) = [.sl n cs] := rfl
theorem zjl (cs : List AV) : z0i (.cp cs) = [.cp cs] := rfl
theorem zfr (id off n : Nat) : z0i (.ref id off n) = [.ref id off n] := rfl
theorem zfq (id off : Nat) : z0i (.ptr id off) = [.ptr id off] := rfl
theorem zjm (f : FuncId) (a b : List AV) : z0i (.fn f a b) = [.fn f a b] := rfl
theorem zjk (cs : List AV) : z0i (.ag cs) = cs := rfl
def BX (i : Option TI) (s : St) (d : Option Nat) (cs : List AV) (L : St → Prop) : Prop := match i with
   | some _ => cs.all z78 = true ∧ L (z33 s d (.ptr s.m.length 0) (.row true 1 cs))
   | none => False
theorem zz5 (t : Nat) (x : Operand) : z4f C P s d (.box t x) ty L = BX (C.ti t) s d (z0i (ev s x)) L := rfl
theorem y02c (i : TI) (cs : List AV) : BX (some i) s d cs L = (cs.all z78 = true ∧ L (z33 s d (.ptr s.m.length 0) (.row true 1 cs))) := rfl
def AL (i : Option TI) (s : St) (d : Option Nat) (L : St → Prop) : Prop := match i with
   | some i => L (z33 s d (.ptr s.m.length 0) (.row true 1 (i.zero.cells.toList.map .v))) ∧ i.zero.cells.all (·.oneCell') = true
   | none => False
theorem zmb (t : Nat) : z4f C P s d (.alloc t) ty L = AL (C.ti t) s d L := rfl
theorem y01q (i : TI) : AL (some i) s d L = (L (z33 s d (.ptr s.m.length 0) (.row true 1 (i.zero.cells.toList.map .v))) ∧ i.zero.cells.all (·.oneCell') = true) := rfl
def AP4 (s : St) (d : Option Nat) (i : TI) (e : Nat) (x : AV) (y : Option (Nat × List AV)) (L : St → Prop) : Prop := match y with
   | some (n, ncs) => zey s d i e x n ncs L
   | none => False
def AP2 (s : St) (d : Option Nat) (i : Option TI) (e : Nat) (x y : AV) (L : St → Prop) : Prop := match i with
   | some i => AP4 s d i e x (z2q s i.size y) L
   | none => False
def AP (C : Ctx) (s : St) (d : Option Nat) (t : Option TypeDesc) (x y : AV) (L : St → Prop) : Prop := match t with
   | some (.slice e) => AP2 s d (C.ti e) e x y L
   | _ => False
theorem zi9 (x y : Operand) (t : Nat) : z4f C P s d (.call { callee := .builtin .append, args := [x, y].toArray, argTypes := [t, t].toArray }) ty L = AP C s d (C.td t) (ev s x) (ev s y) L := by
 unfold z4f z5q AP AP2 AP4
 simp only [List.map_cons, List.map_nil, true_and]
 generalize C.td t = o
 cases o with
 | none => rfl
 | some x => cases x <;> first | rfl | (rename_i e; show (match C.ti e with | some _ => _ | none => _) = (match C.ti e with | some _ => _ | none => _); cases C.ti e <;> rfl)
theorem zu9 (e : Nat) (x y : AV) : AP C s d (some (.slice e)) x y L = AP2 s d (C.ti e) e x y L := rfl
theorem zu8 (i : TI) (e : Nat) (x y : AV) : AP2 s d (some i) e x y L = AP4 s d i e x (z2q s i.size y) L := rfl
def AP5 (s : St) (d : Option Nat) (i : TI) (e id len n : Nat) (ncs : List AV) (o : Ob) (L : St → Prop) : Prop := match o with
   | .arr e' sz cs => e' = e ∧ sz = i.size ∧ cs.length = len * sz ∧ ncs.length = n * i.size ∧ len + n ≤ 4611686018427387904 ∧ (len + n) * i.bytes ≤ 140737488355328 ∧
       L ⟨putD (z69 id s.t) d (.ref id 0 (len + n)), z1d (z3o id s.m) id (.arr e sz (cs ++ ncs))⟩
   | _ => False
theorem y01s (i : TI) (e id len n : Nat) (ncs : List AV) : AP4 s d i e (.ref id 0 len) (some (n, ncs)) L = AP5 s d i e id len n ncs (obj s.m id) L := rfl
theorem y01r (i : TI) (e n : Nat) (ncs : List AV) : AP4 s d i e (.v (.slice none 0 0)) (some (n, ncs)) L = (ncs.length = n * i.size ∧ 0 < i.size ∧ n ≤ 4611686018427387904 ∧ n * i.bytes ≤ 140737488355328 ∧ L (z33 s d (.ref s.m.length 0 n) (.arr e i.size ncs))) := rfl
theorem y01t (i : TI) (e e' sz id len n : Nat) (cs ncs : List AV) : AP5 s d i e id len n ncs (.arr e' sz cs) L = (e' = e ∧ sz = i.size ∧ cs.length = len * sz ∧ ncs.length = n * i.size ∧ len + n ≤ 4611686018427387904 ∧ (len + n) * i.bytes ≤ 140737488355328 ∧
       L ⟨putD (z69 id s.t) d (.ref id 0 (len + n)), z1d (z3o id s.m) id (.arr e sz (cs ++ ncs))⟩) := rfl
def ST2 (s : St) (d : Option Nat) (i : TI) (id off : Nat) (xs : List AV) (o : Ob) (L : St → Prop) : Prop := match o with
     | .arr e sz cs => xs.length = i.size ∧ off + i.size ≤ cs.length ∧ xs.all (fun c => z78 c && solid c) = true ∧
         L ⟨putD s.t d .junk, z1d s.m id (.arr e sz (setCells cs off xs))⟩
     | .row true sz cs => xs.length = i.size ∧ off + i.size ≤ cs.length ∧ xs.all z78 = true ∧
         L ⟨putD s.t d .junk, z1d s.m id (.row true sz (setCells cs off xs))⟩
     | .row false sz cs => xs.length = i.size ∧ off + i.size ≤ cs.length ∧ xs.all (fun c => z78 c && solid c) = true ∧
         L ⟨putD s.t d .junk, z1d s.m id (.row false sz (setCells cs off xs))⟩
     | _ => False
def ST (s : St) (d : Option Nat) (i : Option TI) (p : AV) (xs : List AV) (L : St → Prop) : Prop := match i, p with
   | some i, .ptr id off => ST2 s d i id off xs (obj s.m id) L
   | _, _ => False
theorem zmi (t : Nat) (p x : Operand) : z4f C P s d (.store t p x) ty L = ST s d (C.ti t) (ev s p) (z0i (ev s x)) L := rfl
theorem y0eg (i : TI) (id off : Nat) (xs : List AV) : ST s d (some i) (.ptr id off) xs L = ST2 s d i id off xs (obj s.m id) L := rfl
theorem y04n (i : TI) (id off e sz : Nat) (cs xs : List AV) : ST2 s d i id off xs (.arr e sz cs) L = (xs.length = i.size ∧ off + i.size ≤ cs.length ∧ xs.all (fun c => z78 c && solid c) = true ∧
         L ⟨putD s.t d .junk, z1d s.m id (.arr e sz (setCells cs off xs))⟩) := rfl
theorem zwe (i : TI) (id off sz : Nat) (cs xs : List AV) : ST2 s d i id off xs (.row true sz cs) L = (xs.length = i.size ∧ off + i.size ≤ cs.length ∧ xs.all z78 = true ∧
         L ⟨putD s.t d .junk, z1d s.m id (.row true sz (setCells cs off xs))⟩) := rfl
theorem zwd (i : TI) (id off sz : Nat) (cs xs : List AV) : ST2 s d i id off xs (.row false sz cs) L = (xs.length = i.size ∧ off + i.size ≤ cs.length ∧ xs.all (fun c => z78 c && solid c) = true ∧
         L ⟨putD s.t d .junk, z1d s.m id (.row false sz (setCells cs off xs))⟩) := rfl
def RG (s : St) (d : Option Nat) (t : Option TypeDesc) (x : AV) (L : St → Prop) : Prop := match t, x with
   | some .string, .v (.string b) => L (z33 s d (.ptr s.m.length 0) (.it b.data.toList 0))
   | _, _ => False
theorem zmg (t : Nat) (x : Operand) : z4f C P s d (.range t x) ty L = RG s d (C.td t) (ev s x) L := rfl
theorem y0ea (b : ByteArray) : RG s d (some .string) (.v (.string b)) L = L (z33 s d (.ptr s.m.length 0) (.it b.data.toList 0)) := rfl
def NX2 (s : St) (d : Option Nat) (id : Nat) (o : Ob) (L : St → Prop) : Prop := match o with
     | .it t pos => wg (decide (pos < t.length))
         (L ⟨putD s.t d (.tup [.v (.bool true), .v (.int .i64 pos), .v (.int .i32 (Utf8.decode ⟨t.toArray⟩ pos).1)]), z1d s.m id (.it t (pos + (Utf8.decode ⟨t.toArray⟩ pos).2))⟩)
         (L ⟨putD s.t d (.tup [.v (.bool false)]), s.m⟩)
     | _ => False
def NX (s : St) (d : Option Nat) (x : AV) (L : St → Prop) : Prop := match x with | .ptr id 0 => NX2 s d id (obj s.m id) L | _ => False
theorem zrk (it : Operand) : z4f C P s d (.next it true) ty L = NX s d (ev s it) L := rfl
theorem y0e6 (id : Nat) : NX s d (.ptr id 0) L = NX2 s d id (obj s.m id) L := rfl
theorem y0e5 (id : Nat) (t : List UInt8) (pos : Nat) : NX2 s d id (.it t pos) L = WG (decide (pos < t.length))
         (L ⟨putD s.t d (.tup [.v (.bool true), .v (.int .i64 pos), .v (.int .i32 (Utf8.decode ⟨t.toArray⟩ pos).1)]), z1d s.m id (.it t (pos + (Utf8.decode ⟨t.toArray⟩ pos).2))⟩)
         (L ⟨putD s.t d (.tup [.v (.bool false)]), s.m⟩) := (zie _ _ _).symm
def GO (C : Ctx) (P : Program) (ops : List Oper) (Q : Exit → St → Prop) (os : List Oper) (k : Option Nat) (want : Bool) (d : Option Nat) (op : Op) (ty : Nat) (s : St) : Prop := match k with
   | none => False
   | some k => GD C P ops Q os (get s.t k) k want d op ty s
def GP (C : Ctx) (P : Program) (ops : List Oper) (Q : Exit → St → Prop) (os : List Oper) (ph : Ph) (k : Option Nat) (want : Bool) (d : Option Nat) (op : Op) (s : St) : Prop := match k with
   | none => False
   | some k => GQ C P ops Q os ph (get s.t k) k want d op s
section
variable (ops os : List Oper) (op : Op) (pos : String) (af : Array Edge) (j k : Nat) (want : Bool)
theorem zba : WR C P ops Q ({ dst := d, op := op, type := ty, pos := pos, after := af, guard := some (j, true) } :: os) s = GO C P ops Q os (z6k ops j) true d op ty s := y0g5 ..
theorem za1 : WR C P ops Q ({ dst := d, op := op, type := ty, pos := pos, after := af, guard := some (j, false) } :: os) s = GO C P ops Q os (z6k ops j) false d op ty s := y0a9 ..
theorem zb9 (ph : Ph) : QR C P ops Q ({ dst := d, op := op, type := ty, pos := pos, after := af, guard := some (j, true) } :: os) ph s = QK C P ops Q os ph d op ty (GP C P ops Q os ph (z6k ops j) true d op s) s (z19 op) := y0g3 ..
theorem za0 (ph : Ph) : QR C P ops Q ({ dst := d, op := op, type := ty, pos := pos, after := af, guard := some (j, false) } :: os) ph s = QK C P ops Q os ph d op ty (GP C P ops Q os ph (z6k ops j) false d op s) s (z19 op) := y0a8 ..
theorem y040 : GO C P ops Q os (some k) want d op ty s = GD C P ops Q os (get s.t k) k want d op ty s := rfl
theorem y041 (ph : Ph) : GP C P ops Q os ph (some k) want d op s = GQ C P ops Q os ph (get s.t k) k want d op s := rfl
end
def EO (id n : Nat) (used : List Nat) (o : Ob) (K : AV → List Nat → Prop) : Prop := match o with
   | .arr e sz cs => used.contains id = false ∧ cs.length = n * sz ∧ K (.own e sz n cs) (used ++ [id])
   | _ => False
section
variable {M : AV → List Nat → Prop} {M2 : List AV → List Nat → Prop} (u : List Nat)
theorem zx1 (id n : Nat) : zzu s u (.ref id 0 n) M = EO id n u (obj s.m id) M := rfl
theorem y0dn (id n e sz : Nat) (cs : List AV) : EO id n u (.arr e sz cs) M = (u.contains id = false ∧ cs.length = n * sz ∧ M (.own e sz n cs) (u ++ [id])) := rfl
theorem y0es (x : Value) : zzu s u (.v x) M = M (.v x) u := rfl
theorem y06h (n : Nat) (cs : List AV) : zzu s u (.sl n cs) M = M (.sl n cs) u := rfl
theorem y06e (cs : List AV) : zzu s u (.cp cs) M = M (.cp cs) u := rfl
theorem y06g (es : List (Value × AV)) : zzu s u (.mp es) M = M (.mp es) u := rfl
theorem y06d (xs : List AV) : zzu s u (.ag xs) M = zge s u xs fun ys u => M (.ag ys) u := rfl
theorem y06f (f : FuncId) (a b : List AV) : zzu s u (.fn f a b) M = ((namess a || namess b) = false ∧ M (.fn f a b) u) := rfl
theorem zp6 : zge s u [] M2 = M2 [] u := rfl
theorem zk3 (x : AV) (l : List AV) : zge s u (x :: l) M2 = zzu s u x fun y u => zge s u l fun ys u' => M2 (y :: ys) u' := rfl
theorem zyo (z : Bool) (ts : List ResultVar) (r : AV) : y0jd C z ts r .ret s = zes C s ts (y0a1 z s r) := rfl
theorem zhn (z : Bool) (ts : List ResultVar) (r : AV) : y0jd C z ts r .normal s = zes C s ts (y0a1 z s r) := rfl
theorem zqr (K : List AV → Prop) : zes C s [] K = K [] := rfl
theorem zlm (r : ResultVar) (rs : List ResultVar) (K : List AV → Prop) : zes C s (r :: rs) K = y0n3 C s r fun x => zes C s rs fun xs => K (x :: xs) := rfl
theorem zyn (t : Nat) (K : AV → Prop) : y0n3 C s (.tmp t) K = K (get s.t t) := rfl
theorem zqq (p t : Nat) (K : AV → Prop) : y0n3 C s (.cell p t) K = z06 C s (.load t (.tmp p)) K := rfl
theorem zp4 (r : AV) : y0a1 false s r [] = (.tup [] = r) := rfl
theorem zx2 (r x : AV) : y0a1 false s r [x] = zzu s [] x fun y _ => y = r := rfl
theorem zp3 (r x y : AV) (l : List AV) : y0a1 false s r (x :: y :: l) = zge s [] (x :: y :: l) fun ys _ => .tup ys = r := rfl
theorem zp5 (r x : AV) : y0a1 true s r [x] = (fz s x = r) := rfl
theorem zk2 (r x y : AV) (l : List AV) : y0a1 true s r (x :: y :: l) = (.tup (fzs s (x :: y :: l)) = r) := rfl
end
theorem y0er (k : Nat) : ev s (.tmp k) = get s.t k := rfl
theorem zwz (v : Value) : ev s (.const v) = .v v := rfl
theorem y06b (f : FuncId) : ev s (.func f) = .fn f [] [] := rfl
theorem y0f9 (v : Value) : z78 (.v v) = v.oneCell' := rfl
theorem y08e (n : Nat) (cs : List AV) : z78 (.sl n cs) = true := rfl
theorem zy6 (id off n : Nat) : z78 (.ref id off n) = true := rfl
theorem zy5 (id off : Nat) : z78 (.ptr id off) = true := rfl
theorem y08a (cs : List AV) : z78 (.cp cs) = true := rfl
theorem y08b (f : FuncId) (a b : List AV) : z78 (.fn f a b) = true := rfl
theorem y08c (es : List (Value × AV)) : z78 (.mp es) = true := rfl
theorem y09f (v : Value) : solid (.v v) = true := rfl
theorem zyw (n : Nat) (cs : List AV) : solid (.sl n cs) = true := rfl
theorem zyt (cs : List AV) : solid (.cp cs) = true := rfl
theorem zyu (f : FuncId) (a b : List AV) : solid (.fn f a b) = false := rfl
theorem zqx (i o : Nat) : solid (.ptr i o) = false := rfl
theorem zqy (i o n : Nat) : solid (.ref i o n) = false := rfl
theorem zyv (es : List (Value × AV)) : solid (.mp es) = true := rfl
theorem zh4 (k : IntKind) (n : Int) : (Value.int k n).oneCell' = true := rfl
theorem zdz (b : Bool) : (Value.bool b).oneCell' = true := rfl
theorem za8 (b : ByteArray) : (Value.string b).oneCell' = true := rfl
theorem zc7 (p : Option Addr) (n c : Nat) : (Value.slice p n c).oneCell' = true := rfl
theorem zxi (id : Nat) (x : AV) : zbt id x = bif z0c id x then .junk else x := by unfold zbt; cases z0c id x <;> rfl
def TO (C : Ctx) (P : Program) (o : Option Oper) (L : St → Prop) (s : St) : Prop := match o with | some o => z1i C s o.dst o.op L | none => False
def OO (C : Ctx) (P : Program) (o : Option Oper) (L : St → Prop) (s : St) : Prop := match o with | some o => wop C P s o L | none => False
structure PR (C : Ctx) (P : Program) (ops : List Oper) (Q : St → Prop) (pl : zrs) (s : St) : Prop where
 out : pops C P ops Q pl s
theorem zoe (ops : List Oper) (Q : St → Prop) (pl : zrs) : PR C P ops Q pl = pops C P ops Q pl := by funext s; exact propext ⟨fun h => h.out, fun h => ⟨h⟩⟩
theorem y04f (ops : List Oper) (Q : St → Prop) : PR C P ops Q .done s = Q s := by rw [zoe]; rfl
theorem y04g (ops : List Oper) (Q : St → Prop) (i : Nat) (p : zrs) : PR C P ops Q (.take i p) s = TO C P ops[i]? (PR C P ops Q p) s := by rw [zoe, zoe]; rfl
theorem y0e7 (ops : List Oper) (Q : St → Prop) (i : Nat) (p : zrs) : PR C P ops Q (.one i p) s = OO C P ops[i]? (PR C P ops Q p) s := by rw [zoe, zoe]; rfl
theorem y0e8 (ops : List Oper) (Q : St → Prop) (i j : Nat) (p q : zrs) : PR C P ops Q (.two i p j q) s = (OO C P ops[i]? (PR C P ops Q p) s ∧ OO C P ops[j]? (PR C P ops Q q) s) := by rw [zoe, zoe, zoe]; rfl
theorem y04a (op : Op) (ty : Nat) (pos : String) (af : Array Edge) (g : Option (Nat × Bool)) : OO C P (some { dst := d, op := op, type := ty, pos := pos, after := af, guard := g }) L s = z4f C P s d op ty L := zz9 _ _ _ _ _ _ _
theorem y04p (op : Op) (ty : Nat) (pos : String) (af : Array Edge) (g : Option (Nat × Bool)) : TO C P (some { dst := d, op := op, type := ty, pos := pos, after := af, guard := g }) L s = z1i C s d op L := rfl
theorem zr7 (x : Operand) : z1i C s d (.move x) L = L ⟨putD s.t d (ev s x), s.m⟩ := rfl
theorem zi2 (x : Operand) : z1i C s d (.assign x) L = L ⟨putD s.t d (ev s x), s.m⟩ := rfl
theorem zm3 (o : BinOp) (t u : Nat) (x y : Operand) : z1i C s d (.binOp o t x y u) L = ((z2k (ev s x) && (z2k (ev s y) && true)) = true ∧ z06 C s (.binOp o t x y u) (kpl s d L)) := by simp [z1i, z1i.slotOnlyP, Op.operands]
theorem zr8 (c x y : Operand) : z1i C s d (.pick c x y) L = ((z2k (ev s c) && (z2k (ev s x) && z2k (ev s y))) = true ∧ z06 C s (.pick c x y) (kpl s d L)) := by simp [z1i, z1i.slotOnlyP, Op.operands]
theorem zr9 (o : UnOp) (t : Nat) (x : Operand) : z1i C s d (.unOp o t x) L = (z2k (ev s x) = true ∧ z06 C s (.unOp o t x) (kpl s d L)) := by simp [z1i, z1i.slotOnlyP, Op.operands]
theorem zm4 (t : Nat) (x y : Operand) : z1i C s d (.index t x y) L = ((z2k (ev s x) && z2k (ev s y)) = true ∧ z06 C s (.index t x y) (kpl s d L)) := by simp [z1i, z1i.slotOnlyP, Op.operands]
theorem zi3 (t : Nat) (x : Operand) : z1i C s d (.slice t x none none none) L = (z2k (ev s x) = true ∧ z06 C s (.slice t x none none none) (kpl s d L)) := by simp [z1i, z1i.slotOnlyP, Op.operands]
theorem zi4 (t : Nat) (x y : Operand) : z1i C s d (.slice t x (some y) none none) L = ((z2k (ev s x) && z2k (ev s y)) = true ∧ z06 C s (.slice t x (some y) none none) (kpl s d L)) := by simp [z1i, z1i.slotOnlyP, Op.operands]
theorem zi5 (t : Nat) (x z : Operand) : z1i C s d (.slice t x none (some z) none) L = ((z2k (ev s x) && z2k (ev s z)) = true ∧ z06 C s (.slice t x none (some z) none) (kpl s d L)) := by simp [z1i, z1i.slotOnlyP, Op.operands]
theorem zi6 (t : Nat) (x y z : Operand) : z1i C s d (.slice t x (some y) (some z) none) L = ((z2k (ev s x) && (z2k (ev s y) && z2k (ev s z))) = true ∧ z06 C s (.slice t x (some y) (some z) none) (kpl s d L)) := by simp [z1i, z1i.slotOnlyP, Op.operands]
theorem y0f2 (x : AV) : kpl s d L x = (z2k x = true ∧ L ⟨putD s.t d x, s.m⟩) := rfl
theorem zyb (x : Value) : z2k (.v x) = true := rfl
theorem z10 (l : List Oper) (h : QR C P l Q l (.p1 none) s) : DR C P l Q s := ⟨.inl (by rw [zof] at h; exact h)⟩
theorem y0j2 (pl : zrs) (l : List Oper) (hok : z57 l.toArray l.length (Array.replicate l.length false) pl = true) (h : PR C P l (Q .normal) pl s) : DR C P l Q s := ⟨.inr ⟨pl, by simpa using hok, h.out⟩⟩
structure WE (P : Program) (f : FuncId) (as : List AV) (nm : Bool) (K : AV → Prop) (X : Prop) : Prop where
 out : (∃ r, z0q P f as r ∧ (nm = false ∨ clean r) ∧ K r) ∨ X
structure LX (P : Program) (s : St) (d : Option Nat) (f : FuncId) (args : List AV) (L : St → Prop) : Prop where
 out : lcall P s d f args L
def ks (s : St) (d : Option Nat) (L : St → Prop) (r : AV) : Prop := L (zgm s d r)
def kq (s : St) (d : Option Nat) (L : St → Prop) (r : AV) : Prop := z08 (unown r) = true ∧ L ⟨putD s.t d (unown r), s.m⟩
theorem y0mm (r : AV) : ks s d L r = L (zgm s d r) := rfl
theorem y0ml (r : AV) : kq s d L r = (z08 (unown r) = true ∧ L ⟨putD s.t d (unown r), s.m⟩) := rfl
theorem y04r (f : FuncId) (args : List AV) : WC P s d f args L = WE P f (fzs s args) (namess args) (ks s d L) (LX P s d f args L) := by
 rw [y0kd]
 exact propext ⟨fun h => ⟨h.imp id fun h => ⟨h⟩⟩, fun h => h.out.imp id fun h => h.out⟩
theorem y04h (f : FuncId) (args : List AV) : QC P s d f args L = (belows s.m.length args = true ∧ WE P f (fzs s args) (namess args) (kq s d L) False) := by
 rw [y0k5]; exact propext ⟨fun ⟨r, h1, h2, h2', h3, h4⟩ => ⟨h2', ⟨.inl ⟨r, h1, h2, h3, h4⟩⟩⟩, fun ⟨h2', h⟩ => (let ⟨r, h1, h2, h3, h4⟩ := h.out.resolve_right id; ⟨r, h1, h2, h2', h3, h4⟩)⟩
theorem y0ke {f : FuncId} {as : List AV} {nm : Bool} {r : AV} {X : Prop} (hs : z0q P f as r) (hc : nm = false ∨ clean r) (hk : K r) : WE P f as nm K X := ⟨.inl ⟨r, hs, hc, hk⟩⟩
def LR (σ : List Nat) (m0 : List Ob) (as : List AV) (m1 : List Ob) (r : AV) (s : St) (d : Option Nat) (args : List AV) (L : St → Prop) : Prop :=
 z3d σ = true ∧ z04 σ.length (z6c σ s.m.length) s.m σ m0 ∧ z3a m0 m1 = true ∧ belows σ.length as = true ∧ rens (z6c σ s.m.length) as = args ∧ L (y04v s d σ m0 m1 r)
theorem z1b (σ : List Nat) {f : FuncId} {m0 m1 : List Ob} {as args fa : List AV} {r : AV} {nm : Bool} (hs : z4a P f m0 as m1 r) (h : LR σ m0 as m1 r s d args L) : WE P f fa nm K (LX P s d f args L) := by
 obtain ⟨h1, h2, h3, h4, h5, h6⟩ := h
 exact ⟨.inr ⟨⟨σ, m0, as, m1, r, hs, h1, h2, h3, h4, h5, h6⟩⟩⟩
theorem y0jz (σ : List Nat) (m0 : List Ob) (as : List AV) (m1 : List Ob) (r : AV) (args : List AV) : LR σ m0 as m1 r s d args L = (z3d σ = true ∧ z04 σ.length (z6c σ s.m.length) s.m σ m0 ∧ z3a m0 m1 = true ∧ belows σ.length as = true ∧ rens (z6c σ s.m.length) as = args ∧
 L ⟨putD (z6p (z0t σ m0) s.t) d (ren (z6c σ s.m.length) r), z0u (z6c σ s.m.length) (z27 (z0t σ m0) s.m) σ m1 ++ (m1.drop σ.length).map (renO (z6c σ s.m.length))⟩) := rfl
theorem zqt (ts : List ResultVar) (m1 : List Ob) (r : AV) : y0c5 C ts m1 r .ret s = zes C s ts (y0ja s m1 r) := rfl
theorem ze9 (ts : List ResultVar) (m1 : List Ob) (r : AV) : y0c5 C ts m1 r .normal s = zes C s ts (y0ja s m1 r) := rfl
theorem zp2 (m1 : List Ob) (r : AV) : y0ja s m1 r [] = (.tup [] = r ∧ wkM s.m m1 ∧ belowM m1.length m1 = true ∧ below m1.length r = true) := rfl
theorem zx0 (m1 : List Ob) (r x : AV) : y0ja s m1 r [x] = (x = r ∧ wkM s.m m1 ∧ belowM m1.length m1 = true ∧ below m1.length r = true) := rfl
theorem zp1 (m1 : List Ob) (r x y : AV) (l : List AV) : y0ja s m1 r (x :: y :: l) = (.tup (x :: y :: l) = r ∧ wkM s.m m1 ∧ belowM m1.length m1 = true ∧ below m1.length r = true) := rfl
theorem y09v (m : List Ob) : wkM m [] = (noF m = true) := by simp only [wkM]
theorem zz3 (p o : Ob) (m l : List Ob) : wkM (p :: m) (o :: l) = ((o = .dead ∧ isF p = false ∨ o = p) ∧ wkM m l) := by simp only [wkM]
def FZ (o : Ob) (off n : Nat) : AV := match o with
   | .arr _ sz cs => .sl n ((cs.drop off).take (n * sz))
   | .row false sz cs => .sl n ((cs.drop off).take (n * sz))
   | _ => .junk
def FZP (s : St) (o : Ob) (off : Nat) : AV := match o with
   | .arr _ _ cs => .cp (cs.drop off)
   | .row false _ cs => .cp (cs.drop off)
   | .row true _ cs => .cp ((cs.map (fz1 s)).drop off)
   | _ => .junk
theorem fz_v (v : Value) : fz s (.v v) = .v v := rfl
theorem y0ls : fz s .un = .un := rfl
theorem y0lr (n : Nat) (cs : List AV) : fz s (.sl n cs) = .sl n cs := rfl
theorem y0lm (cs : List AV) : fz s (.cp cs) = .cp cs := rfl
theorem y0lp (es : List (Value × AV)) : fz s (.mp es) = .mp es := rfl
theorem y0ll (cs : List AV) : fz s (.ag cs) = .ag (fzs s cs) := rfl
theorem y0ez (cs : List AV) : fz s (.tup cs) = .tup (fzs s cs) := rfl
theorem y0lo (f : FuncId) (a b : List AV) : fz s (.fn f a b) = .fn f (fzs s a) (fzs s b) := rfl
theorem y0ey (id off n : Nat) : fz s (.ref id off n) = FZ (obj s.m id) off n := rfl
theorem y0ex (id off : Nat) : fz s (.ptr id off) = FZP s (obj s.m id) off := rfl
theorem y0ds (e sz off n : Nat) (cs : List AV) : FZ (.arr e sz cs) off n = .sl n ((cs.drop off).take (n * sz)) := rfl
theorem y0dt (sz off n : Nat) (cs : List AV) : FZ (.row false sz cs) off n = .sl n ((cs.drop off).take (n * sz)) := rfl
theorem y03x (e sz off : Nat) (cs : List AV) : FZP s (.arr e sz cs) off = .cp (cs.drop off) := rfl
theorem zvw (sz off : Nat) (cs : List AV) : FZP s (.row false sz cs) off = .cp (cs.drop off) := rfl
theorem zvx (sz off : Nat) (cs : List AV) : FZP s (.row true sz cs) off = .cp ((cs.map (fz1 s)).drop off) := rfl
theorem y0lk (v : Value) : fz1 s (.v v) = .v v := rfl
theorem y0ew (n : Nat) (cs : List AV) : fz1 s (.sl n cs) = .sl n cs := rfl
theorem y0et (cs : List AV) : fz1 s (.cp cs) = .cp cs := rfl
theorem y0eu (es : List (Value × AV)) : fz1 s (.mp es) = .mp es := rfl
theorem y06p (id off n : Nat) : fz1 s (.ref id off n) = FZ (obj s.m id) off n := rfl
theorem zec {α : Type} (f : α → AV) (l : List α) : (l.map f).take l.length = l.map f := List.take_of_length_le (by simp)
theorem y0an (e sz n : Nat) (l : List UInt8) : clean (.own e sz n (l.map U8)) := by
 intro c hc
 obtain ⟨x, _, rfl⟩ := List.mem_map.1 hc
 exact ⟨_, rfl⟩
theorem y05f (e sz n : Nat) (l : List Int) : clean (.own e sz n (l.map I32)) := by
 intro c hc
 obtain ⟨x, _, rfl⟩ := List.mem_map.1 hc
 exact ⟨_, rfl⟩
theorem y05g (e sz n : Nat) (l : List (List UInt8)) : clean (.own e sz n (l.map Sv)) := by
 intro c hc
 obtain ⟨x, _, rfl⟩ := List.mem_map.1 hc
 exact ⟨_, rfl⟩
theorem y0ge (v : Value) : clean (.v v) := trivial
theorem z02 (xs : List AV) (h : cleans xs) : clean (.tup xs) := h
theorem zzl : cleans [] := trivial
theorem z00 (x : AV) (l : List AV) (h : clean x) (k : cleans l) : cleans (x :: l) := ⟨h, k⟩
theorem zlt (k e sz : Nat) (cs : List AV) : zcl k (.arr e sz cs) = .arr e sz cs := rfl
theorem zlu (k sz : Nat) (cs : List AV) : zcl k (.row false sz cs) = .row false sz cs := rfl
theorem zmc (o : BinOp) (t : Nat) (x y : Operand) (u : Nat) : z4f C P s d (.binOp o t x y u) ty L = z58 C o t (ev s x) (ev s y) (kput s d L) (BI C o t (ev s x) (ev s y) (kput s d L)) := rfl
theorem zle (o : BinOp) (t : Nat) (x y : Operand) (u : Nat) : z9y C P s d (.binOp o t x y u) L = z58 C o t (ev s x) (ev s y) (kput s d L) (BI C o t (ev s x) (ev s y) (kput s d L)) := rfl
section
variable {o : BinOp} {t : Nat} {D : Prop}
theorem y0ct (k k' : IntKind) (a b : Int) : z58 C o t (.v (.int k a)) (.v (.int k' b)) K D = D := rfl
theorem y021 (a b : Bool) : z58 C o t (.v (.bool a)) (.v (.bool b)) K D = D := rfl
theorem y0cu (a b : ByteArray) : z58 C o t (.v (.string a)) (.v (.string b)) K D = D := rfl
def B2E (C : Ctx) (t : Nat) (a b : Option (List Value)) (f : Bool → Bool) (K : AV → Prop) : Prop := match a, b with
 | some a, some b => z1c C t (.agg a.toArray) = true ∧ z1c C t (.agg b.toArray) = true ∧ K (.v (.bool (f (eqs a b))))
 | _, _ => False
theorem zud (cs ds : List AV) : z58 C .eql t (.ag cs) (.ag ds) K D = B2E C t (z1l cs) (z1l ds) id K := by
 simp only [z58, B2E]; cases z1l cs <;> cases z1l ds <;> rfl
theorem zue (cs ds : List AV) : z58 C .neq t (.ag cs) (.ag ds) K D = B2E C t (z1l cs) (z1l ds) not K := by
 simp only [z58, B2E]; cases z1l cs <;> cases z1l ds <;> rfl
theorem y0cq (a b : List Value) : B2E C t (some a) (some b) id K = (z1c C t (.agg a.toArray) = true ∧ z1c C t (.agg b.toArray) = true ∧ K (.v (.bool (eqs a b)))) := rfl
theorem y020 (a b : List Value) : B2E C t (some a) (some b) not K = (z1c C t (.agg a.toArray) = true ∧ z1c C t (.agg b.toArray) = true ∧ K (.v (.bool (!eqs a b)))) := rfl
def B2S (d : Option TypeDesc) (X : Prop) : Prop := match d with
 | some (.slice _) => X
 | _ => False
def B2N (t : Option TypeDesc) (b : Bool) (K : AV → Prop) : Prop := match t with | some (.func _ _ _) => K (.v (.bool b)) | _ => False
theorem zuf (f : FuncId) (a b : List AV) : z58 C .eql t (.fn f a b) (.v .nilFunc) K D = B2N (C.td t) false K := by
 simp only [z58, B2N]; cases C.td t with | none => rfl | some d => cases d <;> rfl
theorem zug (f : FuncId) (a b : List AV) : z58 C .neq t (.fn f a b) (.v .nilFunc) K D = B2N (C.td t) true K := by
 simp only [z58, B2N]; cases C.td t with | none => rfl | some d => cases d <;> rfl
theorem zuh : z58 C .eql t (.v .nilFunc) (.v .nilFunc) K D = B2N (C.td t) true K := by
 simp only [z58, B2N]; cases C.td t with | none => rfl | some d => cases d <;> rfl
theorem zui : z58 C .neq t (.v .nilFunc) (.v .nilFunc) K D = B2N (C.td t) false K := by
 simp only [z58, B2N]; cases C.td t with | none => rfl | some d => cases d <;> rfl
theorem zuj (n : Nat) (cs : List AV) : z58 C .eql t (.sl n cs) (.v (.slice none 0 0)) K D = B2S (C.td t) (0 < n ∧ K (.v (.bool false))) := by
 simp only [z58, B2S, zt7]; cases C.td t with | none => rfl | some d => cases d <;> rfl
theorem zuk (n : Nat) (cs : List AV) : z58 C .neq t (.sl n cs) (.v (.slice none 0 0)) K D = B2S (C.td t) (0 < n ∧ K (.v (.bool true))) := by
 simp only [z58, B2S, zt7]; cases C.td t with | none => rfl | some d => cases d <;> rfl
theorem zoa (id off n : Nat) : z58 C .eql t (.ref id off n) (.v (.slice none 0 0)) K D = B2S (C.td t) (0 < n ∧ K (.v (.bool false))) := by
 simp only [z58, B2S, zt7]; cases C.td t with | none => rfl | some d => cases d <;> rfl
theorem zob (id off n : Nat) : z58 C .neq t (.ref id off n) (.v (.slice none 0 0)) K D = B2S (C.td t) (0 < n ∧ K (.v (.bool true))) := by
 simp only [z58, B2S, zt7]; cases C.td t with | none => rfl | some d => cases d <;> rfl
theorem zo8 : z58 C .eql t (.v (.slice none 0 0)) (.v (.slice none 0 0)) K D = B2S (C.td t) (K (.v (.bool true))) := by
 simp only [z58, B2S, zt7]; cases C.td t with | none => rfl | some d => cases d <;> rfl
theorem zo9 : z58 C .neq t (.v (.slice none 0 0)) (.v (.slice none 0 0)) K D = B2S (C.td t) (K (.v (.bool false))) := by
 simp only [z58, B2S, zt7]; cases C.td t with | none => rfl | some d => cases d <;> rfl
theorem zo6 (a : Addr) (n c : Nat) : z58 C .eql t (.v (.slice (some a) n c)) (.v (.slice none 0 0)) K D = B2S (C.td t) (K (.v (.bool false))) := by
 simp only [z58, B2S, zt7]; cases C.td t with | none => rfl | some d => cases d <;> rfl
theorem zo7 (a : Addr) (n c : Nat) : z58 C .neq t (.v (.slice (some a) n c)) (.v (.slice none 0 0)) K D = B2S (C.td t) (K (.v (.bool true))) := by
 simp only [z58, B2S, zt7]; cases C.td t with | none => rfl | some d => cases d <;> rfl
theorem y0cs (e : Nat) (X : Prop) : B2S (some (.slice e)) X = X := rfl
theorem y0cr (a b : Array TypeId) (v e : Bool) : B2N (some (.func a b v)) e K = K (.v (.bool e)) := rfl
end
theorem y067 : eqs [] [] = true := rfl
theorem zww (a b : Value) (l m : List Value) : eqs (a :: l) (b :: m) = (eq1 a b && eqs l m) := rfl
theorem y065 (k k' : IntKind) (a b : Int) : eq1 (.int k a) (.int k' b) = (a == b) := rfl
theorem zwu (a b : Bool) : eq1 (.bool a) (.bool b) = (a == b) := rfl
theorem y066 (a b : ByteArray) : eq1 (.string a) (.string b) = (a.data.toList == b.data.toList) := rfl
def PVs (x : Value) (o : Option (List Value)) : Option (List Value) := match o with | some l => some (x :: l) | none => none
def PVa (o : Option (List Value)) : Option Value := match o with | some l => some (.agg l.toArray) | none => none
theorem zyc (x : Value) : z3g (.v x) = some x := by simp [z3g]
theorem zqe (cs : List AV) : z3g (.ag cs) = PVa (z1l cs) := by simp only [z3g, PVa]; cases z1l cs <;> rfl
theorem zw6 (l : List Value) : PVa (some l) = some (.agg l.toArray) := rfl
theorem zha : z1l [] = some [] := by simp [z1l]
theorem ze2 (x : Value) (l : List AV) : z1l (.v x :: l) = PVs x (z1l l) := by simp only [z1l, z3g, PVs]; cases z1l l <;> rfl
theorem zw7 (x : Value) (l : List Value) : PVs x (some l) = some (x :: l) := rfl
theorem zmd (t : Nat) (ps : Array (Nat × Operand)) : z4f C P s d (.build t ps) ty L = z66 C (C.ti t) (ps.toList.map fun p => (p.1, ev s p.2)) (kput s d L) := rfl
theorem zlf (t : Nat) (ps : Array (Nat × Operand)) : z9y C P s d (.build t ps) L = z66 C (C.ti t) (ps.toList.map fun p => (p.1, ev s p.2)) (kput s d L) := rfl
theorem y02b (fs : List Field) (sz b : Nat) (z : Value) (ps : List (Nat × AV)) : z66 C (some ⟨.struct fs.toArray, sz, b, z⟩) ps K = ((fs.all fun f => (C.ti f.type).isSome) = true ∧ z1y C fs (z.cells.toList.map .v) ps (kag K)) := rfl
theorem y0f1 (cs : List AV) : kag K cs = K (.ag cs) := rfl
section
variable (fs : List Field) (cs : List AV) (M : List AV → Prop)
def FC2 (C : Ctx) (fs : List Field) (cs : List AV) (l : List (Nat × AV)) (M : List AV → Prop) (xs : List AV) (off : Nat) (i : Option TI) : Prop := match i with
 | some i => xs.length = i.size ∧ off + i.size ≤ cs.length ∧ xs.all z78 = true ∧ z1y C fs (setCells cs off xs) l M
 | none => False
def FC (C : Ctx) (fs : List Field) (cs : List AV) (l : List (Nat × AV)) (M : List AV → Prop) (x : AV) (f : Option Field) : Prop := match f with
 | some fd => FC2 C fs cs l M (z0i x) fd.offset (C.ti fd.type)
 | none => False
theorem zbk : z1y C fs cs [] M = M cs := rfl
theorem za4 (j : Nat) (x : AV) (l : List (Nat × AV)) : z1y C fs cs ((j, x) :: l) M = FC C fs cs l M x fs[j]? := by
 simp only [z1y, FC, FC2]
 cases fs[j]? with
 | none => rfl
 | some fd => simp only; cases C.ti fd.type <;> rfl
theorem y03w (fd : Field) (x : AV) (l : List (Nat × AV)) : FC C fs cs l M x (some fd) = FC2 C fs cs l M (z0i x) fd.offset (C.ti fd.type) := rfl
theorem zvv (i : TI) (off : Nat) (xs : List AV) (l : List (Nat × AV)) : FC2 C fs cs l M xs off (some i) = (xs.length = i.size ∧ off + i.size ≤ cs.length ∧ xs.all z78 = true ∧ z1y C fs (setCells cs off xs) l M) := rfl
end
theorem zoo (cs : Array Value) : (Value.agg cs).cells = cs := rfl
theorem zeb (cs : List AV) (i : Nat) : setCells cs i [] = cs := rfl
theorem zcj (cs : List AV) (i : Nat) (x : AV) (l : List AV) : setCells cs i (x :: l) = setCells (zck cs i x) (i + 1) l := rfl
theorem z7n (c x : AV) (l : List AV) : zck (c :: l) 0 x = x :: l := rfl
theorem zhy (c x : AV) (l : List AV) (n : Nat) : zck (c :: l) (n + 1) x = c :: zck l n x := rfl
theorem zjn (id : Nat) : z0i (.mr id) = [.mr id] := rfl
theorem zfp (cs : List AV) : z0i (.ag cs) = cs := rfl
theorem zib (t : Nat) (x i : Operand) (ok : Bool) : z4f C P s d (.lookup t x i ok) ty L = z5h C (C.td t) (z8k s (ev s x)) (z3g (ev s i)) ok (kput s d L) := rfl
theorem zhi (t : Nat) (x i : Operand) (ok : Bool) : z9y C P s d (.lookup t x i ok) L = z5h C (C.td t) (z8k s (ev s x)) (z3g (ev s i)) ok (kput s d L) := rfl
def LK2 (C : Ctx) (kt : Nat) (i : Option TI) (es : List (Value × AV)) (key : Value) (ok : Bool) (K : AV → Prop) : Prop := match i with
 | some ie => z1c C kt key = true ∧ (∀ e ∈ es, z1c C kt e.1 = true) ∧ MG (mget key es) (fun x => K (okV ok x true)) (K (okV ok (zei ie.zero) false))
 | none => False
theorem zh0 (kt e : Nat) (es : List (Value × AV)) (key : Value) (ok : Bool) : z5h C (some (.map kt e)) (some es) (some key) ok K = LK2 C kt (C.ti e) es key ok K := by
 simp only [z5h, LK2]; cases C.ti e <;> rfl
theorem zw0 (kt : Nat) (ie : TI) (es : List (Value × AV)) (key : Value) (ok : Bool) : LK2 C kt (some ie) es key ok K = (z1c C kt key = true ∧ (∀ e ∈ es, z1c C kt e.1 = true) ∧ MG (mget key es) (fun x => K (okV ok x true)) (K (okV ok (zei ie.zero) false))) := rfl
theorem y048 (x : AV) (A : AV → Prop) (B : Prop) : MG (some x) A B = A x := rfl
theorem y047 (A : AV → Prop) (B : Prop) : MG none A B = B := rfl
theorem zy4 (x : AV) (b : Bool) : okV true x b = .tup [x, .v (.bool b)] := rfl
theorem zq8 (x : AV) (b : Bool) : okV false x b = x := rfl
theorem zml (cs : Array Value) : zei (.agg cs) = .ag (cs.toList.map .v) := rfl
theorem zmm (k : IntKind) (n : Int) : zei (.int k n) = .v (.int k n) := rfl
theorem zej : zei .nilFunc = .v .nilFunc := rfl
def MO (o : Ob) : Option (List (Value × AV)) := match o with | .mp es => some es | _ => none
theorem zxs (es : List (Value × AV)) : z8k s (.mp es) = some es := rfl
theorem zxt (id : Nat) : z8k s (.mr id) = MO (obj s.m id) := by simp only [z8k, MO]; cases obj s.m id <;> rfl
theorem y0k0 (es : List (Value × AV)) : MO (.mp es) = some es := rfl
theorem zeg (t : Nat) : z4f C P s d (.makeMap t none) ty L = L (z33 s d (.mr s.m.length) (.mp [])) := rfl
theorem zak (t : Nat) (m k x : Operand) : z4f C P s d (.mapUpdate t m k x) ty L = zq1 C s d (C.td t) (ev s m) (z3g (ev s k)) (ev s x) L := rfl
theorem zia (t : Nat) (m k x : Operand) : z4f C P s d (.insert t m k x) ty L = zq1 C s d (C.td t) (ev s m) (z3g (ev s k)) (ev s x) L := rfl
def MU2 (C : Ctx) (s : St) (d : Option Nat) (kt id : Nat) (key : Value) (x : AV) (o : Ob) (L : St → Prop) : Prop := match o with
 | .mp es => z1c C kt key = true ∧ (∀ e ∈ es, z1c C kt e.1 = true) ∧ names x = false ∧ L ⟨putD s.t d .junk, z1d s.m id (.mp (mput key x es))⟩
 | _ => False
theorem zxv (kt e id : Nat) (key : Value) (x : AV) : zq1 C s d (some (.map kt e)) (.mr id) (some key) x L = MU2 C s d kt id key x (obj s.m id) L := by
 simp only [zq1, MU2]; cases obj s.m id <;> rfl
theorem y0e2 (kt id : Nat) (key : Value) (x : AV) (es : List (Value × AV)) : MU2 C s d kt id key x (.mp es) L = (z1c C kt key = true ∧ (∀ e ∈ es, z1c C kt e.1 = true) ∧ names x = false ∧ L ⟨putD s.t d .junk, z1d s.m id (.mp (mput key x es))⟩) := rfl
def FZM (o : Ob) : AV := match o with | .mp es => .mp es | _ => .junk
theorem y0lq (id : Nat) : fz s (.mr id) = FZM (obj s.m id) := by simp only [fz, FZM]; cases obj s.m id <;> rfl
theorem y0ev (id : Nat) : fz1 s (.mr id) = FZM (obj s.m id) := by simp only [fz1, FZM]; cases obj s.m id <;> rfl
theorem y0dr (es : List (Value × AV)) : FZM (.mp es) = .mp es := rfl
theorem y08d (id : Nat) : z78 (.mr id) = true := rfl
theorem zh5 (p : Option Nat) : (Value.map p).oneCell' = true := rfl
theorem zc6 : Value.nilFunc.oneCell' = true := rfl
theorem zl3 (f : Fn) (a b : Array Value) : (Value.func f a b).oneCell' = true := rfl
theorem z8r (t len : Nat) (ps : Array (Nat × Operand)) : z9y C P s d (.buildSlice t len ps) L = y0f4 C (C.td t) len (ps.toList.map fun p => (p.1, ev s p.2)) (kput s d L) := rfl
def LQ2 (len : Nat) (ps : List (Nat × AV)) (K : AV → Prop) (i : Option TI) : Prop := match i with
 | some i => ps.length = len ∧ 0 < i.size ∧ len * i.size ≤ 16777216 ∧ z29 i.size 0 ps (fun cs => K (.sl len cs))
 | none => False
theorem zkm (e len : Nat) (ps : List (Nat × AV)) : y0f4 C (some (.slice e)) len ps K = LQ2 len ps K (C.ti e) := by
 simp only [y0f4, LQ2]; cases C.ti e <;> rfl
theorem zw1 (i : TI) (len : Nat) (ps : List (Nat × AV)) : LQ2 len ps K (some i) = (ps.length = len ∧ 0 < i.size ∧ len * i.size ≤ 16777216 ∧ z29 i.size 0 ps (fun cs => K (.sl len cs))) := rfl
section
variable (ops os : List Oper) (ph : Ph) (op : Op) (A : Prop)
theorem zw9 : QK C P ops Q os ph d op ty A s .quiet = A := rfl
theorem zw8 (t : Nat) : QK C P ops Q os (.p1 none) d op ty A s (.alloc t) = QR C P ops Q os (.p1 (some t)) ⟨putD s.t d (.ptr s.m.length 0), s.m⟩ := rfl
theorem y04i : QK C P ops Q os ph d op ty A s .loud = zdf C ph (fun s => z4f C P s d op ty (QR C P ops Q os .p2)) s := rfl
end
def PF (i : Option TI) (L : St → Prop) (s : St) : Prop := match i with
 | some i => i.zero.cells.all (·.oneCell') = true ∧ L ⟨s.t, s.m ++ [.row true 1 (i.zero.cells.toList.map .v)]⟩
 | none => False
theorem zye : zdf C .p2 L s = L s := rfl
theorem zlc : zdf C (.p1 none) L s = L s := rfl
theorem zld (t : Nat) : zdf C (.p1 (some t)) L s = PF (C.ti t) L s := by simp only [zdf, PF]; cases C.ti t <;> rfl
theorem y04c (i : TI) : PF (some i) L s = (i.zero.cells.all (·.oneCell') = true ∧ L ⟨s.t, s.m ++ [.row true 1 (i.zero.cells.toList.map .v)]⟩) := rfl
theorem zkc (t : Nat) : z19 (.alloc t) = .alloc t := rfl
theorem zki (t : Nat) (x y : Operand) : z19 (.store t x y) = .loud := rfl
theorem zpn (x : Operand) : z19 (.move x) = .quiet := rfl
theorem zgq (x : Operand) : z19 (.assign x) = .quiet := rfl
theorem zpo (x y z : Operand) : z19 (.pick x y z) = .quiet := rfl
theorem zkd (o : BinOp) (t : Nat) (x y : Operand) (u : Nat) : z19 (.binOp o t x y u) = .quiet := rfl
theorem zpp (o : UnOp) (t : Nat) (x : Operand) : z19 (.unOp o t x) = .quiet := rfl
theorem zdq (x : Operand) (i : Nat) : z19 (.extract x i) = .quiet := rfl
theorem zkg (t : Nat) (x i : Operand) : z19 (.index t x i) = .quiet := rfl
theorem za7 (t : Nat) (x i : Operand) : z19 (.indexAddr t x i) = .quiet := rfl
theorem zpm (t : Nat) (x : Operand) : z19 (.load t x) = .quiet := rfl
theorem zkf (t : Nat) (x : Operand) (f : Nat) : z19 (.field t x f) = .quiet := rfl
theorem za6 (t : Nat) (x : Operand) (f : Nat) : z19 (.fieldAddr t x f) = .quiet := rfl
theorem zbv (x : Operand) : z19 (.nilCheck x) = .quiet := rfl
theorem zbu (f : Fn) (a b : Array Operand) : z19 (.makeFunc f a b) = .quiet := rfl
theorem zdp (t u : Nat) (x : Operand) : z19 (.convert t u x) = .quiet := rfl
theorem zkh (t : Nat) (x : Operand) (lo hi mx : Option Operand) : z19 (.slice t x lo hi mx) = .quiet := rfl
theorem zpl (c : Call) : z19 (.call c) = .quiet := rfl
theorem zke (t : Nat) (ps : Array (Nat × Operand)) : z19 (.build t ps) = .quiet := rfl
theorem z8h (t n : Nat) (ps : Array (Nat × Operand)) : z19 (.buildSlice t n ps) = .quiet := rfl
theorem zgr (t : Nat) (x i : Operand) (ok : Bool) : z19 (.lookup t x i ok) = .quiet := rfl
end
end Go.AE
