/- A part of the abstract evaluator: no condition. -/
import Derived.Test.YteidmpcdcfoncaaDoorAETac
set_option linter.unusedVariables false
set_option linter.unusedSimpArgs false
/- One rule for each shape of an operation: what is computed stands as an argument, so simp computes it before it goes on. -/
namespace Go.AE

section
variable {C : Ctx} {P : Program} {Q : Exit → St → Prop} {s : St} {K : AV → Prop} {L : St → Prop} {d : Option Nat} {ty : Nat}

/-! ### From an operation to its rule -/
theorem wopC_move (x : Operand) : wopC C P s d (.move x) ty L = L ⟨putD s.t d (ev s x), s.m⟩ := rfl
theorem wopC_assign_tmp (k : Nat) : wopC C P s d (.assign (.tmp k)) ty L = L ⟨putD s.t d (get s.t k), s.m⟩ := rfl
theorem wopC_assign_int (k : IntKind) (n : Int) : wopC C P s d (.assign (.const (.int k n))) ty L = L ⟨putD s.t d (.v (.int k n)), s.m⟩ := rfl
theorem wopC_assign_bool (b : Bool) : wopC C P s d (.assign (.const (.bool b))) ty L = L ⟨putD s.t d (.v (.bool b)), s.m⟩ := rfl
theorem wopC_assign_string (b : ByteArray) : wopC C P s d (.assign (.const (.string b))) ty L = L ⟨putD s.t d (.v (.string b)), s.m⟩ := rfl
theorem B2_flt (o : BinOp) (t a b : Nat) (K : AV → Prop) (D : Prop) : bin2 C o t (.v (.float .f64 a)) (.v (.float .f64 b)) K D = D := rfl
theorem B2_cpx (o : BinOp) (t a b c e : Nat) (K : AV → Prop) (D : Prop) : bin2 C o t (.v (.complex .f64 a b)) (.v (.complex .f64 c e)) K D = D := rfl
theorem wopC_assign_flt (a : Nat) : wopC C P s d (.assign (.const (.float .f64 a))) ty L = L ⟨putD s.t d (.v (.float .f64 a)), s.m⟩ := rfl
theorem wopC_assign_cpx (a b : Nat) : wopC C P s d (.assign (.const (.complex .f64 a b))) ty L = L ⟨putD s.t d (.v (.complex .f64 a b)), s.m⟩ := rfl
theorem wopC_assign_func (f : FuncId) : wopC C P s d (.assign (.func f)) ty L = L ⟨putD s.t d (.fn f [] []), s.m⟩ := rfl

def NI2 (s : St) (d : Option Nat) (e : Nat) (i : Option TI) (L : St → Prop) : Prop := match i with | some i => 0 < i.size ∧ L (pushS s d (.ref s.m.length 0 0) (.arr e i.size [])) | none => False
def NI (C : Ctx) (s : St) (d : Option Nat) (t : Option TypeDesc) (L : St → Prop) : Prop := match t with | some (.slice e) => NI2 s d e (C.ti e) L | _ => False
theorem wopC_assign_nil : wopC C P s d (.assign (.const (.slice none 0 0))) ty L = NI C s d (C.td ty) L := rfl
theorem NI_slice (e : Nat) : NI C s d (some (.slice e)) L = NI2 s d e (C.ti e) L := rfl
theorem NI2_some (e : Nat) (i : TI) : NI2 s d e (some i) L = (0 < i.size ∧ L (pushS s d (.ref s.m.length 0 0) (.arr e i.size []))) := rfl

theorem wopC_pick (c a b : Operand) : wopC C P s d (.pick c a b) ty L = pureOp C s (.pick c a b) (kput s d L) := rfl
theorem wopC_unOp (o : UnOp) (t : Nat) (x : Operand) : wopC C P s d (.unOp o t x) ty L = pureOp C s (.unOp o t x) (kput s d L) := rfl
theorem wopC_extract (x : Operand) (i : Nat) : wopC C P s d (.extract x i) ty L = pureOp C s (.extract x i) (kput s d L) := rfl
theorem wopC_index (t : Nat) (x i : Operand) : wopC C P s d (.index t x i) ty L = pureOp C s (.index t x i) (kput s d L) := rfl
theorem wopC_indexAddr (t : Nat) (x i : Operand) : wopC C P s d (.indexAddr t x i) ty L = pureOp C s (.indexAddr t x i) (kput s d L) := rfl
theorem wopC_load (t : Nat) (x : Operand) : wopC C P s d (.load t x) ty L = pureOp C s (.load t x) (kput s d L) := rfl
theorem wopC_field (t : Nat) (x : Operand) (f : Nat) : wopC C P s d (.field t x f) ty L = pureOp C s (.field t x f) (kput s d L) := rfl
theorem wopC_fieldAddr (t : Nat) (x : Operand) (f : Nat) : wopC C P s d (.fieldAddr t x f) ty L = pureOp C s (.fieldAddr t x f) (kput s d L) := rfl
theorem wopC_nilCheck (x : Operand) : wopC C P s d (.nilCheck x) ty L = pureOp C s (.nilCheck x) (kput s d L) := rfl
theorem wopC_makeFunc (f : FuncId) (a b : Array Operand) : wopC C P s d (.makeFunc (.func f) a b) ty L = pureOp C s (.makeFunc (.func f) a b) (kput s d L) := rfl
theorem wopC_slice (t : Nat) (x : Operand) (lo hi : Option Operand) : wopC C P s d (.slice t x lo hi none) ty L = pureOp C s (.slice t x lo hi none) (kput s d L) := rfl
theorem wopC_len (a : Array Operand) (t : Array Nat) : wopC C P s d (.call { callee := .builtin .len, args := a, argTypes := t }) ty L = pureOp C s (.call { callee := .builtin .len, args := a, argTypes := t }) (kput s d L) := rfl
theorem wopC_min (a : Array Operand) (t : Array Nat) : wopC C P s d (.call { callee := .builtin .min, args := a, argTypes := t }) ty L = pureOp C s (.call { callee := .builtin .min, args := a, argTypes := t }) (kput s d L) := rfl
theorem wopC_max (a : Array Operand) (t : Array Nat) : wopC C P s d (.call { callee := .builtin .max, args := a, argTypes := t }) ty L = pureOp C s (.call { callee := .builtin .max, args := a, argTypes := t }) (kput s d L) := rfl

theorem qopC_move (x : Operand) : qopC C P s d (.move x) L = L ⟨putD s.t d (ev s x), s.m⟩ := rfl
theorem qopC_assign (x : Operand) : qopC C P s d (.assign x) L = L ⟨putD s.t d (ev s x), s.m⟩ := rfl
theorem qopC_pick (c a b : Operand) : qopC C P s d (.pick c a b) L = pureOp C s (.pick c a b) (kput s d L) := rfl
theorem qopC_unOp (o : UnOp) (t : Nat) (x : Operand) : qopC C P s d (.unOp o t x) L = pureOp C s (.unOp o t x) (kput s d L) := rfl
theorem qopC_extract (x : Operand) (i : Nat) : qopC C P s d (.extract x i) L = pureOp C s (.extract x i) (kput s d L) := rfl
theorem qopC_index (t : Nat) (x i : Operand) : qopC C P s d (.index t x i) L = pureOp C s (.index t x i) (kput s d L) := rfl
theorem qopC_indexAddr (t : Nat) (x i : Operand) : qopC C P s d (.indexAddr t x i) L = pureOp C s (.indexAddr t x i) (kput s d L) := rfl
theorem qopC_load (t : Nat) (x : Operand) : qopC C P s d (.load t x) L = pureOp C s (.load t x) (kput s d L) := rfl
theorem qopC_field (t : Nat) (x : Operand) (f : Nat) : qopC C P s d (.field t x f) L = pureOp C s (.field t x f) (kput s d L) := rfl
theorem qopC_fieldAddr (t : Nat) (x : Operand) (f : Nat) : qopC C P s d (.fieldAddr t x f) L = pureOp C s (.fieldAddr t x f) (kput s d L) := rfl
theorem qopC_nilCheck (x : Operand) : qopC C P s d (.nilCheck x) L = pureOp C s (.nilCheck x) (kput s d L) := rfl
theorem qopC_makeFunc (f : FuncId) (a b : Array Operand) : qopC C P s d (.makeFunc (.func f) a b) L = pureOp C s (.makeFunc (.func f) a b) (kput s d L) := rfl
theorem qopC_convert (t u : Nat) (x : Operand) : qopC C P s d (.convert t u x) L = pureOp C s (.convert t u x) (kput s d L) := rfl
theorem qopC_slice (t : Nat) (x : Operand) (lo hi : Option Operand) : qopC C P s d (.slice t x lo hi none) L = pureOp C s (.slice t x lo hi none) (kput s d L) := rfl
theorem qopC_len (a : Array Operand) (t : Array Nat) : qopC C P s d (.call { callee := .builtin .len, args := a, argTypes := t }) L = pureOp C s (.call { callee := .builtin .len, args := a, argTypes := t }) (kput s d L) := rfl
theorem qopC_min (a : Array Operand) (t : Array Nat) : qopC C P s d (.call { callee := .builtin .min, args := a, argTypes := t }) L = pureOp C s (.call { callee := .builtin .min, args := a, argTypes := t }) (kput s d L) := rfl
theorem qopC_max (a : Array Operand) (t : Array Nat) : qopC C P s d (.call { callee := .builtin .max, args := a, argTypes := t }) L = pureOp C s (.call { callee := .builtin .max, args := a, argTypes := t }) (kput s d L) := rfl

/-! ### Calls -/
def CA (P : Program) (s : St) (d : Option Nat) (x : AV) (xs : List AV) (L : St → Prop) : Prop := match x with | .fn k first cap => WC P s d k (first ++ xs ++ cap) L | _ => False
def CQ (P : Program) (s : St) (d : Option Nat) (x : AV) (xs : List AV) (L : St → Prop) : Prop := match x with | .fn k first cap => QC P s d k (first ++ xs ++ cap) L | _ => False
theorem wopC_call (f : Operand) (a : Array Operand) (t : Array Nat) : wopC C P s d (.call { callee := .value f, args := a, argTypes := t }) ty L = CA P s d (ev s f) (a.toList.map (ev s)) L := rfl
theorem qopC_call (f : Operand) (a : Array Operand) (t : Array Nat) : qopC C P s d (.call { callee := .value f, args := a, argTypes := t }) L = CQ P s d (ev s f) (a.toList.map (ev s)) L := rfl
theorem CA_fn (k : FuncId) (first cap xs : List AV) : CA P s d (.fn k first cap) xs L = WC P s d k (first ++ xs ++ cap) L := rfl
theorem CQ_fn (k : FuncId) (first cap xs : List AV) : CQ P s d (.fn k first cap) xs L = QC P s d k (first ++ xs ++ cap) L := rfl

/-! ### Values -/
def PK (c x y : AV) (K : AV → Prop) : Prop := match c with | .v (.bool t) => wg t (K x) (K y) | _ => False
theorem pureOp_pick (c a b : Operand) : pureOp C s (.pick c a b) K = PK (ev s c) (ev s a) (ev s b) K := rfl
theorem PK_bool (t : Bool) (x y : AV) : PK (.v (.bool t)) x y K = WG t (K x) (K y) := (WG_eq t _ _).symm

def BI (C : Ctx) (o : BinOp) (t : Nat) (x y : AV) (K : AV → Prop) : Prop := match x, y with
    | .v (.bool a), .v (.bool b) => (match o with
      | .eql => C.td t = some .bool ∧ K (.v (.bool (a == b)))
      | .neq => C.td t = some .bool ∧ K (.v (.bool (!(a == b))))
      | _ => False)
    | .v a, .v b => bin o a b (kv K)
    | _, _ => False
theorem pureOp_binOp (o : BinOp) (t : Nat) (x y : Operand) (u : Nat) : pureOp C s (.binOp o t x y u) K = BI C o t (ev s x) (ev s y) K := rfl
section
variable {t : Nat} {k k' : IntKind} {a b : Int} {x y : ByteArray}
theorem BI_add : BI C .add t (.v (.int k a)) (.v (.int k b)) K = K (.v (.int k (k.wrap (a + b)))) := by simp [BI, bin, kv]
theorem BI_sub : BI C .sub t (.v (.int k a)) (.v (.int k b)) K = K (.v (.int k (k.wrap (a - b)))) := by simp [BI, bin, kv]
theorem BI_mul : BI C .mul t (.v (.int k a)) (.v (.int k b)) K = K (.v (.int k (k.wrap (a * b)))) := by simp [BI, bin, kv]
theorem BI_quo : BI C .quo t (.v (.int k a)) (.v (.int k b)) K = (b ≠ 0 ∧ K (.v (.int k (k.wrap (a.tdiv b))))) := by simp [BI, bin, kv]
theorem BI_rem : BI C .rem t (.v (.int k a)) (.v (.int k b)) K = (b ≠ 0 ∧ K (.v (.int k (a.tmod b)))) := by simp [BI, bin, kv]
theorem BI_and : BI C .and t (.v (.int k a)) (.v (.int k b)) K = K (.v (.int k (k.wrap ((BitVec.ofInt k.bits a &&& BitVec.ofInt k.bits b).toNat)))) := by simp [BI, bin, kv]
theorem BI_or : BI C .or t (.v (.int k a)) (.v (.int k b)) K = K (.v (.int k (k.wrap ((BitVec.ofInt k.bits a ||| BitVec.ofInt k.bits b).toNat)))) := by simp [BI, bin, kv]
theorem BI_xor : BI C .xor t (.v (.int k a)) (.v (.int k b)) K = K (.v (.int k (k.wrap ((BitVec.ofInt k.bits a ^^^ BitVec.ofInt k.bits b).toNat)))) := by simp [BI, bin, kv]
theorem BI_andNot : BI C .andNot t (.v (.int k a)) (.v (.int k b)) K = K (.v (.int k (k.wrap ((BitVec.ofInt k.bits a &&& ~~~ BitVec.ofInt k.bits b).toNat)))) := by simp [BI, bin, kv]
theorem BI_shl : BI C .shl t (.v (.int k a)) (.v (.int k' b)) K = (0 ≤ b ∧ K (.v (.int k (k.wrap (a * 2 ^ (min b.toNat k.bits)))))) := by simp [BI, bin, kv]
theorem BI_shr : BI C .shr t (.v (.int k a)) (.v (.int k' b)) K = (0 ≤ b ∧ K (.v (.int k (a.fdiv (2 ^ (min b.toNat k.bits)))))) := by simp [BI, bin, kv]
theorem BI_eql : BI C .eql t (.v (.int k a)) (.v (.int k b)) K = K (.v (.bool (a == b))) := by simp [BI, bin, kv]
theorem BI_neq : BI C .neq t (.v (.int k a)) (.v (.int k b)) K = K (.v (.bool (a != b))) := by simp [BI, bin, kv]
theorem BI_lss : BI C .lss t (.v (.int k a)) (.v (.int k b)) K = K (.v (.bool (decide (a < b)))) := by simp [BI, bin, kv]
theorem BI_leq : BI C .leq t (.v (.int k a)) (.v (.int k b)) K = K (.v (.bool (decide (a ≤ b)))) := by simp [BI, bin, kv]
theorem BI_gtr : BI C .gtr t (.v (.int k a)) (.v (.int k b)) K = K (.v (.bool (decide (a > b)))) := by simp [BI, bin, kv]
theorem BI_geq : BI C .geq t (.v (.int k a)) (.v (.int k b)) K = K (.v (.bool (decide (a ≥ b)))) := by simp [BI, bin, kv]
theorem BI_sadd : BI C .add t (.v (.string x)) (.v (.string y)) K = (x.data.toList.length + y.data.toList.length ≤ 9223372036854775807 ∧ K (.v (.string ⟨(x.data.toList ++ y.data.toList).toArray⟩))) := rfl
theorem BI_seql : BI C .eql t (.v (.string x)) (.v (.string y)) K = K (.v (.bool (x.data.toList == y.data.toList))) := rfl
theorem BI_sneq : BI C .neq t (.v (.string x)) (.v (.string y)) K = K (.v (.bool (!(x.data.toList == y.data.toList)))) := rfl
theorem BI_slss : BI C .lss t (.v (.string x)) (.v (.string y)) K = K (.v (.bool (bytesLt x.data.toList y.data.toList))) := rfl
theorem BI_sgtr : BI C .gtr t (.v (.string x)) (.v (.string y)) K = K (.v (.bool (!(bytesLt x.data.toList y.data.toList || x.data.toList == y.data.toList)))) := rfl
theorem BI_sleq : BI C .leq t (.v (.string x)) (.v (.string y)) K = K (.v (.bool (bytesLt x.data.toList y.data.toList || x.data.toList == y.data.toList))) := rfl
theorem BI_sgeq : BI C .geq t (.v (.string x)) (.v (.string y)) K = K (.v (.bool (!bytesLt x.data.toList y.data.toList))) := rfl
theorem BI_beql (p q : Bool) : BI C .eql t (.v (.bool p)) (.v (.bool q)) K = (C.td t = some .bool ∧ K (.v (.bool (p == q)))) := rfl
theorem BI_bneq (p q : Bool) : BI C .neq t (.v (.bool p)) (.v (.bool q)) K = (C.td t = some .bool ∧ K (.v (.bool (!(p == q))))) := rfl
end

/-! Floats of 64 bits -/
def FLO (o : Option Nat) (K : AV → Prop) : Prop := fout o (kv K)
theorem FO_some (r : Nat) : FLO (some r) K = K (.v (.float .f64 r)) := rfl
def CO (o p : Option Nat) (K : AV → Prop) : Prop := cout o p (kv K)
theorem CO_some (r q : Nat) : CO (some r) (some q) K = K (.v (.complex .f64 r q)) := rfl
section
variable {t : Nat} {a b c d : Nat}
theorem BI_fadd : BI C .add t (.v (.float .f64 a)) (.v (.float .f64 b)) K = FLO (fadd a b) K := rfl
theorem BI_fsub : BI C .sub t (.v (.float .f64 a)) (.v (.float .f64 b)) K = FLO (fsub a b) K := rfl
theorem BI_feql : BI C .eql t (.v (.float .f64 a)) (.v (.float .f64 b)) K = K (.v (.bool (ford a b == some .eq))) := rfl
theorem BI_fneq : BI C .neq t (.v (.float .f64 a)) (.v (.float .f64 b)) K = K (.v (.bool (ford a b != some .eq))) := rfl
theorem BI_flss : BI C .lss t (.v (.float .f64 a)) (.v (.float .f64 b)) K = K (.v (.bool (ford a b == some .lt))) := rfl
theorem BI_fleq : BI C .leq t (.v (.float .f64 a)) (.v (.float .f64 b)) K = K (.v (.bool (ford a b == some .lt || ford a b == some .eq))) := rfl
theorem BI_fgtr : BI C .gtr t (.v (.float .f64 a)) (.v (.float .f64 b)) K = K (.v (.bool (ford a b == some .gt))) := rfl
theorem BI_fgeq : BI C .geq t (.v (.float .f64 a)) (.v (.float .f64 b)) K = K (.v (.bool (ford a b == some .gt || ford a b == some .eq))) := rfl
theorem BI_cadd : BI C .add t (.v (.complex .f64 a b)) (.v (.complex .f64 c d)) K = CO (fadd a c) (fadd b d) K := rfl
theorem BI_ceql : BI C .eql t (.v (.complex .f64 a b)) (.v (.complex .f64 c d)) K = K (.v (.bool (ford a c == some .eq && ford b d == some .eq))) := rfl
theorem BI_cneq : BI C .neq t (.v (.complex .f64 a b)) (.v (.complex .f64 c d)) K = K (.v (.bool (!(ford a c == some .eq && ford b d == some .eq)))) := rfl
end
def UN (o : UnOp) (x : AV) (K : AV → Prop) : Prop := match x with | .v a => un o a (kv K) | _ => False
theorem pureOp_unOp (o : UnOp) (t : Nat) (x : Operand) : pureOp C s (.unOp o t x) K = UN o (ev s x) K := rfl
theorem UN_not (b : Bool) : UN .not (.v (.bool b)) K = K (.v (.bool (!b))) := rfl
theorem UN_neg (k : IntKind) (n : Int) : UN .neg (.v (.int k n)) K = K (.v (.int k (k.wrap (0 - n)))) := rfl

def EX (x : AV) (i : Nat) (K : AV → Prop) : Prop := match x with | .tup xs => i < xs.length ∧ K (nth xs i) | _ => False
theorem pureOp_extract (x : Operand) (i : Nat) : pureOp C s (.extract x i) K = EX (ev s x) i K := rfl
theorem EX_tup (xs : List AV) (i : Nat) : EX (.tup xs) i K = (i < xs.length ∧ K (nth xs i)) := rfl

/-- A part: by what its type says. -/
def PB (agg : Bool) (size : Nat) (cs : List AV) (off : Nat) (K : AV → Prop) : Prop := match agg with
    | true => off + size ≤ cs.length ∧ K (.ag ((cs.drop off).take size))
    | false => off < cs.length ∧ K (nth cs off)
theorem PB_true (size off : Nat) (cs : List AV) : PB true size cs off K = (off + size ≤ cs.length ∧ K (.ag ((cs.drop off).take size))) := rfl
theorem PB_false (size off : Nat) (cs : List AV) : PB false size cs off K = (off < cs.length ∧ K (nth cs off)) := rfl
def PO (i : Option TI) (cs : List AV) (off : Nat) (K : AV → Prop) : Prop := match i with | some i => partOf i cs off K | none => False
theorem PO_some (i : TI) (cs : List AV) (off : Nat) : PO (some i) cs off K = PB i.agg i.size cs off K := rfl

def IX (C : Ctx) (t : Option TypeDesc) (x i : AV) (K : AV → Prop) : Prop := match t, x, i with
    | some .string, .v (.string b), .v (.int _ j) => 0 ≤ j ∧ j < b.data.toList.length ∧ K (.v (.int .u8 (b.data.toList.getD j.toNat 0).toNat))
    | some (.array n e), .ag cs, .v (.int _ j) => 0 ≤ j ∧ j < n ∧ (match C.ti e with | some ie => partOf ie cs (j.toNat * ie.size) K | none => False)
    | _, _, _ => False
theorem pureOp_index (t : Nat) (x i : Operand) : pureOp C s (.index t x i) K = IX C (C.td t) (ev s x) (ev s i) K := rfl
theorem IX_str (b : ByteArray) (k : IntKind) (j : Int) : IX C (some .string) (.v (.string b)) (.v (.int k j)) K = (0 ≤ j ∧ j < b.data.toList.length ∧ K (.v (.int .u8 (b.data.toList.getD j.toNat 0).toNat))) := rfl
def PI (i : Option TI) (cs : List AV) (j : Nat) (K : AV → Prop) : Prop := match i with | some ie => partOf ie cs (j * ie.size) K | none => False
theorem PI_some (i : TI) (cs : List AV) (j : Nat) : PI (some i) cs j K = PB i.agg i.size cs (j * i.size) K := rfl
theorem IX_arr (n e : Nat) (cs : List AV) (k : IntKind) (j : Int) : IX C (some (.array n e)) (.ag cs) (.v (.int k j)) K = (0 ≤ j ∧ j < n ∧ PI (C.ti e) cs j.toNat K) := rfl

def IA (C : Ctx) (t : Option TypeDesc) (x i : AV) (K : AV → Prop) : Prop := match t, x, i with
    | some (.slice e), .sl n cs, .v (.int _ j) => 0 ≤ j ∧ j < n ∧ (match C.ti e with | some ie => K (.cp (cs.drop (j.toNat * ie.size))) | none => False)
    | some (.slice e), .ref id off n, .v (.int _ j) => 0 ≤ j ∧ j < n ∧ (match C.ti e with | some ie => K (.ptr id (off + j.toNat * ie.size)) | none => False)
    | some (.array n e), .ptr id off, .v (.int _ j) => 0 ≤ j ∧ j < n ∧ (match C.ti e with | some ie => K (.ptr id (off + j.toNat * ie.size)) | none => False)
    | some (.array n e), .cp cs, .v (.int _ j) => 0 ≤ j ∧ j < n ∧ (match C.ti e with | some ie => K (.cp (cs.drop (j.toNat * ie.size))) | none => False)
    | _, _, _ => False
def IC (i : Option TI) (cs : List AV) (j : Nat) (K : AV → Prop) : Prop := match i with | some ie => K (.cp (cs.drop (j * ie.size))) | none => False
def IP (i : Option TI) (id off j : Nat) (K : AV → Prop) : Prop := match i with | some ie => K (.ptr id (off + j * ie.size)) | none => False
theorem IC_some (i : TI) (cs : List AV) (j : Nat) : IC (some i) cs j K = K (.cp (cs.drop (j * i.size))) := rfl
theorem IP_some (i : TI) (id off j : Nat) : IP (some i) id off j K = K (.ptr id (off + j * i.size)) := rfl
theorem pureOp_indexAddr (t : Nat) (x i : Operand) : pureOp C s (.indexAddr t x i) K = IA C (C.td t) (ev s x) (ev s i) K := rfl
section
variable (e n id off : Nat) (cs : List AV) (k : IntKind) (j : Int)
theorem IA_sl : IA C (some (.slice e)) (.sl n cs) (.v (.int k j)) K = (0 ≤ j ∧ j < n ∧ IC (C.ti e) cs j.toNat K) := rfl
theorem IA_ref : IA C (some (.slice e)) (.ref id off n) (.v (.int k j)) K = (0 ≤ j ∧ j < n ∧ IP (C.ti e) id off j.toNat K) := rfl
theorem IA_ptr : IA C (some (.array n e)) (.ptr id off) (.v (.int k j)) K = (0 ≤ j ∧ j < n ∧ IP (C.ti e) id off j.toNat K) := rfl
theorem IA_cp : IA C (some (.array n e)) (.cp cs) (.v (.int k j)) K = (0 ≤ j ∧ j < n ∧ IC (C.ti e) cs j.toNat K) := rfl
end

def LO (i : TI) (o : Ob) (off : Nat) (K : AV → Prop) : Prop := match o with
      | .arr _ _ cs => partOf i cs off K
      | .row _ _ cs => partOf i cs off K
      | _ => False
def LD (s : St) (i : Option TI) (x : AV) (K : AV → Prop) : Prop := match i, x with
    | some i, .cp cs => partOf i cs 0 K
    | some i, .ptr id off => LO i (obj s.m id) off K
    | _, _ => False
theorem pureOp_load (t : Nat) (x : Operand) : pureOp C s (.load t x) K = LD s (C.ti t) (ev s x) K := rfl
theorem LD_cp (i : TI) (cs : List AV) : LD s (some i) (.cp cs) K = PB i.agg i.size cs 0 K := rfl
theorem LD_ptr (i : TI) (id off : Nat) : LD s (some i) (.ptr id off) K = LO i (obj s.m id) off K := rfl
theorem LO_arr (i : TI) (e sz off : Nat) (cs : List AV) : LO i (.arr e sz cs) off K = PB i.agg i.size cs off K := rfl
theorem LO_row (i : TI) (r : Bool) (sz off : Nat) (cs : List AV) : LO i (.row r sz cs) off K = PB i.agg i.size cs off K := rfl

def FD (f : Option (Nat × TI)) (x : AV) (K : AV → Prop) : Prop := match f, x with | some (o, i), .ag cs => partOf i cs o K | _, _ => False
theorem pureOp_field (t : Nat) (x : Operand) (f : Nat) : pureOp C s (.field t x f) K = FD (C.fld t f) (ev s x) K := rfl
theorem FD_ag (o : Nat) (i : TI) (cs : List AV) : FD (some (o, i)) (.ag cs) K = PB i.agg i.size cs o K := rfl
def FA (f : Option (Nat × TI)) (x : AV) (K : AV → Prop) : Prop := match f, x with
    | some (o, i), .cp cs => 0 < i.size ∧ K (.cp (cs.drop o))
    | some (o, i), .ptr id off => 0 < i.size ∧ K (.ptr id (off + o))
    | _, _ => False
theorem pureOp_fieldAddr (t : Nat) (x : Operand) (f : Nat) : pureOp C s (.fieldAddr t x f) K = FA (C.fld t f) (ev s x) K := rfl
theorem FA_cp (o : Nat) (i : TI) (cs : List AV) : FA (some (o, i)) (.cp cs) K = (0 < i.size ∧ K (.cp (cs.drop o))) := rfl
theorem FA_ptr (o : Nat) (i : TI) (id off : Nat) : FA (some (o, i)) (.ptr id off) K = (0 < i.size ∧ K (.ptr id (off + o))) := rfl

def NC (x : AV) (K : AV → Prop) : Prop := match x with | .cp cs => K (.cp cs) | .ptr id off => K (.ptr id off) | _ => False
theorem pureOp_nilCheck (x : Operand) : pureOp C s (.nilCheck x) K = NC (ev s x) K := rfl
theorem NC_cp (cs : List AV) : NC (.cp cs) K = K (.cp cs) := rfl
theorem NC_ptr (id off : Nat) : NC (.ptr id off) K = K (.ptr id off) := rfl
theorem pureOp_makeFunc (f : FuncId) (a b : Array Operand) : pureOp C s (.makeFunc (.func f) a b) K = K (.fn f (a.toList.map (ev s)) (b.toList.map (ev s))) := rfl

/-- The bytes of a slice that becomes a string. -/
def CB2 (n : Nat) (l : Option (List UInt8)) (K : AV → Prop) : Prop := match l with | some l => n = l.length ∧ K (.v (.string ⟨l.toArray⟩)) | none => False
def CB (x : Option (Nat × List AV)) (K : AV → Prop) : Prop := match x with | some (n, cs) => CB2 n (bytesOf cs) K | none => False
def CV (C : Ctx) (s : St) (t u : Option TypeDesc) (x : AV) (K : AV → Prop) : Prop := match t, u, x with
    | some _, some (.int k), .v (.int _ n) => K (.v (.int k (k.wrap n)))
    | some .string, some .string, .v (.string b) => K (.v (.string b))
    | some (.int _), some .string, .v (.int _ n) => K (.v (.string ⟨(Utf8.encode n).data.toList.toArray⟩))
    | some _, some (.float .f64), .v (.int _ n) => K (.v (.float .f64 (FloatKind.f64.nearest n)))
    | some _, some (.int k), .v (.float .f64 b) => f2i k b (kv K)
    | some (.slice e), some .string, x => C.td e = some (.int .u8) ∧ CB (cellsOf s 1 x) K
    | _, _, _ => False
theorem pureOp_convert (t u : Nat) (x : Operand) : pureOp C s (.convert t u x) K = CV C s (C.td t) (C.td u) (ev s x) K := by
  unfold pureOp CV CB CB2
  rfl
theorem CV_int (k0 k k1 : IntKind) (n : Int) : CV C s (some (.int k0)) (some (.int k)) (.v (.int k1 n)) K = K (.v (.int k (k.wrap n))) := rfl
theorem CV_str (b : ByteArray) : CV C s (some .string) (some .string) (.v (.string b)) K = K (.v (.string b)) := rfl
theorem CV_rune (k0 k1 : IntKind) (n : Int) : CV C s (some (.int k0)) (some .string) (.v (.int k1 n)) K = K (.v (.string ⟨(Utf8.encode n).data.toList.toArray⟩)) := rfl
theorem CV_bytes (e : Nat) (x : AV) : CV C s (some (.slice e)) (some .string) x K = (C.td e = some (.int .u8) ∧ CB (cellsOf s 1 x) K) := rfl
theorem CB_some (n : Nat) (cs : List AV) : CB (some (n, cs)) K = CB2 n (bytesOf cs) K := rfl
theorem CB2_some (n : Nat) (l : List UInt8) : CB2 n (some l) K = (n = l.length ∧ K (.v (.string ⟨l.toArray⟩))) := rfl
def CW (C : Ctx) (s : St) (d : Option Nat) (t u : Option TypeDesc) (x : AV) (L : St → Prop) : Prop := match t, u, x with
    | some .string, some (.slice e), .v (.string b) => toRow s d e (C.td e) b L
    | _, _, _ => CV C s t u x (kput s d L)
theorem wopC_convert (t u : Nat) (x : Operand) : wopC C P s d (.convert t u x) ty L = CW C s d (C.td t) (C.td u) (ev s x) L := by
  unfold wopC CW effOp
  simp only [pureOp_convert]
  split <;> first
    | rfl
    | (split <;> simp_all <;> (intros; exact Iff.rfl))
def f2t (b : Nat) : Option Int := (FloatKind.f64.decode b).toInt .zero
def i2f (n : Int) : Nat := FloatKind.f64.nearest n
def FI (k : IntKind) (o : Option Int) (K : AV → Prop) : Prop := match o with | some n => k.min ≤ n ∧ n ≤ k.max ∧ K (.v (.int k n)) | none => False
theorem FI_some (k : IntKind) (n : Int) : FI k (some n) K = (k.min ≤ n ∧ n ≤ k.max ∧ K (.v (.int k n))) := rfl
theorem CV_i2f (k0 k1 : IntKind) (n : Int) : CV C s (some (.int k0)) (some (.float .f64)) (.v (.int k1 n)) K = K (.v (.float .f64 (i2f n))) := rfl
theorem CV_f2i (k0 : FloatKind) (k : IntKind) (b : Nat) : CV C s (some (.float k0)) (some (.int k)) (.v (.float .f64 b)) K = FI k (f2t b) K := rfl
theorem CW_i2f (k0 k1 : IntKind) (n : Int) : CW C s d (some (.int k0)) (some (.float .f64)) (.v (.int k1 n)) L = L ⟨putD s.t d (.v (.float .f64 (i2f n))), s.m⟩ := rfl
theorem CW_f2i (k0 : FloatKind) (k : IntKind) (b : Nat) : CW C s d (some (.float k0)) (some (.int k)) (.v (.float .f64 b)) L = FI k (f2t b) (kput s d L) := rfl
theorem wopC_real (a : Array Operand) (t : Array Nat) : wopC C P s d (.call { callee := .builtin .real, args := a, argTypes := t }) ty L = pureOp C s (.call { callee := .builtin .real, args := a, argTypes := t }) (kput s d L) := rfl
theorem wopC_imag (a : Array Operand) (t : Array Nat) : wopC C P s d (.call { callee := .builtin .imag, args := a, argTypes := t }) ty L = pureOp C s (.call { callee := .builtin .imag, args := a, argTypes := t }) (kput s d L) := rfl
theorem wopC_cplx (a : Array Operand) (t : Array Nat) : wopC C P s d (.call { callee := .builtin .complex, args := a, argTypes := t }) ty L = pureOp C s (.call { callee := .builtin .complex, args := a, argTypes := t }) (kput s d L) := rfl
theorem qopC_real (a : Array Operand) (t : Array Nat) : qopC C P s d (.call { callee := .builtin .real, args := a, argTypes := t }) L = pureOp C s (.call { callee := .builtin .real, args := a, argTypes := t }) (kput s d L) := rfl
theorem qopC_imag (a : Array Operand) (t : Array Nat) : qopC C P s d (.call { callee := .builtin .imag, args := a, argTypes := t }) L = pureOp C s (.call { callee := .builtin .imag, args := a, argTypes := t }) (kput s d L) := rfl
theorem qopC_cplx (a : Array Operand) (t : Array Nat) : qopC C P s d (.call { callee := .builtin .complex, args := a, argTypes := t }) L = pureOp C s (.call { callee := .builtin .complex, args := a, argTypes := t }) (kput s d L) := rfl
def RE (x : AV) (K : AV → Prop) : Prop := realV x (kv K)
def IM (x : AV) (K : AV → Prop) : Prop := imagV x (kv K)
def CX (x y : AV) (K : AV → Prop) : Prop := cplxV x y (kv K)
theorem pureOp_real (x : Operand) (t : Array Nat) : pureOp C s (.call { callee := .builtin .real, args := [x].toArray, argTypes := t }) K = RE (ev s x) K := rfl
theorem pureOp_imag (x : Operand) (t : Array Nat) : pureOp C s (.call { callee := .builtin .imag, args := [x].toArray, argTypes := t }) K = IM (ev s x) K := rfl
theorem pureOp_cplx (x y : Operand) (t : Array Nat) : pureOp C s (.call { callee := .builtin .complex, args := [x, y].toArray, argTypes := t }) K = CX (ev s x) (ev s y) K := rfl
theorem RE_c (a b : Nat) : RE (.v (.complex .f64 a b)) K = K (.v (.float .f64 a)) := rfl
theorem IM_c (a b : Nat) : IM (.v (.complex .f64 a b)) K = K (.v (.float .f64 b)) := rfl
theorem CX_f (a b : Nat) : CX (.v (.float .f64 a)) (.v (.float .f64 b)) K = K (.v (.complex .f64 a b)) := rfl
theorem CW_int (k0 k k1 : IntKind) (n : Int) : CW C s d (some (.int k0)) (some (.int k)) (.v (.int k1 n)) L = L ⟨putD s.t d (.v (.int k (k.wrap n))), s.m⟩ := rfl
theorem CW_str (b : ByteArray) : CW C s d (some .string) (some .string) (.v (.string b)) L = L ⟨putD s.t d (.v (.string b)), s.m⟩ := rfl
theorem CW_rune (k0 k1 : IntKind) (n : Int) : CW C s d (some (.int k0)) (some .string) (.v (.int k1 n)) L = L ⟨putD s.t d (.v (.string ⟨(Utf8.encode n).data.toList.toArray⟩)), s.m⟩ := rfl
theorem CW_bytes (e : Nat) (x : AV) : CW C s d (some (.slice e)) (some .string) x L = (C.td e = some (.int .u8) ∧ CB (cellsOf s 1 x) (kput s d L)) := rfl
theorem CW_toBytes (e : Nat) (b : ByteArray) : CW C s d (some .string) (some (.slice e)) (.v (.string b)) L = toRow s d e (C.td e) b L := rfl
theorem toRow_u8 (e : Nat) (b : ByteArray) : toRow s d e (some (.int .u8)) b L = (b.data.toList.length ≤ 4611686018427387904 ∧ L (pushS s d (.ref s.m.length 0 b.data.toList.length) (.row false 1 (b.data.toList.map U8)))) := rfl
theorem toRow_i32 (e : Nat) (b : ByteArray) : toRow s d e (some (.int .i32)) b L = (b.data.toList.length ≤ 70368744177664 ∧ L (pushS s d (.ref s.m.length 0 (runesOf b.data.toList).length) (.arr e 1 ((runesOf b.data.toList).map AV.v)))) := rfl

def CR (o : Ob) (off len sz : Nat) : Option (Nat × List AV) := match o with
    | .arr _ _ cs => some (len, (cs.drop off).take (len * sz))
    | .row false _ cs => some (len, (cs.drop off).take (len * sz))
    | _ => none
theorem cellsOf_sl (sz n : Nat) (cs : List AV) : cellsOf s sz (.sl n cs) = some (n, cs) := rfl
theorem cellsOf_nil (sz : Nat) : cellsOf s sz (.v (.slice none 0 0)) = some (0, []) := rfl
theorem cellsOf_adr (sz b o c : Nat) : cellsOf s sz (.v (.slice (some ⟨b, o, none⟩) 0 c)) = some (0, []) := rfl
theorem cellsOf_ref (sz id off len : Nat) : cellsOf s sz (.ref id off len) = CR (obj s.m id) off len sz := rfl
theorem CR_arr (e z off len sz : Nat) (cs : List AV) : CR (.arr e z cs) off len sz = some (len, (cs.drop off).take (len * sz)) := rfl
theorem CR_row (z off len sz : Nat) (cs : List AV) : CR (.row false z cs) off len sz = some (len, (cs.drop off).take (len * sz)) := rfl

/-! ### Parts of slices and strings -/
def S1 (b : List UInt8) (lo hi : Option AV) (K : AV → Prop) : Prop := match lo, hi with
      | none, none => K (.v (.string ⟨b.toArray⟩))
      | some (.v (.int _ l)), none => 0 ≤ l ∧ l ≤ b.length ∧ K (.v (.string ⟨(b.drop l.toNat).toArray⟩))
      | none, some (.v (.int _ h)) => 0 ≤ h ∧ h ≤ b.length ∧ K (.v (.string ⟨(b.take h.toNat).toArray⟩))
      | some (.v (.int _ l)), some (.v (.int _ h)) => 0 ≤ l ∧ l ≤ h ∧ h ≤ b.length ∧ K (.v (.string ⟨((b.take h.toNat).drop l.toNat).toArray⟩))
      | _, _ => False
def S2 (n sz : Nat) (cs : List AV) (lo hi : Option AV) (K : AV → Prop) : Prop := match lo, hi with
        | none, none => K (.sl n cs)
        | some (.v (.int _ l)), none => 0 ≤ l ∧ l ≤ n ∧ cs.length = n * sz ∧ K (.sl (n - l.toNat) (cs.drop (l.toNat * sz)))
        | none, some (.v (.int _ h)) => 0 ≤ h ∧ h ≤ n ∧ cs.length = n * sz ∧ K (.sl h.toNat (cs.take (h.toNat * sz)))
        | some (.v (.int _ l)), some (.v (.int _ h)) => 0 ≤ l ∧ l ≤ h ∧ h ≤ n ∧ cs.length = n * sz ∧ K (.sl (h.toNat - l.toNat) ((cs.take (h.toNat * sz)).drop (l.toNat * sz)))
        | _, _ => False
def S3 (id off n sz : Nat) (lo hi : Option AV) (K : AV → Prop) : Prop := match lo, hi with
        | none, none => K (.ref id off n)
        | some (.v (.int _ l)), none => 0 ≤ l ∧ l ≤ n ∧ 0 < sz ∧ K (.ref id (off + l.toNat * sz) (n - l.toNat))
        | none, some (.v (.int _ h)) => 0 ≤ h ∧ h ≤ n ∧ K (.ref id off h.toNat)
        | some (.v (.int _ l)), some (.v (.int _ h)) => 0 ≤ l ∧ l ≤ h ∧ h ≤ n ∧ 0 < sz ∧ K (.ref id (off + l.toNat * sz) (h.toNat - l.toNat))
        | _, _ => False
def S2o (i : Option TI) (n : Nat) (cs : List AV) (lo hi : Option AV) (K : AV → Prop) : Prop := match i with | some i => S2 n i.size cs lo hi K | none => False
def S3o (i : Option TI) (id off n : Nat) (lo hi : Option AV) (K : AV → Prop) : Prop := match i with | some i => S3 id off n i.size lo hi K | none => False
theorem S2o_some (i : TI) (n : Nat) (cs : List AV) (lo hi : Option AV) : S2o (some i) n cs lo hi K = S2 n i.size cs lo hi K := rfl
theorem S3o_some (i : TI) (id off n : Nat) (lo hi : Option AV) : S3o (some i) id off n lo hi K = S3 id off n i.size lo hi K := rfl
def SL (C : Ctx) (t : Option TypeDesc) (x : AV) (lo hi : Option AV) (K : AV → Prop) : Prop := match t, x with
    | some .string, .v (.string b) => S1 b.data.toList lo hi K
    | some (.slice e), .sl n cs => S2o (C.ti e) n cs lo hi K
    | some (.slice e), .ref id off n => S3o (C.ti e) id off n lo hi K
    | _, _ => False
theorem pureOp_slice (t : Nat) (x : Operand) (lo hi : Option Operand) : pureOp C s (.slice t x lo hi none) K = SL C (C.td t) (ev s x) (lo.map (ev s)) (hi.map (ev s)) K := rfl
theorem SL_str (b : ByteArray) (lo hi : Option AV) : SL C (some .string) (.v (.string b)) lo hi K = S1 b.data.toList lo hi K := rfl
theorem SL_sl (e n : Nat) (cs : List AV) (lo hi : Option AV) : SL C (some (.slice e)) (.sl n cs) lo hi K = S2o (C.ti e) n cs lo hi K := rfl
theorem SL_ref (e id off n : Nat) (lo hi : Option AV) : SL C (some (.slice e)) (.ref id off n) lo hi K = S3o (C.ti e) id off n lo hi K := rfl
section
variable (b : List UInt8) (k k' : IntKind) (l h : Int) (n sz id off : Nat) (cs : List AV)
theorem S1_all : S1 b none none K = K (.v (.string ⟨b.toArray⟩)) := rfl
theorem S1_lo : S1 b (some (.v (.int k l))) none K = (0 ≤ l ∧ l ≤ b.length ∧ K (.v (.string ⟨(b.drop l.toNat).toArray⟩))) := rfl
theorem S1_hi : S1 b none (some (.v (.int k h))) K = (0 ≤ h ∧ h ≤ b.length ∧ K (.v (.string ⟨(b.take h.toNat).toArray⟩))) := rfl
theorem S1_both : S1 b (some (.v (.int k l))) (some (.v (.int k' h))) K = (0 ≤ l ∧ l ≤ h ∧ h ≤ b.length ∧ K (.v (.string ⟨((b.take h.toNat).drop l.toNat).toArray⟩))) := rfl
theorem S2_all : S2 n sz cs none none K = K (.sl n cs) := rfl
theorem S2_lo : S2 n sz cs (some (.v (.int k l))) none K = (0 ≤ l ∧ l ≤ n ∧ cs.length = n * sz ∧ K (.sl (n - l.toNat) (cs.drop (l.toNat * sz)))) := rfl
theorem S2_hi : S2 n sz cs none (some (.v (.int k h))) K = (0 ≤ h ∧ h ≤ n ∧ cs.length = n * sz ∧ K (.sl h.toNat (cs.take (h.toNat * sz)))) := rfl
theorem S2_both : S2 n sz cs (some (.v (.int k l))) (some (.v (.int k' h))) K = (0 ≤ l ∧ l ≤ h ∧ h ≤ n ∧ cs.length = n * sz ∧ K (.sl (h.toNat - l.toNat) ((cs.take (h.toNat * sz)).drop (l.toNat * sz)))) := rfl
theorem S3_all : S3 id off n sz none none K = K (.ref id off n) := rfl
theorem S3_lo : S3 id off n sz (some (.v (.int k l))) none K = (0 ≤ l ∧ l ≤ n ∧ 0 < sz ∧ K (.ref id (off + l.toNat * sz) (n - l.toNat))) := rfl
theorem S3_hi : S3 id off n sz none (some (.v (.int k h))) K = (0 ≤ h ∧ h ≤ n ∧ K (.ref id off h.toNat)) := rfl
theorem S3_both : S3 id off n sz (some (.v (.int k l))) (some (.v (.int k' h))) K = (0 ≤ l ∧ l ≤ h ∧ h ≤ n ∧ 0 < sz ∧ K (.ref id (off + l.toNat * sz) (h.toNat - l.toNat))) := rfl
end

/-! ### len, min, max -/
def LN (i : Option TI) (x : AV) (K : AV → Prop) : Prop := match i with | some i => lenOp i.d x K | none => False
theorem LN_some (i : TI) (x : AV) : LN (some i) x K = lenOp i.d x K := rfl
theorem pureOp_len (x : Operand) (t : Nat) : pureOp C s (.call { callee := .builtin .len, args := [x].toArray, argTypes := [t].toArray }) K = LN (C.ti t) (ev s x) K := rfl
theorem lenOp_string (b : ByteArray) : lenOp .string (.v (.string b)) K = K (.v (.int .i64 b.data.toList.length)) := rfl
theorem lenOp_sl (e n : Nat) (cs : List AV) : lenOp (.slice e) (.sl n cs) K = K (.v (.int .i64 n)) := rfl
theorem lenOp_nil (e : Nat) : lenOp (.slice e) (.v (.slice none 0 0)) K = K (.v (.int .i64 0)) := rfl
theorem lenOp_ref (e id off n : Nat) : lenOp (.slice e) (.ref id off n) K = K (.v (.int .i64 n)) := rfl
theorem lenOp_array (n e : Nat) (x : AV) : lenOp (.array n e) x K = K (.v (.int .i64 n)) := by cases x <;> rfl
def MN (x y : AV) (K : AV → Prop) : Prop := match [x, y] with | [.v (.int k a), .v (.int k' b)] => k = k' ∧ K (.v (.int k (if b < a then b else a))) | _ => False
def MX (x y : AV) (K : AV → Prop) : Prop := match [x, y] with | [.v (.int k a), .v (.int k' b)] => k = k' ∧ K (.v (.int k (if b > a then b else a))) | _ => False
theorem pureOp_min (x y : Operand) (t : Array Nat) : pureOp C s (.call { callee := .builtin .min, args := [x, y].toArray, argTypes := t }) K = MN (ev s x) (ev s y) K := rfl
theorem pureOp_max (x y : Operand) (t : Array Nat) : pureOp C s (.call { callee := .builtin .max, args := [x, y].toArray, argTypes := t }) K = MX (ev s x) (ev s y) K := rfl
theorem MN_int (k : IntKind) (a b : Int) : MN (.v (.int k a)) (.v (.int k b)) K = K (.v (.int k (if b < a then b else a))) := by simp [MN]
theorem MX_int (k : IntKind) (a b : Int) : MX (.v (.int k a)) (.v (.int k b)) K = K (.v (.int k (if b > a then b else a))) := by simp [MX]

/-! ### Memory -/
def BU2 (s : St) (d : Option Nat) (e len : Nat) (ps : List (Nat × AV)) (i : Option TI) (L : St → Prop) : Prop := match i with
      | some i => ps.length = len ∧ 0 < i.size ∧ len * i.size ≤ 16777216 ∧ litAny s d len e i.size ps L (loose ps)
      | none => False
def BU (C : Ctx) (s : St) (d : Option Nat) (len : Nat) (ps : List (Nat × AV)) (t : Option TypeDesc) (L : St → Prop) : Prop := match t with
    | some (.slice e) => BU2 s d e len ps (C.ti e) L
    | _ => False
theorem wopC_buildSlice (t len : Nat) (ps : Array (Nat × Operand)) : wopC C P s d (.buildSlice t len ps) ty L = BU C s d len (ps.toList.map fun p => (p.1, ev s p.2)) (C.td t) L := by
  unfold wopC effOp BU BU2
  simp only [List.length_map]
  generalize C.td t = o
  cases o with
  | none => rfl
  | some x => cases x <;> first | rfl | (rename_i e; show (match C.ti e with | some _ => _ | none => _) = (match C.ti e with | some _ => _ | none => _); cases C.ti e <;> rfl)
theorem BU_slice (len : Nat) (ps : List (Nat × AV)) (e : Nat) : BU C s d len ps (some (.slice e)) L = BU2 s d e len ps (C.ti e) L := rfl
theorem BU2_some (len : Nat) (ps : List (Nat × AV)) (e : Nat) (i : TI) : BU2 s d e len ps (some i) L = (ps.length = len ∧ 0 < i.size ∧ len * i.size ≤ 16777216 ∧ litAny s d len e i.size ps L (loose ps)) := rfl
theorem loose_nil : loose [] = false := rfl
theorem loose_cons (j : Nat) (x : AV) (l : List (Nat × AV)) : loose ((j, x) :: l) = (!(cellsAV x).all solid || loose l) := rfl
theorem litAny_false (len e sz : Nat) (ps : List (Nat × AV)) : litAny s d len e sz ps L false = litCells sz 0 ps (klit s d len e sz L) := rfl
theorem litAny_true (len e sz : Nat) (ps : List (Nat × AV)) : litAny s d len e sz ps L true = litRow sz 0 ps (klitR s d len sz L) := rfl
theorem litRow_nil (sz i : Nat) (M : List AV → Prop) : litRow sz i [] M = M [] := rfl
theorem litRow_cons (sz i j : Nat) (x : AV) (l : List (Nat × AV)) (M : List AV → Prop) : litRow sz i ((j, x) :: l) M = (j = i ∧ (cellsAV x).length = sz ∧ (cellsAV x).all oneC = true ∧ litRow sz (i + 1) l (kapp M (cellsAV x))) := rfl
theorem klitR_eq (len sz : Nat) (cs : List AV) : klitR s d len sz L cs = L (pushS s d (.ref s.m.length 0 len) (.row true sz cs)) := rfl
theorem litCells_nil (sz i : Nat) (M : List AV → Prop) : litCells sz i [] M = M [] := rfl
theorem litCells_cons (sz i j : Nat) (x : AV) (l : List (Nat × AV)) (M : List AV → Prop) : litCells sz i ((j, x) :: l) M = (j = i ∧ (cellsAV x).length = sz ∧ (cellsAV x).all (fun c => oneC c && solid c) = true ∧ litCells sz (i + 1) l (kapp M (cellsAV x))) := rfl
theorem cellsAV_v (x : Value) : cellsAV (.v x) = [.v x] := rfl
theorem cellsAV_sl (n : Nat) (cs : List AV) : cellsAV (.sl n cs) = [.sl n cs] := rfl
theorem cellsAV_cp (cs : List AV) : cellsAV (.cp cs) = [.cp cs] := rfl
theorem cellsAV_ref (id off n : Nat) : cellsAV (.ref id off n) = [.ref id off n] := rfl
theorem cellsAV_ptr (id off : Nat) : cellsAV (.ptr id off) = [.ptr id off] := rfl
theorem cellsAV_fn (f : FuncId) (a b : List AV) : cellsAV (.fn f a b) = [.fn f a b] := rfl
theorem cellsAV_ag (cs : List AV) : cellsAV (.ag cs) = cs := rfl

def BX (i : Option TI) (s : St) (d : Option Nat) (cs : List AV) (L : St → Prop) : Prop := match i with
    | some _ => cs.all oneC = true ∧ L (pushS s d (.ptr s.m.length 0) (.row true 1 cs))
    | none => False
theorem wopC_box (t : Nat) (x : Operand) : wopC C P s d (.box t x) ty L = BX (C.ti t) s d (cellsAV (ev s x)) L := rfl
theorem BX_some (i : TI) (cs : List AV) : BX (some i) s d cs L = (cs.all oneC = true ∧ L (pushS s d (.ptr s.m.length 0) (.row true 1 cs))) := rfl
def AL (i : Option TI) (s : St) (d : Option Nat) (L : St → Prop) : Prop := match i with
    | some i => L (pushS s d (.ptr s.m.length 0) (.row true 1 (i.zero.cells.toList.map .v))) ∧ i.zero.cells.all (·.oneCell') = true
    | none => False
theorem wopC_alloc (t : Nat) : wopC C P s d (.alloc t) ty L = AL (C.ti t) s d L := rfl
theorem AL_some (i : TI) : AL (some i) s d L = (L (pushS s d (.ptr s.m.length 0) (.row true 1 (i.zero.cells.toList.map .v))) ∧ i.zero.cells.all (·.oneCell') = true) := rfl

def AP4 (s : St) (d : Option Nat) (i : TI) (e : Nat) (x : AV) (y : Option (Nat × List AV)) (L : St → Prop) : Prop := match y with
    | some (n, ncs) => appendTo s d i e x n ncs L
    | none => False
def AP2 (s : St) (d : Option Nat) (i : Option TI) (e : Nat) (x y : AV) (L : St → Prop) : Prop := match i with
    | some i => AP4 s d i e x (cellsOf s i.size y) L
    | none => False
def AP (C : Ctx) (s : St) (d : Option Nat) (t : Option TypeDesc) (x y : AV) (L : St → Prop) : Prop := match t with
    | some (.slice e) => AP2 s d (C.ti e) e x y L
    | _ => False
theorem wopC_append (x y : Operand) (t : Nat) : wopC C P s d (.call { callee := .builtin .append, args := [x, y].toArray, argTypes := [t, t].toArray }) ty L = AP C s d (C.td t) (ev s x) (ev s y) L := by
  unfold wopC effOp AP AP2 AP4
  simp only [List.map_cons, List.map_nil, true_and]
  generalize C.td t = o
  cases o with
  | none => rfl
  | some x => cases x <;> first | rfl | (rename_i e; show (match C.ti e with | some _ => _ | none => _) = (match C.ti e with | some _ => _ | none => _); cases C.ti e <;> rfl)
theorem AP_slice (e : Nat) (x y : AV) : AP C s d (some (.slice e)) x y L = AP2 s d (C.ti e) e x y L := rfl
theorem AP2_some (i : TI) (e : Nat) (x y : AV) : AP2 s d (some i) e x y L = AP4 s d i e x (cellsOf s i.size y) L := rfl
def AP5 (s : St) (d : Option Nat) (i : TI) (e id len n : Nat) (ncs : List AV) (o : Ob) (L : St → Prop) : Prop := match o with
    | .arr e' sz cs => e' = e ∧ sz = i.size ∧ cs.length = len * sz ∧ ncs.length = n * i.size ∧ len + n ≤ 4611686018427387904 ∧ (len + n) * i.bytes ≤ 140737488355328 ∧
        L ⟨putD (killT id s.t) d (.ref id 0 (len + n)), setOb (killM id s.m) id (.arr e sz (cs ++ ncs))⟩
    | _ => False
theorem AP4_ref (i : TI) (e id len n : Nat) (ncs : List AV) : AP4 s d i e (.ref id 0 len) (some (n, ncs)) L = AP5 s d i e id len n ncs (obj s.m id) L := rfl
theorem AP4_nil (i : TI) (e n : Nat) (ncs : List AV) : AP4 s d i e (.v (.slice none 0 0)) (some (n, ncs)) L = (ncs.length = n * i.size ∧ 0 < i.size ∧ n ≤ 4611686018427387904 ∧ n * i.bytes ≤ 140737488355328 ∧ L (pushS s d (.ref s.m.length 0 n) (.arr e i.size ncs))) := rfl
theorem AP5_arr (i : TI) (e e' sz id len n : Nat) (cs ncs : List AV) : AP5 s d i e id len n ncs (.arr e' sz cs) L = (e' = e ∧ sz = i.size ∧ cs.length = len * sz ∧ ncs.length = n * i.size ∧ len + n ≤ 4611686018427387904 ∧ (len + n) * i.bytes ≤ 140737488355328 ∧
        L ⟨putD (killT id s.t) d (.ref id 0 (len + n)), setOb (killM id s.m) id (.arr e sz (cs ++ ncs))⟩) := rfl

def ST2 (s : St) (d : Option Nat) (i : TI) (id off : Nat) (xs : List AV) (o : Ob) (L : St → Prop) : Prop := match o with
      | .arr e sz cs => xs.length = i.size ∧ off + i.size ≤ cs.length ∧ xs.all (fun c => oneC c && solid c) = true ∧
          L ⟨putD s.t d .junk, setOb s.m id (.arr e sz (setCells cs off xs))⟩
      | .row true sz cs => xs.length = i.size ∧ off + i.size ≤ cs.length ∧ xs.all oneC = true ∧
          L ⟨putD s.t d .junk, setOb s.m id (.row true sz (setCells cs off xs))⟩
      | .row false sz cs => xs.length = i.size ∧ off + i.size ≤ cs.length ∧ xs.all (fun c => oneC c && solid c) = true ∧
          L ⟨putD s.t d .junk, setOb s.m id (.row false sz (setCells cs off xs))⟩
      | _ => False
def ST (s : St) (d : Option Nat) (i : Option TI) (p : AV) (xs : List AV) (L : St → Prop) : Prop := match i, p with
    | some i, .ptr id off => ST2 s d i id off xs (obj s.m id) L
    | _, _ => False
theorem wopC_store (t : Nat) (p x : Operand) : wopC C P s d (.store t p x) ty L = ST s d (C.ti t) (ev s p) (cellsAV (ev s x)) L := rfl
theorem ST_ptr (i : TI) (id off : Nat) (xs : List AV) : ST s d (some i) (.ptr id off) xs L = ST2 s d i id off xs (obj s.m id) L := rfl
theorem ST2_arr (i : TI) (id off e sz : Nat) (cs xs : List AV) : ST2 s d i id off xs (.arr e sz cs) L = (xs.length = i.size ∧ off + i.size ≤ cs.length ∧ xs.all (fun c => oneC c && solid c) = true ∧
          L ⟨putD s.t d .junk, setOb s.m id (.arr e sz (setCells cs off xs))⟩) := rfl
theorem ST2_rowt (i : TI) (id off sz : Nat) (cs xs : List AV) : ST2 s d i id off xs (.row true sz cs) L = (xs.length = i.size ∧ off + i.size ≤ cs.length ∧ xs.all oneC = true ∧
          L ⟨putD s.t d .junk, setOb s.m id (.row true sz (setCells cs off xs))⟩) := rfl
theorem ST2_rowf (i : TI) (id off sz : Nat) (cs xs : List AV) : ST2 s d i id off xs (.row false sz cs) L = (xs.length = i.size ∧ off + i.size ≤ cs.length ∧ xs.all (fun c => oneC c && solid c) = true ∧
          L ⟨putD s.t d .junk, setOb s.m id (.row false sz (setCells cs off xs))⟩) := rfl

def RG (s : St) (d : Option Nat) (t : Option TypeDesc) (x : AV) (L : St → Prop) : Prop := match t, x with
    | some .string, .v (.string b) => L (pushS s d (.ptr s.m.length 0) (.it b.data.toList 0))
    | _, _ => False
theorem wopC_range (t : Nat) (x : Operand) : wopC C P s d (.range t x) ty L = RG s d (C.td t) (ev s x) L := rfl
theorem RG_str (b : ByteArray) : RG s d (some .string) (.v (.string b)) L = L (pushS s d (.ptr s.m.length 0) (.it b.data.toList 0)) := rfl
def NX2 (s : St) (d : Option Nat) (id : Nat) (o : Ob) (L : St → Prop) : Prop := match o with
      | .it t pos => wg (decide (pos < t.length))
          (L ⟨putD s.t d (.tup [.v (.bool true), .v (.int .i64 pos), .v (.int .i32 (Utf8.decode ⟨t.toArray⟩ pos).1)]), setOb s.m id (.it t (pos + (Utf8.decode ⟨t.toArray⟩ pos).2))⟩)
          (L ⟨putD s.t d (.tup [.v (.bool false)]), s.m⟩)
      | _ => False
def NX (s : St) (d : Option Nat) (x : AV) (L : St → Prop) : Prop := match x with | .ptr id 0 => NX2 s d id (obj s.m id) L | _ => False
theorem wopC_next (it : Operand) : wopC C P s d (.next it true) ty L = NX s d (ev s it) L := rfl
theorem NX_ptr (id : Nat) : NX s d (.ptr id 0) L = NX2 s d id (obj s.m id) L := rfl
theorem NX2_it (id : Nat) (t : List UInt8) (pos : Nat) : NX2 s d id (.it t pos) L = WG (decide (pos < t.length))
          (L ⟨putD s.t d (.tup [.v (.bool true), .v (.int .i64 pos), .v (.int .i32 (Utf8.decode ⟨t.toArray⟩ pos).1)]), setOb s.m id (.it t (pos + (Utf8.decode ⟨t.toArray⟩ pos).2))⟩)
          (L ⟨putD s.t d (.tup [.v (.bool false)]), s.m⟩) := (WG_eq _ _ _).symm

/-! ### Guards -/
def GO (C : Ctx) (P : Program) (ops : List Oper) (Q : Exit → St → Prop) (os : List Oper) (k : Option Nat) (want : Bool) (d : Option Nat) (op : Op) (ty : Nat) (s : St) : Prop := match k with
    | none => False
    | some k => GD C P ops Q os (get s.t k) k want d op ty s
def GP (C : Ctx) (P : Program) (ops : List Oper) (Q : Exit → St → Prop) (os : List Oper) (ph : Ph) (k : Option Nat) (want : Bool) (d : Option Nat) (op : Op) (s : St) : Prop := match k with
    | none => False
    | some k => GQ C P ops Q os ph (get s.t k) k want d op s
section
variable (ops os : List Oper) (op : Op) (pos : String) (af : Array Edge) (j k : Nat) (want : Bool)
theorem WR_guard_true : WR C P ops Q ({ dst := d, op := op, type := ty, pos := pos, after := af, guard := some (j, true) } :: os) s = GO C P ops Q os (dstOf ops j) true d op ty s := WR_true ..
theorem WR_guard_false : WR C P ops Q ({ dst := d, op := op, type := ty, pos := pos, after := af, guard := some (j, false) } :: os) s = GO C P ops Q os (dstOf ops j) false d op ty s := WR_false ..
theorem QR_guard_true (ph : Ph) : QR C P ops Q ({ dst := d, op := op, type := ty, pos := pos, after := af, guard := some (j, true) } :: os) ph s = QK C P ops Q os ph d op ty (GP C P ops Q os ph (dstOf ops j) true d op s) s (kindOf op) := QR_true ..
theorem QR_guard_false (ph : Ph) : QR C P ops Q ({ dst := d, op := op, type := ty, pos := pos, after := af, guard := some (j, false) } :: os) ph s = QK C P ops Q os ph d op ty (GP C P ops Q os ph (dstOf ops j) false d op s) s (kindOf op) := QR_false ..
theorem GO_some : GO C P ops Q os (some k) want d op ty s = GD C P ops Q os (get s.t k) k want d op ty s := rfl
theorem GP_some (ph : Ph) : GP C P ops Q os ph (some k) want d op s = GQ C P ops Q os ph (get s.t k) k want d op s := rfl
end

/-! ### The border -/
def EO (id n : Nat) (used : List Nat) (o : Ob) (K : AV → List Nat → Prop) : Prop := match o with
    | .arr e sz cs => used.contains id = false ∧ cs.length = n * sz ∧ K (.own e sz n cs) (used ++ [id])
    | _ => False
section
variable {M : AV → List Nat → Prop} {M2 : List AV → List Nat → Prop} (u : List Nat)
theorem expP_ref (id n : Nat) : expP s u (.ref id 0 n) M = EO id n u (obj s.m id) M := rfl
theorem EO_arr (id n e sz : Nat) (cs : List AV) : EO id n u (.arr e sz cs) M = (u.contains id = false ∧ cs.length = n * sz ∧ M (.own e sz n cs) (u ++ [id])) := rfl
theorem expP_v (x : Value) : expP s u (.v x) M = M (.v x) u := rfl
theorem expP_sl (n : Nat) (cs : List AV) : expP s u (.sl n cs) M = M (.sl n cs) u := rfl
theorem expP_cp (cs : List AV) : expP s u (.cp cs) M = M (.cp cs) u := rfl
theorem expP_mp (es : List (Value × AV)) : expP s u (.mp es) M = M (.mp es) u := rfl
theorem expP_ag (xs : List AV) : expP s u (.ag xs) M = expsP s u xs fun ys u => M (.ag ys) u := rfl
theorem expP_fn (f : FuncId) (a b : List AV) : expP s u (.fn f a b) M = ((namess a || namess b) = false ∧ M (.fn f a b) u) := rfl
theorem expsP_nil : expsP s u [] M2 = M2 [] u := rfl
theorem expsP_cons (x : AV) (l : List AV) : expsP s u (x :: l) M2 = expP s u x fun y u => expsP s u l fun ys u' => M2 (y :: ys) u' := rfl
theorem retQ_ret (z : Bool) (ts : List ResultVar) (r : AV) : retQ C z ts r .ret s = ressK C s ts (expR z s r) := rfl
theorem retQ_normal (z : Bool) (ts : List ResultVar) (r : AV) : retQ C z ts r .normal s = ressK C s ts (expR z s r) := rfl
theorem ressK_nil (K : List AV → Prop) : ressK C s [] K = K [] := rfl
theorem ressK_cons (r : ResultVar) (rs : List ResultVar) (K : List AV → Prop) : ressK C s (r :: rs) K = resK C s r fun x => ressK C s rs fun xs => K (x :: xs) := rfl
theorem resK_tmp (t : Nat) (K : AV → Prop) : resK C s (.tmp t) K = K (get s.t t) := rfl
theorem resK_cell (p t : Nat) (K : AV → Prop) : resK C s (.cell p t) K = pureOp C s (.load t (.tmp p)) K := rfl
theorem expR_none (r : AV) : expR false s r [] = (.tup [] = r) := rfl
theorem expR_one (r x : AV) : expR false s r [x] = expP s [] x fun y _ => y = r := rfl
theorem expR_many (r x y : AV) (l : List AV) : expR false s r (x :: y :: l) = expsP s [] (x :: y :: l) fun ys _ => .tup ys = r := rfl
theorem expR_zone (r x : AV) : expR true s r [x] = (fz s x = r) := rfl
theorem expR_zmany (r x y : AV) (l : List AV) : expR true s r (x :: y :: l) = (.tup (fzs s (x :: y :: l)) = r) := rfl
end
theorem ev_tmp (k : Nat) : ev s (.tmp k) = get s.t k := rfl
theorem ev_const (v : Value) : ev s (.const v) = .v v := rfl
theorem ev_func (f : FuncId) : ev s (.func f) = .fn f [] [] := rfl
theorem oneC_v (v : Value) : oneC (.v v) = v.oneCell' := rfl
theorem oneC_sl (n : Nat) (cs : List AV) : oneC (.sl n cs) = true := rfl
theorem oneC_ref (id off n : Nat) : oneC (.ref id off n) = true := rfl
theorem oneC_ptr (id off : Nat) : oneC (.ptr id off) = true := rfl
theorem oneC_cp (cs : List AV) : oneC (.cp cs) = true := rfl
theorem oneC_fn (f : FuncId) (a b : List AV) : oneC (.fn f a b) = true := rfl
theorem oneC_mp (es : List (Value × AV)) : oneC (.mp es) = true := rfl
theorem solid_v (v : Value) : solid (.v v) = true := rfl
theorem solid_sl (n : Nat) (cs : List AV) : solid (.sl n cs) = true := rfl
theorem solid_cp (cs : List AV) : solid (.cp cs) = true := rfl
theorem solid_fn (f : FuncId) (a b : List AV) : solid (.fn f a b) = false := rfl
theorem solid_ptr (i o : Nat) : solid (.ptr i o) = false := rfl
theorem solid_ref (i o n : Nat) : solid (.ref i o n) = false := rfl
theorem solid_mp (es : List (Value × AV)) : solid (.mp es) = true := rfl
theorem oneCell_int (k : IntKind) (n : Int) : (Value.int k n).oneCell' = true := rfl
theorem oneCell_bool (b : Bool) : (Value.bool b).oneCell' = true := rfl
theorem oneCell_string (b : ByteArray) : (Value.string b).oneCell' = true := rfl
theorem oneCell_slice (p : Option Addr) (n c : Nat) : (Value.slice p n c).oneCell' = true := rfl
theorem killX_eq (id : Nat) (x : AV) : killX id x = bif hasId id x then .junk else x := by unfold killX; cases hasId id x <;> rfl

/-! ### Plans -/
def TO (C : Ctx) (P : Program) (o : Option Oper) (L : St → Prop) (s : St) : Prop := match o with | some o => takeOp C s o.dst o.op L | none => False
def OO (C : Ctx) (P : Program) (o : Option Oper) (L : St → Prop) (s : St) : Prop := match o with | some o => wop C P s o L | none => False
/-- What is to be shown of a plan. -/
structure PR (C : Ctx) (P : Program) (ops : List Oper) (Q : St → Prop) (pl : Plan) (s : St) : Prop where
  out : pops C P ops Q pl s
theorem PR_eq (ops : List Oper) (Q : St → Prop) (pl : Plan) : PR C P ops Q pl = pops C P ops Q pl := by funext s; exact propext ⟨fun h => h.out, fun h => ⟨h⟩⟩
theorem PR_done (ops : List Oper) (Q : St → Prop) : PR C P ops Q .done s = Q s := by rw [PR_eq]; rfl
theorem PR_take (ops : List Oper) (Q : St → Prop) (i : Nat) (p : Plan) : PR C P ops Q (.take i p) s = TO C P ops[i]? (PR C P ops Q p) s := by rw [PR_eq, PR_eq]; rfl
theorem PR_one (ops : List Oper) (Q : St → Prop) (i : Nat) (p : Plan) : PR C P ops Q (.one i p) s = OO C P ops[i]? (PR C P ops Q p) s := by rw [PR_eq, PR_eq]; rfl
theorem PR_two (ops : List Oper) (Q : St → Prop) (i j : Nat) (p q : Plan) : PR C P ops Q (.two i p j q) s = (OO C P ops[i]? (PR C P ops Q p) s ∧ OO C P ops[j]? (PR C P ops Q q) s) := by rw [PR_eq, PR_eq, PR_eq]; rfl
theorem OO_some (op : Op) (ty : Nat) (pos : String) (af : Array Edge) (g : Option (Nat × Bool)) : OO C P (some { dst := d, op := op, type := ty, pos := pos, after := af, guard := g }) L s = wopC C P s d op ty L := wop_eq _ _ _ _ _ _ _
theorem TO_some (op : Op) (ty : Nat) (pos : String) (af : Array Edge) (g : Option (Nat × Bool)) : TO C P (some { dst := d, op := op, type := ty, pos := pos, after := af, guard := g }) L s = takeOp C s d op L := rfl
theorem take_move (x : Operand) : takeOp C s d (.move x) L = L ⟨putD s.t d (ev s x), s.m⟩ := rfl
theorem take_assign (x : Operand) : takeOp C s d (.assign x) L = L ⟨putD s.t d (ev s x), s.m⟩ := rfl
theorem take_binOp (o : BinOp) (t u : Nat) (x y : Operand) : takeOp C s d (.binOp o t x y u) L = ((plain1 (ev s x) && (plain1 (ev s y) && true)) = true ∧ pureOp C s (.binOp o t x y u) (kpl s d L)) := by simp [takeOp, takeOp.slotOnlyP, Op.operands]
theorem take_pick (c x y : Operand) : takeOp C s d (.pick c x y) L = ((plain1 (ev s c) && (plain1 (ev s x) && plain1 (ev s y))) = true ∧ pureOp C s (.pick c x y) (kpl s d L)) := by simp [takeOp, takeOp.slotOnlyP, Op.operands]
theorem take_unOp (o : UnOp) (t : Nat) (x : Operand) : takeOp C s d (.unOp o t x) L = (plain1 (ev s x) = true ∧ pureOp C s (.unOp o t x) (kpl s d L)) := by simp [takeOp, takeOp.slotOnlyP, Op.operands]
theorem take_index (t : Nat) (x y : Operand) : takeOp C s d (.index t x y) L = ((plain1 (ev s x) && plain1 (ev s y)) = true ∧ pureOp C s (.index t x y) (kpl s d L)) := by simp [takeOp, takeOp.slotOnlyP, Op.operands]
theorem take_slice0 (t : Nat) (x : Operand) : takeOp C s d (.slice t x none none none) L = (plain1 (ev s x) = true ∧ pureOp C s (.slice t x none none none) (kpl s d L)) := by simp [takeOp, takeOp.slotOnlyP, Op.operands]
theorem take_slice1 (t : Nat) (x y : Operand) : takeOp C s d (.slice t x (some y) none none) L = ((plain1 (ev s x) && plain1 (ev s y)) = true ∧ pureOp C s (.slice t x (some y) none none) (kpl s d L)) := by simp [takeOp, takeOp.slotOnlyP, Op.operands]
theorem take_slice2 (t : Nat) (x z : Operand) : takeOp C s d (.slice t x none (some z) none) L = ((plain1 (ev s x) && plain1 (ev s z)) = true ∧ pureOp C s (.slice t x none (some z) none) (kpl s d L)) := by simp [takeOp, takeOp.slotOnlyP, Op.operands]
theorem take_slice3 (t : Nat) (x y z : Operand) : takeOp C s d (.slice t x (some y) (some z) none) L = ((plain1 (ev s x) && (plain1 (ev s y) && plain1 (ev s z))) = true ∧ pureOp C s (.slice t x (some y) (some z) none) (kpl s d L)) := by simp [takeOp, takeOp.slotOnlyP, Op.operands]
theorem kpl_eq (x : AV) : kpl s d L x = (plain1 x = true ∧ L ⟨putD s.t d x, s.m⟩) := rfl
theorem plain1_v (x : Value) : plain1 (.v x) = true := rfl
/-- A region whose order is open: as quiet ones are, or by a plan. -/
theorem DR_q (l : List Oper) (h : QR C P l Q l (.p1 none) s) : DR C P l Q s := ⟨.inl (by rw [QR_eq] at h; exact h)⟩
theorem DR_p (pl : Plan) (l : List Oper) (hok : planOk l.toArray l.length (Array.replicate l.length false) pl = true) (h : PR C P l (Q .normal) pl s) : DR C P l Q s := ⟨.inr ⟨pl, by simpa using hok, h.out⟩⟩

/-! ### A call, its arguments frozen before simp's eyes -/
structure WE (P : Program) (f : FuncId) (as : List AV) (nm : Bool) (K : AV → Prop) (X : Prop) : Prop where
  out : (∃ r, Spec P f as r ∧ (nm = false ∨ clean r) ∧ K r) ∨ X
/-- The other way: objects are lent. -/
structure LX (P : Program) (s : St) (d : Option Nat) (f : FuncId) (args : List AV) (L : St → Prop) : Prop where
  out : lcall P s d f args L
def ks (s : St) (d : Option Nat) (L : St → Prop) (r : AV) : Prop := L (importS s d r)
def kq (s : St) (d : Option Nat) (L : St → Prop) (r : AV) : Prop := plainR (unown r) = true ∧ L ⟨putD s.t d (unown r), s.m⟩
theorem ks_eq (r : AV) : ks s d L r = L (importS s d r) := rfl
theorem kq_eq (r : AV) : kq s d L r = (plainR (unown r) = true ∧ L ⟨putD s.t d (unown r), s.m⟩) := rfl
theorem WC_norm (f : FuncId) (args : List AV) : WC P s d f args L = WE P f (fzs s args) (namess args) (ks s d L) (LX P s d f args L) := by
  rw [WC_eq]
  exact propext ⟨fun h => ⟨h.imp id fun h => ⟨h⟩⟩, fun h => h.out.imp id fun h => h.out⟩
theorem QC_norm (f : FuncId) (args : List AV) : QC P s d f args L = (belows s.m.length args = true ∧ WE P f (fzs s args) (namess args) (kq s d L) False) := by
  rw [QC_eq]; exact propext ⟨fun ⟨r, h1, h2, h2', h3, h4⟩ => ⟨h2', ⟨.inl ⟨r, h1, h2, h3, h4⟩⟩⟩, fun ⟨h2', h⟩ => (let ⟨r, h1, h2, h3, h4⟩ := h.out.resolve_right id; ⟨r, h1, h2, h2', h3, h4⟩)⟩
theorem WE_use {f : FuncId} {as : List AV} {nm : Bool} {r : AV} {X : Prop} (hs : Spec P f as r) (hc : nm = false ∨ clean r) (hk : K r) : WE P f as nm K X := ⟨.inl ⟨r, hs, hc, hk⟩⟩
/-- What is to be shown of a call to which objects are lent. -/
def LR (σ : List Nat) (m0 : List Ob) (as : List AV) (m1 : List Ob) (r : AV) (s : St) (d : Option Nat) (args : List AV) (L : St → Prop) : Prop :=
  nodupN σ = true ∧ lendObs σ.length (renF σ s.m.length) s.m σ m0 ∧ kindsOk m0 m1 = true ∧ belows σ.length as = true ∧ rens (renF σ s.m.length) as = args ∧ L (afterL s d σ m0 m1 r)
theorem WL_fit (σ : List Nat) {f : FuncId} {m0 m1 : List Ob} {as args fa : List AV} {r : AV} {nm : Bool} (hs : SpecL P f m0 as m1 r) (h : LR σ m0 as m1 r s d args L) : WE P f fa nm K (LX P s d f args L) := by
  obtain ⟨h1, h2, h3, h4, h5, h6⟩ := h
  exact ⟨.inr ⟨⟨σ, m0, as, m1, r, hs, h1, h2, h3, h4, h5, h6⟩⟩⟩
theorem LR_eq (σ : List Nat) (m0 : List Ob) (as : List AV) (m1 : List Ob) (r : AV) (args : List AV) : LR σ m0 as m1 r s d args L = (nodupN σ = true ∧ lendObs σ.length (renF σ s.m.length) s.m σ m0 ∧ kindsOk m0 m1 = true ∧ belows σ.length as = true ∧ rens (renF σ s.m.length) as = args ∧
  L ⟨putD (killTs (givL σ m0) s.t) d (ren (renF σ s.m.length) r), updM (renF σ s.m.length) (killMs (givL σ m0) s.m) σ m1 ++ (m1.drop σ.length).map (renO (renF σ s.m.length))⟩) := rfl
theorem retQL_ret (ts : List ResultVar) (m1 : List Ob) (r : AV) : retQL C ts m1 r .ret s = ressK C s ts (expL s m1 r) := rfl
theorem retQL_normal (ts : List ResultVar) (m1 : List Ob) (r : AV) : retQL C ts m1 r .normal s = ressK C s ts (expL s m1 r) := rfl
theorem expL_none (m1 : List Ob) (r : AV) : expL s m1 r [] = (.tup [] = r ∧ wkM s.m m1 ∧ belowM m1.length m1 = true ∧ below m1.length r = true) := rfl
theorem expL_one (m1 : List Ob) (r x : AV) : expL s m1 r [x] = (x = r ∧ wkM s.m m1 ∧ belowM m1.length m1 = true ∧ below m1.length r = true) := rfl
theorem expL_many (m1 : List Ob) (r x y : AV) (l : List AV) : expL s m1 r (x :: y :: l) = (.tup (x :: y :: l) = r ∧ wkM s.m m1 ∧ belowM m1.length m1 = true ∧ below m1.length r = true) := rfl
theorem wkM_nil (m : List Ob) : wkM m [] = (noF m = true) := by simp only [wkM]
theorem wkM_cons (p o : Ob) (m l : List Ob) : wkM (p :: m) (o :: l) = ((o = .dead ∧ isF p = false ∨ o = p) ∧ wkM m l) := by simp only [wkM]
def FZ (o : Ob) (off n : Nat) : AV := match o with
    | .arr _ sz cs => .sl n ((cs.drop off).take (n * sz))
    | .row false sz cs => .sl n ((cs.drop off).take (n * sz))
    | _ => .junk
def FZP (s : St) (o : Ob) (off : Nat) : AV := match o with
    | .arr _ _ cs => .cp (cs.drop off)
    | .row false _ cs => .cp (cs.drop off)
    | .row true _ cs => .cp ((cs.map (fz1 s)).drop off)
    | _ => .junk
theorem fz_v (v : Value) : fz s (.v v) = .v v := rfl
theorem fz_un : fz s .un = .un := rfl
theorem fz_sl (n : Nat) (cs : List AV) : fz s (.sl n cs) = .sl n cs := rfl
theorem fz_cp (cs : List AV) : fz s (.cp cs) = .cp cs := rfl
theorem fz_mp (es : List (Value × AV)) : fz s (.mp es) = .mp es := rfl
theorem fz_ag (cs : List AV) : fz s (.ag cs) = .ag (fzs s cs) := rfl
theorem fz_tup (cs : List AV) : fz s (.tup cs) = .tup (fzs s cs) := rfl
theorem fz_fn (f : FuncId) (a b : List AV) : fz s (.fn f a b) = .fn f (fzs s a) (fzs s b) := rfl
theorem fz_ref (id off n : Nat) : fz s (.ref id off n) = FZ (obj s.m id) off n := rfl
theorem fz_ptr (id off : Nat) : fz s (.ptr id off) = FZP s (obj s.m id) off := rfl
theorem FZ_arr (e sz off n : Nat) (cs : List AV) : FZ (.arr e sz cs) off n = .sl n ((cs.drop off).take (n * sz)) := rfl
theorem FZ_row (sz off n : Nat) (cs : List AV) : FZ (.row false sz cs) off n = .sl n ((cs.drop off).take (n * sz)) := rfl
theorem FZP_arr (e sz off : Nat) (cs : List AV) : FZP s (.arr e sz cs) off = .cp (cs.drop off) := rfl
theorem FZP_rowf (sz off : Nat) (cs : List AV) : FZP s (.row false sz cs) off = .cp (cs.drop off) := rfl
theorem FZP_rowt (sz off : Nat) (cs : List AV) : FZP s (.row true sz cs) off = .cp ((cs.map (fz1 s)).drop off) := rfl
theorem fz1_v (v : Value) : fz1 s (.v v) = .v v := rfl
theorem fz1_sl (n : Nat) (cs : List AV) : fz1 s (.sl n cs) = .sl n cs := rfl
theorem fz1_cp (cs : List AV) : fz1 s (.cp cs) = .cp cs := rfl
theorem fz1_mp (es : List (Value × AV)) : fz1 s (.mp es) = .mp es := rfl
theorem fz1_ref (id off n : Nat) : fz1 s (.ref id off n) = FZ (obj s.m id) off n := rfl
theorem take_map_len {α : Type} (f : α → AV) (l : List α) : (l.map f).take l.length = l.map f := List.take_of_length_le (by simp)
theorem clean_u8 (e sz n : Nat) (l : List UInt8) : clean (.own e sz n (l.map U8)) := by
  intro c hc
  obtain ⟨x, _, rfl⟩ := List.mem_map.1 hc
  exact ⟨_, rfl⟩
theorem clean_i32 (e sz n : Nat) (l : List Int) : clean (.own e sz n (l.map I32)) := by
  intro c hc
  obtain ⟨x, _, rfl⟩ := List.mem_map.1 hc
  exact ⟨_, rfl⟩
theorem clean_str (e sz n : Nat) (l : List (List UInt8)) : clean (.own e sz n (l.map Sv)) := by
  intro c hc
  obtain ⟨x, _, rfl⟩ := List.mem_map.1 hc
  exact ⟨_, rfl⟩
theorem clean_v (v : Value) : clean (.v v) := trivial
theorem clean_tup (xs : List AV) (h : cleans xs) : clean (.tup xs) := h
theorem cleans_nil : cleans [] := trivial
theorem cleans_cons (x : AV) (l : List AV) (h : clean x) (k : cleans l) : cleans (x :: l) := ⟨h, k⟩
theorem shiftO_arr (k e sz : Nat) (cs : List AV) : shiftO k (.arr e sz cs) = .arr e sz cs := rfl
theorem shiftO_row (k sz : Nat) (cs : List AV) : shiftO k (.row false sz cs) = .row false sz cs := rfl

/-! ### Comparisons -/
theorem wopC_binOp (o : BinOp) (t : Nat) (x y : Operand) (u : Nat) : wopC C P s d (.binOp o t x y u) ty L = bin2 C o t (ev s x) (ev s y) (kput s d L) (BI C o t (ev s x) (ev s y) (kput s d L)) := rfl
theorem qopC_binOp (o : BinOp) (t : Nat) (x y : Operand) (u : Nat) : qopC C P s d (.binOp o t x y u) L = bin2 C o t (ev s x) (ev s y) (kput s d L) (BI C o t (ev s x) (ev s y) (kput s d L)) := rfl
section
variable {o : BinOp} {t : Nat} {D : Prop}
theorem B2_int (k k' : IntKind) (a b : Int) : bin2 C o t (.v (.int k a)) (.v (.int k' b)) K D = D := rfl
theorem B2_bool (a b : Bool) : bin2 C o t (.v (.bool a)) (.v (.bool b)) K D = D := rfl
theorem B2_str (a b : ByteArray) : bin2 C o t (.v (.string a)) (.v (.string b)) K D = D := rfl
def B2E (C : Ctx) (t : Nat) (a b : Option (List Value)) (f : Bool → Bool) (K : AV → Prop) : Prop := match a, b with
  | some a, some b => fitsK C t (.agg a.toArray) = true ∧ fitsK C t (.agg b.toArray) = true ∧ K (.v (.bool (f (eqs a b))))
  | _, _ => False
theorem B2_ageql (cs ds : List AV) : bin2 C .eql t (.ag cs) (.ag ds) K D = B2E C t (plainVs cs) (plainVs ds) id K := by
  simp only [bin2, B2E]; cases plainVs cs <;> cases plainVs ds <;> rfl
theorem B2_agneq (cs ds : List AV) : bin2 C .neq t (.ag cs) (.ag ds) K D = B2E C t (plainVs cs) (plainVs ds) not K := by
  simp only [bin2, B2E]; cases plainVs cs <;> cases plainVs ds <;> rfl
theorem B2E_id (a b : List Value) : B2E C t (some a) (some b) id K = (fitsK C t (.agg a.toArray) = true ∧ fitsK C t (.agg b.toArray) = true ∧ K (.v (.bool (eqs a b)))) := rfl
theorem B2E_not (a b : List Value) : B2E C t (some a) (some b) not K = (fitsK C t (.agg a.toArray) = true ∧ fitsK C t (.agg b.toArray) = true ∧ K (.v (.bool (!eqs a b)))) := rfl
def B2S (d : Option TypeDesc) (X : Prop) : Prop := match d with
  | some (.slice _) => X
  | _ => False
def B2N (t : Option TypeDesc) (b : Bool) (K : AV → Prop) : Prop := match t with | some (.func _ _ _) => K (.v (.bool b)) | _ => False
theorem B2_fneql (f : FuncId) (a b : List AV) : bin2 C .eql t (.fn f a b) (.v .nilFunc) K D = B2N (C.td t) false K := by
  simp only [bin2, B2N]; cases C.td t with | none => rfl | some d => cases d <;> rfl
theorem B2_fnneq (f : FuncId) (a b : List AV) : bin2 C .neq t (.fn f a b) (.v .nilFunc) K D = B2N (C.td t) true K := by
  simp only [bin2, B2N]; cases C.td t with | none => rfl | some d => cases d <;> rfl
theorem B2_nneql : bin2 C .eql t (.v .nilFunc) (.v .nilFunc) K D = B2N (C.td t) true K := by
  simp only [bin2, B2N]; cases C.td t with | none => rfl | some d => cases d <;> rfl
theorem B2_nnneq : bin2 C .neq t (.v .nilFunc) (.v .nilFunc) K D = B2N (C.td t) false K := by
  simp only [bin2, B2N]; cases C.td t with | none => rfl | some d => cases d <;> rfl
theorem B2_sleql (n : Nat) (cs : List AV) : bin2 C .eql t (.sl n cs) (.v (.slice none 0 0)) K D = B2S (C.td t) (0 < n ∧ K (.v (.bool false))) := by
  simp only [bin2, B2S, nilP]; cases C.td t with | none => rfl | some d => cases d <;> rfl
theorem B2_slneq (n : Nat) (cs : List AV) : bin2 C .neq t (.sl n cs) (.v (.slice none 0 0)) K D = B2S (C.td t) (0 < n ∧ K (.v (.bool true))) := by
  simp only [bin2, B2S, nilP]; cases C.td t with | none => rfl | some d => cases d <;> rfl
theorem B2_refeql (id off n : Nat) : bin2 C .eql t (.ref id off n) (.v (.slice none 0 0)) K D = B2S (C.td t) (0 < n ∧ K (.v (.bool false))) := by
  simp only [bin2, B2S, nilP]; cases C.td t with | none => rfl | some d => cases d <;> rfl
theorem B2_refneq (id off n : Nat) : bin2 C .neq t (.ref id off n) (.v (.slice none 0 0)) K D = B2S (C.td t) (0 < n ∧ K (.v (.bool true))) := by
  simp only [bin2, B2S, nilP]; cases C.td t with | none => rfl | some d => cases d <;> rfl
theorem B2_nileql : bin2 C .eql t (.v (.slice none 0 0)) (.v (.slice none 0 0)) K D = B2S (C.td t) (K (.v (.bool true))) := by
  simp only [bin2, B2S, nilP]; cases C.td t with | none => rfl | some d => cases d <;> rfl
theorem B2_nilneq : bin2 C .neq t (.v (.slice none 0 0)) (.v (.slice none 0 0)) K D = B2S (C.td t) (K (.v (.bool false))) := by
  simp only [bin2, B2S, nilP]; cases C.td t with | none => rfl | some d => cases d <;> rfl
theorem B2_adreql (a : Addr) (n c : Nat) : bin2 C .eql t (.v (.slice (some a) n c)) (.v (.slice none 0 0)) K D = B2S (C.td t) (K (.v (.bool false))) := by
  simp only [bin2, B2S, nilP]; cases C.td t with | none => rfl | some d => cases d <;> rfl
theorem B2_adrneq (a : Addr) (n c : Nat) : bin2 C .neq t (.v (.slice (some a) n c)) (.v (.slice none 0 0)) K D = B2S (C.td t) (K (.v (.bool true))) := by
  simp only [bin2, B2S, nilP]; cases C.td t with | none => rfl | some d => cases d <;> rfl
theorem B2S_sl (e : Nat) (X : Prop) : B2S (some (.slice e)) X = X := rfl
theorem B2N_fn (a b : Array TypeId) (v e : Bool) : B2N (some (.func a b v)) e K = K (.v (.bool e)) := rfl
end
theorem eqs_nil : eqs [] [] = true := rfl
theorem eqs_cons (a b : Value) (l m : List Value) : eqs (a :: l) (b :: m) = (eq1 a b && eqs l m) := rfl
theorem eq1_int (k k' : IntKind) (a b : Int) : eq1 (.int k a) (.int k' b) = (a == b) := rfl
theorem eq1_bool (a b : Bool) : eq1 (.bool a) (.bool b) = (a == b) := rfl
theorem eq1_str (a b : ByteArray) : eq1 (.string a) (.string b) = (a.data.toList == b.data.toList) := rfl

/-! ### Plain values -/
def PVs (x : Value) (o : Option (List Value)) : Option (List Value) := match o with | some l => some (x :: l) | none => none
def PVa (o : Option (List Value)) : Option Value := match o with | some l => some (.agg l.toArray) | none => none
theorem plainV_v (x : Value) : plainV (.v x) = some x := by simp [plainV]
theorem plainV_ag (cs : List AV) : plainV (.ag cs) = PVa (plainVs cs) := by simp only [plainV, PVa]; cases plainVs cs <;> rfl
theorem PVa_some (l : List Value) : PVa (some l) = some (.agg l.toArray) := rfl
theorem plainVs_nil : plainVs [] = some [] := by simp [plainVs]
theorem plainVs_cons (x : Value) (l : List AV) : plainVs (.v x :: l) = PVs x (plainVs l) := by simp only [plainVs, plainV, PVs]; cases plainVs l <;> rfl
theorem PVs_some (x : Value) (l : List Value) : PVs x (some l) = some (x :: l) := rfl
theorem plainVs_map {α : Type} (f : α → Value) (l : List α) : plainVs (l.map fun a => .v (f a)) = some (l.map f) := by
  induction l with
  | nil => simp [plainVs]
  | cons a l ih => simp [plainVs, plainV, ih]

/-! ### Structs built -/
theorem wopC_build (t : Nat) (ps : Array (Nat × Operand)) : wopC C P s d (.build t ps) ty L = buildOp C (C.ti t) (ps.toList.map fun p => (p.1, ev s p.2)) (kput s d L) := rfl
theorem qopC_build (t : Nat) (ps : Array (Nat × Operand)) : qopC C P s d (.build t ps) L = buildOp C (C.ti t) (ps.toList.map fun p => (p.1, ev s p.2)) (kput s d L) := rfl
theorem BO_some (fs : List Field) (sz b : Nat) (z : Value) (ps : List (Nat × AV)) : buildOp C (some ⟨.struct fs.toArray, sz, b, z⟩) ps K = ((fs.all fun f => (C.ti f.type).isSome) = true ∧ fillCells C fs (z.cells.toList.map .v) ps (kag K)) := rfl
theorem kag_eq (cs : List AV) : kag K cs = K (.ag cs) := rfl
section
variable (fs : List Field) (cs : List AV) (M : List AV → Prop)
def FC2 (C : Ctx) (fs : List Field) (cs : List AV) (l : List (Nat × AV)) (M : List AV → Prop) (xs : List AV) (off : Nat) (i : Option TI) : Prop := match i with
  | some i => xs.length = i.size ∧ off + i.size ≤ cs.length ∧ xs.all oneC = true ∧ fillCells C fs (setCells cs off xs) l M
  | none => False
def FC (C : Ctx) (fs : List Field) (cs : List AV) (l : List (Nat × AV)) (M : List AV → Prop) (x : AV) (f : Option Field) : Prop := match f with
  | some fd => FC2 C fs cs l M (cellsAV x) fd.offset (C.ti fd.type)
  | none => False
theorem fillCells_nil : fillCells C fs cs [] M = M cs := rfl
theorem fillCells_cons (j : Nat) (x : AV) (l : List (Nat × AV)) : fillCells C fs cs ((j, x) :: l) M = FC C fs cs l M x fs[j]? := by
  simp only [fillCells, FC, FC2]
  cases fs[j]? with
  | none => rfl
  | some fd => simp only; cases C.ti fd.type <;> rfl
theorem FC_some (fd : Field) (x : AV) (l : List (Nat × AV)) : FC C fs cs l M x (some fd) = FC2 C fs cs l M (cellsAV x) fd.offset (C.ti fd.type) := rfl
theorem FC2_some (i : TI) (off : Nat) (xs : List AV) (l : List (Nat × AV)) : FC2 C fs cs l M xs off (some i) = (xs.length = i.size ∧ off + i.size ≤ cs.length ∧ xs.all oneC = true ∧ fillCells C fs (setCells cs off xs) l M) := rfl
end
theorem cells_agg (cs : Array Value) : (Value.agg cs).cells = cs := rfl
theorem setCells_nil (cs : List AV) (i : Nat) : setCells cs i [] = cs := rfl
theorem setCells_cons (cs : List AV) (i : Nat) (x : AV) (l : List AV) : setCells cs i (x :: l) = setCells (setNth cs i x) (i + 1) l := rfl
theorem setNth_zero (c x : AV) (l : List AV) : setNth (c :: l) 0 x = x :: l := rfl
theorem setNth_succ (c x : AV) (l : List AV) (n : Nat) : setNth (c :: l) (n + 1) x = c :: setNth l n x := rfl
theorem cellsAV_mr (id : Nat) : cellsAV (.mr id) = [.mr id] := rfl
theorem cellsAV_ag' (cs : List AV) : cellsAV (.ag cs) = cs := rfl

/-! ### Maps -/
theorem wopC_lookup (t : Nat) (x i : Operand) (ok : Bool) : wopC C P s d (.lookup t x i ok) ty L = lookOp C (C.td t) (mapOf s (ev s x)) (plainV (ev s i)) ok (kput s d L) := rfl
theorem qopC_lookup (t : Nat) (x i : Operand) (ok : Bool) : qopC C P s d (.lookup t x i ok) L = lookOp C (C.td t) (mapOf s (ev s x)) (plainV (ev s i)) ok (kput s d L) := rfl
def LK2 (C : Ctx) (kt : Nat) (i : Option TI) (es : List (Value × AV)) (key : Value) (ok : Bool) (K : AV → Prop) : Prop := match i with
  | some ie => fitsK C kt key = true ∧ (∀ e ∈ es, fitsK C kt e.1 = true) ∧ MG (mget key es) (fun x => K (okV ok x true)) (K (okV ok (zeroAV ie.zero) false))
  | none => False
theorem lookOp_some (kt e : Nat) (es : List (Value × AV)) (key : Value) (ok : Bool) : lookOp C (some (.map kt e)) (some es) (some key) ok K = LK2 C kt (C.ti e) es key ok K := by
  simp only [lookOp, LK2]; cases C.ti e <;> rfl
theorem LK2_some (kt : Nat) (ie : TI) (es : List (Value × AV)) (key : Value) (ok : Bool) : LK2 C kt (some ie) es key ok K = (fitsK C kt key = true ∧ (∀ e ∈ es, fitsK C kt e.1 = true) ∧ MG (mget key es) (fun x => K (okV ok x true)) (K (okV ok (zeroAV ie.zero) false))) := rfl
theorem MG_some (x : AV) (A : AV → Prop) (B : Prop) : MG (some x) A B = A x := rfl
theorem MG_none (A : AV → Prop) (B : Prop) : MG none A B = B := rfl
theorem okV_true (x : AV) (b : Bool) : okV true x b = .tup [x, .v (.bool b)] := rfl
theorem okV_false (x : AV) (b : Bool) : okV false x b = x := rfl
theorem zeroAV_agg (cs : Array Value) : zeroAV (.agg cs) = .ag (cs.toList.map .v) := rfl
theorem zeroAV_int (k : IntKind) (n : Int) : zeroAV (.int k n) = .v (.int k n) := rfl
theorem zeroAV_nilfn : zeroAV .nilFunc = .v .nilFunc := rfl
def MO (o : Ob) : Option (List (Value × AV)) := match o with | .mp es => some es | _ => none
theorem mapOf_mp (es : List (Value × AV)) : mapOf s (.mp es) = some es := rfl
theorem mapOf_mr (id : Nat) : mapOf s (.mr id) = MO (obj s.m id) := by simp only [mapOf, MO]; cases obj s.m id <;> rfl
theorem MO_mp (es : List (Value × AV)) : MO (.mp es) = some es := rfl
theorem wopC_makeMap (t : Nat) : wopC C P s d (.makeMap t none) ty L = L (pushS s d (.mr s.m.length) (.mp [])) := rfl
theorem wopC_mapUpdate (t : Nat) (m k x : Operand) : wopC C P s d (.mapUpdate t m k x) ty L = mupOp C s d (C.td t) (ev s m) (plainV (ev s k)) (ev s x) L := rfl
theorem wopC_insert (t : Nat) (m k x : Operand) : wopC C P s d (.insert t m k x) ty L = mupOp C s d (C.td t) (ev s m) (plainV (ev s k)) (ev s x) L := rfl
def MU2 (C : Ctx) (s : St) (d : Option Nat) (kt id : Nat) (key : Value) (x : AV) (o : Ob) (L : St → Prop) : Prop := match o with
  | .mp es => fitsK C kt key = true ∧ (∀ e ∈ es, fitsK C kt e.1 = true) ∧ names x = false ∧ L ⟨putD s.t d .junk, setOb s.m id (.mp (mput key x es))⟩
  | _ => False
theorem mupOp_mr (kt e id : Nat) (key : Value) (x : AV) : mupOp C s d (some (.map kt e)) (.mr id) (some key) x L = MU2 C s d kt id key x (obj s.m id) L := by
  simp only [mupOp, MU2]; cases obj s.m id <;> rfl
theorem MU2_mp (kt id : Nat) (key : Value) (x : AV) (es : List (Value × AV)) : MU2 C s d kt id key x (.mp es) L = (fitsK C kt key = true ∧ (∀ e ∈ es, fitsK C kt e.1 = true) ∧ names x = false ∧ L ⟨putD s.t d .junk, setOb s.m id (.mp (mput key x es))⟩) := rfl
def FZM (o : Ob) : AV := match o with | .mp es => .mp es | _ => .junk
theorem fz_mr (id : Nat) : fz s (.mr id) = FZM (obj s.m id) := by simp only [fz, FZM]; cases obj s.m id <;> rfl
theorem fz1_mr (id : Nat) : fz1 s (.mr id) = FZM (obj s.m id) := by simp only [fz1, FZM]; cases obj s.m id <;> rfl
theorem FZM_mp (es : List (Value × AV)) : FZM (.mp es) = .mp es := rfl
theorem oneC_mr (id : Nat) : oneC (.mr id) = true := rfl
theorem oneCell_map (p : Option Nat) : (Value.map p).oneCell' = true := rfl
theorem oneCell_nilfn : Value.nilFunc.oneCell' = true := rfl
theorem oneCell_fn (f : Fn) (a b : Array Value) : (Value.func f a b).oneCell' = true := rfl

/-! ### Regions whose order is open -/
theorem qopC_buildSlice (t len : Nat) (ps : Array (Nat × Operand)) : qopC C P s d (.buildSlice t len ps) L = litQ C (C.td t) len (ps.toList.map fun p => (p.1, ev s p.2)) (kput s d L) := rfl
def LQ2 (len : Nat) (ps : List (Nat × AV)) (K : AV → Prop) (i : Option TI) : Prop := match i with
  | some i => ps.length = len ∧ 0 < i.size ∧ len * i.size ≤ 16777216 ∧ litCells i.size 0 ps (fun cs => K (.sl len cs))
  | none => False
theorem litQ_slice (e len : Nat) (ps : List (Nat × AV)) : litQ C (some (.slice e)) len ps K = LQ2 len ps K (C.ti e) := by
  simp only [litQ, LQ2]; cases C.ti e <;> rfl
theorem LQ2_some (i : TI) (len : Nat) (ps : List (Nat × AV)) : LQ2 len ps K (some i) = (ps.length = len ∧ 0 < i.size ∧ len * i.size ≤ 16777216 ∧ litCells i.size 0 ps (fun cs => K (.sl len cs))) := rfl
section
variable (ops os : List Oper) (ph : Ph) (op : Op) (A : Prop)
theorem QK_quiet : QK C P ops Q os ph d op ty A s .quiet = A := rfl
theorem QK_alloc (t : Nat) : QK C P ops Q os (.p1 none) d op ty A s (.alloc t) = QR C P ops Q os (.p1 (some t)) ⟨putD s.t d (.ptr s.m.length 0), s.m⟩ := rfl
theorem QK_loud : QK C P ops Q os ph d op ty A s .loud = pushP C ph (fun s => wopC C P s d op ty (QR C P ops Q os .p2)) s := rfl
end
def PF (i : Option TI) (L : St → Prop) (s : St) : Prop := match i with
  | some i => i.zero.cells.all (·.oneCell') = true ∧ L ⟨s.t, s.m ++ [.row true 1 (i.zero.cells.toList.map .v)]⟩
  | none => False
theorem pushP_p2 : pushP C .p2 L s = L s := rfl
theorem pushP_none : pushP C (.p1 none) L s = L s := rfl
theorem pushP_some (t : Nat) : pushP C (.p1 (some t)) L s = PF (C.ti t) L s := by simp only [pushP, PF]; cases C.ti t <;> rfl
theorem PF_some (i : TI) : PF (some i) L s = (i.zero.cells.all (·.oneCell') = true ∧ L ⟨s.t, s.m ++ [.row true 1 (i.zero.cells.toList.map .v)]⟩) := rfl
theorem kind_alloc (t : Nat) : kindOf (.alloc t) = .alloc t := rfl
theorem kind_store (t : Nat) (x y : Operand) : kindOf (.store t x y) = .loud := rfl
theorem kind_move (x : Operand) : kindOf (.move x) = .quiet := rfl
theorem kind_assign (x : Operand) : kindOf (.assign x) = .quiet := rfl
theorem kind_pick (x y z : Operand) : kindOf (.pick x y z) = .quiet := rfl
theorem kind_binOp (o : BinOp) (t : Nat) (x y : Operand) (u : Nat) : kindOf (.binOp o t x y u) = .quiet := rfl
theorem kind_unOp (o : UnOp) (t : Nat) (x : Operand) : kindOf (.unOp o t x) = .quiet := rfl
theorem kind_extract (x : Operand) (i : Nat) : kindOf (.extract x i) = .quiet := rfl
theorem kind_index (t : Nat) (x i : Operand) : kindOf (.index t x i) = .quiet := rfl
theorem kind_indexAddr (t : Nat) (x i : Operand) : kindOf (.indexAddr t x i) = .quiet := rfl
theorem kind_load (t : Nat) (x : Operand) : kindOf (.load t x) = .quiet := rfl
theorem kind_field (t : Nat) (x : Operand) (f : Nat) : kindOf (.field t x f) = .quiet := rfl
theorem kind_fieldAddr (t : Nat) (x : Operand) (f : Nat) : kindOf (.fieldAddr t x f) = .quiet := rfl
theorem kind_nilCheck (x : Operand) : kindOf (.nilCheck x) = .quiet := rfl
theorem kind_makeFunc (f : Fn) (a b : Array Operand) : kindOf (.makeFunc f a b) = .quiet := rfl
theorem kind_convert (t u : Nat) (x : Operand) : kindOf (.convert t u x) = .quiet := rfl
theorem kind_slice (t : Nat) (x : Operand) (lo hi mx : Option Operand) : kindOf (.slice t x lo hi mx) = .quiet := rfl
theorem kind_call (c : Call) : kindOf (.call c) = .quiet := rfl
theorem kind_build (t : Nat) (ps : Array (Nat × Operand)) : kindOf (.build t ps) = .quiet := rfl
theorem kind_buildSlice (t n : Nat) (ps : Array (Nat × Operand)) : kindOf (.buildSlice t n ps) = .quiet := rfl
theorem kind_lookup (t : Nat) (x i : Operand) (ok : Bool) : kindOf (.lookup t x i ok) = .quiet := rfl
end
end Go.AE
