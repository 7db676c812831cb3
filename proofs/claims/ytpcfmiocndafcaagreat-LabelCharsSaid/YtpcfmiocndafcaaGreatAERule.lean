/- A part of the abstract evaluator: no condition. -/
import Derived.Test.YtpcfmiocndafcaaGreatAETac
set_option linter.unusedVariables false
set_option linter.unusedSimpArgs false
namespace Go.AE
section
variable {C : Ctx} {P : Program} {Q : Exit → St → Prop} {s : St} {K : AV → Prop} {L : St → Prop} {d : Option Nat} {ty : Nat}
theorem zob (x : Operand) : wopC C P s d (.move x) ty L = L ⟨putD s.t d (ev s x), s.m⟩ := rfl
theorem z8s (k : Nat) : wopC C P s d (.assign (.tmp k)) ty L = L ⟨putD s.t d (get s.t k), s.m⟩ := rfl
theorem z8q (k : IntKind) (n : Int) : wopC C P s d (.assign (.const (.int k n))) ty L = L ⟨putD s.t d (.v (.int k n)), s.m⟩ := rfl
theorem z7t (b : Bool) : wopC C P s d (.assign (.const (.bool b))) ty L = L ⟨putD s.t d (.v (.bool b)), s.m⟩ := rfl
theorem z6c (b : ByteArray) : wopC C P s d (.assign (.const (.string b))) ty L = L ⟨putD s.t d (.v (.string b)), s.m⟩ := rfl
theorem z7u (f : FuncId) : wopC C P s d (.assign (.func f)) ty L = L ⟨putD s.t d (.fn f [] []), s.m⟩ := rfl
def NI2 (s : St) (d : Option Nat) (e : Nat) (i : Option TI) (L : St → Prop) : Prop := match i with | some i => 0 < i.size ∧ L (z3i s d (.ref s.m.length 0 0) (.arr e i.size [])) | none => False
def NI (C : Ctx) (s : St) (d : Option Nat) (t : Option TypeDesc) (L : St → Prop) : Prop := match t with | some (.slice e) => NI2 s d e (C.ti e) L | _ => False
theorem z8r : wopC C P s d (.assign (.const (.slice none 0 0))) ty L = NI C s d (C.td ty) L := rfl
theorem zs6 (e : Nat) : NI C s d (some (.slice e)) L = NI2 s d e (C.ti e) L := rfl
theorem zs5 (e : Nat) (i : TI) : NI2 s d e (some i) L = (0 < i.size ∧ L (z3i s d (.ref s.m.length 0 0) (.arr e i.size []))) := rfl
theorem zod (c a b : Operand) : wopC C P s d (.pick c a b) ty L = z0j C s (.pick c a b) (kput s d L) := rfl
theorem zoe (o : UnOp) (t : Nat) (x : Operand) : wopC C P s d (.unOp o t x) ty L = z0j C s (.unOp o t x) (kput s d L) := rfl
theorem zcw (x : Operand) (i : Nat) : wopC C P s d (.extract x i) ty L = z0j C s (.extract x i) (kput s d L) := rfl
theorem zjp (t : Nat) (x i : Operand) : wopC C P s d (.index t x i) ty L = z0j C s (.index t x i) (kput s d L) := rfl
theorem z9r (t : Nat) (x i : Operand) : wopC C P s d (.indexAddr t x i) ty L = z0j C s (.indexAddr t x i) (kput s d L) := rfl
theorem zoa (t : Nat) (x : Operand) : wopC C P s d (.load t x) ty L = z0j C s (.load t x) (kput s d L) := rfl
theorem zjo (t : Nat) (x : Operand) (f : Nat) : wopC C P s d (.field t x f) ty L = z0j C s (.field t x f) (kput s d L) := rfl
theorem z9q (t : Nat) (x : Operand) (f : Nat) : wopC C P s d (.fieldAddr t x f) ty L = z0j C s (.fieldAddr t x f) (kput s d L) := rfl
theorem zbf (x : Operand) : wopC C P s d (.nilCheck x) ty L = z0j C s (.nilCheck x) (kput s d L) := rfl
theorem zbe (f : FuncId) (a b : Array Operand) : wopC C P s d (.makeFunc (.func f) a b) ty L = z0j C s (.makeFunc (.func f) a b) (kput s d L) := rfl
theorem zjr (t : Nat) (x : Operand) (lo hi : Option Operand) : wopC C P s d (.slice t x lo hi none) ty L = z0j C s (.slice t x lo hi none) (kput s d L) := rfl
theorem zuy (a : Array Operand) (t : Array Nat) : wopC C P s d (.call { callee := .builtin .len, args := a, argTypes := t }) ty L = z0j C s (.call { callee := .builtin .len, args := a, argTypes := t }) (kput s d L) := rfl
theorem zv0 (a : Array Operand) (t : Array Nat) : wopC C P s d (.call { callee := .builtin .min, args := a, argTypes := t }) ty L = z0j C s (.call { callee := .builtin .min, args := a, argTypes := t }) (kput s d L) := rfl
theorem zuz (a : Array Operand) (t : Array Nat) : wopC C P s d (.call { callee := .builtin .max, args := a, argTypes := t }) ty L = z0j C s (.call { callee := .builtin .max, args := a, argTypes := t }) (kput s d L) := rfl
theorem zng (x : Operand) : qopC C P s d (.move x) L = L ⟨putD s.t d (ev s x), s.m⟩ := rfl
theorem zfc (x : Operand) : qopC C P s d (.assign x) L = L ⟨putD s.t d (ev s x), s.m⟩ := rfl
theorem znh (c a b : Operand) : qopC C P s d (.pick c a b) L = z0j C s (.pick c a b) (kput s d L) := rfl
theorem zni (o : UnOp) (t : Nat) (x : Operand) : qopC C P s d (.unOp o t x) L = z0j C s (.unOp o t x) (kput s d L) := rfl
theorem zcp (x : Operand) (i : Nat) : qopC C P s d (.extract x i) L = z0j C s (.extract x i) (kput s d L) := rfl
theorem zj1 (t : Nat) (x i : Operand) : qopC C P s d (.index t x i) L = z0j C s (.index t x i) (kput s d L) := rfl
theorem z9k (t : Nat) (x i : Operand) : qopC C P s d (.indexAddr t x i) L = z0j C s (.indexAddr t x i) (kput s d L) := rfl
theorem znf (t : Nat) (x : Operand) : qopC C P s d (.load t x) L = z0j C s (.load t x) (kput s d L) := rfl
theorem zj0 (t : Nat) (x : Operand) (f : Nat) : qopC C P s d (.field t x f) L = z0j C s (.field t x f) (kput s d L) := rfl
theorem z9j (t : Nat) (x : Operand) (f : Nat) : qopC C P s d (.fieldAddr t x f) L = z0j C s (.fieldAddr t x f) (kput s d L) := rfl
theorem zb1 (x : Operand) : qopC C P s d (.nilCheck x) L = z0j C s (.nilCheck x) (kput s d L) := rfl
theorem zb0 (f : FuncId) (a b : Array Operand) : qopC C P s d (.makeFunc (.func f) a b) L = z0j C s (.makeFunc (.func f) a b) (kput s d L) := rfl
theorem zco (t u : Nat) (x : Operand) : qopC C P s d (.convert t u x) L = z0j C s (.convert t u x) (kput s d L) := rfl
theorem zj2 (t : Nat) (x : Operand) (lo hi : Option Operand) : qopC C P s d (.slice t x lo hi none) L = z0j C s (.slice t x lo hi none) (kput s d L) := rfl
theorem zub (a : Array Operand) (t : Array Nat) : qopC C P s d (.call { callee := .builtin .len, args := a, argTypes := t }) L = z0j C s (.call { callee := .builtin .len, args := a, argTypes := t }) (kput s d L) := rfl
theorem zud (a : Array Operand) (t : Array Nat) : qopC C P s d (.call { callee := .builtin .min, args := a, argTypes := t }) L = z0j C s (.call { callee := .builtin .min, args := a, argTypes := t }) (kput s d L) := rfl
theorem zuc (a : Array Operand) (t : Array Nat) : qopC C P s d (.call { callee := .builtin .max, args := a, argTypes := t }) L = z0j C s (.call { callee := .builtin .max, args := a, argTypes := t }) (kput s d L) := rfl
def CA (P : Program) (s : St) (d : Option Nat) (x : AV) (xs : List AV) (L : St → Prop) : Prop := match x with | .fn k first cap => WC P s d k (first ++ xs ++ cap) L | _ => False
def CQ (P : Program) (s : St) (d : Option Nat) (x : AV) (xs : List AV) (L : St → Prop) : Prop := match x with | .fn k first cap => QC P s d k (first ++ xs ++ cap) L | _ => False
theorem zo9 (f : Operand) (a : Array Operand) (t : Array Nat) : wopC C P s d (.call { callee := .value f, args := a, argTypes := t }) ty L = CA P s d (ev s f) (a.toList.map (ev s)) L := rfl
theorem zne (f : Operand) (a : Array Operand) (t : Array Nat) : qopC C P s d (.call { callee := .value f, args := a, argTypes := t }) L = CQ P s d (ev s f) (a.toList.map (ev s)) L := rfl
theorem CA_fn (k : FuncId) (first cap xs : List AV) : CA P s d (.fn k first cap) xs L = WC P s d k (first ++ xs ++ cap) L := rfl
theorem CQ_fn (k : FuncId) (first cap xs : List AV) : CQ P s d (.fn k first cap) xs L = QC P s d k (first ++ xs ++ cap) L := rfl
def PK (c x y : AV) (K : AV → Prop) : Prop := match c with | .v (.bool t) => wg t (K x) (K y) | _ => False
theorem zf9 (c a b : Operand) : z0j C s (.pick c a b) K = PK (ev s c) (ev s a) (ev s b) K := rfl
theorem zoi (t : Bool) (x y : AV) : PK (.v (.bool t)) x y K = WG t (K x) (K y) := (zga t _ _).symm
def BI (C : Ctx) (o : BinOp) (t : Nat) (x y : AV) (K : AV → Prop) : Prop := match x, y with
    | .v (.bool a), .v (.bool b) => (match o with
      | .eql => C.td t = some .bool ∧ K (.v (.bool (a == b)))
      | .neq => C.td t = some .bool ∧ K (.v (.bool (!(a == b))))
      | _ => False)
    | .v a, .v b => bin o a b (kv K)
    | _, _ => False
theorem zck (o : BinOp) (t : Nat) (x y : Operand) (u : Nat) : z0j C s (.binOp o t x y u) K = BI C o t (ev s x) (ev s y) K := rfl
section
variable {t : Nat} {k k' : IntKind} {a b : Int} {x y : ByteArray}
theorem BI_add : BI C .add t (.v (.int k a)) (.v (.int k b)) K = K (.v (.int k (k.wrap (a + b)))) := by simp [BI, bin, kv]
theorem BI_sub : BI C .sub t (.v (.int k a)) (.v (.int k b)) K = K (.v (.int k (k.wrap (a - b)))) := by simp [BI, bin, kv]
theorem BI_mul : BI C .mul t (.v (.int k a)) (.v (.int k b)) K = K (.v (.int k (k.wrap (a * b)))) := by simp [BI, bin, kv]
theorem BI_quo : BI C .quo t (.v (.int k a)) (.v (.int k b)) K = (b ≠ 0 ∧ K (.v (.int k (k.wrap (a.tdiv b))))) := by simp [BI, bin, kv]
theorem BI_rem : BI C .rem t (.v (.int k a)) (.v (.int k b)) K = (b ≠ 0 ∧ K (.v (.int k (a.tmod b)))) := by simp [BI, bin, kv]
theorem BI_and : BI C .and t (.v (.int k a)) (.v (.int k b)) K = K (.v (.int k (k.wrap ((BitVec.ofInt k.bits a &&& BitVec.ofInt k.bits b).toNat)))) := by simp [BI, bin, kv]
theorem BI_or : BI C .or t (.v (.int k a)) (.v (.int k b)) K = K (.v (.int k (k.wrap ((BitVec.ofInt k.bits a ||| BitVec.ofInt k.bits b).toNat)))) := by simp [BI, bin, kv]
theorem BI_xor : BI C .xor t (.v (.int k a)) (.v (.int k b)) K = K (.v (.int k (k.wrap ((BitVec.ofInt k.bits a ^^^ BitVec.ofInt k.bits b).toNat)))) := by simp [BI, bin, kv]
theorem zlf : BI C .andNot t (.v (.int k a)) (.v (.int k b)) K = K (.v (.int k (k.wrap ((BitVec.ofInt k.bits a &&& ~~~ BitVec.ofInt k.bits b).toNat)))) := by simp [BI, bin, kv]
theorem BI_shl : BI C .shl t (.v (.int k a)) (.v (.int k' b)) K = (0 ≤ b ∧ K (.v (.int k (k.wrap (a * 2 ^ (min b.toNat k.bits)))))) := by simp [BI, bin, kv]
theorem BI_shr : BI C .shr t (.v (.int k a)) (.v (.int k' b)) K = (0 ≤ b ∧ K (.v (.int k (a.fdiv (2 ^ (min b.toNat k.bits)))))) := by simp [BI, bin, kv]
theorem BI_eql : BI C .eql t (.v (.int k a)) (.v (.int k b)) K = K (.v (.bool (a == b))) := by simp [BI, bin, kv]
theorem BI_neq : BI C .neq t (.v (.int k a)) (.v (.int k b)) K = K (.v (.bool (a != b))) := by simp [BI, bin, kv]
theorem BI_lss : BI C .lss t (.v (.int k a)) (.v (.int k b)) K = K (.v (.bool (decide (a < b)))) := by simp [BI, bin, kv]
theorem BI_leq : BI C .leq t (.v (.int k a)) (.v (.int k b)) K = K (.v (.bool (decide (a ≤ b)))) := by simp [BI, bin, kv]
theorem BI_gtr : BI C .gtr t (.v (.int k a)) (.v (.int k b)) K = K (.v (.bool (decide (a > b)))) := by simp [BI, bin, kv]
theorem BI_geq : BI C .geq t (.v (.int k a)) (.v (.int k b)) K = K (.v (.bool (decide (a ≥ b)))) := by simp [BI, bin, kv]
theorem zxg : BI C .add t (.v (.string x)) (.v (.string y)) K = (x.data.toList.length + y.data.toList.length ≤ 9223372036854775807 ∧ K (.v (.string ⟨(x.data.toList ++ y.data.toList).toArray⟩))) := rfl
theorem zxh : BI C .eql t (.v (.string x)) (.v (.string y)) K = K (.v (.bool (x.data.toList == y.data.toList))) := rfl
theorem zxm : BI C .neq t (.v (.string x)) (.v (.string y)) K = K (.v (.bool (!(x.data.toList == y.data.toList)))) := rfl
theorem zxl : BI C .lss t (.v (.string x)) (.v (.string y)) K = K (.v (.bool (z4p x.data.toList y.data.toList))) := rfl
theorem zxj : BI C .gtr t (.v (.string x)) (.v (.string y)) K = K (.v (.bool (!(z4p x.data.toList y.data.toList || x.data.toList == y.data.toList)))) := rfl
theorem zxk : BI C .leq t (.v (.string x)) (.v (.string y)) K = K (.v (.bool (z4p x.data.toList y.data.toList || x.data.toList == y.data.toList))) := rfl
theorem zxi : BI C .geq t (.v (.string x)) (.v (.string y)) K = K (.v (.bool (!z4p x.data.toList y.data.toList))) := rfl
theorem zxe (p q : Bool) : BI C .eql t (.v (.bool p)) (.v (.bool q)) K = (C.td t = some .bool ∧ K (.v (.bool (p == q)))) := rfl
theorem zxf (p q : Bool) : BI C .neq t (.v (.bool p)) (.v (.bool q)) K = (C.td t = some .bool ∧ K (.v (.bool (!(p == q))))) := rfl
end
def UN (o : UnOp) (x : AV) (K : AV → Prop) : Prop := match x with | .v a => un o a (kv K) | _ => False
theorem zfa (o : UnOp) (t : Nat) (x : Operand) : z0j C s (.unOp o t x) K = UN o (ev s x) K := rfl
theorem UN_not (b : Bool) : UN .not (.v (.bool b)) K = K (.v (.bool (!b))) := rfl
theorem UN_neg (k : IntKind) (n : Int) : UN .neg (.v (.int k n)) K = K (.v (.int k (k.wrap (0 - n)))) := rfl
def EX (x : AV) (i : Nat) (K : AV → Prop) : Prop := match x with | .tup xs => i < xs.length ∧ K (nth xs i) | _ => False
theorem z9i (x : Operand) (i : Nat) : z0j C s (.extract x i) K = EX (ev s x) i K := rfl
theorem EX_tup (xs : List AV) (i : Nat) : EX (.tup xs) i K = (i < xs.length ∧ K (nth xs i)) := rfl
def PB (agg : Bool) (size : Nat) (cs : List AV) (off : Nat) (K : AV → Prop) : Prop := match agg with
    | true => off + size ≤ cs.length ∧ K (.ag ((cs.drop off).take size))
    | false => off < cs.length ∧ K (nth cs off)
theorem zzm (size off : Nat) (cs : List AV) : PB true size cs off K = (off + size ≤ cs.length ∧ K (.ag ((cs.drop off).take size))) := rfl
theorem zs8 (size off : Nat) (cs : List AV) : PB false size cs off K = (off < cs.length ∧ K (nth cs off)) := rfl
def PO (i : Option TI) (cs : List AV) (off : Nat) (K : AV → Prop) : Prop := match i with | some i => z3u i cs off K | none => False
theorem zzp (i : TI) (cs : List AV) (off : Nat) : PO (some i) cs off K = PB i.agg i.size cs off K := rfl
def IX (C : Ctx) (t : Option TypeDesc) (x i : AV) (K : AV → Prop) : Prop := match t, x, i with
    | some .string, .v (.string b), .v (.int _ j) => 0 ≤ j ∧ j < b.data.toList.length ∧ K (.v (.int .u8 (b.data.toList.getD j.toNat 0).toNat))
    | some (.array n e), .ag cs, .v (.int _ j) => 0 ≤ j ∧ j < n ∧ (match C.ti e with | some ie => z3u ie cs (j.toNat * ie.size) K | none => False)
    | _, _, _ => False
theorem zcm (t : Nat) (x i : Operand) : z0j C s (.index t x i) K = IX C (C.td t) (ev s x) (ev s i) K := rfl
theorem IX_str (b : ByteArray) (k : IntKind) (j : Int) : IX C (some .string) (.v (.string b)) (.v (.int k j)) K = (0 ≤ j ∧ j < b.data.toList.length ∧ K (.v (.int .u8 (b.data.toList.getD j.toNat 0).toNat))) := rfl
def PI (i : Option TI) (cs : List AV) (j : Nat) (K : AV → Prop) : Prop := match i with | some ie => z3u ie cs (j * ie.size) K | none => False
theorem zzo (i : TI) (cs : List AV) (j : Nat) : PI (some i) cs j K = PB i.agg i.size cs (j * i.size) K := rfl
theorem IX_arr (n e : Nat) (cs : List AV) (k : IntKind) (j : Int) : IX C (some (.array n e)) (.ag cs) (.v (.int k j)) K = (0 ≤ j ∧ j < n ∧ PI (C.ti e) cs j.toNat K) := rfl
def IA (C : Ctx) (t : Option TypeDesc) (x i : AV) (K : AV → Prop) : Prop := match t, x, i with
    | some (.slice e), .sl n cs, .v (.int _ j) => 0 ≤ j ∧ j < n ∧ (match C.ti e with | some ie => K (.cp (cs.drop (j.toNat * ie.size))) | none => False)
    | some (.slice e), .ref id off n, .v (.int _ j) => 0 ≤ j ∧ j < n ∧ (match C.ti e with | some ie => K (.ptr id (off + j.toNat * ie.size)) | none => False)
    | some (.array n e), .ptr id off, .v (.int _ j) => 0 ≤ j ∧ j < n ∧ (match C.ti e with | some ie => K (.ptr id (off + j.toNat * ie.size)) | none => False)
    | some (.array n e), .cp cs, .v (.int _ j) => 0 ≤ j ∧ j < n ∧ (match C.ti e with | some ie => K (.cp (cs.drop (j.toNat * ie.size))) | none => False)
    | _, _, _ => False
def IC (i : Option TI) (cs : List AV) (j : Nat) (K : AV → Prop) : Prop := match i with | some ie => K (.cp (cs.drop (j * ie.size))) | none => False
def IP (i : Option TI) (id off j : Nat) (K : AV → Prop) : Prop := match i with | some ie => K (.ptr id (off + j * ie.size)) | none => False
theorem zzg (i : TI) (cs : List AV) (j : Nat) : IC (some i) cs j K = K (.cp (cs.drop (j * i.size))) := rfl
theorem zzh (i : TI) (id off j : Nat) : IP (some i) id off j K = K (.ptr id (off + j * i.size)) := rfl
theorem z7p (t : Nat) (x i : Operand) : z0j C s (.indexAddr t x i) K = IA C (C.td t) (ev s x) (ev s i) K := rfl
section
variable (e n id off : Nat) (cs : List AV) (k : IntKind) (j : Int)
theorem IA_sl : IA C (some (.slice e)) (.sl n cs) (.v (.int k j)) K = (0 ≤ j ∧ j < n ∧ IC (C.ti e) cs j.toNat K) := rfl
theorem IA_ref : IA C (some (.slice e)) (.ref id off n) (.v (.int k j)) K = (0 ≤ j ∧ j < n ∧ IP (C.ti e) id off j.toNat K) := rfl
theorem IA_ptr : IA C (some (.array n e)) (.ptr id off) (.v (.int k j)) K = (0 ≤ j ∧ j < n ∧ IP (C.ti e) id off j.toNat K) := rfl
theorem IA_cp : IA C (some (.array n e)) (.cp cs) (.v (.int k j)) K = (0 ≤ j ∧ j < n ∧ IC (C.ti e) cs j.toNat K) := rfl
end
def LO (i : TI) (o : Ob) (off : Nat) (K : AV → Prop) : Prop := match o with
      | .arr _ _ cs => z3u i cs off K
      | .row _ _ cs => z3u i cs off K
      | _ => False
def LD (s : St) (i : Option TI) (x : AV) (K : AV → Prop) : Prop := match i, x with
    | some i, .cp cs => z3u i cs 0 K
    | some i, .ptr id off => LO i (obj s.m id) off K
    | _, _ => False
theorem zf8 (t : Nat) (x : Operand) : z0j C s (.load t x) K = LD s (C.ti t) (ev s x) K := rfl
theorem LD_cp (i : TI) (cs : List AV) : LD s (some i) (.cp cs) K = PB i.agg i.size cs 0 K := rfl
theorem LD_ptr (i : TI) (id off : Nat) : LD s (some i) (.ptr id off) K = LO i (obj s.m id) off K := rfl
theorem LO_arr (i : TI) (e sz off : Nat) (cs : List AV) : LO i (.arr e sz cs) off K = PB i.agg i.size cs off K := rfl
theorem LO_row (i : TI) (r : Bool) (sz off : Nat) (cs : List AV) : LO i (.row r sz cs) off K = PB i.agg i.size cs off K := rfl
def FD (f : Option (Nat × TI)) (x : AV) (K : AV → Prop) : Prop := match f, x with | some (o, i), .ag cs => z3u i cs o K | _, _ => False
theorem zcl (t : Nat) (x : Operand) (f : Nat) : z0j C s (.field t x f) K = FD (C.fld t f) (ev s x) K := rfl
theorem FD_ag (o : Nat) (i : TI) (cs : List AV) : FD (some (o, i)) (.ag cs) K = PB i.agg i.size cs o K := rfl
def FA (f : Option (Nat × TI)) (x : AV) (K : AV → Prop) : Prop := match f, x with
    | some (o, i), .cp cs => 0 < i.size ∧ K (.cp (cs.drop o))
    | some (o, i), .ptr id off => 0 < i.size ∧ K (.ptr id (off + o))
    | _, _ => False
theorem z7o (t : Nat) (x : Operand) (f : Nat) : z0j C s (.fieldAddr t x f) K = FA (C.fld t f) (ev s x) K := rfl
theorem FA_cp (o : Nat) (i : TI) (cs : List AV) : FA (some (o, i)) (.cp cs) K = (0 < i.size ∧ K (.cp (cs.drop o))) := rfl
theorem FA_ptr (o : Nat) (i : TI) (id off : Nat) : FA (some (o, i)) (.ptr id off) K = (0 < i.size ∧ K (.ptr id (off + o))) := rfl
def NC (x : AV) (K : AV → Prop) : Prop := match x with | .cp cs => K (.cp cs) | .ptr id off => K (.ptr id off) | _ => False
theorem z8g (x : Operand) : z0j C s (.nilCheck x) K = NC (ev s x) K := rfl
theorem NC_cp (cs : List AV) : NC (.cp cs) K = K (.cp cs) := rfl
theorem NC_ptr (id off : Nat) : NC (.ptr id off) K = K (.ptr id off) := rfl
theorem z8f (f : FuncId) (a b : Array Operand) : z0j C s (.makeFunc (.func f) a b) K = K (.fn f (a.toList.map (ev s)) (b.toList.map (ev s))) := rfl
def CB2 (n : Nat) (l : Option (List UInt8)) (K : AV → Prop) : Prop := match l with | some l => n = l.length ∧ K (.v (.string ⟨l.toArray⟩)) | none => False
def CB (x : Option (Nat × List AV)) (K : AV → Prop) : Prop := match x with | some (n, cs) => CB2 n (z3z cs) K | none => False
def CV (C : Ctx) (s : St) (t u : Option TypeDesc) (x : AV) (K : AV → Prop) : Prop := match t, u, x with
    | some _, some (.int k), .v (.int _ n) => K (.v (.int k (k.wrap n)))
    | some .string, some .string, .v (.string b) => K (.v (.string b))
    | some (.int _), some .string, .v (.int _ n) => K (.v (.string ⟨(Utf8.encode n).data.toList.toArray⟩))
    | some (.slice e), some .string, x => C.td e = some (.int .u8) ∧ CB (z2v s 1 x) K
    | _, _, _ => False
theorem z6l (t u : Nat) (x : Operand) : z0j C s (.convert t u x) K = CV C s (C.td t) (C.td u) (ev s x) K := by
  unfold z0j CV CB CB2
  rfl
theorem CV_int (k0 k k1 : IntKind) (n : Int) : CV C s (some (.int k0)) (some (.int k)) (.v (.int k1 n)) K = K (.v (.int k (k.wrap n))) := rfl
theorem CV_str (b : ByteArray) : CV C s (some .string) (some .string) (.v (.string b)) K = K (.v (.string b)) := rfl
theorem zz5 (k0 k1 : IntKind) (n : Int) : CV C s (some (.int k0)) (some .string) (.v (.int k1 n)) K = K (.v (.string ⟨(Utf8.encode n).data.toList.toArray⟩)) := rfl
theorem zrw (e : Nat) (x : AV) : CV C s (some (.slice e)) (some .string) x K = (C.td e = some (.int .u8) ∧ CB (z2v s 1 x) K) := rfl
theorem zz4 (n : Nat) (cs : List AV) : CB (some (n, cs)) K = CB2 n (z3z cs) K := rfl
theorem zrv (n : Nat) (l : List UInt8) : CB2 n (some l) K = (n = l.length ∧ K (.v (.string ⟨l.toArray⟩))) := rfl
def CW (C : Ctx) (s : St) (d : Option Nat) (t u : Option TypeDesc) (x : AV) (L : St → Prop) : Prop := match t, u, x with
    | some .string, some (.slice e), .v (.string b) => zww s d e (C.td e) b L
    | _, _, _ => CV C s t u x (kput s d L)
theorem zcv (t u : Nat) (x : Operand) : wopC C P s d (.convert t u x) ty L = CW C s d (C.td t) (C.td u) (ev s x) L := by
  unfold wopC CW z6g
  simp only [z6l]
  split <;> first
    | rfl
    | (split <;> simp_all <;> (intros; exact Iff.rfl))
theorem CW_int (k0 k k1 : IntKind) (n : Int) : CW C s d (some (.int k0)) (some (.int k)) (.v (.int k1 n)) L = L ⟨putD s.t d (.v (.int k (k.wrap n))), s.m⟩ := rfl
theorem CW_str (b : ByteArray) : CW C s d (some .string) (some .string) (.v (.string b)) L = L ⟨putD s.t d (.v (.string b)), s.m⟩ := rfl
theorem zz6 (k0 k1 : IntKind) (n : Int) : CW C s d (some (.int k0)) (some .string) (.v (.int k1 n)) L = L ⟨putD s.t d (.v (.string ⟨(Utf8.encode n).data.toList.toArray⟩)), s.m⟩ := rfl
theorem zrx (e : Nat) (x : AV) : CW C s d (some (.slice e)) (some .string) x L = (C.td e = some (.int .u8) ∧ CB (z2v s 1 x) (kput s d L)) := rfl
theorem zh8 (e : Nat) (b : ByteArray) : CW C s d (some .string) (some (.slice e)) (.v (.string b)) L = zww s d e (C.td e) b L := rfl
theorem zut (e : Nat) (b : ByteArray) : zww s d e (some (.int .u8)) b L = (b.data.toList.length ≤ 4611686018427387904 ∧ L (z3i s d (.ref s.m.length 0 b.data.toList.length) (.row false 1 (b.data.toList.map U8)))) := rfl
theorem zo6 (e : Nat) (b : ByteArray) : zww s d e (some (.int .i32)) b L = (b.data.toList.length ≤ 70368744177664 ∧ L (z3i s d (.ref s.m.length 0 (z4u b.data.toList).length) (.arr e 1 ((z4u b.data.toList).map AV.v)))) := rfl
def CR (o : Ob) (off len sz : Nat) : Option (Nat × List AV) := match o with
    | .arr _ _ cs => some (len, (cs.drop off).take (len * sz))
    | .row false _ cs => some (len, (cs.drop off).take (len * sz))
    | _ => none
theorem zhk (sz n : Nat) (cs : List AV) : z2v s sz (.sl n cs) = some (n, cs) := rfl
theorem zdr (sz : Nat) : z2v s sz (.v (.slice none 0 0)) = some (0, []) := rfl
theorem zdq (sz b o c : Nat) : z2v s sz (.v (.slice (some ⟨b, o, none⟩) 0 c)) = some (0, []) := rfl
theorem zds (sz id off len : Nat) : z2v s sz (.ref id off len) = CR (obj s.m id) off len sz := rfl
theorem CR_arr (e z off len sz : Nat) (cs : List AV) : CR (.arr e z cs) off len sz = some (len, (cs.drop off).take (len * sz)) := rfl
theorem CR_row (z off len sz : Nat) (cs : List AV) : CR (.row false z cs) off len sz = some (len, (cs.drop off).take (len * sz)) := rfl
def S1 (b : List UInt8) (lo hi : Option AV) (K : AV → Prop) : Prop := match lo, hi with
      | none, none => K (.v (.string ⟨b.toArray⟩))
      | some (.v (.int _ l)), none => 0 ≤ l ∧ l ≤ b.length ∧ K (.v (.string ⟨(b.drop l.toNat).toArray⟩))
      | none, some (.v (.int _ h)) => 0 ≤ h ∧ h ≤ b.length ∧ K (.v (.string ⟨(b.take h.toNat).toArray⟩))
      | some (.v (.int _ l)), some (.v (.int _ h)) => 0 ≤ l ∧ l ≤ h ∧ h ≤ b.length ∧ K (.v (.string ⟨((b.take h.toNat).drop l.toNat).toArray⟩))
      | _, _ => False
def S2 (n sz : Nat) (cs : List AV) (lo hi : Option AV) (K : AV → Prop) : Prop := match lo, hi with
        | none, none => K (.sl n cs)
        | some (.v (.int _ l)), none => 0 ≤ l ∧ l ≤ n ∧ cs.length = n * sz ∧ K (.sl (n - l.toNat) (cs.drop (l.toNat * sz)))
        | none, some (.v (.int _ h)) => 0 ≤ h ∧ h ≤ n ∧ cs.length = n * sz ∧ K (.sl h.toNat (cs.take (h.toNat * sz)))
        | some (.v (.int _ l)), some (.v (.int _ h)) => 0 ≤ l ∧ l ≤ h ∧ h ≤ n ∧ cs.length = n * sz ∧ K (.sl (h.toNat - l.toNat) ((cs.take (h.toNat * sz)).drop (l.toNat * sz)))
        | _, _ => False
def S3 (id off n sz : Nat) (lo hi : Option AV) (K : AV → Prop) : Prop := match lo, hi with
        | none, none => K (.ref id off n)
        | some (.v (.int _ l)), none => 0 ≤ l ∧ l ≤ n ∧ 0 < sz ∧ K (.ref id (off + l.toNat * sz) (n - l.toNat))
        | none, some (.v (.int _ h)) => 0 ≤ h ∧ h ≤ n ∧ K (.ref id off h.toNat)
        | some (.v (.int _ l)), some (.v (.int _ h)) => 0 ≤ l ∧ l ≤ h ∧ h ≤ n ∧ 0 < sz ∧ K (.ref id (off + l.toNat * sz) (h.toNat - l.toNat))
        | _, _ => False
def S2o (i : Option TI) (n : Nat) (cs : List AV) (lo hi : Option AV) (K : AV → Prop) : Prop := match i with | some i => S2 n i.size cs lo hi K | none => False
def S3o (i : Option TI) (id off n : Nat) (lo hi : Option AV) (K : AV → Prop) : Prop := match i with | some i => S3 id off n i.size lo hi K | none => False
theorem zse (i : TI) (n : Nat) (cs : List AV) (lo hi : Option AV) : S2o (some i) n cs lo hi K = S2 n i.size cs lo hi K := rfl
theorem zsf (i : TI) (id off n : Nat) (lo hi : Option AV) : S3o (some i) id off n lo hi K = S3 id off n i.size lo hi K := rfl
def SL (C : Ctx) (t : Option TypeDesc) (x : AV) (lo hi : Option AV) (K : AV → Prop) : Prop := match t, x with
    | some .string, .v (.string b) => S1 b.data.toList lo hi K
    | some (.slice e), .sl n cs => S2o (C.ti e) n cs lo hi K
    | some (.slice e), .ref id off n => S3o (C.ti e) id off n lo hi K
    | _, _ => False
theorem zcn (t : Nat) (x : Operand) (lo hi : Option Operand) : z0j C s (.slice t x lo hi none) K = SL C (C.td t) (ev s x) (lo.map (ev s)) (hi.map (ev s)) K := rfl
theorem SL_str (b : ByteArray) (lo hi : Option AV) : SL C (some .string) (.v (.string b)) lo hi K = S1 b.data.toList lo hi K := rfl
theorem SL_sl (e n : Nat) (cs : List AV) (lo hi : Option AV) : SL C (some (.slice e)) (.sl n cs) lo hi K = S2o (C.ti e) n cs lo hi K := rfl
theorem SL_ref (e id off n : Nat) (lo hi : Option AV) : SL C (some (.slice e)) (.ref id off n) lo hi K = S3o (C.ti e) id off n lo hi K := rfl
section
variable (b : List UInt8) (k k' : IntKind) (l h : Int) (n sz id off : Nat) (cs : List AV)
theorem S1_all : S1 b none none K = K (.v (.string ⟨b.toArray⟩)) := rfl
theorem S1_lo : S1 b (some (.v (.int k l))) none K = (0 ≤ l ∧ l ≤ b.length ∧ K (.v (.string ⟨(b.drop l.toNat).toArray⟩))) := rfl
theorem S1_hi : S1 b none (some (.v (.int k h))) K = (0 ≤ h ∧ h ≤ b.length ∧ K (.v (.string ⟨(b.take h.toNat).toArray⟩))) := rfl
theorem zzv : S1 b (some (.v (.int k l))) (some (.v (.int k' h))) K = (0 ≤ l ∧ l ≤ h ∧ h ≤ b.length ∧ K (.v (.string ⟨((b.take h.toNat).drop l.toNat).toArray⟩))) := rfl
theorem S2_all : S2 n sz cs none none K = K (.sl n cs) := rfl
theorem S2_lo : S2 n sz cs (some (.v (.int k l))) none K = (0 ≤ l ∧ l ≤ n ∧ cs.length = n * sz ∧ K (.sl (n - l.toNat) (cs.drop (l.toNat * sz)))) := rfl
theorem S2_hi : S2 n sz cs none (some (.v (.int k h))) K = (0 ≤ h ∧ h ≤ n ∧ cs.length = n * sz ∧ K (.sl h.toNat (cs.take (h.toNat * sz)))) := rfl
theorem zzw : S2 n sz cs (some (.v (.int k l))) (some (.v (.int k' h))) K = (0 ≤ l ∧ l ≤ h ∧ h ≤ n ∧ cs.length = n * sz ∧ K (.sl (h.toNat - l.toNat) ((cs.take (h.toNat * sz)).drop (l.toNat * sz)))) := rfl
theorem S3_all : S3 id off n sz none none K = K (.ref id off n) := rfl
theorem S3_lo : S3 id off n sz (some (.v (.int k l))) none K = (0 ≤ l ∧ l ≤ n ∧ 0 < sz ∧ K (.ref id (off + l.toNat * sz) (n - l.toNat))) := rfl
theorem S3_hi : S3 id off n sz none (some (.v (.int k h))) K = (0 ≤ h ∧ h ≤ n ∧ K (.ref id off h.toNat)) := rfl
theorem zzx : S3 id off n sz (some (.v (.int k l))) (some (.v (.int k' h))) K = (0 ≤ l ∧ l ≤ h ∧ h ≤ n ∧ 0 < sz ∧ K (.ref id (off + l.toNat * sz) (h.toNat - l.toNat))) := rfl
end
def LN (i : Option TI) (x : AV) (K : AV → Prop) : Prop := match i with | some i => zbr i.d x K | none => False
theorem zzi (i : TI) (x : AV) : LN (some i) x K = zbr i.d x K := rfl
theorem zit (x : Operand) (t : Nat) : z0j C s (.call { callee := .builtin .len, args := [x].toArray, argTypes := [t].toArray }) K = LN (C.ti t) (ev s x) K := rfl
theorem zc8 (b : ByteArray) : zbr .string (.v (.string b)) K = K (.v (.int .i64 b.data.toList.length)) := rfl
theorem ztk (e n : Nat) (cs : List AV) : zbr (.slice e) (.sl n cs) K = K (.v (.int .i64 n)) := rfl
theorem zmp (e : Nat) : zbr (.slice e) (.v (.slice none 0 0)) K = K (.v (.int .i64 0)) := rfl
theorem zmq (e id off n : Nat) : zbr (.slice e) (.ref id off n) K = K (.v (.int .i64 n)) := rfl
theorem zeq (n e : Nat) (x : AV) : zbr (.array n e) x K = K (.v (.int .i64 n)) := by cases x <;> rfl
def MN (x y : AV) (K : AV → Prop) : Prop := match [x, y] with | [.v (.int k a), .v (.int k' b)] => k = k' ∧ K (.v (.int k (if b < a then b else a))) | _ => False
def MX (x y : AV) (K : AV → Prop) : Prop := match [x, y] with | [.v (.int k a), .v (.int k' b)] => k = k' ∧ K (.v (.int k (if b > a then b else a))) | _ => False
theorem ziv (x y : Operand) (t : Array Nat) : z0j C s (.call { callee := .builtin .min, args := [x, y].toArray, argTypes := t }) K = MN (ev s x) (ev s y) K := rfl
theorem ziu (x y : Operand) (t : Array Nat) : z0j C s (.call { callee := .builtin .max, args := [x, y].toArray, argTypes := t }) K = MX (ev s x) (ev s y) K := rfl
theorem MN_int (k : IntKind) (a b : Int) : MN (.v (.int k a)) (.v (.int k b)) K = K (.v (.int k (if b < a then b else a))) := by simp [MN]
theorem MX_int (k : IntKind) (a b : Int) : MX (.v (.int k a)) (.v (.int k b)) K = K (.v (.int k (if b > a then b else a))) := by simp [MX]
def BU2 (s : St) (d : Option Nat) (e len : Nat) (ps : List (Nat × AV)) (i : Option TI) (L : St → Prop) : Prop := match i with
      | some i => ps.length = len ∧ 0 < i.size ∧ len * i.size ≤ 16777216 ∧ zmt s d len e i.size ps L (loose ps)
      | none => False
def BU (C : Ctx) (s : St) (d : Option Nat) (len : Nat) (ps : List (Nat × AV)) (t : Option TypeDesc) (L : St → Prop) : Prop := match t with
    | some (.slice e) => BU2 s d e len ps (C.ti e) L
    | _ => False
theorem z8t (t len : Nat) (ps : Array (Nat × Operand)) : wopC C P s d (.buildSlice t len ps) ty L = BU C s d len (ps.toList.map fun p => (p.1, ev s p.2)) (C.td t) L := by
  unfold wopC z6g BU BU2
  simp only [List.length_map]
  generalize C.td t = o
  cases o with
  | none => rfl
  | some x => cases x <;> first | rfl | (rename_i e; show (match C.ti e with | some _ => _ | none => _) = (match C.ti e with | some _ => _ | none => _); cases C.ti e <;> rfl)
theorem zqx (len : Nat) (ps : List (Nat × AV)) (e : Nat) : BU C s d len ps (some (.slice e)) L = BU2 s d e len ps (C.ti e) L := rfl
theorem zqw (len : Nat) (ps : List (Nat × AV)) (e : Nat) (i : TI) : BU2 s d e len ps (some i) L = (ps.length = len ∧ 0 < i.size ∧ len * i.size ≤ 16777216 ∧ zmt s d len e i.size ps L (loose ps)) := rfl
theorem zmw : loose [] = false := rfl
theorem zij (j : Nat) (x : AV) (l : List (Nat × AV)) : loose ((j, x) :: l) = (!(z0n x).all solid || loose l) := rfl
theorem zca (len e sz : Nat) (ps : List (Nat × AV)) : zmt s d len e sz ps L false = z2g sz 0 ps (klit s d len e sz L) := rfl
theorem zer (len e sz : Nat) (ps : List (Nat × AV)) : zmt s d len e sz ps L true = zao sz 0 ps (klitR s d len sz L) := rfl
theorem zid (sz i : Nat) (M : List AV → Prop) : zao sz i [] M = M [] := rfl
theorem zes (sz i j : Nat) (x : AV) (l : List (Nat × AV)) (M : List AV → Prop) : zao sz i ((j, x) :: l) M = (j = i ∧ (z0n x).length = sz ∧ (z0n x).all oneC = true ∧ zao sz (i + 1) l (kapp M (z0n x))) := rfl
theorem zth (len sz : Nat) (cs : List AV) : klitR s d len sz L cs = L (z3i s d (.ref s.m.length 0 len) (.row true sz cs)) := rfl
theorem zcb (sz i : Nat) (M : List AV → Prop) : z2g sz i [] M = M [] := rfl
theorem zan (sz i j : Nat) (x : AV) (l : List (Nat × AV)) (M : List AV → Prop) : z2g sz i ((j, x) :: l) M = (j = i ∧ (z0n x).length = sz ∧ (z0n x).all (fun c => oneC c && solid c) = true ∧ z2g sz (i + 1) l (kapp M (z0n x))) := rfl
theorem zln (x : Value) : z0n (.v x) = [.v x] := rfl
theorem zhj (n : Nat) (cs : List AV) : z0n (.sl n cs) = [.sl n cs] := rfl
theorem zhg (cs : List AV) : z0n (.cp cs) = [.cp cs] := rfl
theorem zdp (id off n : Nat) : z0n (.ref id off n) = [.ref id off n] := rfl
theorem zdo (id off : Nat) : z0n (.ptr id off) = [.ptr id off] := rfl
theorem zhh (f : FuncId) (a b : List AV) : z0n (.fn f a b) = [.fn f a b] := rfl
theorem zhf (cs : List AV) : z0n (.ag cs) = cs := rfl
def BX (i : Option TI) (s : St) (d : Option Nat) (cs : List AV) (L : St → Prop) : Prop := match i with
    | some _ => cs.all oneC = true ∧ L (z3i s d (.ptr s.m.length 0) (.row true 1 cs))
    | none => False
theorem zux (t : Nat) (x : Operand) : wopC C P s d (.box t x) ty L = BX (C.ti t) s d (z0n (ev s x)) L := rfl
theorem zxo (i : TI) (cs : List AV) : BX (some i) s d cs L = (cs.all oneC = true ∧ L (z3i s d (.ptr s.m.length 0) (.row true 1 cs))) := rfl
def AL (i : Option TI) (s : St) (d : Option Nat) (L : St → Prop) : Prop := match i with
    | some i => L (z3i s d (.ptr s.m.length 0) (.row true 1 (i.zero.cells.toList.map .v))) ∧ i.zero.cells.all (·.oneCell') = true
    | none => False
theorem zjl (t : Nat) : wopC C P s d (.alloc t) ty L = AL (C.ti t) s d L := rfl
theorem zx2 (i : TI) : AL (some i) s d L = (L (z3i s d (.ptr s.m.length 0) (.row true 1 (i.zero.cells.toList.map .v))) ∧ i.zero.cells.all (·.oneCell') = true) := rfl
def AP4 (s : St) (d : Option Nat) (i : TI) (e : Nat) (x : AV) (y : Option (Nat × List AV)) (L : St → Prop) : Prop := match y with
    | some (n, ncs) => zd8 s d i e x n ncs L
    | none => False
def AP2 (s : St) (d : Option Nat) (i : Option TI) (e : Nat) (x y : AV) (L : St → Prop) : Prop := match i with
    | some i => AP4 s d i e x (z2v s i.size y) L
    | none => False
def AP (C : Ctx) (s : St) (d : Option Nat) (t : Option TypeDesc) (x y : AV) (L : St → Prop) : Prop := match t with
    | some (.slice e) => AP2 s d (C.ti e) e x y L
    | _ => False
theorem zg7 (x y : Operand) (t : Nat) : wopC C P s d (.call { callee := .builtin .append, args := [x, y].toArray, argTypes := [t, t].toArray }) ty L = AP C s d (C.td t) (ev s x) (ev s y) L := by
  unfold wopC z6g AP AP2 AP4
  simp only [List.map_cons, List.map_nil, true_and]
  generalize C.td t = o
  cases o with
  | none => rfl
  | some x => cases x <;> first | rfl | (rename_i e; show (match C.ti e with | some _ => _ | none => _) = (match C.ti e with | some _ => _ | none => _); cases C.ti e <;> rfl)
theorem zqk (e : Nat) (x y : AV) : AP C s d (some (.slice e)) x y L = AP2 s d (C.ti e) e x y L := rfl
theorem zqj (i : TI) (e : Nat) (x y : AV) : AP2 s d (some i) e x y L = AP4 s d i e x (z2v s i.size y) L := rfl
def AP5 (s : St) (d : Option Nat) (i : TI) (e id len n : Nat) (ncs : List AV) (o : Ob) (L : St → Prop) : Prop := match o with
    | .arr e' sz cs => e' = e ∧ sz = i.size ∧ cs.length = len * sz ∧ ncs.length = n * i.size ∧ len + n ≤ 4611686018427387904 ∧ (len + n) * i.bytes ≤ 140737488355328 ∧
        L ⟨putD (z6i id s.t) d (.ref id 0 (len + n)), z1k (z41 id s.m) id (.arr e sz (cs ++ ncs))⟩
    | _ => False
theorem zx4 (i : TI) (e id len n : Nat) (ncs : List AV) : AP4 s d i e (.ref id 0 len) (some (n, ncs)) L = AP5 s d i e id len n ncs (obj s.m id) L := rfl
theorem zx3 (i : TI) (e n : Nat) (ncs : List AV) : AP4 s d i e (.v (.slice none 0 0)) (some (n, ncs)) L = (ncs.length = n * i.size ∧ 0 < i.size ∧ n ≤ 4611686018427387904 ∧ n * i.bytes ≤ 140737488355328 ∧ L (z3i s d (.ref s.m.length 0 n) (.arr e i.size ncs))) := rfl
theorem zx5 (i : TI) (e e' sz id len n : Nat) (cs ncs : List AV) : AP5 s d i e id len n ncs (.arr e' sz cs) L = (e' = e ∧ sz = i.size ∧ cs.length = len * sz ∧ ncs.length = n * i.size ∧ len + n ≤ 4611686018427387904 ∧ (len + n) * i.bytes ≤ 140737488355328 ∧
        L ⟨putD (z6i id s.t) d (.ref id 0 (len + n)), z1k (z41 id s.m) id (.arr e sz (cs ++ ncs))⟩) := rfl
def ST2 (s : St) (d : Option Nat) (i : TI) (id off : Nat) (xs : List AV) (o : Ob) (L : St → Prop) : Prop := match o with
      | .arr e sz cs => xs.length = i.size ∧ off + i.size ≤ cs.length ∧ xs.all (fun c => oneC c && solid c) = true ∧
          L ⟨putD s.t d .junk, z1k s.m id (.arr e sz (setCells cs off xs))⟩
      | .row true sz cs => xs.length = i.size ∧ off + i.size ≤ cs.length ∧ xs.all oneC = true ∧
          L ⟨putD s.t d .junk, z1k s.m id (.row true sz (setCells cs off xs))⟩
      | .row false sz cs => xs.length = i.size ∧ off + i.size ≤ cs.length ∧ xs.all (fun c => oneC c && solid c) = true ∧
          L ⟨putD s.t d .junk, z1k s.m id (.row false sz (setCells cs off xs))⟩
      | _ => False
def ST (s : St) (d : Option Nat) (i : Option TI) (p : AV) (xs : List AV) (L : St → Prop) : Prop := match i, p with
    | some i, .ptr id off => ST2 s d i id off xs (obj s.m id) L
    | _, _ => False
theorem zjs (t : Nat) (p x : Operand) : wopC C P s d (.store t p x) ty L = ST s d (C.ti t) (ev s p) (z0n (ev s x)) L := rfl
theorem ST_ptr (i : TI) (id off : Nat) (xs : List AV) : ST s d (some i) (.ptr id off) xs L = ST2 s d i id off xs (obj s.m id) L := rfl
theorem zzy (i : TI) (id off e sz : Nat) (cs xs : List AV) : ST2 s d i id off xs (.arr e sz cs) L = (xs.length = i.size ∧ off + i.size ≤ cs.length ∧ xs.all (fun c => oneC c && solid c) = true ∧
          L ⟨putD s.t d .junk, z1k s.m id (.arr e sz (setCells cs off xs))⟩) := rfl
theorem zsh (i : TI) (id off sz : Nat) (cs xs : List AV) : ST2 s d i id off xs (.row true sz cs) L = (xs.length = i.size ∧ off + i.size ≤ cs.length ∧ xs.all oneC = true ∧
          L ⟨putD s.t d .junk, z1k s.m id (.row true sz (setCells cs off xs))⟩) := rfl
theorem zsg (i : TI) (id off sz : Nat) (cs xs : List AV) : ST2 s d i id off xs (.row false sz cs) L = (xs.length = i.size ∧ off + i.size ≤ cs.length ∧ xs.all (fun c => oneC c && solid c) = true ∧
          L ⟨putD s.t d .junk, z1k s.m id (.row false sz (setCells cs off xs))⟩) := rfl
def RG (s : St) (d : Option Nat) (t : Option TypeDesc) (x : AV) (L : St → Prop) : Prop := match t, x with
    | some .string, .v (.string b) => L (z3i s d (.ptr s.m.length 0) (.it b.data.toList 0))
    | _, _ => False
theorem zjq (t : Nat) (x : Operand) : wopC C P s d (.range t x) ty L = RG s d (C.td t) (ev s x) L := rfl
theorem RG_str (b : ByteArray) : RG s d (some .string) (.v (.string b)) L = L (z3i s d (.ptr s.m.length 0) (.it b.data.toList 0)) := rfl
def NX2 (s : St) (d : Option Nat) (id : Nat) (o : Ob) (L : St → Prop) : Prop := match o with
      | .it t pos => wg (decide (pos < t.length))
          (L ⟨putD s.t d (.tup [.v (.bool true), .v (.int .i64 pos), .v (.int .i32 (Utf8.decode ⟨t.toArray⟩ pos).1)]), z1k s.m id (.it t (pos + (Utf8.decode ⟨t.toArray⟩ pos).2))⟩)
          (L ⟨putD s.t d (.tup [.v (.bool false)]), s.m⟩)
      | _ => False
def NX (s : St) (d : Option Nat) (x : AV) (L : St → Prop) : Prop := match x with | .ptr id 0 => NX2 s d id (obj s.m id) L | _ => False
theorem zoc (it : Operand) : wopC C P s d (.next it true) ty L = NX s d (ev s it) L := rfl
theorem NX_ptr (id : Nat) : NX s d (.ptr id 0) L = NX2 s d id (obj s.m id) L := rfl
theorem NX2_it (id : Nat) (t : List UInt8) (pos : Nat) : NX2 s d id (.it t pos) L = WG (decide (pos < t.length))
          (L ⟨putD s.t d (.tup [.v (.bool true), .v (.int .i64 pos), .v (.int .i32 (Utf8.decode ⟨t.toArray⟩ pos).1)]), z1k s.m id (.it t (pos + (Utf8.decode ⟨t.toArray⟩ pos).2))⟩)
          (L ⟨putD s.t d (.tup [.v (.bool false)]), s.m⟩) := (zga _ _ _).symm
def GO (C : Ctx) (P : Program) (ops : List Oper) (Q : Exit → St → Prop) (os : List Oper) (k : Option Nat) (want : Bool) (d : Option Nat) (op : Op) (ty : Nat) (s : St) : Prop := match k with
    | none => False
    | some k => GD C P ops Q os (get s.t k) k want d op ty s
def GP (C : Ctx) (P : Program) (ops : List Oper) (Q : Exit → St → Prop) (os : List Oper) (ph : Ph) (k : Option Nat) (want : Bool) (d : Option Nat) (op : Op) (s : St) : Prop := match k with
    | none => False
    | some k => GQ C P ops Q os ph (get s.t k) k want d op s
section
variable (ops os : List Oper) (op : Op) (pos : String) (af : Array Edge) (j k : Nat) (want : Bool)
theorem za6 : WR C P ops Q ({ dst := d, op := op, type := ty, pos := pos, after := af, guard := some (j, true) } :: os) s = GO C P ops Q os (z6r ops j) true d op ty s := WR_true ..
theorem z9b : WR C P ops Q ({ dst := d, op := op, type := ty, pos := pos, after := af, guard := some (j, false) } :: os) s = GO C P ops Q os (z6r ops j) false d op ty s := WR_false ..
theorem za5 (ph : Ph) : QR C P ops Q ({ dst := d, op := op, type := ty, pos := pos, after := af, guard := some (j, true) } :: os) ph s = QK C P ops Q os ph d op ty (GP C P ops Q os ph (z6r ops j) true d op s) s (z16 op) := QR_true ..
theorem z9a (ph : Ph) : QR C P ops Q ({ dst := d, op := op, type := ty, pos := pos, after := af, guard := some (j, false) } :: os) ph s = QK C P ops Q os ph d op ty (GP C P ops Q os ph (z6r ops j) false d op s) s (z16 op) := QR_false ..
theorem zzc : GO C P ops Q os (some k) want d op ty s = GD C P ops Q os (get s.t k) k want d op ty s := rfl
theorem zzd (ph : Ph) : GP C P ops Q os ph (some k) want d op s = GQ C P ops Q os ph (get s.t k) k want d op s := rfl
end
def EO (id n : Nat) (used : List Nat) (o : Ob) (K : AV → List Nat → Prop) : Prop := match o with
    | .arr e sz cs => used.contains id = false ∧ cs.length = n * sz ∧ K (.own e sz n cs) (used ++ [id])
    | _ => False
section
variable {M : AV → List Nat → Prop} {M2 : List AV → List Nat → Prop} (u : List Nat)
theorem zt3 (id n : Nat) : expP s u (.ref id 0 n) M = EO id n u (obj s.m id) M := rfl
theorem EO_arr (id n e sz : Nat) (cs : List AV) : EO id n u (.arr e sz cs) M = (u.contains id = false ∧ cs.length = n * sz ∧ M (.own e sz n cs) (u ++ [id])) := rfl
theorem expP_v (x : Value) : expP s u (.v x) M = M (.v x) u := rfl
theorem expP_sl (n : Nat) (cs : List AV) : expP s u (.sl n cs) M = M (.sl n cs) u := rfl
theorem expP_cp (cs : List AV) : expP s u (.cp cs) M = M (.cp cs) u := rfl
theorem expP_mp (es : List (Value × AV)) : expP s u (.mp es) M = M (.mp es) u := rfl
theorem expP_ag (xs : List AV) : expP s u (.ag xs) M = ze6 s u xs fun ys u => M (.ag ys) u := rfl
theorem expP_fn (f : FuncId) (a b : List AV) : expP s u (.fn f a b) M = ((namess a || namess b) = false ∧ M (.fn f a b) u) := rfl
theorem zm5 : ze6 s u [] M2 = M2 [] u := rfl
theorem zhu (x : AV) (l : List AV) : ze6 s u (x :: l) M2 = expP s u x fun y u => ze6 s u l fun ys u' => M2 (y :: ys) u' := rfl
theorem zui (z : Bool) (ts : List ResultVar) (r : AV) : retQ C z ts r .ret s = zd5 C s ts (expR z s r) := rfl
theorem zfl (z : Bool) (ts : List ResultVar) (r : AV) : retQ C z ts r .normal s = zd5 C s ts (expR z s r) := rfl
theorem znl (K : List AV → Prop) : zd5 C s [] K = K [] := rfl
theorem zj4 (r : ResultVar) (rs : List ResultVar) (K : List AV → Prop) : zd5 C s (r :: rs) K = resK C s r fun x => zd5 C s rs fun xs => K (x :: xs) := rfl
theorem zuh (t : Nat) (K : AV → Prop) : resK C s (.tmp t) K = K (get s.t t) := rfl
theorem znk (p t : Nat) (K : AV → Prop) : resK C s (.cell p t) K = z0j C s (.load t (.tmp p)) K := rfl
theorem zm2 (r : AV) : expR false s r [] = (.tup [] = r) := rfl
theorem zt4 (r x : AV) : expR false s r [x] = expP s [] x fun y _ => y = r := rfl
theorem zm1 (r x y : AV) (l : List AV) : expR false s r (x :: y :: l) = ze6 s [] (x :: y :: l) fun ys _ => .tup ys = r := rfl
theorem zm3 (r x : AV) : expR true s r [x] = (fz s x = r) := rfl
theorem zht (r x y : AV) (l : List AV) : expR true s r (x :: y :: l) = (.tup (fzs s (x :: y :: l)) = r) := rfl
end
theorem ev_tmp (k : Nat) : ev s (.tmp k) = get s.t k := rfl
theorem zt1 (v : Value) : ev s (.const v) = .v v := rfl
theorem ev_func (f : FuncId) : ev s (.func f) = .fn f [] [] := rfl
theorem oneC_v (v : Value) : oneC (.v v) = v.oneCell' := rfl
theorem oneC_sl (n : Nat) (cs : List AV) : oneC (.sl n cs) = true := rfl
theorem zu2 (id off n : Nat) : oneC (.ref id off n) = true := rfl
theorem zu1 (id off : Nat) : oneC (.ptr id off) = true := rfl
theorem oneC_cp (cs : List AV) : oneC (.cp cs) = true := rfl
theorem oneC_fn (f : FuncId) (a b : List AV) : oneC (.fn f a b) = true := rfl
theorem oneC_mp (es : List (Value × AV)) : oneC (.mp es) = true := rfl
theorem solid_v (v : Value) : solid (.v v) = true := rfl
theorem zun (n : Nat) (cs : List AV) : solid (.sl n cs) = true := rfl
theorem zuk (cs : List AV) : solid (.cp cs) = true := rfl
theorem zul (f : FuncId) (a b : List AV) : solid (.fn f a b) = false := rfl
theorem znt (i o : Nat) : solid (.ptr i o) = false := rfl
theorem znu (i o n : Nat) : solid (.ref i o n) = false := rfl
theorem zum (es : List (Value × AV)) : solid (.mp es) = true := rfl
theorem zez (k : IntKind) (n : Int) : (Value.int k n).oneCell' = true := rfl
theorem zcg (b : Bool) : (Value.bool b).oneCell' = true := rfl
theorem z9h (b : ByteArray) : (Value.string b).oneCell' = true := rfl
theorem zau (p : Option Addr) (n c : Nat) : (Value.slice p n c).oneCell' = true := rfl
theorem ztg (id : Nat) (x : AV) : zaj id x = bif z0a id x then .junk else x := by unfold zaj; cases z0a id x <;> rfl
def TO (C : Ctx) (P : Program) (o : Option Oper) (L : St → Prop) (s : St) : Prop := match o with | some o => z1x C s o.dst o.op L | none => False
def OO (C : Ctx) (P : Program) (o : Option Oper) (L : St → Prop) (s : St) : Prop := match o with | some o => wop C P s o L | none => False
structure PR (C : Ctx) (P : Program) (ops : List Oper) (Q : St → Prop) (pl : Plan) (s : St) : Prop where
  out : pops C P ops Q pl s
theorem zlh (ops : List Oper) (Q : St → Prop) (pl : Plan) : PR C P ops Q pl = pops C P ops Q pl := by funext s; exact propext ⟨fun h => h.out, fun h => ⟨h⟩⟩
theorem zzq (ops : List Oper) (Q : St → Prop) : PR C P ops Q .done s = Q s := by rw [zlh]; rfl
theorem zzr (ops : List Oper) (Q : St → Prop) (i : Nat) (p : Plan) : PR C P ops Q (.take i p) s = TO C P ops[i]? (PR C P ops Q p) s := by rw [zlh, zlh]; rfl
theorem PR_one (ops : List Oper) (Q : St → Prop) (i : Nat) (p : Plan) : PR C P ops Q (.one i p) s = OO C P ops[i]? (PR C P ops Q p) s := by rw [zlh, zlh]; rfl
theorem PR_two (ops : List Oper) (Q : St → Prop) (i j : Nat) (p q : Plan) : PR C P ops Q (.two i p j q) s = (OO C P ops[i]? (PR C P ops Q p) s ∧ OO C P ops[j]? (PR C P ops Q q) s) := by rw [zlh, zlh, zlh]; rfl
theorem zzl (op : Op) (ty : Nat) (pos : String) (af : Array Edge) (g : Option (Nat × Bool)) : OO C P (some { dst := d, op := op, type := ty, pos := pos, after := af, guard := g }) L s = wopC C P s d op ty L := zv1 _ _ _ _ _ _ _
theorem zzz (op : Op) (ty : Nat) (pos : String) (af : Array Edge) (g : Option (Nat × Bool)) : TO C P (some { dst := d, op := op, type := ty, pos := pos, after := af, guard := g }) L s = z1x C s d op L := rfl
theorem zo0 (x : Operand) : z1x C s d (.move x) L = L ⟨putD s.t d (ev s x), s.m⟩ := rfl
theorem zg0 (x : Operand) : z1x C s d (.assign x) L = L ⟨putD s.t d (ev s x), s.m⟩ := rfl
theorem zje (o : BinOp) (t u : Nat) (x y : Operand) : z1x C s d (.binOp o t x y u) L = ((z2p (ev s x) && (z2p (ev s y) && true)) = true ∧ z0j C s (.binOp o t x y u) (kpl s d L)) := by simp [z1x, z1x.slotOnlyP, Op.operands]
theorem zo1 (c x y : Operand) : z1x C s d (.pick c x y) L = ((z2p (ev s c) && (z2p (ev s x) && z2p (ev s y))) = true ∧ z0j C s (.pick c x y) (kpl s d L)) := by simp [z1x, z1x.slotOnlyP, Op.operands]
theorem zo2 (o : UnOp) (t : Nat) (x : Operand) : z1x C s d (.unOp o t x) L = (z2p (ev s x) = true ∧ z0j C s (.unOp o t x) (kpl s d L)) := by simp [z1x, z1x.slotOnlyP, Op.operands]
theorem zjf (t : Nat) (x y : Operand) : z1x C s d (.index t x y) L = ((z2p (ev s x) && z2p (ev s y)) = true ∧ z0j C s (.index t x y) (kpl s d L)) := by simp [z1x, z1x.slotOnlyP, Op.operands]
theorem zg1 (t : Nat) (x : Operand) : z1x C s d (.slice t x none none none) L = (z2p (ev s x) = true ∧ z0j C s (.slice t x none none none) (kpl s d L)) := by simp [z1x, z1x.slotOnlyP, Op.operands]
theorem zg2 (t : Nat) (x y : Operand) : z1x C s d (.slice t x (some y) none none) L = ((z2p (ev s x) && z2p (ev s y)) = true ∧ z0j C s (.slice t x (some y) none none) (kpl s d L)) := by simp [z1x, z1x.slotOnlyP, Op.operands]
theorem zg3 (t : Nat) (x z : Operand) : z1x C s d (.slice t x none (some z) none) L = ((z2p (ev s x) && z2p (ev s z)) = true ∧ z0j C s (.slice t x none (some z) none) (kpl s d L)) := by simp [z1x, z1x.slotOnlyP, Op.operands]
theorem zg4 (t : Nat) (x y z : Operand) : z1x C s d (.slice t x (some y) (some z) none) L = ((z2p (ev s x) && (z2p (ev s y) && z2p (ev s z))) = true ∧ z0j C s (.slice t x (some y) (some z) none) (kpl s d L)) := by simp [z1x, z1x.slotOnlyP, Op.operands]
theorem kpl_eq (x : AV) : kpl s d L x = (z2p x = true ∧ L ⟨putD s.t d x, s.m⟩) := rfl
theorem zu7 (x : Value) : z2p (.v x) = true := rfl
theorem DR_q (l : List Oper) (h : QR C P l Q l (.p1 none) s) : DR C P l Q s := ⟨.inl (by rw [zli] at h; exact h)⟩
theorem DR_p (pl : Plan) (l : List Oper) (hok : z5g l.toArray l.length (Array.replicate l.length false) pl = true) (h : PR C P l (Q .normal) pl s) : DR C P l Q s := ⟨.inr ⟨pl, by simpa using hok, h.out⟩⟩
structure WE (P : Program) (f : FuncId) (as : List AV) (nm : Bool) (K : AV → Prop) (X : Prop) : Prop where
  out : (∃ r, Spec P f as r ∧ (nm = false ∨ clean r) ∧ K r) ∨ X
structure LX (P : Program) (s : St) (d : Option Nat) (f : FuncId) (args : List AV) (L : St → Prop) : Prop where
  out : lcall P s d f args L
def ks (s : St) (d : Option Nat) (L : St → Prop) (r : AV) : Prop := L (zeh s d r)
def kq (s : St) (d : Option Nat) (L : St → Prop) (r : AV) : Prop := z07 (unown r) = true ∧ L ⟨putD s.t d (unown r), s.m⟩
theorem ks_eq (r : AV) : ks s d L r = L (zeh s d r) := rfl
theorem kq_eq (r : AV) : kq s d L r = (z07 (unown r) = true ∧ L ⟨putD s.t d (unown r), s.m⟩) := rfl
theorem WC_norm (f : FuncId) (args : List AV) : WC P s d f args L = WE P f (fzs s args) (namess args) (ks s d L) (LX P s d f args L) := by
  rw [WC_eq]
  exact propext ⟨fun h => ⟨h.imp id fun h => ⟨h⟩⟩, fun h => h.out.imp id fun h => h.out⟩
theorem zzs (f : FuncId) (args : List AV) : QC P s d f args L = (belows s.m.length args = true ∧ WE P f (fzs s args) (namess args) (kq s d L) False) := by
  rw [QC_eq]; exact propext ⟨fun ⟨r, h1, h2, h2', h3, h4⟩ => ⟨h2', ⟨.inl ⟨r, h1, h2, h3, h4⟩⟩⟩, fun ⟨h2', h⟩ => (let ⟨r, h1, h2, h3, h4⟩ := h.out.resolve_right id; ⟨r, h1, h2, h2', h3, h4⟩)⟩
theorem WE_use {f : FuncId} {as : List AV} {nm : Bool} {r : AV} {X : Prop} (hs : Spec P f as r) (hc : nm = false ∨ clean r) (hk : K r) : WE P f as nm K X := ⟨.inl ⟨r, hs, hc, hk⟩⟩
def LR (σ : List Nat) (m0 : List Ob) (as : List AV) (m1 : List Ob) (r : AV) (s : St) (d : Option Nat) (args : List AV) (L : St → Prop) : Prop :=
  z46 σ = true ∧ z03 σ.length (renF σ s.m.length) s.m σ m0 ∧ z42 m0 m1 = true ∧ belows σ.length as = true ∧ rens (renF σ s.m.length) as = args ∧ L (afterL s d σ m0 m1 r)
theorem z17 (σ : List Nat) {f : FuncId} {m0 m1 : List Ob} {as args fa : List AV} {r : AV} {nm : Bool} (hs : z5j P f m0 as m1 r) (h : LR σ m0 as m1 r s d args L) : WE P f fa nm K (LX P s d f args L) := by
  obtain ⟨h1, h2, h3, h4, h5, h6⟩ := h
  exact ⟨.inr ⟨⟨σ, m0, as, m1, r, hs, h1, h2, h3, h4, h5, h6⟩⟩⟩
theorem LR_eq (σ : List Nat) (m0 : List Ob) (as : List AV) (m1 : List Ob) (r : AV) (args : List AV) : LR σ m0 as m1 r s d args L = (z46 σ = true ∧ z03 σ.length (renF σ s.m.length) s.m σ m0 ∧ z42 m0 m1 = true ∧ belows σ.length as = true ∧ rens (renF σ s.m.length) as = args ∧
  L ⟨putD (z7n (givL σ m0) s.t) d (ren (renF σ s.m.length) r), updM (renF σ s.m.length) (z2h (givL σ m0) s.m) σ m1 ++ (m1.drop σ.length).map (renO (renF σ s.m.length))⟩) := rfl
theorem znn (ts : List ResultVar) (m1 : List Ob) (r : AV) : retQL C ts m1 r .ret s = zd5 C s ts (expL s m1 r) := rfl
theorem zcq (ts : List ResultVar) (m1 : List Ob) (r : AV) : retQL C ts m1 r .normal s = zd5 C s ts (expL s m1 r) := rfl
theorem zm0 (m1 : List Ob) (r : AV) : expL s m1 r [] = (.tup [] = r ∧ wkM s.m m1 ∧ belowM m1.length m1 = true ∧ below m1.length r = true) := rfl
theorem zt2 (m1 : List Ob) (r x : AV) : expL s m1 r [x] = (x = r ∧ wkM s.m m1 ∧ belowM m1.length m1 = true ∧ below m1.length r = true) := rfl
theorem zlz (m1 : List Ob) (r x y : AV) (l : List AV) : expL s m1 r (x :: y :: l) = (.tup (x :: y :: l) = r ∧ wkM s.m m1 ∧ belowM m1.length m1 = true ∧ below m1.length r = true) := rfl
theorem wkM_nil (m : List Ob) : wkM m [] = (noF m = true) := by simp only [wkM]
theorem zuv (p o : Ob) (m l : List Ob) : wkM (p :: m) (o :: l) = ((o = .dead ∧ isF p = false ∨ o = p) ∧ wkM m l) := by simp only [wkM]
def FZ (o : Ob) (off n : Nat) : AV := match o with
    | .arr _ sz cs => .sl n ((cs.drop off).take (n * sz))
    | .row false sz cs => .sl n ((cs.drop off).take (n * sz))
    | _ => .junk
def FZP (s : St) (o : Ob) (off : Nat) : AV := match o with
    | .arr _ _ cs => .cp (cs.drop off)
    | .row false _ cs => .cp (cs.drop off)
    | .row true _ cs => .cp ((cs.map (fz1 s)).drop off)
    | _ => .junk
theorem fz_v (v : Value) : fz s (.v v) = .v v := rfl
theorem fz_un : fz s .un = .un := rfl
theorem fz_sl (n : Nat) (cs : List AV) : fz s (.sl n cs) = .sl n cs := rfl
theorem fz_cp (cs : List AV) : fz s (.cp cs) = .cp cs := rfl
theorem fz_mp (es : List (Value × AV)) : fz s (.mp es) = .mp es := rfl
theorem fz_ag (cs : List AV) : fz s (.ag cs) = .ag (fzs s cs) := rfl
theorem fz_tup (cs : List AV) : fz s (.tup cs) = .tup (fzs s cs) := rfl
theorem fz_fn (f : FuncId) (a b : List AV) : fz s (.fn f a b) = .fn f (fzs s a) (fzs s b) := rfl
theorem fz_ref (id off n : Nat) : fz s (.ref id off n) = FZ (obj s.m id) off n := rfl
theorem fz_ptr (id off : Nat) : fz s (.ptr id off) = FZP s (obj s.m id) off := rfl
theorem FZ_arr (e sz off n : Nat) (cs : List AV) : FZ (.arr e sz cs) off n = .sl n ((cs.drop off).take (n * sz)) := rfl
theorem FZ_row (sz off n : Nat) (cs : List AV) : FZ (.row false sz cs) off n = .sl n ((cs.drop off).take (n * sz)) := rfl
theorem zz9 (e sz off : Nat) (cs : List AV) : FZP s (.arr e sz cs) off = .cp (cs.drop off) := rfl
theorem zrz (sz off : Nat) (cs : List AV) : FZP s (.row false sz cs) off = .cp (cs.drop off) := rfl
theorem zs0 (sz off : Nat) (cs : List AV) : FZP s (.row true sz cs) off = .cp ((cs.map (fz1 s)).drop off) := rfl
theorem fz1_v (v : Value) : fz1 s (.v v) = .v v := rfl
theorem fz1_sl (n : Nat) (cs : List AV) : fz1 s (.sl n cs) = .sl n cs := rfl
theorem fz1_cp (cs : List AV) : fz1 s (.cp cs) = .cp cs := rfl
theorem fz1_mp (es : List (Value × AV)) : fz1 s (.mp es) = .mp es := rfl
theorem fz1_ref (id off n : Nat) : fz1 s (.ref id off n) = FZ (obj s.m id) off n := rfl
theorem zct {α : Type} (f : α → AV) (l : List α) : (l.map f).take l.length = l.map f := List.take_of_length_le (by simp)
theorem clean_u8 (e sz n : Nat) (l : List UInt8) : clean (.own e sz n (l.map U8)) := by
  intro c hc
  obtain ⟨x, _, rfl⟩ := List.mem_map.1 hc
  exact ⟨_, rfl⟩
theorem clean_i32 (e sz n : Nat) (l : List Int) : clean (.own e sz n (l.map I32)) := by
  intro c hc
  obtain ⟨x, _, rfl⟩ := List.mem_map.1 hc
  exact ⟨_, rfl⟩
theorem clean_str (e sz n : Nat) (l : List (List UInt8)) : clean (.own e sz n (l.map Sv)) := by
  intro c hc
  obtain ⟨x, _, rfl⟩ := List.mem_map.1 hc
  exact ⟨_, rfl⟩
theorem clean_v (v : Value) : clean (.v v) := trivial
theorem z05 (xs : List AV) (h : cleans xs) : clean (.tup xs) := h
theorem zv9 : cleans [] := trivial
theorem z00 (x : AV) (l : List AV) (h : clean x) (k : cleans l) : cleans (x :: l) := ⟨h, k⟩
theorem zj9 (k e sz : Nat) (cs : List AV) : zb9 k (.arr e sz cs) = .arr e sz cs := rfl
theorem zja (k sz : Nat) (cs : List AV) : zb9 k (.row false sz cs) = .row false sz cs := rfl
theorem zjm (o : BinOp) (t : Nat) (x y : Operand) (u : Nat) : wopC C P s d (.binOp o t x y u) ty L = bin2 C o t (ev s x) (ev s y) (kput s d L) (BI C o t (ev s x) (ev s y) (kput s d L)) := rfl
theorem ziy (o : BinOp) (t : Nat) (x y : Operand) (u : Nat) : qopC C P s d (.binOp o t x y u) L = bin2 C o t (ev s x) (ev s y) (kput s d L) (BI C o t (ev s x) (ev s y) (kput s d L)) := rfl
section
variable {o : BinOp} {t : Nat} {D : Prop}
theorem B2_int (k k' : IntKind) (a b : Int) : bin2 C o t (.v (.int k a)) (.v (.int k' b)) K D = D := rfl
theorem zxd (a b : Bool) : bin2 C o t (.v (.bool a)) (.v (.bool b)) K D = D := rfl
theorem B2_str (a b : ByteArray) : bin2 C o t (.v (.string a)) (.v (.string b)) K D = D := rfl
def B2E (C : Ctx) (t : Nat) (a b : Option (List Value)) (f : Bool → Bool) (K : AV → Prop) : Prop := match a, b with
  | some a, some b => z1h C t (.agg a.toArray) = true ∧ z1h C t (.agg b.toArray) = true ∧ K (.v (.bool (f (eqs a b))))
  | _, _ => False
theorem zqo (cs ds : List AV) : bin2 C .eql t (.ag cs) (.ag ds) K D = B2E C t (z1v cs) (z1v ds) id K := by
  simp only [bin2, B2E]; cases z1v cs <;> cases z1v ds <;> rfl
theorem zqp (cs ds : List AV) : bin2 C .neq t (.ag cs) (.ag ds) K D = B2E C t (z1v cs) (z1v ds) not K := by
  simp only [bin2, B2E]; cases z1v cs <;> cases z1v ds <;> rfl
theorem B2E_id (a b : List Value) : B2E C t (some a) (some b) id K = (z1h C t (.agg a.toArray) = true ∧ z1h C t (.agg b.toArray) = true ∧ K (.v (.bool (eqs a b)))) := rfl
theorem zxc (a b : List Value) : B2E C t (some a) (some b) not K = (z1h C t (.agg a.toArray) = true ∧ z1h C t (.agg b.toArray) = true ∧ K (.v (.bool (!eqs a b)))) := rfl
def B2S (d : Option TypeDesc) (X : Prop) : Prop := match d with
  | some (.slice _) => X
  | _ => False
def B2N (t : Option TypeDesc) (b : Bool) (K : AV → Prop) : Prop := match t with | some (.func _ _ _) => K (.v (.bool b)) | _ => False
theorem zqq (f : FuncId) (a b : List AV) : bin2 C .eql t (.fn f a b) (.v .nilFunc) K D = B2N (C.td t) false K := by
  simp only [bin2, B2N]; cases C.td t with | none => rfl | some d => cases d <;> rfl
theorem zqr (f : FuncId) (a b : List AV) : bin2 C .neq t (.fn f a b) (.v .nilFunc) K D = B2N (C.td t) true K := by
  simp only [bin2, B2N]; cases C.td t with | none => rfl | some d => cases d <;> rfl
theorem zqs : bin2 C .eql t (.v .nilFunc) (.v .nilFunc) K D = B2N (C.td t) true K := by
  simp only [bin2, B2N]; cases C.td t with | none => rfl | some d => cases d <;> rfl
theorem zqt : bin2 C .neq t (.v .nilFunc) (.v .nilFunc) K D = B2N (C.td t) false K := by
  simp only [bin2, B2N]; cases C.td t with | none => rfl | some d => cases d <;> rfl
theorem zqu (n : Nat) (cs : List AV) : bin2 C .eql t (.sl n cs) (.v (.slice none 0 0)) K D = B2S (C.td t) (0 < n ∧ K (.v (.bool false))) := by
  simp only [bin2, B2S, nilP]; cases C.td t with | none => rfl | some d => cases d <;> rfl
theorem zqv (n : Nat) (cs : List AV) : bin2 C .neq t (.sl n cs) (.v (.slice none 0 0)) K D = B2S (C.td t) (0 < n ∧ K (.v (.bool true))) := by
  simp only [bin2, B2S, nilP]; cases C.td t with | none => rfl | some d => cases d <;> rfl
theorem zld (id off n : Nat) : bin2 C .eql t (.ref id off n) (.v (.slice none 0 0)) K D = B2S (C.td t) (0 < n ∧ K (.v (.bool false))) := by
  simp only [bin2, B2S, nilP]; cases C.td t with | none => rfl | some d => cases d <;> rfl
theorem zle (id off n : Nat) : bin2 C .neq t (.ref id off n) (.v (.slice none 0 0)) K D = B2S (C.td t) (0 < n ∧ K (.v (.bool true))) := by
  simp only [bin2, B2S, nilP]; cases C.td t with | none => rfl | some d => cases d <;> rfl
theorem zlb : bin2 C .eql t (.v (.slice none 0 0)) (.v (.slice none 0 0)) K D = B2S (C.td t) (K (.v (.bool true))) := by
  simp only [bin2, B2S, nilP]; cases C.td t with | none => rfl | some d => cases d <;> rfl
theorem zlc : bin2 C .neq t (.v (.slice none 0 0)) (.v (.slice none 0 0)) K D = B2S (C.td t) (K (.v (.bool false))) := by
  simp only [bin2, B2S, nilP]; cases C.td t with | none => rfl | some d => cases d <;> rfl
theorem zl9 (a : Addr) (n c : Nat) : bin2 C .eql t (.v (.slice (some a) n c)) (.v (.slice none 0 0)) K D = B2S (C.td t) (K (.v (.bool false))) := by
  simp only [bin2, B2S, nilP]; cases C.td t with | none => rfl | some d => cases d <;> rfl
theorem zla (a : Addr) (n c : Nat) : bin2 C .neq t (.v (.slice (some a) n c)) (.v (.slice none 0 0)) K D = B2S (C.td t) (K (.v (.bool true))) := by
  simp only [bin2, B2S, nilP]; cases C.td t with | none => rfl | some d => cases d <;> rfl
theorem B2S_sl (e : Nat) (X : Prop) : B2S (some (.slice e)) X = X := rfl
theorem B2N_fn (a b : Array TypeId) (v e : Bool) : B2N (some (.func a b v)) e K = K (.v (.bool e)) := rfl
end
theorem eqs_nil : eqs [] [] = true := rfl
theorem zsy (a b : Value) (l m : List Value) : eqs (a :: l) (b :: m) = (eq1 a b && eqs l m) := rfl
theorem eq1_int (k k' : IntKind) (a b : Int) : eq1 (.int k a) (.int k' b) = (a == b) := rfl
theorem zsw (a b : Bool) : eq1 (.bool a) (.bool b) = (a == b) := rfl
theorem eq1_str (a b : ByteArray) : eq1 (.string a) (.string b) = (a.data.toList == b.data.toList) := rfl
def PVs (x : Value) (o : Option (List Value)) : Option (List Value) := match o with | some l => some (x :: l) | none => none
def PVa (o : Option (List Value)) : Option Value := match o with | some l => some (.agg l.toArray) | none => none
theorem zu8 (x : Value) : z3w (.v x) = some x := by simp [z3w]
theorem znc (cs : List AV) : z3w (.ag cs) = PVa (z1v cs) := by simp only [z3w, PVa]; cases z1v cs <;> rfl
theorem zs9 (l : List Value) : PVa (some l) = some (.agg l.toArray) := rfl
theorem zf5 : z1v [] = some [] := by simp [z1v]
theorem zcj (x : Value) (l : List AV) : z1v (.v x :: l) = PVs x (z1v l) := by simp only [z1v, z3w, PVs]; cases z1v l <;> rfl
theorem zsa (x : Value) (l : List Value) : PVs x (some l) = some (x :: l) := rfl
theorem zjn (t : Nat) (ps : Array (Nat × Operand)) : wopC C P s d (.build t ps) ty L = z6e C (C.ti t) (ps.toList.map fun p => (p.1, ev s p.2)) (kput s d L) := rfl
theorem ziz (t : Nat) (ps : Array (Nat × Operand)) : qopC C P s d (.build t ps) L = z6e C (C.ti t) (ps.toList.map fun p => (p.1, ev s p.2)) (kput s d L) := rfl
theorem zxn (fs : List Field) (sz b : Nat) (z : Value) (ps : List (Nat × AV)) : z6e C (some ⟨.struct fs.toArray, sz, b, z⟩) ps K = ((fs.all fun f => (C.ti f.type).isSome) = true ∧ z2a C fs (z.cells.toList.map .v) ps (kag K)) := rfl
theorem kag_eq (cs : List AV) : kag K cs = K (.ag cs) := rfl
section
variable (fs : List Field) (cs : List AV) (M : List AV → Prop)
def FC2 (C : Ctx) (fs : List Field) (cs : List AV) (l : List (Nat × AV)) (M : List AV → Prop) (xs : List AV) (off : Nat) (i : Option TI) : Prop := match i with
  | some i => xs.length = i.size ∧ off + i.size ≤ cs.length ∧ xs.all oneC = true ∧ z2a C fs (setCells cs off xs) l M
  | none => False
def FC (C : Ctx) (fs : List Field) (cs : List AV) (l : List (Nat × AV)) (M : List AV → Prop) (x : AV) (f : Option Field) : Prop := match f with
  | some fd => FC2 C fs cs l M (z0n x) fd.offset (C.ti fd.type)
  | none => False
theorem zad : z2a C fs cs [] M = M cs := rfl
theorem z9d (j : Nat) (x : AV) (l : List (Nat × AV)) : z2a C fs cs ((j, x) :: l) M = FC C fs cs l M x fs[j]? := by
  simp only [z2a, FC, FC2]
  cases fs[j]? with
  | none => rfl
  | some fd => simp only; cases C.ti fd.type <;> rfl
theorem zz8 (fd : Field) (x : AV) (l : List (Nat × AV)) : FC C fs cs l M x (some fd) = FC2 C fs cs l M (z0n x) fd.offset (C.ti fd.type) := rfl
theorem zry (i : TI) (off : Nat) (xs : List AV) (l : List (Nat × AV)) : FC2 C fs cs l M xs off (some i) = (xs.length = i.size ∧ off + i.size ≤ cs.length ∧ xs.all oneC = true ∧ z2a C fs (setCells cs off xs) l M) := rfl
end
theorem zlo (cs : Array Value) : (Value.agg cs).cells = cs := rfl
theorem zcs (cs : List AV) (i : Nat) : setCells cs i [] = cs := rfl
theorem zb7 (cs : List AV) (i : Nat) (x : AV) (l : List AV) : setCells cs i (x :: l) = setCells (zb8 cs i x) (i + 1) l := rfl
theorem z0p (c x : AV) (l : List AV) : zb8 (c :: l) 0 x = x :: l := rfl
theorem zfu (c x : AV) (l : List AV) (n : Nat) : zb8 (c :: l) (n + 1) x = c :: zb8 l n x := rfl
theorem zhi (id : Nat) : z0n (.mr id) = [.mr id] := rfl
theorem zdn (cs : List AV) : z0n (.ag cs) = cs := rfl
theorem zg9 (t : Nat) (x i : Operand) (ok : Bool) : wopC C P s d (.lookup t x i ok) ty L = z5p C (C.td t) (z8b s (ev s x)) (z3w (ev s i)) ok (kput s d L) := rfl
theorem zfd (t : Nat) (x i : Operand) (ok : Bool) : qopC C P s d (.lookup t x i ok) L = z5p C (C.td t) (z8b s (ev s x)) (z3w (ev s i)) ok (kput s d L) := rfl
def LK2 (C : Ctx) (kt : Nat) (i : Option TI) (es : List (Value × AV)) (key : Value) (ok : Bool) (K : AV → Prop) : Prop := match i with
  | some ie => z1h C kt key = true ∧ (∀ e ∈ es, z1h C kt e.1 = true) ∧ MG (mget key es) (fun x => K (okV ok x true)) (K (okV ok (zcz ie.zero) false))
  | none => False
theorem zeu (kt e : Nat) (es : List (Value × AV)) (key : Value) (ok : Bool) : z5p C (some (.map kt e)) (some es) (some key) ok K = LK2 C kt (C.ti e) es key ok K := by
  simp only [z5p, LK2]; cases C.ti e <;> rfl
theorem zs3 (kt : Nat) (ie : TI) (es : List (Value × AV)) (key : Value) (ok : Bool) : LK2 C kt (some ie) es key ok K = (z1h C kt key = true ∧ (∀ e ∈ es, z1h C kt e.1 = true) ∧ MG (mget key es) (fun x => K (okV ok x true)) (K (okV ok (zcz ie.zero) false))) := rfl
theorem zzk (x : AV) (A : AV → Prop) (B : Prop) : MG (some x) A B = A x := rfl
theorem zzj (A : AV → Prop) (B : Prop) : MG none A B = B := rfl
theorem zu0 (x : AV) (b : Bool) : okV true x b = .tup [x, .v (.bool b)] := rfl
theorem zn6 (x : AV) (b : Bool) : okV false x b = x := rfl
theorem zju (cs : Array Value) : zcz (.agg cs) = .ag (cs.toList.map .v) := rfl
theorem zjv (k : IntKind) (n : Int) : zcz (.int k n) = .v (.int k n) := rfl
theorem zd0 : zcz .nilFunc = .v .nilFunc := rfl
def MO (o : Ob) : Option (List (Value × AV)) := match o with | .mp es => some es | _ => none
theorem zto (es : List (Value × AV)) : z8b s (.mp es) = some es := rfl
theorem ztp (id : Nat) : z8b s (.mr id) = MO (obj s.m id) := by simp only [z8b, MO]; cases obj s.m id <;> rfl
theorem MO_mp (es : List (Value × AV)) : MO (.mp es) = some es := rfl
theorem zcx (t : Nat) : wopC C P s d (.makeMap t none) ty L = L (z3i s d (.mr s.m.length) (.mp [])) := rfl
theorem z9s (t : Nat) (m k x : Operand) : wopC C P s d (.mapUpdate t m k x) ty L = zn0 C s d (C.td t) (ev s m) (z3w (ev s k)) (ev s x) L := rfl
theorem zg8 (t : Nat) (m k x : Operand) : wopC C P s d (.insert t m k x) ty L = zn0 C s d (C.td t) (ev s m) (z3w (ev s k)) (ev s x) L := rfl
def MU2 (C : Ctx) (s : St) (d : Option Nat) (kt id : Nat) (key : Value) (x : AV) (o : Ob) (L : St → Prop) : Prop := match o with
  | .mp es => z1h C kt key = true ∧ (∀ e ∈ es, z1h C kt e.1 = true) ∧ names x = false ∧ L ⟨putD s.t d .junk, z1k s.m id (.mp (mput key x es))⟩
  | _ => False
theorem zts (kt e id : Nat) (key : Value) (x : AV) : zn0 C s d (some (.map kt e)) (.mr id) (some key) x L = MU2 C s d kt id key x (obj s.m id) L := by
  simp only [zn0, MU2]; cases obj s.m id <;> rfl
theorem MU2_mp (kt id : Nat) (key : Value) (x : AV) (es : List (Value × AV)) : MU2 C s d kt id key x (.mp es) L = (z1h C kt key = true ∧ (∀ e ∈ es, z1h C kt e.1 = true) ∧ names x = false ∧ L ⟨putD s.t d .junk, z1k s.m id (.mp (mput key x es))⟩) := rfl
def FZM (o : Ob) : AV := match o with | .mp es => .mp es | _ => .junk
theorem fz_mr (id : Nat) : fz s (.mr id) = FZM (obj s.m id) := by simp only [fz, FZM]; cases obj s.m id <;> rfl
theorem fz1_mr (id : Nat) : fz1 s (.mr id) = FZM (obj s.m id) := by simp only [fz1, FZM]; cases obj s.m id <;> rfl
theorem FZM_mp (es : List (Value × AV)) : FZM (.mp es) = .mp es := rfl
theorem oneC_mr (id : Nat) : oneC (.mr id) = true := rfl
theorem zf0 (p : Option Nat) : (Value.map p).oneCell' = true := rfl
theorem zat : Value.nilFunc.oneCell' = true := rfl
theorem zio (f : Fn) (a b : Array Value) : (Value.func f a b).oneCell' = true := rfl
theorem z8h (t len : Nat) (ps : Array (Nat × Operand)) : qopC C P s d (.buildSlice t len ps) L = litQ C (C.td t) len (ps.toList.map fun p => (p.1, ev s p.2)) (kput s d L) := rfl
def LQ2 (len : Nat) (ps : List (Nat × AV)) (K : AV → Prop) (i : Option TI) : Prop := match i with
  | some i => ps.length = len ∧ 0 < i.size ∧ len * i.size ≤ 16777216 ∧ z2g i.size 0 ps (fun cs => K (.sl len cs))
  | none => False
theorem zic (e len : Nat) (ps : List (Nat × AV)) : litQ C (some (.slice e)) len ps K = LQ2 len ps K (C.ti e) := by
  simp only [litQ, LQ2]; cases C.ti e <;> rfl
theorem zs4 (i : TI) (len : Nat) (ps : List (Nat × AV)) : LQ2 len ps K (some i) = (ps.length = len ∧ 0 < i.size ∧ len * i.size ≤ 16777216 ∧ z2g i.size 0 ps (fun cs => K (.sl len cs))) := rfl
section
variable (ops os : List Oper) (ph : Ph) (op : Op) (A : Prop)
theorem zsc : QK C P ops Q os ph d op ty A s .quiet = A := rfl
theorem zsb (t : Nat) : QK C P ops Q os (.p1 none) d op ty A s (.alloc t) = QR C P ops Q os (.p1 (some t)) ⟨putD s.t d (.ptr s.m.length 0), s.m⟩ := rfl
theorem zzt : QK C P ops Q os ph d op ty A s .loud = zbw C ph (fun s => wopC C P s d op ty (QR C P ops Q os .p2)) s := rfl
end
def PF (i : Option TI) (L : St → Prop) (s : St) : Prop := match i with
  | some i => i.zero.cells.all (·.oneCell') = true ∧ L ⟨s.t, s.m ++ [.row true 1 (i.zero.cells.toList.map .v)]⟩
  | none => False
theorem zua : zbw C .p2 L s = L s := rfl
theorem ziw : zbw C (.p1 none) L s = L s := rfl
theorem zix (t : Nat) : zbw C (.p1 (some t)) L s = PF (C.ti t) L s := by simp only [zbw, PF]; cases C.ti t <;> rfl
theorem zzn (i : TI) : PF (some i) L s = (i.zero.cells.all (·.oneCell') = true ∧ L ⟨s.t, s.m ++ [.row true 1 (i.zero.cells.toList.map .v)]⟩) := rfl
theorem zi3 (t : Nat) : z16 (.alloc t) = .alloc t := rfl
theorem zi9 (t : Nat) (x y : Operand) : z16 (.store t x y) = .loud := rfl
theorem zml (x : Operand) : z16 (.move x) = .quiet := rfl
theorem zek (x : Operand) : z16 (.assign x) = .quiet := rfl
theorem zmm (x y z : Operand) : z16 (.pick x y z) = .quiet := rfl
theorem zi4 (o : BinOp) (t : Nat) (x y : Operand) (u : Nat) : z16 (.binOp o t x y u) = .quiet := rfl
theorem zmn (o : UnOp) (t : Nat) (x : Operand) : z16 (.unOp o t x) = .quiet := rfl
theorem zc7 (x : Operand) (i : Nat) : z16 (.extract x i) = .quiet := rfl
theorem zi7 (t : Nat) (x i : Operand) : z16 (.index t x i) = .quiet := rfl
theorem z9g (t : Nat) (x i : Operand) : z16 (.indexAddr t x i) = .quiet := rfl
theorem zmk (t : Nat) (x : Operand) : z16 (.load t x) = .quiet := rfl
theorem zi6 (t : Nat) (x : Operand) (f : Nat) : z16 (.field t x f) = .quiet := rfl
theorem z9f (t : Nat) (x : Operand) (f : Nat) : z16 (.fieldAddr t x f) = .quiet := rfl
theorem zal (x : Operand) : z16 (.nilCheck x) = .quiet := rfl
theorem zak (f : Fn) (a b : Array Operand) : z16 (.makeFunc f a b) = .quiet := rfl
theorem zc6 (t u : Nat) (x : Operand) : z16 (.convert t u x) = .quiet := rfl
theorem zi8 (t : Nat) (x : Operand) (lo hi mx : Option Operand) : z16 (.slice t x lo hi mx) = .quiet := rfl
theorem zmj (c : Call) : z16 (.call c) = .quiet := rfl
theorem zi5 (t : Nat) (ps : Array (Nat × Operand)) : z16 (.build t ps) = .quiet := rfl
theorem z8a (t n : Nat) (ps : Array (Nat × Operand)) : z16 (.buildSlice t n ps) = .quiet := rfl
theorem zel (t : Nat) (x i : Operand) (ok : Bool) : z16 (.lookup t x i ok) = .quiet := rfl
end
end Go.AE
