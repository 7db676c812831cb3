/- A part of the abstract evaluator: no condition. -/
import Derived.Test.YteidmpcdcfoncaaDoorAECode
set_option linter.unusedVariables false
set_option linter.unusedSimpArgs false
/- The rules by which simp makes what is to be shown. What stands behind is sealed, so that nobody unfolds it. -/
namespace Go.AE

/-- Code, sealed. -/
structure AW (C : Ctx) (P : Program) (c : Code) (Q : Exit → St → Prop) (s : St) : Prop where
  out : awp C P c Q s
/-- A region's rest, sealed. -/
structure WR (C : Ctx) (P : Program) (ops : List Oper) (Q : Exit → St → Prop) (os : List Oper) (s : St) : Prop where
  out : wops C P ops (Q .normal) os s
structure QR (C : Ctx) (P : Program) (ops : List Oper) (Q : Exit → St → Prop) (os : List Oper) (ph : Ph) (s : St) : Prop where
  out : qops C P ops (Q .normal) os ph s
/-- A call, sealed. -/
structure WC (P : Program) (s : St) (d : Option Nat) (f : FuncId) (args : List AV) (K : St → Prop) : Prop where
  out : wcall P s d f args K
structure QC (P : Program) (s : St) (d : Option Nat) (f : FuncId) (args : List AV) (K : St → Prop) : Prop where
  out : qcall P s d f args K
/-- A loop, sealed. -/
structure LP (C : Ctx) (P : Program) (b : Code) (Q : Exit → St → Prop) (s : St) : Prop where
  out : loopP (awp C P b) Q s
/-- From a label on, sealed. -/
structure AF (C : Ctx) (P : Program) (l : Nat) (b : Code) (Q : Exit → St → Prop) (s : St) : Prop where
  out : awpFrom C P l b Q s
/-- Two ways, sealed. -/
structure WG (b : Bool) (A B : Prop) : Prop where
  out : wg b A B

section
variable {C : Ctx} {P : Program} {Q : Exit → St → Prop} {s : St}

theorem AW_eq (c : Code) : AW C P c Q = awp C P c Q := by funext s; exact propext ⟨fun h => h.out, fun h => ⟨h⟩⟩
theorem WR_eq (ops os : List Oper) : WR C P ops Q os = wops C P ops (Q .normal) os := by funext s; exact propext ⟨fun h => h.out, fun h => ⟨h⟩⟩
theorem QR_eq (ops os : List Oper) (ph : Ph) : QR C P ops Q os ph = qops C P ops (Q .normal) os ph := by funext s; exact propext ⟨fun h => h.out, fun h => ⟨h⟩⟩
theorem WC_eq (d : Option Nat) (f : FuncId) (args : List AV) (K : St → Prop) : WC P s d f args K = wcall P s d f args K := propext ⟨fun h => h.out, fun h => ⟨h⟩⟩
theorem QC_eq (d : Option Nat) (f : FuncId) (args : List AV) (K : St → Prop) : QC P s d f args K = qcall P s d f args K := propext ⟨fun h => h.out, fun h => ⟨h⟩⟩
theorem LP_eq (b : Code) : LP C P b Q s = loopP (awp C P b) Q s := propext ⟨fun h => h.out, fun h => ⟨h⟩⟩
theorem AF_eq (l : Nat) (b : Code) : AF C P l b Q = awpFrom C P l b Q := by funext s; exact propext ⟨fun h => h.out, fun h => ⟨h⟩⟩
theorem WG_eq (b : Bool) (A B : Prop) : WG b A B = wg b A B := propext ⟨fun h => h.out, fun h => ⟨h⟩⟩

/-- What stands behind. -/
def thenC (C : Ctx) (P : Program) (b : Code) (Q : Exit → St → Prop) : Exit → St → Prop := thenK (AW C P b Q) Q

theorem thenC_normal (b : Code) : thenC C P b Q .normal s = AW C P b Q s := rfl
theorem thenC_exit (b : Code) (i : Nat) : thenC C P b Q (.exit i) s = Q (.exit i) s := rfl
theorem thenC_goto (b : Code) (i : Nat) : thenC C P b Q (.goto i) s = Q (.goto i) s := rfl
theorem thenC_ret (b : Code) : thenC C P b Q .ret s = Q .ret s := rfl
theorem blockQ_normal (i : Nat) : blockQ i Q .normal s = Q .normal s := rfl
theorem blockQ_ret (i : Nat) : blockQ i Q .ret s = Q .ret s := rfl
theorem blockQ_goto (i j : Nat) : blockQ i Q (.goto j) s = Q (.goto j) s := rfl
theorem blockQ_exit (i j : Nat) : blockQ i Q (.exit j) s = if j = i then Q .normal s else Q (.exit j) s := rfl

/-- A scope with a label: what is behind a jump. -/
def scopeC (C : Ctx) (P : Program) (l : Nat) (b : Code) (Q : Exit → St → Prop) : Exit → St → Prop := jumpQ l (AF C P l b (jumpQ l (fun _ => False) Q)) Q
def overC (l : Nat) (Q : Exit → St → Prop) : Exit → St → Prop := jumpQ l (fun _ => False) Q
theorem scopeC_normal (l : Nat) (b : Code) : scopeC C P l b Q .normal s = Q .normal s := rfl
theorem scopeC_ret (l : Nat) (b : Code) : scopeC C P l b Q .ret s = Q .ret s := rfl
theorem scopeC_exit (l i : Nat) (b : Code) : scopeC C P l b Q (.exit i) s = Q (.exit i) s := rfl
theorem scopeC_goto (l l' : Nat) (b : Code) : scopeC C P l b Q (.goto l') s = (l' = l ∧ AF C P l b (overC l Q) s) := rfl
theorem overC_normal (l : Nat) : overC l Q .normal s = Q .normal s := rfl
theorem overC_ret (l : Nat) : overC l Q .ret s = Q .ret s := rfl
theorem overC_exit (l i : Nat) : overC l Q (.exit i) s = Q (.exit i) s := rfl
theorem straightQ_normal : straightQ Q .normal s = Q .normal s := rfl
theorem straightQ_ret : straightQ Q .ret s = Q .ret s := rfl
theorem straightQ_exit (i : Nat) : straightQ Q (.exit i) s = Q (.exit i) s := rfl

/-- A test: by its value; the rest as data. -/
structure CD (C : Ctx) (P : Program) (x : AV) (a b : Code) (Q : Exit → St → Prop) (s : St) : Prop where
  out : match x with | .v (.bool t) => wg t (AW C P a Q s) (AW C P b Q s) | _ => False
theorem CD_eq (x : AV) (a b : Code) : CD C P x a b Q s = match x with | .v (.bool t) => wg t (AW C P a Q s) (AW C P b Q s) | _ => False := propext ⟨fun h => h.out, fun h => ⟨h⟩⟩
theorem CD_bool (t : Bool) (a b : Code) : CD C P (.v (.bool t)) a b Q s = WG t (AW C P a Q s) (AW C P b Q s) := by rw [CD_eq, WG_eq]

theorem AW_skip : AW C P .skip Q s = Q .normal s := by simp only [AW_eq, awp]
theorem AW_label (l : Nat) : AW C P (.label l) Q s = Q .normal s := by simp only [AW_eq, awp]
theorem AW_seq (a b : Code) : AW C P (.seq a b) Q s = AW C P a (thenC C P b Q) s := by simp only [AW_eq, awp, thenC]
theorem AW_cond (c : Operand) (a b : Code) : AW C P (.cond c a b) Q s = CD C P (ev s c) a b Q s := by
  simp only [AW_eq, awp, CD_eq]
  split <;> simp_all
theorem AW_block (id : Nat) (b : Code) : AW C P (.block id b) Q s = AW C P b (blockQ id Q) s := by simp only [AW_eq, awp]
theorem AW_loop (b : Code) : AW C P (.loop b) Q s = LP C P b Q s := by simp only [AW_eq, awp, LP_eq]
theorem AW_scope (b : Code) : AW C P (.scope b) Q s = match labelOf b with | none => AW C P b (straightQ Q) s | some l => AW C P b (scopeC C P l b Q) s := by
  simp only [AW_eq, awp, scopeC, AF_eq]
  rfl
theorem AW_region (id : Nat) (l : List Oper) : AW C P (.region id l.toArray false) Q s = WR C P l Q l s := by simp only [AW_eq, awp, WR_eq]
structure DR (C : Ctx) (P : Program) (ops : List Oper) (Q : Exit → St → Prop) (s : St) : Prop where
  out : qops C P ops (Q .normal) ops (.p1 none) s ∨ ∃ pl, planOk ops.toArray ops.toArray.size (Array.replicate ops.toArray.size false) pl = true ∧ pops C P ops (Q .normal) pl s
theorem AW_draw (id : Nat) (l : List Oper) : AW C P (.region id l.toArray true) Q s = DR C P l Q s := by
  rw [AW_eq]
  exact propext ⟨fun h => ⟨by simpa only [awp] using h⟩, fun h => by simpa only [awp] using h.out⟩
theorem AW_exit (i : Nat) : AW C P (.exit i) Q s = Q (.exit i) s := by simp only [AW_eq, awp]
theorem AW_goto (i : Nat) : AW C P (.goto i) Q s = Q (.goto i) s := by simp only [AW_eq, awp]
theorem AW_ret : AW C P .ret Q s = Q .ret s := by simp only [AW_eq, awp]
theorem AF_seq (l : Nat) (a b : Code) : AF C P l (.seq a b) Q s = match (findLabel a l).isSome with | true => AF C P l a (thenC C P b Q) s | false => AF C P l b Q s := by
  simp only [AF_eq, awpFrom, thenC, AW_eq]
  rfl
theorem AF_label (l l' : Nat) : AF C P l (.label l') Q s = (l' = l ∧ Q .normal s) := by simp only [AF_eq, awpFrom]

/-- An operation, the rest sealed. -/
def wopC (C : Ctx) (P : Program) (s : St) (dst : Option Nat) (op : Op) (ty : Nat) (K : St → Prop) : Prop :=
  match op with
  | .call { callee := .value f, args, .. } => (match ev s f with
    | .fn k first cap => WC P s dst k (first ++ args.toList.map (ev s) ++ cap) K
    | _ => False)
  | op => effOp C s { dst := dst, op := op, type := ty, pos := "", after := #[], guard := none } K

theorem effOp_pos (C : Ctx) (s : St) (d : Option Nat) (op : Op) (ty : Nat) (pos : String) (af : Array Edge) (g : Option (Nat × Bool)) (K : St → Prop) :
    effOp C s { dst := d, op := op, type := ty, pos := pos, after := af, guard := g } K = effOp C s { dst := d, op := op, type := ty, pos := "", after := #[], guard := none } K := rfl

theorem wop_eq (d : Option Nat) (op : Op) (ty : Nat) (pos : String) (af : Array Edge) (g : Option (Nat × Bool)) (K : St → Prop) :
    wop C P s { dst := d, op := op, type := ty, pos := pos, after := af, guard := g } K = wopC C P s d op ty K := by
  unfold wop wopC
  simp only [WC_eq]
  split
  · simp only
    split <;> simp_all
  · rw [effOp_pos]
    split
    · rename_i h; exact absurd rfl (h _ _ _)
    · rfl

def qopC (C : Ctx) (P : Program) (s : St) (dst : Option Nat) (op : Op) (K : St → Prop) : Prop :=
  match op with
  | .call { callee := .value f, args, .. } => (match ev s f with
    | .fn k first cap => QC P s dst k (first ++ args.toList.map (ev s) ++ cap) K
    | _ => False)
  | op => quietOp C s op (kput s dst K)

theorem qop_eq (d : Option Nat) (op : Op) (ty : Nat) (pos : String) (af : Array Edge) (g : Option (Nat × Bool)) (K : St → Prop) :
    qop C P s { dst := d, op := op, type := ty, pos := pos, after := af, guard := g } K = qopC C P s d op K := by
  unfold qop qopC
  simp only [QC_eq]
  split
  · simp only
    split <;> simp_all
  · split
    · rename_i h; exact absurd rfl (h _ _ _)
    · rfl

/-- A guarded operation: by the guard's value; the rest as data. -/
structure GD (C : Ctx) (P : Program) (ops : List Oper) (Q : Exit → St → Prop) (os : List Oper) (x : AV) (k : Nat) (want : Bool) (d : Option Nat) (op : Op) (ty : Nat) (s : St) : Prop where
  out : match x with
    | .v (.bool b) => match want with
      | true => wg b (wopC C P ⟨put s.t k (.v (.bool true)), s.m⟩ d op ty (WR C P ops Q os)) (WR C P ops Q os ⟨putD (put s.t k (.v (.bool false))) d .un, s.m⟩)
      | false => wg b (WR C P ops Q os ⟨putD (put s.t k (.v (.bool true))) d .un, s.m⟩) (wopC C P ⟨put s.t k (.v (.bool false)), s.m⟩ d op ty (WR C P ops Q os))
    | .un => WR C P ops Q os ⟨putD s.t d .un, s.m⟩
    | _ => False
structure GQ (C : Ctx) (P : Program) (ops : List Oper) (Q : Exit → St → Prop) (os : List Oper) (ph : Ph) (x : AV) (k : Nat) (want : Bool) (d : Option Nat) (op : Op) (s : St) : Prop where
  out : match x with
    | .v (.bool b) => match want with
      | true => wg b (qopC C P ⟨put s.t k (.v (.bool true)), s.m⟩ d op (QR C P ops Q os ph)) (QR C P ops Q os ph ⟨putD (put s.t k (.v (.bool false))) d .un, s.m⟩)
      | false => wg b (QR C P ops Q os ph ⟨putD (put s.t k (.v (.bool true))) d .un, s.m⟩) (qopC C P ⟨put s.t k (.v (.bool false)), s.m⟩ d op (QR C P ops Q os ph))
    | .un => QR C P ops Q os ph ⟨putD s.t d .un, s.m⟩
    | _ => False

section
variable {ops os : List Oper} {ph : Ph} {k : Nat} {d : Option Nat} {op : Op} {ty : Nat} {b : Bool}
theorem GD_eq (x : AV) (want : Bool) : GD C P ops Q os x k want d op ty s = match x with
    | .v (.bool b) => match want with
      | true => wg b (wopC C P ⟨put s.t k (.v (.bool true)), s.m⟩ d op ty (WR C P ops Q os)) (WR C P ops Q os ⟨putD (put s.t k (.v (.bool false))) d .un, s.m⟩)
      | false => wg b (WR C P ops Q os ⟨putD (put s.t k (.v (.bool true))) d .un, s.m⟩) (wopC C P ⟨put s.t k (.v (.bool false)), s.m⟩ d op ty (WR C P ops Q os))
    | .un => WR C P ops Q os ⟨putD s.t d .un, s.m⟩
    | _ => False := propext ⟨fun h => h.out, fun h => ⟨h⟩⟩
theorem GQ_eq (x : AV) (want : Bool) : GQ C P ops Q os ph x k want d op s = match x with
    | .v (.bool b) => match want with
      | true => wg b (qopC C P ⟨put s.t k (.v (.bool true)), s.m⟩ d op (QR C P ops Q os ph)) (QR C P ops Q os ph ⟨putD (put s.t k (.v (.bool false))) d .un, s.m⟩)
      | false => wg b (QR C P ops Q os ph ⟨putD (put s.t k (.v (.bool true))) d .un, s.m⟩) (qopC C P ⟨put s.t k (.v (.bool false)), s.m⟩ d op (QR C P ops Q os ph))
    | .un => QR C P ops Q os ph ⟨putD s.t d .un, s.m⟩
    | _ => False := propext ⟨fun h => h.out, fun h => ⟨h⟩⟩
theorem GD_true : GD C P ops Q os (.v (.bool b)) k true d op ty s = WG b (wopC C P ⟨put s.t k (.v (.bool true)), s.m⟩ d op ty (WR C P ops Q os)) (WR C P ops Q os ⟨putD (put s.t k (.v (.bool false))) d .un, s.m⟩) := by rw [GD_eq, WG_eq]
theorem GD_false : GD C P ops Q os (.v (.bool b)) k false d op ty s = WG b (WR C P ops Q os ⟨putD (put s.t k (.v (.bool true))) d .un, s.m⟩) (wopC C P ⟨put s.t k (.v (.bool false)), s.m⟩ d op ty (WR C P ops Q os)) := by rw [GD_eq, WG_eq]
theorem GD_un (want : Bool) : GD C P ops Q os .un k want d op ty s = WR C P ops Q os ⟨putD s.t d .un, s.m⟩ := by rw [GD_eq]
theorem GQ_true : GQ C P ops Q os ph (.v (.bool b)) k true d op s = WG b (qopC C P ⟨put s.t k (.v (.bool true)), s.m⟩ d op (QR C P ops Q os ph)) (QR C P ops Q os ph ⟨putD (put s.t k (.v (.bool false))) d .un, s.m⟩) := by rw [GQ_eq, WG_eq]
theorem GQ_false : GQ C P ops Q os ph (.v (.bool b)) k false d op s = WG b (QR C P ops Q os ph ⟨putD (put s.t k (.v (.bool true))) d .un, s.m⟩) (qopC C P ⟨put s.t k (.v (.bool false)), s.m⟩ d op (QR C P ops Q os ph)) := by rw [GQ_eq, WG_eq]
theorem GQ_un (want : Bool) : GQ C P ops Q os ph .un k want d op s = QR C P ops Q os ph ⟨putD s.t d .un, s.m⟩ := by rw [GQ_eq]
end

theorem kput_eq (d : Option Nat) (K : St → Prop) (x : AV) : kput s d K x = K ⟨putD s.t d x, s.m⟩ := rfl
theorem kv_eq (K : AV → Prop) (r : Value) : kv K r = K (.v r) := rfl
theorem kapp_eq (K : List AV → Prop) (pre cs : List AV) : kapp K pre cs = K (pre ++ cs) := rfl
theorem klit_eq (d : Option Nat) (len e sz : Nat) (K : St → Prop) (cs : List AV) : klit s d len e sz K cs = K (pushS s d (.ref s.m.length 0 len) (.arr e sz cs)) := rfl

theorem WR_nil (ops : List Oper) : WR C P ops Q [] s = Q .normal s := by simp only [WR_eq, wops]
theorem WR_plain (ops : List Oper) (d : Option Nat) (op : Op) (ty : Nat) (pos : String) (af : Array Edge) (os : List Oper) :
    WR C P ops Q ({ dst := d, op := op, type := ty, pos := pos, after := af, guard := none } :: os) s = wopC C P s d op ty (WR C P ops Q os) := by
  simp only [WR_eq, wops, wop_eq]
theorem WR_true (ops : List Oper) (d : Option Nat) (op : Op) (ty : Nat) (pos : String) (af : Array Edge) (j : Nat) (os : List Oper) :
    WR C P ops Q ({ dst := d, op := op, type := ty, pos := pos, after := af, guard := some (j, true) } :: os) s =
      match dstOf ops j with
      | none => False
      | some k => GD C P ops Q os (get s.t k) k true d op ty s := by
  simp only [WR_eq, wops, wop_eq, GD_eq]
  split <;> simp_all
  split <;> simp_all

theorem WR_false (ops : List Oper) (d : Option Nat) (op : Op) (ty : Nat) (pos : String) (af : Array Edge) (j : Nat) (os : List Oper) :
    WR C P ops Q ({ dst := d, op := op, type := ty, pos := pos, after := af, guard := some (j, false) } :: os) s =
      match dstOf ops j with
      | none => False
      | some k => GD C P ops Q os (get s.t k) k false d op ty s := by
  simp only [WR_eq, wops, wop_eq, GD_eq]
  split <;> simp_all
  split <;> simp_all

theorem QR_nil (ops : List Oper) (ph : Ph) : QR C P ops Q [] ph s = pushP C ph (Q .normal) s := by simp only [QR_eq, qops]

/-- By what an operation is. -/
def QK (C : Ctx) (P : Program) (ops : List Oper) (Q : Exit → St → Prop) (os : List Oper) (ph : Ph) (d : Option Nat) (op : Op) (ty : Nat) (A : Prop) (s : St) : Kind → Prop
  | .loud => pushP C ph (fun s => wopC C P s d op ty (QR C P ops Q os .p2)) s
  | .alloc t => (match ph with
      | .p1 none => QR C P ops Q os (.p1 (some t)) ⟨putD s.t d (.ptr s.m.length 0), s.m⟩
      | _ => False)
  | .quiet => A
theorem QR_any (ops : List Oper) (ph : Ph) (d : Option Nat) (op : Op) (ty : Nat) (pos : String) (af : Array Edge) (g : Option (Nat × Bool)) (os : List Oper) (A : Prop)
    (hA : kindOf op = .quiet → QR C P ops Q ({ dst := d, op := op, type := ty, pos := pos, after := af, guard := g } :: os) ph s = A) :
    QR C P ops Q ({ dst := d, op := op, type := ty, pos := pos, after := af, guard := g } :: os) ph s = QK C P ops Q os ph d op ty A s (kindOf op) := by
  cases hk : kindOf op with
  | quiet => exact hA hk
  | alloc t =>
    rw [QR_eq, qops_cons' _ _ _ _ _ _ _ _ hk]
    cases ph with
    | p1 fl => cases fl <;> simp only [QK, QR_eq]
    | p2 => rfl
  | loud =>
    have : ∃ t p x, op = .store t p x := by unfold kindOf at hk; cases op <;> simp at hk; exact ⟨_, _, _, rfl⟩
    obtain ⟨t, p, x, rfl⟩ := this
    simp only [QR_eq, QK]
    rfl
where
  qops_cons' (d : Option Nat) (op : Op) (ty : Nat) (pos : String) (af : Array Edge) (g : Option (Nat × Bool)) (os : List Oper) (t : Nat) (hk : kindOf op = .alloc t) {ph : Ph} {s : St} {Q : St → Prop} {ops : List Oper} :
    qops C P ops Q ({ dst := d, op := op, type := ty, pos := pos, after := af, guard := g } :: os) ph s = (match ph with
      | .p1 none => qops C P ops Q os (.p1 (some t)) ⟨putD s.t d (.ptr s.m.length 0), s.m⟩
      | _ => False) := by
    simp only [qops, hk]
    cases ph with
    | p1 fl => cases fl <;> rfl
    | p2 => rfl

theorem QR_plain (ops : List Oper) (ph : Ph) (d : Option Nat) (op : Op) (ty : Nat) (pos : String) (af : Array Edge) (os : List Oper) :
    QR C P ops Q ({ dst := d, op := op, type := ty, pos := pos, after := af, guard := none } :: os) ph s = QK C P ops Q os ph d op ty (qopC C P s d op (QR C P ops Q os ph)) s (kindOf op) :=
  QR_any _ _ _ _ _ _ _ _ _ _ fun hk => by simp only [QR_eq, qops, hk, qop_eq]
theorem QR_true (ops : List Oper) (ph : Ph) (d : Option Nat) (op : Op) (ty : Nat) (pos : String) (af : Array Edge) (j : Nat) (os : List Oper) :
    QR C P ops Q ({ dst := d, op := op, type := ty, pos := pos, after := af, guard := some (j, true) } :: os) ph s = QK C P ops Q os ph d op ty
      (match dstOf ops j with
      | none => False
      | some k => GQ C P ops Q os ph (get s.t k) k true d op s) s (kindOf op) :=
  QR_any _ _ _ _ _ _ _ _ _ _ fun hk => by
    simp only [QR_eq, qops, hk, qop_eq, GQ_eq]
    split <;> simp_all
    split <;> simp_all
theorem QR_false (ops : List Oper) (ph : Ph) (d : Option Nat) (op : Op) (ty : Nat) (pos : String) (af : Array Edge) (j : Nat) (os : List Oper) :
    QR C P ops Q ({ dst := d, op := op, type := ty, pos := pos, after := af, guard := some (j, false) } :: os) ph s = QK C P ops Q os ph d op ty
      (match dstOf ops j with
      | none => False
      | some k => GQ C P ops Q os ph (get s.t k) k false d op s) s (kindOf op) :=
  QR_any _ _ _ _ _ _ _ _ _ _ fun hk => by
    simp only [QR_eq, qops, hk, qop_eq, GQ_eq]
    split <;> simp_all
    split <;> simp_all

theorem WG_true (A B : Prop) : WG true A B = A := by simp [WG_eq, wg]
theorem WG_false (A B : Prop) : WG false A B = B := by simp [WG_eq, wg]
end
end Go.AE
