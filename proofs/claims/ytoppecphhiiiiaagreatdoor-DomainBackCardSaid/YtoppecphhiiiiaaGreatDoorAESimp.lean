/- A part of the abstract evaluator: no condition. -/
import Derived.Test.YtoppecphhiiiiaaGreatDoorAECode
set_option linter.unusedVariables false
set_option linter.unusedSimpArgs false
namespace Go.AE
structure AW (C : Ctx) (P : Program) (c : Code) (Q : Exit → St → Prop) (s : St) : Prop where
 out : awp C P c Q s
structure WR (C : Ctx) (P : Program) (ops : List Oper) (Q : Exit → St → Prop) (os : List Oper) (s : St) : Prop where
 out : wops C P ops (Q .normal) os s
structure QR (C : Ctx) (P : Program) (ops : List Oper) (Q : Exit → St → Prop) (os : List Oper) (ph : Ph) (s : St) : Prop where
 out : qops C P ops (Q .normal) os ph s
structure WC (P : Program) (s : St) (d : Option Nat) (f : FuncId) (args : List AV) (K : St → Prop) : Prop where
 out : wcall P s d f args K
structure QC (P : Program) (s : St) (d : Option Nat) (f : FuncId) (args : List AV) (K : St → Prop) : Prop where
 out : qcall P s d f args K
structure LP (C : Ctx) (P : Program) (b : Code) (Q : Exit → St → Prop) (s : St) : Prop where
 out : y07q (awp C P b) Q s
structure AF (C : Ctx) (P : Program) (l : Nat) (b : Code) (Q : Exit → St → Prop) (s : St) : Prop where
 out : z1v C P l b Q s
structure WG (b : Bool) (A B : Prop) : Prop where
 out : wg b A B
section
variable {C : Ctx} {P : Program} {Q : Exit → St → Prop} {s : St}
theorem zcv (c : Code) : AW C P c Q = awp C P c Q := by funext s; exact propext ⟨fun h => h.out, fun h => ⟨h⟩⟩
theorem y04s (ops os : List Oper) : WR C P ops Q os = wops C P ops (Q .normal) os := by funext s; exact propext ⟨fun h => h.out, fun h => ⟨h⟩⟩
theorem zof (ops os : List Oper) (ph : Ph) : QR C P ops Q os ph = qops C P ops (Q .normal) os ph := by funext s; exact propext ⟨fun h => h.out, fun h => ⟨h⟩⟩
theorem y0kd (d : Option Nat) (f : FuncId) (args : List AV) (K : St → Prop) : WC P s d f args K = wcall P s d f args K := propext ⟨fun h => h.out, fun h => ⟨h⟩⟩
theorem y0k5 (d : Option Nat) (f : FuncId) (args : List AV) (K : St → Prop) : QC P s d f args K = qcall P s d f args K := propext ⟨fun h => h.out, fun h => ⟨h⟩⟩
theorem y0jy (b : Code) : LP C P b Q s = y07q (awp C P b) Q s := propext ⟨fun h => h.out, fun h => ⟨h⟩⟩
theorem y0fv (l : Nat) (b : Code) : AF C P l b Q = z1v C P l b Q := by funext s; exact propext ⟨fun h => h.out, fun h => ⟨h⟩⟩
theorem zie (b : Bool) (A B : Prop) : WG b A B = wg b A B := propext ⟨fun h => h.out, fun h => ⟨h⟩⟩
def zra (C : Ctx) (P : Program) (b : Code) (Q : Exit → St → Prop) : Exit → St → Prop := zu1 (AW C P b Q) Q
theorem zed (b : Code) : zra C P b Q .normal s = AW C P b Q s := rfl
theorem zm8 (b : Code) (i : Nat) : zra C P b Q (.exit i) s = Q (.exit i) s := rfl
theorem zm9 (b : Code) (i : Nat) : zra C P b Q (.goto i) s = Q (.goto i) s := rfl
theorem zrb (b : Code) : zra C P b Q .ret s = Q .ret s := rfl
theorem zbd (i : Nat) : zdl i Q .normal s = Q .normal s := rfl
theorem zjh (i : Nat) : zdl i Q .ret s = Q .ret s := rfl
theorem zfn (i j : Nat) : zdl i Q (.goto j) s = Q (.goto j) s := rfl
theorem zfm (i j : Nat) : zdl i Q (.exit j) s = if j = i then Q .normal s else Q (.exit j) s := rfl
def zlr (C : Ctx) (P : Program) (l : Nat) (b : Code) (Q : Exit → St → Prop) : Exit → St → Prop := y00a l (AF C P l b (y00a l (fun _ => False) Q)) Q
def y0bs (l : Nat) (Q : Exit → St → Prop) : Exit → St → Prop := y00a l (fun _ => False) Q
theorem zci (l : Nat) (b : Code) : zlr C P l b Q .normal s = Q .normal s := rfl
theorem zls (l : Nat) (b : Code) : zlr C P l b Q .ret s = Q .ret s := rfl
theorem zhv (l i : Nat) (b : Code) : zlr C P l b Q (.exit i) s = Q (.exit i) s := rfl
theorem zhw (l l' : Nat) (b : Code) : zlr C P l b Q (.goto l') s = (l' = l ∧ AF C P l b (y0bs l Q) s) := rfl
theorem ze0 (l : Nat) : y0bs l Q .normal s = Q .normal s := rfl
theorem zqb (l : Nat) : y0bs l Q .ret s = Q .ret s := rfl
theorem zl4 (l i : Nat) : y0bs l Q (.exit i) s = Q (.exit i) s := rfl
theorem z7x : z8z Q .normal s = Q .normal s := rfl
theorem zcn : z8z Q .ret s = Q .ret s := rfl
theorem zaf (i : Nat) : z8z Q (.exit i) s = Q (.exit i) s := rfl
structure CD (C : Ctx) (P : Program) (x : AV) (a b : Code) (Q : Exit → St → Prop) (s : St) : Prop where
 out : match x with | .v (.bool t) => wg t (AW C P a Q s) (AW C P b Q s) | _ => False
theorem y0jh (x : AV) (a b : Code) : CD C P x a b Q s = match x with | .v (.bool t) => wg t (AW C P a Q s) (AW C P b Q s) | _ => False := propext ⟨fun h => h.out, fun h => ⟨h⟩⟩
theorem zrp (t : Bool) (a b : Code) : CD C P (.v (.bool t)) a b Q s = WG t (AW C P a Q s) (AW C P b Q s) := by rw [y0jh, zie]
theorem y01z : AW C P .skip Q s = Q .normal s := by simp only [zcv, awp]
theorem zub (l : Nat) : AW C P (.label l) Q s = Q .normal s := by simp only [zcv, awp]
theorem y0co (a b : Code) : AW C P (.seq a b) Q s = AW C P a (zra C P b Q) s := by simp only [zcv, awp, zra]
theorem y01u (c : Operand) (a b : Code) : AW C P (.cond c a b) Q s = CD C P (ev s c) a b Q s := by
 simp only [zcv, awp, y0jh]
 split <;> simp_all
theorem zua (id : Nat) (b : Code) : AW C P (.block id b) Q s = AW C P b (zdl id Q) s := by simp only [zcv, awp]
theorem y01y (b : Code) : AW C P (.loop b) Q s = LP C P b Q s := by simp only [zcv, awp, y0jy]
theorem zuc (b : Code) : AW C P (.scope b) Q s = match z03 b with | none => AW C P b (z8z Q) s | some l => AW C P b (zlr C P l b Q) s := by
 simp only [zcv, awp, zlr, y0fv]
 rfl
theorem zo5 (id : Nat) (l : List Oper) : AW C P (.region id l.toArray false) Q s = WR C P l Q l s := by simp only [zcv, awp, y04s]
structure DR (C : Ctx) (P : Program) (ops : List Oper) (Q : Exit → St → Prop) (s : St) : Prop where
 out : qops C P ops (Q .normal) ops (.p1 none) s ∨ ∃ pl, z57 ops.toArray ops.toArray.size (Array.replicate ops.toArray.size false) pl = true ∧ pops C P ops (Q .normal) pl s
theorem y01v (id : Nat) (l : List Oper) : AW C P (.region id l.toArray true) Q s = DR C P l Q s := by
 rw [zcv]
 exact propext ⟨fun h => ⟨by simpa only [awp] using h⟩, fun h => by simpa only [awp] using h.out⟩
theorem y01w (i : Nat) : AW C P (.exit i) Q s = Q (.exit i) s := by simp only [zcv, awp]
theorem y01x (i : Nat) : AW C P (.goto i) Q s = Q (.goto i) s := by simp only [zcv, awp]
theorem y0cn : AW C P .ret Q s = Q .ret s := by simp only [zcv, awp]
theorem y0cm (l : Nat) (a b : Code) : AF C P l (.seq a b) Q s = match (findLabel a l).isSome with | true => AF C P l a (zra C P b Q) s | false => AF C P l b Q s := by
 simp only [y0fv, z1v, zra, zcv]
 rfl
theorem zu7 (l l' : Nat) : AF C P l (.label l') Q s = (l' = l ∧ Q .normal s) := by simp only [y0fv, z1v]
def z4f (C : Ctx) (P : Program) (s : St) (dst : Option Nat) (op : Op) (ty : Nat) (K : St → Prop) : Prop :=
 match op with
 | .call { callee := .value f, args, .. } => (match ev s f with
   | .fn k first cap => WC P s dst k (first ++ args.toList.map (ev s) ++ cap) K
   | _ => False)
 | op => z5q C s { dst := dst, op := op, type := ty, pos := "", after := #[], guard := none } K
theorem y05x (C : Ctx) (s : St) (d : Option Nat) (op : Op) (ty : Nat) (pos : String) (af : Array Edge) (g : Option (Nat × Bool)) (K : St → Prop) :
   z5q C s { dst := d, op := op, type := ty, pos := pos, after := af, guard := g } K = z5q C s { dst := d, op := op, type := ty, pos := "", after := #[], guard := none } K := rfl
theorem zz9 (d : Option Nat) (op : Op) (ty : Nat) (pos : String) (af : Array Edge) (g : Option (Nat × Bool)) (K : St → Prop) :
   wop C P s { dst := d, op := op, type := ty, pos := pos, after := af, guard := g } K = z4f C P s d op ty K := by
 unfold wop z4f
 simp only [y0kd]
 split
 · simp only
   split <;> simp_all
 · rw [y05x]
   split
   · rename_i h; exact absurd rfl (h _ _ _)
   · rfl
def z9y (C : Ctx) (P : Program) (s : St) (dst : Option Nat) (op : Op) (K : St → Prop) : Prop :=
 match op with
 | .call { callee := .value f, args, .. } => (match ev s f with
   | .fn k first cap => QC P s dst k (first ++ args.toList.map (ev s) ++ cap) K
   | _ => False)
 | op => z3p C s op (kput s dst K)
theorem y08s (d : Option Nat) (op : Op) (ty : Nat) (pos : String) (af : Array Edge) (g : Option (Nat × Bool)) (K : St → Prop) :
   qop C P s { dst := d, op := op, type := ty, pos := pos, after := af, guard := g } K = z9y C P s d op K := by
 unfold qop z9y
 simp only [y0k5]
 split
 · simp only
   split <;> simp_all
 · split
   · rename_i h; exact absurd rfl (h _ _ _)
   · rfl
structure GD (C : Ctx) (P : Program) (ops : List Oper) (Q : Exit → St → Prop) (os : List Oper) (x : AV) (k : Nat) (want : Bool) (d : Option Nat) (op : Op) (ty : Nat) (s : St) : Prop where
 out : match x with
   | .v (.bool b) => match want with
     | true => wg b (z4f C P ⟨put s.t k (.v (.bool true)), s.m⟩ d op ty (WR C P ops Q os)) (WR C P ops Q os ⟨putD (put s.t k (.v (.bool false))) d .un, s.m⟩)
     | false => wg b (WR C P ops Q os ⟨putD (put s.t k (.v (.bool true))) d .un, s.m⟩) (z4f C P ⟨put s.t k (.v (.bool false)), s.m⟩ d op ty (WR C P ops Q os))
   | .un => WR C P ops Q os ⟨putD s.t d .un, s.m⟩
   | _ => False
structure GQ (C : Ctx) (P : Program) (ops : List Oper) (Q : Exit → St → Prop) (os : List Oper) (ph : Ph) (x : AV) (k : Nat) (want : Bool) (d : Option Nat) (op : Op) (s : St) : Prop where
 out : match x with
   | .v (.bool b) => match want with
     | true => wg b (z9y C P ⟨put s.t k (.v (.bool true)), s.m⟩ d op (QR C P ops Q os ph)) (QR C P ops Q os ph ⟨putD (put s.t k (.v (.bool false))) d .un, s.m⟩)
     | false => wg b (QR C P ops Q os ph ⟨putD (put s.t k (.v (.bool true))) d .un, s.m⟩) (z9y C P ⟨put s.t k (.v (.bool false)), s.m⟩ d op (QR C P ops Q os ph))
   | .un => QR C P ops Q os ph ⟨putD s.t d .un, s.m⟩
   | _ => False
section
variable {ops os : List Oper} {ph : Ph} {k : Nat} {d : Option Nat} {op : Op} {ty : Nat} {b : Bool}
theorem y03y (x : AV) (want : Bool) : GD C P ops Q os x k want d op ty s = match x with
   | .v (.bool b) => match want with
     | true => wg b (z4f C P ⟨put s.t k (.v (.bool true)), s.m⟩ d op ty (WR C P ops Q os)) (WR C P ops Q os ⟨putD (put s.t k (.v (.bool false))) d .un, s.m⟩)
     | false => wg b (WR C P ops Q os ⟨putD (put s.t k (.v (.bool true))) d .un, s.m⟩) (z4f C P ⟨put s.t k (.v (.bool false)), s.m⟩ d op ty (WR C P ops Q os))
   | .un => WR C P ops Q os ⟨putD s.t d .un, s.m⟩
   | _ => False := propext ⟨fun h => h.out, fun h => ⟨h⟩⟩
theorem y042 (x : AV) (want : Bool) : GQ C P ops Q os ph x k want d op s = match x with
   | .v (.bool b) => match want with
     | true => wg b (z9y C P ⟨put s.t k (.v (.bool true)), s.m⟩ d op (QR C P ops Q os ph)) (QR C P ops Q os ph ⟨putD (put s.t k (.v (.bool false))) d .un, s.m⟩)
     | false => wg b (QR C P ops Q os ph ⟨putD (put s.t k (.v (.bool true))) d .un, s.m⟩) (z9y C P ⟨put s.t k (.v (.bool false)), s.m⟩ d op (QR C P ops Q os ph))
   | .un => QR C P ops Q os ph ⟨putD s.t d .un, s.m⟩
   | _ => False := propext ⟨fun h => h.out, fun h => ⟨h⟩⟩
theorem y03z : GD C P ops Q os (.v (.bool b)) k true d op ty s = WG b (z4f C P ⟨put s.t k (.v (.bool true)), s.m⟩ d op ty (WR C P ops Q os)) (WR C P ops Q os ⟨putD (put s.t k (.v (.bool false))) d .un, s.m⟩) := by rw [y03y, zie]
theorem zvy : GD C P ops Q os (.v (.bool b)) k false d op ty s = WG b (WR C P ops Q os ⟨putD (put s.t k (.v (.bool true))) d .un, s.m⟩) (z4f C P ⟨put s.t k (.v (.bool false)), s.m⟩ d op ty (WR C P ops Q os)) := by rw [y03y, zie]
theorem y0jp (want : Bool) : GD C P ops Q os .un k want d op ty s = WR C P ops Q os ⟨putD s.t d .un, s.m⟩ := by rw [y03y]
theorem y043 : GQ C P ops Q os ph (.v (.bool b)) k true d op s = WG b (z9y C P ⟨put s.t k (.v (.bool true)), s.m⟩ d op (QR C P ops Q os ph)) (QR C P ops Q os ph ⟨putD (put s.t k (.v (.bool false))) d .un, s.m⟩) := by rw [y042, zie]
theorem zvz : GQ C P ops Q os ph (.v (.bool b)) k false d op s = WG b (QR C P ops Q os ph ⟨putD (put s.t k (.v (.bool true))) d .un, s.m⟩) (z9y C P ⟨put s.t k (.v (.bool false)), s.m⟩ d op (QR C P ops Q os ph)) := by rw [y042, zie]
theorem y0ju (want : Bool) : GQ C P ops Q os ph .un k want d op s = QR C P ops Q os ph ⟨putD s.t d .un, s.m⟩ := by rw [y042]
end
theorem y07b (d : Option Nat) (K : St → Prop) (x : AV) : kput s d K x = K ⟨putD s.t d x, s.m⟩ := rfl
theorem y0mn (K : AV → Prop) (r : Value) : kv K r = K (.v r) := rfl
theorem y079 (K : List AV → Prop) (pre cs : List AV) : kapp K pre cs = K (pre ++ cs) := rfl
theorem y07a (d : Option Nat) (len e sz : Nat) (K : St → Prop) (cs : List AV) : klit s d len e sz K cs = K (z33 s d (.ref s.m.length 0 len) (.arr e sz cs)) := rfl
theorem y0ek (ops : List Oper) : WR C P ops Q [] s = Q .normal s := by simp only [y04s, wops]
theorem zwg (ops : List Oper) (d : Option Nat) (op : Op) (ty : Nat) (pos : String) (af : Array Edge) (os : List Oper) :
   WR C P ops Q ({ dst := d, op := op, type := ty, pos := pos, after := af, guard := none } :: os) s = z4f C P s d op ty (WR C P ops Q os) := by
 simp only [y04s, wops, zz9]
theorem y0g5 (ops : List Oper) (d : Option Nat) (op : Op) (ty : Nat) (pos : String) (af : Array Edge) (j : Nat) (os : List Oper) :
   WR C P ops Q ({ dst := d, op := op, type := ty, pos := pos, after := af, guard := some (j, true) } :: os) s =
     match z6k ops j with
     | none => False
     | some k => GD C P ops Q os (get s.t k) k true d op ty s := by
 simp only [y04s, wops, zz9, y03y]
 split <;> simp_all
 split <;> simp_all
theorem y0a9 (ops : List Oper) (d : Option Nat) (op : Op) (ty : Nat) (pos : String) (af : Array Edge) (j : Nat) (os : List Oper) :
   WR C P ops Q ({ dst := d, op := op, type := ty, pos := pos, after := af, guard := some (j, false) } :: os) s =
     match z6k ops j with
     | none => False
     | some k => GD C P ops Q os (get s.t k) k false d op ty s := by
 simp only [y04s, wops, zz9, y03y]
 split <;> simp_all
 split <;> simp_all
theorem y0e9 (ops : List Oper) (ph : Ph) : QR C P ops Q [] ph s = zdf C ph (Q .normal) s := by simp only [zof, qops]
def QK (C : Ctx) (P : Program) (ops : List Oper) (Q : Exit → St → Prop) (os : List Oper) (ph : Ph) (d : Option Nat) (op : Op) (ty : Nat) (A : Prop) (s : St) : Kind → Prop
 | .loud => zdf C ph (fun s => z4f C P s d op ty (QR C P ops Q os .p2)) s
 | .alloc t => (match ph with
     | .p1 none => QR C P ops Q os (.p1 (some t)) ⟨putD s.t d (.ptr s.m.length 0), s.m⟩
     | _ => False)
 | .quiet => A
theorem y04j (ops : List Oper) (ph : Ph) (d : Option Nat) (op : Op) (ty : Nat) (pos : String) (af : Array Edge) (g : Option (Nat × Bool)) (os : List Oper) (A : Prop)
   (hA : z19 op = .quiet → QR C P ops Q ({ dst := d, op := op, type := ty, pos := pos, after := af, guard := g } :: os) ph s = A) :
   QR C P ops Q ({ dst := d, op := op, type := ty, pos := pos, after := af, guard := g } :: os) ph s = QK C P ops Q os ph d op ty A s (z19 op) := by
 cases hk : z19 op with
 | quiet => exact hA hk
 | alloc t =>
   rw [zof, qops_cons' _ _ _ _ _ _ _ _ hk]
   cases ph with
   | p1 fl => cases fl <;> simp only [QK, zof]
   | p2 => rfl
 | loud =>
   have : ∃ t p x, op = .store t p x := by unfold z19 at hk; cases op <;> simp at hk; exact ⟨_, _, _, rfl⟩
   obtain ⟨t, p, x, rfl⟩ := this
   simp only [zof, QK]
   rfl
where
 qops_cons' (d : Option Nat) (op : Op) (ty : Nat) (pos : String) (af : Array Edge) (g : Option (Nat × Bool)) (os : List Oper) (t : Nat) (hk : z19 op = .alloc t) {ph : Ph} {s : St} {Q : St → Prop} {ops : List Oper} :
   qops C P ops Q ({ dst := d, op := op, type := ty, pos := pos, after := af, guard := g } :: os) ph s = (match ph with
     | .p1 none => qops C P ops Q os (.p1 (some t)) ⟨putD s.t d (.ptr s.m.length 0), s.m⟩
     | _ => False) := by
   simp only [qops, hk]
   cases ph with
   | p1 fl => cases fl <;> rfl
   | p2 => rfl
theorem zwa (ops : List Oper) (ph : Ph) (d : Option Nat) (op : Op) (ty : Nat) (pos : String) (af : Array Edge) (os : List Oper) :
   QR C P ops Q ({ dst := d, op := op, type := ty, pos := pos, after := af, guard := none } :: os) ph s = QK C P ops Q os ph d op ty (z9y C P s d op (QR C P ops Q os ph)) s (z19 op) :=
 y04j _ _ _ _ _ _ _ _ _ _ fun hk => by simp only [zof, qops, hk, y08s]
theorem y0g3 (ops : List Oper) (ph : Ph) (d : Option Nat) (op : Op) (ty : Nat) (pos : String) (af : Array Edge) (j : Nat) (os : List Oper) :
   QR C P ops Q ({ dst := d, op := op, type := ty, pos := pos, after := af, guard := some (j, true) } :: os) ph s = QK C P ops Q os ph d op ty
     (match z6k ops j with
     | none => False
     | some k => GQ C P ops Q os ph (get s.t k) k true d op s) s (z19 op) :=
 y04j _ _ _ _ _ _ _ _ _ _ fun hk => by
   simp only [zof, qops, hk, y08s, y042]
   split <;> simp_all
   split <;> simp_all
theorem y0a8 (ops : List Oper) (ph : Ph) (d : Option Nat) (op : Op) (ty : Nat) (pos : String) (af : Array Edge) (j : Nat) (os : List Oper) :
   QR C P ops Q ({ dst := d, op := op, type := ty, pos := pos, after := af, guard := some (j, false) } :: os) ph s = QK C P ops Q os ph d op ty
     (match z6k ops j with
     | none => False
     | some k => GQ C P ops Q os ph (get s.t k) k false d op s) s (z19 op) :=
 y04j _ _ _ _ _ _ _ _ _ _ fun hk => by
   simp only [zof, qops, hk, y08s, y042]
   split <;> simp_all
   split <;> simp_all
theorem z05 (A B : Prop) : WG true A B = A := by simp [zie, wg]
theorem z01 (A B : Prop) : WG false A B = B := by simp [zie, wg]
end
end Go.AE
