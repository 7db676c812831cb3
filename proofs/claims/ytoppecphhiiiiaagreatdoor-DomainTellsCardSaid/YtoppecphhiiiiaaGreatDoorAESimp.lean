/- A part of the abstract evaluator: no condition. -/
import Derived.Test.YtoppecphhiiiiaaGreatDoorAECode
set_option linter.unusedVariables false
set_option linter.unusedSimpArgs false
namespace Go.AE
structure AW (C : bI) (P : Program) (c : Code) (Q : Exit → St → Prop) (s : St) : Prop where
 out : awp C P c Q s
structure WR (C : bI) (P : Program) (ops : List Oper) (Q : Exit → St → Prop) (os : List Oper) (s : St) : Prop where
 out : wops C P ops (Q .normal) os s
structure QR (C : bI) (P : Program) (ops : List Oper) (Q : Exit → St → Prop) (os : List Oper) (ph : Ph) (s : St) : Prop where
 out : qops C P ops (Q .normal) os ph s
structure WC (P : Program) (s : St) (d : Option Nat) (f : FuncId) (args : List AV) (K : St → Prop) : Prop where
 out : wcall P s d f args K
structure QC (P : Program) (s : St) (d : Option Nat) (f : FuncId) (args : List AV) (K : St → Prop) : Prop where
 out : qcall P s d f args K
structure LP (C : bI) (P : Program) (b : Code) (Q : Exit → St → Prop) (s : St) : Prop where
 out : vO (awp C P b) Q s
structure AF (C : bI) (P : Program) (l : Nat) (b : Code) (Q : Exit → St → Prop) (s : St) : Prop where
 out : gE C P l b Q s
structure WG (b : Bool) (A B : Prop) : Prop where
 out : wg b A B
section
variable {C : bI} {P : Program} {Q : Exit → St → Prop} {s : St}
theorem kJ (c : Code) : AW C P c Q = awp C P c Q := by funext s; exact propext ⟨fun h => h.out, fun h => ⟨h⟩⟩
theorem uH (ops os : List Oper) : WR C P ops Q os = wops C P ops (Q .normal) os := by funext s; exact propext ⟨fun h => h.out, fun h => ⟨h⟩⟩
theorem oY (ops os : List Oper) (ph : Ph) : QR C P ops Q os ph = qops C P ops (Q .normal) os ph := by funext s; exact propext ⟨fun h => h.out, fun h => ⟨h⟩⟩
theorem NB (d : Option Nat) (f : FuncId) (args : List AV) (K : St → Prop) : WC P s d f args K = wcall P s d f args K := propext ⟨fun h => h.out, fun h => ⟨h⟩⟩
theorem LE (d : Option Nat) (f : FuncId) (args : List AV) (K : St → Prop) : QC P s d f args K = qcall P s d f args K := propext ⟨fun h => h.out, fun h => ⟨h⟩⟩
theorem B2 (b : Code) : LP C P b Q s = vO (awp C P b) Q s := propext ⟨fun h => h.out, fun h => ⟨h⟩⟩
theorem AU (l : Nat) (b : Code) : AF C P l b Q = gE C P l b Q := by funext s; exact propext ⟨fun h => h.out, fun h => ⟨h⟩⟩
theorem nC (b : Bool) (A B : Prop) : WG b A B = wg b A B := propext ⟨fun h => h.out, fun h => ⟨h⟩⟩
def qF (C : bI) (P : Program) (b : Code) (Q : Exit → St → Prop) : Exit → St → Prop := qG (AW C P b Q) Q
theorem z2u (b : Code) : qF C P b Q .normal s = AW C P b Q s := rfl
theorem z2s (b : Code) (i : Nat) : qF C P b Q (.exit i) s = Q (.exit i) s := rfl
theorem z2t (b : Code) (i : Nat) : qF C P b Q (.goto i) s = Q (.goto i) s := rfl
theorem z2v (b : Code) : qF C P b Q .ret s = Q .ret s := rfl
theorem O9 (i : Nat) : p7 i Q .normal s = Q .normal s := rfl
theorem OA (i : Nat) : p7 i Q .ret s = Q .ret s := rfl
theorem O8 (i j : Nat) : p7 i Q (.goto j) s = Q (.goto j) s := rfl
theorem O7 (i j : Nat) : p7 i Q (.exit j) s = if j = i then Q .normal s else Q (.exit j) s := rfl
def tT (C : bI) (P : Program) (l : Nat) (b : Code) (Q : Exit → St → Prop) : Exit → St → Prop := tE l (AF C P l b (tE l (fun _ => False) Q)) Q
def zM (l : Nat) (Q : Exit → St → Prop) : Exit → St → Prop := tE l (fun _ => False) Q
theorem z0z (l : Nat) (b : Code) : tT C P l b Q .normal s = Q .normal s := rfl
theorem z10 (l : Nat) (b : Code) : tT C P l b Q .ret s = Q .ret s := rfl
theorem z0x (l i : Nat) (b : Code) : tT C P l b Q (.exit i) s = Q (.exit i) s := rfl
theorem z0y (l l' : Nat) (b : Code) : tT C P l b Q (.goto l') s = (l' = l ∧ AF C P l b (zM l Q) s) := rfl
theorem XH (l : Nat) : zM l Q .normal s = Q .normal s := rfl
theorem XI (l : Nat) : zM l Q .ret s = Q .ret s := rfl
theorem XG (l i : Nat) : zM l Q (.exit i) s = Q (.exit i) s := rfl
theorem z1y : wU Q .normal s = Q .normal s := rfl
theorem z1z : wU Q .ret s = Q .ret s := rfl
theorem z1x (i : Nat) : wU Q (.exit i) s = Q (.exit i) s := rfl
structure CD (C : bI) (P : Program) (x : AV) (a b : Code) (Q : Exit → St → Prop) (s : St) : Prop where
 out : match x with | .v (.bool t) => wg t (AW C P a Q s) (AW C P b Q s) | _ => False
theorem IL (x : AV) (a b : Code) : CD C P x a b Q s = match x with | .v (.bool t) => wg t (AW C P a Q s) (AW C P b Q s) | _ => False := propext ⟨fun h => h.out, fun h => ⟨h⟩⟩
theorem B1 (t : Bool) (a b : Code) : CD C P (.v (.bool t)) a b Q s = WG t (AW C P a Q s) (AW C P b Q s) := by rw [IL, nC]
theorem GZ : AW C P .skip Q s = Q .normal s := by simp only [kJ, awp]
theorem GT (l : Nat) : AW C P (.label l) Q s = Q .normal s := by simp only [kJ, awp]
theorem GY (a b : Code) : AW C P (.seq a b) Q s = AW C P a (qF C P b Q) s := by simp only [kJ, awp, qF]
theorem GM (c : Operand) (a b : Code) : AW C P (.cond c a b) Q s = CD C P (ev s c) a b Q s := by
 simp only [kJ, awp, IL]
 split <;> simp_all
theorem GL (id : Nat) (b : Code) : AW C P (.block id b) Q s = AW C P b (p7 id Q) s := by simp only [kJ, awp]
theorem GU (b : Code) : AW C P (.loop b) Q s = LP C P b Q s := by simp only [kJ, awp, B2]
theorem GX (b : Code) : AW C P (.scope b) Q s = match aO b with | none => AW C P b (wU Q) s | some l => AW C P b (tT C P l b Q) s := by
 simp only [kJ, awp, tT, AU]
 rfl
theorem GV (id : Nat) (l : List Oper) : AW C P (.region id l.toArray false) Q s = WR C P l Q l s := by simp only [kJ, awp, uH]
structure DR (C : bI) (P : Program) (ops : List Oper) (Q : Exit → St → Prop) (s : St) : Prop where
 out : qops C P ops (Q .normal) ops (.p1 none) s ∨ ∃ pl, j4 ops.toArray ops.toArray.size (Array.replicate ops.toArray.size false) pl = true ∧ pops C P ops (Q .normal) pl s
theorem GN (id : Nat) (l : List Oper) : AW C P (.region id l.toArray true) Q s = DR C P l Q s := by
 rw [kJ]
 exact propext ⟨fun h => ⟨by simpa only [awp] using h⟩, fun h => by simpa only [awp] using h.out⟩
theorem GR (i : Nat) : AW C P (.exit i) Q s = Q (.exit i) s := by simp only [kJ, awp]
theorem GS (i : Nat) : AW C P (.goto i) Q s = Q (.goto i) s := by simp only [kJ, awp]
theorem GW : AW C P .ret Q s = Q .ret s := by simp only [kJ, awp]
theorem GB (l : Nat) (a b : Code) : AF C P l (.seq a b) Q s = match (findLabel a l).isSome with | true => AF C P l a (qF C P b Q) s | false => AF C P l b Q s := by
 simp only [AU, gE, qF, kJ]
 rfl
theorem GA (l l' : Nat) : AF C P l (.label l') Q s = (l' = l ∧ Q .normal s) := by simp only [AU, gE]
def cG (C : bI) (P : Program) (s : St) (dst : Option Nat) (op : Op) (ty : Nat) (K : St → Prop) : Prop :=
 match op with
 | .call { callee := .value f, args, .. } => (match ev s f with
  | .fn k first cap => WC P s dst k (first ++ args.toList.map (ev s) ++ cap) K
  | _ => False)
 | op => gH C s { dst := dst, op := op, type := ty, pos := "", after := #[], guard := none } K
theorem zbu (C : bI) (s : St) (d : Option Nat) (op : Op) (ty : Nat) (pos : String) (af : Array Edge) (g : Option (Nat × Bool)) (K : St → Prop) :
  gH C s { dst := d, op := op, type := ty, pos := pos, after := af, guard := g } K = gH C s { dst := d, op := op, type := ty, pos := "", after := #[], guard := none } K := rfl
theorem AM (d : Option Nat) (op : Op) (ty : Nat) (pos : String) (af : Array Edge) (g : Option (Nat × Bool)) (K : St → Prop) :
  wop C P s { dst := d, op := op, type := ty, pos := pos, after := af, guard := g } K = cG C P s d op ty K := by
 unfold wop cG
 simp only [NB]
 split
 ·simp only
  split <;> simp_all
 ·rw [zbu]
  split
  ·rename_i h; exact absurd rfl (h _ _ _)
  ·rfl
def dZ (C : bI) (P : Program) (s : St) (dst : Option Nat) (op : Op) (K : St → Prop) : Prop :=
 match op with
 | .call { callee := .value f, args, .. } => (match ev s f with
  | .fn k first cap => QC P s dst k (first ++ args.toList.map (ev s) ++ cap) K
  | _ => False)
 | op => jT C s op (kput s dst K)
theorem DW (d : Option Nat) (op : Op) (ty : Nat) (pos : String) (af : Array Edge) (g : Option (Nat × Bool)) (K : St → Prop) :
  qop C P s { dst := d, op := op, type := ty, pos := pos, after := af, guard := g } K = dZ C P s d op K := by
 unfold qop dZ
 simp only [LE]
 split
 ·simp only
  split <;> simp_all
 ·split
  ·rename_i h; exact absurd rfl (h _ _ _)
  ·rfl
structure GD (C : bI) (P : Program) (ops : List Oper) (Q : Exit → St → Prop) (os : List Oper) (x : AV) (k : Nat) (want : Bool) (d : Option Nat) (op : Op) (ty : Nat) (s : St) : Prop where
 out : match x with
  | .v (.bool b) => match want with
   | true => wg b (cG C P ⟨put s.t k (.v (.bool true)), s.m⟩ d op ty (WR C P ops Q os)) (WR C P ops Q os ⟨putD (put s.t k (.v (.bool false))) d .un, s.m⟩)
   | false => wg b (WR C P ops Q os ⟨putD (put s.t k (.v (.bool true))) d .un, s.m⟩) (cG C P ⟨put s.t k (.v (.bool false)), s.m⟩ d op ty (WR C P ops Q os))
  | .un => WR C P ops Q os ⟨putD s.t d .un, s.m⟩
  | _ => False
structure GQ (C : bI) (P : Program) (ops : List Oper) (Q : Exit → St → Prop) (os : List Oper) (ph : Ph) (x : AV) (k : Nat) (want : Bool) (d : Option Nat) (op : Op) (s : St) : Prop where
 out : match x with
  | .v (.bool b) => match want with
   | true => wg b (dZ C P ⟨put s.t k (.v (.bool true)), s.m⟩ d op (QR C P ops Q os ph)) (QR C P ops Q os ph ⟨putD (put s.t k (.v (.bool false))) d .un, s.m⟩)
   | false => wg b (QR C P ops Q os ph ⟨putD (put s.t k (.v (.bool true))) d .un, s.m⟩) (dZ C P ⟨put s.t k (.v (.bool false)), s.m⟩ d op (QR C P ops Q os ph))
  | .un => QR C P ops Q os ph ⟨putD s.t d .un, s.m⟩
  | _ => False
section
variable {ops os : List Oper} {ph : Ph} {k : Nat} {d : Option Nat} {op : Op} {ty : Nat} {b : Bool}
theorem uE (x : AV) (want : Bool) : GD C P ops Q os x k want d op ty s = match x with
  | .v (.bool b) => match want with
   | true => wg b (cG C P ⟨put s.t k (.v (.bool true)), s.m⟩ d op ty (WR C P ops Q os)) (WR C P ops Q os ⟨putD (put s.t k (.v (.bool false))) d .un, s.m⟩)
   | false => wg b (WR C P ops Q os ⟨putD (put s.t k (.v (.bool true))) d .un, s.m⟩) (cG C P ⟨put s.t k (.v (.bool false)), s.m⟩ d op ty (WR C P ops Q os))
  | .un => WR C P ops Q os ⟨putD s.t d .un, s.m⟩
  | _ => False := propext ⟨fun h => h.out, fun h => ⟨h⟩⟩
theorem uF (x : AV) (want : Bool) : GQ C P ops Q os ph x k want d op s = match x with
  | .v (.bool b) => match want with
   | true => wg b (dZ C P ⟨put s.t k (.v (.bool true)), s.m⟩ d op (QR C P ops Q os ph)) (QR C P ops Q os ph ⟨putD (put s.t k (.v (.bool false))) d .un, s.m⟩)
   | false => wg b (QR C P ops Q os ph ⟨putD (put s.t k (.v (.bool true))) d .un, s.m⟩) (dZ C P ⟨put s.t k (.v (.bool false)), s.m⟩ d op (QR C P ops Q os ph))
  | .un => QR C P ops Q os ph ⟨putD s.t d .un, s.m⟩
  | _ => False := propext ⟨fun h => h.out, fun h => ⟨h⟩⟩
theorem JK : GD C P ops Q os (.v (.bool b)) k true d op ty s = WG b (cG C P ⟨put s.t k (.v (.bool true)), s.m⟩ d op ty (WR C P ops Q os)) (WR C P ops Q os ⟨putD (put s.t k (.v (.bool false))) d .un, s.m⟩) := by rw [uE, nC]
theorem JF : GD C P ops Q os (.v (.bool b)) k false d op ty s = WG b (WR C P ops Q os ⟨putD (put s.t k (.v (.bool true))) d .un, s.m⟩) (cG C P ⟨put s.t k (.v (.bool false)), s.m⟩ d op ty (WR C P ops Q os)) := by rw [uE, nC]
theorem JM (want : Bool) : GD C P ops Q os .un k want d op ty s = WR C P ops Q os ⟨putD s.t d .un, s.m⟩ := by rw [uE]
theorem JU : GQ C P ops Q os ph (.v (.bool b)) k true d op s = WG b (dZ C P ⟨put s.t k (.v (.bool true)), s.m⟩ d op (QR C P ops Q os ph)) (QR C P ops Q os ph ⟨putD (put s.t k (.v (.bool false))) d .un, s.m⟩) := by rw [uF, nC]
theorem JP : GQ C P ops Q os ph (.v (.bool b)) k false d op s = WG b (QR C P ops Q os ph ⟨putD (put s.t k (.v (.bool true))) d .un, s.m⟩) (dZ C P ⟨put s.t k (.v (.bool false)), s.m⟩ d op (QR C P ops Q os ph)) := by rw [uF, nC]
theorem JW (want : Bool) : GQ C P ops Q os ph .un k want d op s = QR C P ops Q os ph ⟨putD s.t d .un, s.m⟩ := by rw [uF]
end
theorem UI (d : Option Nat) (K : St → Prop) (x : AV) : kput s d K x = K ⟨putD s.t d x, s.m⟩ := rfl
theorem UL (K : AV → Prop) (r : Value) : kv K r = K (.v r) := rfl
theorem TL (K : List AV → Prop) (pre cs : List AV) : kapp K pre cs = K (pre ++ cs) := rfl
theorem UG (d : Option Nat) (len e sz : Nat) (K : St → Prop) (cs : List AV) : klit s d len e sz K cs = K (dS s d (.ref s.m.length 0 len) (.arr e sz cs)) := rfl
theorem NG (ops : List Oper) : WR C P ops Q [] s = Q .normal s := by simp only [uH, wops]
theorem NH (ops : List Oper) (d : Option Nat) (op : Op) (ty : Nat) (pos : String) (af : Array Edge) (os : List Oper) :
  WR C P ops Q ({ dst := d, op := op, type := ty, pos := pos, after := af, guard := none } :: os) s = cG C P s d op ty (WR C P ops Q os) := by
 simp only [uH, wops, AM]
theorem z90 (ops : List Oper) (d : Option Nat) (op : Op) (ty : Nat) (pos : String) (af : Array Edge) (j : Nat) (os : List Oper) :
  WR C P ops Q ({ dst := d, op := op, type := ty, pos := pos, after := af, guard := some (j, true) } :: os) s =
   match gU ops j with
   | none => False
   | some k => GD C P ops Q os (get s.t k) k true d op ty s := by
 simp only [uH, wops, AM, uE]
 split <;> simp_all
 split <;> simp_all
theorem z8z (ops : List Oper) (d : Option Nat) (op : Op) (ty : Nat) (pos : String) (af : Array Edge) (j : Nat) (os : List Oper) :
  WR C P ops Q ({ dst := d, op := op, type := ty, pos := pos, after := af, guard := some (j, false) } :: os) s =
   match gU ops j with
   | none => False
   | some k => GD C P ops Q os (get s.t k) k false d op ty s := by
 simp only [uH, wops, AM, uE]
 split <;> simp_all
 split <;> simp_all
theorem LM (ops : List Oper) (ph : Ph) : QR C P ops Q [] ph s = kU C ph (Q .normal) s := by simp only [oY, qops]
def QK (C : bI) (P : Program) (ops : List Oper) (Q : Exit → St → Prop) (os : List Oper) (ph : Ph) (d : Option Nat) (op : Op) (ty : Nat) (A : Prop) (s : St) : K8 → Prop
 | .loud => kU C ph (fun s => cG C P s d op ty (QR C P ops Q os .p2)) s
 | .alloc t => (match ph with
   | .p1 none => QR C P ops Q os (.p1 (some t)) ⟨putD s.t d (.ptr s.m.length 0), s.m⟩
   | _ => False)
 | .quiet => A
theorem B8 (ops : List Oper) (ph : Ph) (d : Option Nat) (op : Op) (ty : Nat) (pos : String) (af : Array Edge) (g : Option (Nat × Bool)) (os : List Oper) (A : Prop)
  (hA : dC op = .quiet → QR C P ops Q ({ dst := d, op := op, type := ty, pos := pos, after := af, guard := g } :: os) ph s = A) :
  QR C P ops Q ({ dst := d, op := op, type := ty, pos := pos, after := af, guard := g } :: os) ph s = QK C P ops Q os ph d op ty A s (dC op) := by
 cases hk : dC op with
 | quiet => exact hA hk
 | alloc t =>
  rw [oY, qops_cons' _ _ _ _ _ _ _ _ hk]
  cases ph with
  | p1 fl => cases fl <;> simp only [QK, oY]
  | p2 => rfl
 | loud =>
  have : ∃ t p x, op = .store t p x := by unfold dC at hk; cases op <;> simp at hk; exact ⟨_, _, _, rfl⟩
  obtain ⟨t, p, x, rfl⟩ := this
  simp only [oY, QK]
  rfl
where
 qops_cons' (d : Option Nat) (op : Op) (ty : Nat) (pos : String) (af : Array Edge) (g : Option (Nat × Bool)) (os : List Oper) (t : Nat) (hk : dC op = .alloc t) {ph : Ph} {s : St} {Q : St → Prop} {ops : List Oper} :
  qops C P ops Q ({ dst := d, op := op, type := ty, pos := pos, after := af, guard := g } :: os) ph s = (match ph with
   | .p1 none => qops C P ops Q os (.p1 (some t)) ⟨putD s.t d (.ptr s.m.length 0), s.m⟩
   | _ => False) := by
  simp only [qops, hk]
  cases ph with
  | p1 fl => cases fl <;> rfl
  | p2 => rfl
theorem LS (ops : List Oper) (ph : Ph) (d : Option Nat) (op : Op) (ty : Nat) (pos : String) (af : Array Edge) (os : List Oper) :
  QR C P ops Q ({ dst := d, op := op, type := ty, pos := pos, after := af, guard := none } :: os) ph s = QK C P ops Q os ph d op ty (dZ C P s d op (QR C P ops Q os ph)) s (dC op) :=
 B8 _ _ _ _ _ _ _ _ _ _ fun hk => by simp only [oY, qops, hk, DW]
theorem z8w (ops : List Oper) (ph : Ph) (d : Option Nat) (op : Op) (ty : Nat) (pos : String) (af : Array Edge) (j : Nat) (os : List Oper) :
  QR C P ops Q ({ dst := d, op := op, type := ty, pos := pos, after := af, guard := some (j, true) } :: os) ph s = QK C P ops Q os ph d op ty
   (match gU ops j with
   | none => False
   | some k => GQ C P ops Q os ph (get s.t k) k true d op s) s (dC op) :=
 B8 _ _ _ _ _ _ _ _ _ _ fun hk => by
  simp only [oY, qops, hk, DW, uF]
  split <;> simp_all
  split <;> simp_all
theorem z8v (ops : List Oper) (ph : Ph) (d : Option Nat) (op : Op) (ty : Nat) (pos : String) (af : Array Edge) (j : Nat) (os : List Oper) :
  QR C P ops Q ({ dst := d, op := op, type := ty, pos := pos, after := af, guard := some (j, false) } :: os) ph s = QK C P ops Q os ph d op ty
   (match gU ops j with
   | none => False
   | some k => GQ C P ops Q os ph (get s.t k) k false d op s) s (dC op) :=
 B8 _ _ _ _ _ _ _ _ _ _ fun hk => by
  simp only [oY, qops, hk, DW, uF]
  split <;> simp_all
  split <;> simp_all
theorem aW (A B : Prop) : WG true A B = A := by simp [nC, wg]
theorem aV (A B : Prop) : WG false A B = B := by simp [nC, wg]
end
end Go.AE
