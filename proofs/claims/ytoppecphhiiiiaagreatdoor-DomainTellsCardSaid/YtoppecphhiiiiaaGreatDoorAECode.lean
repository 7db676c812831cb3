/- A part of the abstract evaluator: no condition. -/
import Derived.Test.YtoppecphhiiiiaaGreatDoorAEEffV
import Derived.ScopeJumps
import Derived.Orders
set_option linter.unusedVariables false
set_option linter.unusedSimpArgs false
namespace Go.AE
mutual
def imp : Nat → AV → AV × List Ob
 | k, .own e sz n cs => (.ref k 0 n, [.arr e sz cs])
 | k, .lend sz n cs => (.ref k 0 n, [.row false sz cs])
 | k, .tup xs => (.tup (imps k xs).1, (imps k xs).2)
 | k, .ag xs => (.ag (imps k xs).1, (imps k xs).2)
 | _, x => (x, [])
def imps : Nat → List AV → List AV × List Ob
 | _, [] => ([], [])
 | k, x :: l => ((imp k x).1 :: (imps (k + (imp k x).2.length) l).1, (imp k x).2 ++ (imps (k + (imp k x).2.length) l).2)
end
mutual
def shift (k : Nat) : AV → AV
 | .ref id off n => .ref (id + k) off n
 | .ptr id off => .ptr (id + k) off
 | .mr id => .mr (id + k)
 | .ag xs => .ag (shifts k xs)
 | .tup xs => .tup (shifts k xs)
 | .fn f a b => .fn f (shifts k a) (shifts k b)
 | x => x
def shifts (k : Nat) : List AV → List AV
 | [] => []
 | x :: l => shift k x :: shifts k l
end
def oS (k : Nat) : Ob → Ob
 | .row true sz cs => .row true sz (shifts k cs)
 | o => o
structure o8 (w : World) (F : Nat → Prop) (H : Gh) (obs : List Ob) : Prop where
 len : H.length = obs.length
 ob : ∀ (id : Nat) (g : Option bU), H[id]? = some g → d6 w F H g (obj obs id)
 lt : ∀ (id : Nat) (L : bU), H[id]? = some (some L) → ¬ F L.b ∧ L.b < w.heap.size
 inj : ∀ (i j : Nat) (L M : bU), H[i]? = some (some L) → H[j]? = some (some M) → L.b = M.b → i = j
def lC (w : World) (F : Nat → Prop) (r : AV) (e : Ending) (w' : World) : Prop :=
 ∃ v F' H, e = .returned v ∧ d7 w w' ∧ (∀ b, F b → F' b) ∧ (∀ b, F' b → (F b ∨ w.heap.size ≤ b) ∧ b < w'.heap.size) ∧
  aH w' F' H (imp 0 r).1 v ∧ o8 w' F' H (imp 0 r).2 ∧ ∀ (id : Nat) (L : bU), H[id]? = some (some L) → w.heap.size ≤ L.b
def aG (P : Program) (f : FuncId) (args : List AV) (r : AV) : Prop :=
 (∃ fn, P.funcs[f]? = some fn ∧ fn.body.isSome = true ∧ (fn.name == "runtime.NumGoroutine") = false) ∧
 ∀ (w : World) (F : Nat → Prop) (vs : List Value), (∀ b, F b → b < w.heap.size) → fK P w F → aF w F [] args vs → Calls P f vs.toArray w (lC w F r)
def dW (s : St) : AV → AV
 | .ref id off n => match obj s.m id with
  | .arr _ sz cs => .sl n ((cs.drop off).take (n * sz))
  | .row false sz cs => .sl n ((cs.drop off).take (n * sz))
  | _ => .junk
 | .v x => .v x
 | .sl n cs => .sl n cs
 | .cp cs => .cp cs
 | .mp es => .mp es
 | .mr id => match obj s.m id with
  | .mp es => .mp es
  | _ => .junk
 | _ => .junk
mutual
def fz (s : St) : AV → AV
 | .ref id off n => dW s (.ref id off n)
 | .ptr id off => match obj s.m id with
  | .arr _ _ cs => .cp (cs.drop off)
  | .row false _ cs => .cp (cs.drop off)
  | .row true _ cs => .cp ((cs.map (dW s)).drop off)
  | _ => .junk
 | .ag cs => .ag (fzs s cs)
 | .tup cs => .tup (fzs s cs)
 | .fn f a b => .fn f (fzs s a) (fzs s b)
 | .mr id => match obj s.m id with
  | .mp es => .mp es
  | _ => .junk
 | .own _ _ _ _ => .junk
 | .lend _ _ _ => .junk
 | .lptr _ => .junk
 | x => x
def fzs (s : St) : List AV → List AV
 | [] => []
 | x :: l => fz s x :: fzs s l
end
mutual
def clean : AV → Prop
 | .v _ => True
 | .own _ _ _ cs => ∀ c ∈ cs, ∃ x, c = .v x
 | .tup xs => cleans xs
 | .ag xs => cleans xs
 | _ => False
def cleans : List AV → Prop
 | [] => True
 | x :: l => clean x ∧ cleans l
end
def vG (s : St) (d : Option Nat) (r : AV) : St :=
 ⟨putD s.t d (shift s.m.length (imp 0 r).1), s.m ++ (imp 0 r).2.map (oS s.m.length)⟩
mutual
def below (n : Nat) : AV → Bool
 | .ref i _ _ => decide (i < n)
 | .ptr i _ => decide (i < n)
 | .mr i => decide (i < n)
 | .ag cs => belows n cs
 | .tup cs => belows n cs
 | .fn _ a b => belows n a && belows n b
 | _ => true
def belows (n : Nat) : List AV → Bool
 | [] => true
 | x :: l => below n x && belows n l
end
def cY : List Nat → Nat → Nat → Nat
 | [], n, id => n + id
 | x :: _, _, 0 => x
 | _ :: σ, n, id + 1 => cY σ n id
mutual
def ren (ρ : Nat → Nat) : AV → AV
 | .ref id off n => .ref (ρ id) off n
 | .ptr id off => .ptr (ρ id) off
 | .mr id => .mr (ρ id)
 | .ag xs => .ag (rens ρ xs)
 | .tup xs => .tup (rens ρ xs)
 | .fn f a b => .fn f (rens ρ a) (rens ρ b)
 | x => x
def rens (ρ : Nat → Nat) : List AV → List AV
 | [] => []
 | x :: l => ren ρ x :: rens ρ l
end
def renO (ρ : Nat → Nat) : Ob → Ob
 | .row true sz cs => .row true sz (rens ρ cs)
 | .fence => .dead
 | o => o
def nN : List Ob → Gh → List Nat
 | .row _ _ _ :: m, _ :: g => nN m g
 | _ :: m, some L :: g => L.b :: nN m g
 | _ :: m, none :: g => nN m g
 | _, _ => []
def lR : List Ob → Gh → List lD
 | .row _ _ cs :: m, some L :: g => ⟨L.b, L.o, L.o + cs.length⟩ :: lR m g
 | _ :: m, _ :: g => lR m g
 | _, _ => []
def rG : List Ob → Gh → Nat → Option (Option bU)
 | .row _ _ _ :: _, g :: _, 0 => some g
 | _ :: m, _ :: g, id + 1 => rG m g id
 | _, _, _ => none
def VL (F : Nat → Prop) (m : List Ob) (g : Gh) : dJ := ⟨F, nN m g, lR m g, [], some m.length, rG m g⟩
def eV (P : Program) (f : FuncId) (m0 : List Ob) (args : List AV) (m1 : List Ob) (r : AV) : Prop :=
 (∃ fn, P.funcs[f]? = some fn ∧ fn.body.isSome = true ∧ (fn.name == "runtime.NumGoroutine") = false) ∧
 ∀ (w : World) (F : Nat → Prop) (g : Gh) (vs : List Value), aE P 0 (VL F m0 g) w ⟨[], m0 ++ [.fence]⟩ (g ++ [none]) F { tmps := #[], defers := [] } w → aF w F (g ++ [none]) args vs →
  Calls P f vs.toArray w fun e w' => ∃ v G' F', e = .returned v ∧ aE P 0 (VL F m0 g) w ⟨[], m1⟩ G' F' { tmps := #[], defers := [] } w' ∧ aH w' F' G' r v
def aU (k : Nat) (ρ : Nat → Nat) : Ob → Ob → Prop
 | .row true sz cs, .row true sz' cs' => sz = sz' ∧ cs = rens ρ cs' ∧ belows k cs' = true
 | .row false sz cs, .row false sz' cs' => sz = sz' ∧ cs = cs'
 | .arr _ sz cs, .row false sz' cs' => sz = sz' ∧ cs = cs' ∧ 0 < cs.length
 | .arr e sz cs, .arr e' sz' cs' => e = e' ∧ sz = sz' ∧ cs = cs'
 | _, _ => False
def aT (k : Nat) (ρ : Nat → Nat) (m : List Ob) : List Nat → List Ob → Prop
 | [], [] => True
 | j :: σ, o :: m0 => aU k ρ (obj m j) o ∧ aT k ρ m σ m0
 | _, _ => False
def aS : Ob → Ob → Bool
 | .row true _ _, .row true _ _ => true
 | .row false _ _, .row false _ _ => true
 | .arr _ _ _, .arr _ _ _ => true
 | _, .dead => true
 | _, _ => false
def j2 : List Ob → List Ob → Bool
 | [], _ => true
 | o :: m0, p :: m1 => aS o p && j2 m0 m1
 | _ :: _, [] => false
def aX : Ob → Ob → Ob
 | .arr e sz _, .row _ _ cs => .arr e sz cs
 | _, o => o
def aN : List Nat → List Ob → List Nat
 | j :: σ, .arr _ _ _ :: m => j :: aN σ m
 | _ :: σ, _ :: m => aN σ m
 | _, _ => []
def kR : List Nat → List (Nat × AV) → List (Nat × AV)
 | [], t => t
 | j :: l, t => kR l (gO j t)
def eZ : List Nat → List Ob → List Ob
 | [], m => m
 | j :: l, m => eZ l (eH j m)
def aP (ρ : Nat → Nat) (m : List Ob) : List Nat → List Ob → List Ob
 | j :: σ, o :: m1 => aP ρ (cD m j (aX (obj m j) (renO ρ o))) σ m1
 | _, _ => m
def BD (s : St) (d : Option Nat) (σ : List Nat) (m0 m1 : List Ob) (r : AV) : St :=
 ⟨putD (kR (aN σ m0) s.t) d (ren (cY σ s.m.length) r), aP (cY σ s.m.length) (eZ (aN σ m0) s.m) σ m1 ++ (m1.drop σ.length).map (renO (cY σ s.m.length))⟩
def fZ : List Nat → Bool
 | [] => true
 | x :: l => !l.contains x && fZ l
def lcall (P : Program) (s : St) (d : Option Nat) (f : FuncId) (args : List AV) (K : St → Prop) : Prop :=
 ∃ (σ : List Nat) (m0 : List Ob) (as : List AV) (m1 : List Ob) (r : AV), eV P f m0 as m1 r ∧ fZ σ = true ∧ aT σ.length (cY σ s.m.length) s.m σ m0 ∧ j2 m0 m1 = true ∧
  belows σ.length as = true ∧ rens (cY σ s.m.length) as = args ∧ K (BD s d σ m0 m1 r)
def wcall (P : Program) (s : St) (d : Option Nat) (f : FuncId) (args : List AV) (K : St → Prop) : Prop :=
 (∃ r, aG P f (fzs s args) r ∧ (namess args = false ∨ clean r) ∧ K (vG s d r)) ∨ lcall P s d f args K
def wop (C : bI) (P : Program) (s : St) (o : Oper) (K : St → Prop) : Prop :=
 match o.op with
 | .call { callee := .value f, args, .. } => (match ev s f with
  | .fn k first cap => wcall P s o.dst k (first ++ args.toList.map (ev s) ++ cap) K
  | _ => False)
 | _ => gH C s o K
def gU (ops : List Oper) (j : Nat) : Option Nat := (ops[j]?).bind (·.dst)
def wops (C : bI) (P : Program) (ops : List Oper) (Q : St → Prop) : List Oper → St → Prop
 | [], s => Q s
 | o :: os, s =>
  match o.guard with
  | none => wop C P s o (wops C P ops Q os)
  | some (j, want) => match gU ops j with
   | none => False
   | some d => match get s.t d with
    | .v (.bool b) => match want with
     | true => wg b (wop C P ⟨put s.t d (.v (.bool true)), s.m⟩ o (wops C P ops Q os)) (wops C P ops Q os ⟨putD (put s.t d (.v (.bool false))) o.dst .un, s.m⟩)
     | false => wg b (wops C P ops Q os ⟨putD (put s.t d (.v (.bool true))) o.dst .un, s.m⟩) (wop C P ⟨put s.t d (.v (.bool false)), s.m⟩ o (wops C P ops Q os))
    | .un => wops C P ops Q os ⟨putD s.t o.dst .un, s.m⟩
    | _ => False
inductive jD where
 | done
 | take (i : Nat) (p : jD)
 | one (i : Nat) (p : jD)
 | two (i : Nat) (p : jD) (j : Nat) (q : jD)
def unguarded (ops : Array Oper) (i : Nat) : Bool := match ops[i]? with | some o => o.guard.isNone | none => false
def j4 (ops : Array Oper) : Nat → Array Bool → jD → Bool
 | _, L, .done => (Region.ready .any ops L).isEmpty
 | n + 1, L, .take i p => Region.noSelect ops && Region.free .any ops L i && (Region.ready .any ops L).contains i && unguarded ops i && j4 ops n (L.setIfInBounds i true) p
 | n + 1, L, .one i p => (Region.ready .any ops L == [i]) && unguarded ops i && j4 ops n (L.setIfInBounds i true) p
 | n + 1, L, .two i p j q => (Region.ready .any ops L == [i, j]) && unguarded ops i && unguarded ops j && j4 ops n (L.setIfInBounds i true) p && j4 ops n (L.setIfInBounds j true) q
 | 0, _, _ => false
def fN : AV → Bool
 | .v _ => true
 | _ => false
def kpl (s : St) (d : Option Nat) (K : St → Prop) (x : AV) : Prop := fN x = true ∧ K ⟨putD s.t d x, s.m⟩
def dN (C : bI) (s : St) (d : Option Nat) (op : Op) (K : St → Prop) : Prop := match op with
 | .move x => K ⟨putD s.t d (ev s x), s.m⟩
 | .assign x => K ⟨putD s.t d (ev s x), s.m⟩
 | op => slotOnlyP op = true ∧ (op.operands.toList.all fun y => fN (ev s y)) = true ∧ bB C s op (kpl s d K)
where
 slotOnlyP : Op → Bool
 | .pick _ _ _ => true
 | .binOp _ _ _ _ _ => true
 | .unOp _ _ _ => true
 | .index _ _ _ => true
 | .slice _ _ _ _ _ => true
 | _ => false
def pops (C : bI) (P : Program) (ops : List Oper) (Q : St → Prop) : jD → St → Prop
 | .done, s => Q s
 | .take i p, s => (match ops[i]? with | some o => dN C s o.dst o.op (pops C P ops Q p) | none => False)
 | .one i p, s => (match ops[i]? with | some o => wop C P s o (pops C P ops Q p) | none => False)
 | .two i p j q, s => (match ops[i]? with | some o => wop C P s o (pops C P ops Q p) | none => False) ∧ (match ops[j]? with | some o => wop C P s o (pops C P ops Q q) | none => False)
def qG (K : St → Prop) (Q : Exit → St → Prop) : Exit → St → Prop
 | .normal, s => K s
 | .exit id, s => Q (.exit id) s
 | .goto l, s => Q (.goto l) s
 | .ret, s => Q .ret s
 | .panic c, s => Q (.panic c) s
 | .outgrown, s => Q .outgrown s
def p7 (id : Nat) (Q : Exit → St → Prop) : Exit → St → Prop
 | .normal, s => Q .normal s
 | .exit i, s => if i = id then Q .normal s else Q (.exit i) s
 | .goto l, s => Q (.goto l) s
 | .ret, s => Q .ret s
 | .panic c, s => Q (.panic c) s
 | .outgrown, s => Q .outgrown s
def aL (t : List (Nat × AV)) : List (Nat × AV) → Prop
 | [] => True
 | (k, x) :: l => get t k = x ∧ aL t l
def aC : Ob → Bool
 | .fence => true
 | _ => false
def aD : List Ob → Bool
 | [] => true
 | .fence :: _ => false
 | _ :: l => aD l
def aI (m : List Ob) : List Ob → Prop
 | [] => aD m = true
 | o :: l => (match m with | [] => False | p :: m' => (o = .dead ∧ aC p = false ∨ o = p) ∧ aI m' l)
def aK (n : Nat) : List (Nat × AV) → Bool
 | [] => true
 | (_, x) :: l => below n x && aK n l
def belowM (n : Nat) : List Ob → Bool
 | [] => true
 | .row true _ cs :: l => belows n cs && belowM n l
 | _ :: l => belowM n l
def wk (s s' : St) : Prop := aL s.t s'.t ∧ aI s.m s'.m ∧ (aK s'.m.length s'.t && belowM s'.m.length s'.m) = true
mutual
def aQ : AV → Bool
 | .v _ => true
 | .sl _ _ => true
 | .cp _ => true
 | .mp _ => true
 | .tup xs => oL xs
 | .ag xs => oL xs
 | .fn _ a b => !(namess a || namess b)
 | _ => false
def oL : List AV → Bool
 | [] => true
 | x :: l => aQ x && oL l
end
mutual
def unown : AV → AV
 | .own _ _ n cs => .sl n cs
 | .tup xs => .tup (unowns xs)
 | .ag xs => .ag (unowns xs)
 | x => x
def unowns : List AV → List AV
 | [] => []
 | x :: l => unown x :: unowns l
end
def qcall (P : Program) (s : St) (d : Option Nat) (f : FuncId) (args : List AV) (K : St → Prop) : Prop :=
 ∃ r, aG P f (fzs s args) r ∧ (namess args = false ∨ clean r) ∧ belows s.m.length args = true ∧ aQ (unown r) = true ∧ K ⟨putD s.t d (unown r), s.m⟩
def pQ (C : bI) (ty : Option TypeDesc) (len : Nat) (ps : List (Nat × AV)) (K : AV → Prop) : Prop := match ty with
 | some (.slice e) => (match C.ti e with
  | some i => ps.length = len ∧ 0 < i.size ∧ len * i.size ≤ 16777216 ∧ j3 i.size 0 ps (fun cs => K (.sl len cs))
  | none => False)
 | _ => False
def jT (C : bI) (s : St) (op : Op) (K : AV → Prop) : Prop := match op with
 | .buildSlice t len parts => pQ C (C.td t) len (parts.toList.map fun p => (p.1, ev s p.2)) K
 | op => jS C s op K
def qop (C : bI) (P : Program) (s : St) (o : Oper) (K : St → Prop) : Prop :=
 match o.op with
 | .call { callee := .value f, args, .. } => (match ev s f with
  | .fn k first cap => qcall P s o.dst k (first ++ args.toList.map (ev s) ++ cap) K
  | _ => False)
 | _ => jT C s o.op (kput s o.dst K)
inductive K8 where
 | quiet
 | alloc (t : Nat)
 | loud
def dC : Op → K8
 | .alloc t => .alloc t
 | .store _ _ _ => .loud
 | _ => .quiet
inductive Ph where
 | p1 (fl : Option Nat)
 | p2
def kU (C : bI) (ph : Ph) (K : St → Prop) (s : St) : Prop := match ph with
 | .p2 => K s
 | .p1 none => K s
 | .p1 (some t) => (match C.ti t with
  | some i => i.zero.cells.all (·.oneCell') = true ∧ K ⟨s.t, s.m ++ [.row true 1 (i.zero.cells.toList.map .v)]⟩
  | none => False)
def qops (C : bI) (P : Program) (ops : List Oper) (Q : St → Prop) : List Oper → Ph → St → Prop
 | [], ph, s => kU C ph Q s
 | o :: os, ph, s =>
  match dC o.op with
  | .loud => kU C ph (fun s => gH C s o (qops C P ops Q os .p2)) s
  | .alloc t => (match ph with
   | .p1 none => qops C P ops Q os (.p1 (some t)) ⟨putD s.t o.dst (.ptr s.m.length 0), s.m⟩
   | _ => False)
  | .quiet =>
   match o.guard with
   | none => qop C P s o (qops C P ops Q os ph)
   | some (j, want) => match gU ops j with
    | none => False
    | some d => match get s.t d with
     | .v (.bool b) => match want with
      | true => wg b (qop C P ⟨put s.t d (.v (.bool true)), s.m⟩ o (qops C P ops Q os ph)) (qops C P ops Q os ph ⟨putD (put s.t d (.v (.bool false))) o.dst .un, s.m⟩)
      | false => wg b (qops C P ops Q os ph ⟨putD (put s.t d (.v (.bool true))) o.dst .un, s.m⟩) (qop C P ⟨put s.t d (.v (.bool false)), s.m⟩ o (qops C P ops Q os ph))
     | .un => qops C P ops Q os ph ⟨putD s.t o.dst .un, s.m⟩
     | _ => False
def pY (ρ : Nat → Nat) : List (Nat × AV) → List (Nat × AV)
 | [] => []
 | (k, x) :: l => (k, ren ρ x) :: pY ρ l
def rU (ρ : Nat → Nat) (m : List Ob) : List Nat → List Ob → Prop
 | [], [] => True
 | j :: σ, o :: l => (o = .dead ∨ aC o = false ∧ obj m j = renO ρ o) ∧ rU ρ m σ l
 | _, _ => False
def wkr (σ : List Nat) (s s' : St) : Prop :=
 fZ σ = true ∧ aD s.m = true ∧ aL s.t (pY (cY σ 0) s'.t) ∧ rU (cY σ 0) s.m σ s'.m ∧ (aK s'.m.length s'.t && belowM s'.m.length s'.m) = true
def wY (r : Bool) (s s' : St) : Prop := match r with
 | false => wk s s'
 | true => ∃ σ, wkr σ s s'
def vO (B : (Exit → St → Prop) → St → Prop) (Q : Exit → St → Prop) (s : St) : Prop :=
 ∃ (ι : Type) (S : ι → St) (μ : ι → Nat) (i0 : ι) (r : Bool), wk s (S i0) ∧ ∀ i, B (qG (fun s' => ∃ i', wY r s' (S i') ∧ μ i' < μ i) Q) (S i)
def aO : Code → Option Nat
 | .seq a b => match aO a with
  | some l => some l
  | none => aO b
 | .label l => some l
 | _ => none
def tE (l : Nat) (J : St → Prop) (Q : Exit → St → Prop) : Exit → St → Prop
 | .goto l', s => l' = l ∧ J s
 | .normal, s => Q .normal s
 | .exit i, s => Q (.exit i) s
 | .ret, s => Q .ret s
 | .panic c, s => Q (.panic c) s
 | .outgrown, s => Q .outgrown s
def wU (Q : Exit → St → Prop) : Exit → St → Prop
 | .goto _, _ => False
 | .normal, s => Q .normal s
 | .exit i, s => Q (.exit i) s
 | .ret, s => Q .ret s
 | .panic c, s => Q (.panic c) s
 | .outgrown, s => Q .outgrown s
def zl1 (o : Oper) : List Nat := o.op.operands.toList.filterMap fun | .tmp t => some t | _ => none
def looks (ops : List Oper) (o : Oper) : List Nat :=
 zl1 o ++ (match o.guard with | some (j, _) => (gU ops j).toList | none => [])
def xL (o : Oper) (j : Nat) : Bool := o.after.toList.any fun e => Region.binds .any e && e.on == j
def z2 : List Nat → Bool
 | [] => true
 | x :: l => !l.contains x && z2 l
def writer : List Oper → Nat → Nat → Option Nat
 | [], _, _ => none
 | o :: l, k, t => if o.dst = some t then some k else writer l (k + 1) t
def D5 (ops : List Oper) (i : Nat) (o : Oper) (t : Nat) : Bool :=
 match writer ops 0 t with
 | none => true
 | some j => i == j || (if j < i then xL o j else (match ops[j]? with | some p => xL p i | none => true))
def BF (i : Nat) (o : Oper) : Bool := o.after.toList.all fun e => !Region.binds .any e || decide (e.on < i)
def y5 (ops : List Oper) : Nat → List Oper → Bool
 | _, [] => true
 | i, o :: l => BF i o && (looks ops o).all (D5 ops i o) && y5 ops (i + 1) l
def gA : Op → Bool
 | .move _ => true
 | .assign _ => true
 | .pick _ _ _ => true
 | .binOp _ _ _ _ _ => true
 | .unOp _ _ _ => true
 | .extract _ _ => true
 | .makeFunc _ _ _ => true
 | .nilCheck _ => true
 | .index _ _ _ => true
 | .indexAddr _ _ _ => true
 | .fieldAddr _ _ _ => true
 | .field _ _ _ => true
 | .build _ _ => true
 | .buildSlice _ _ _ => true
 | .slice _ _ _ _ _ => true
 | _ => false
def cP (o : Oper) : Bool := match dC o.op with | .loud => true | _ => false
def eJ (o : Oper) : Bool := match dC o.op with | .alloc _ => true | _ => false
def p6 (o : Oper) : List Nat := o.after.toList.filterMap fun e => match Region.binds .any e with | true => some e.on | false => none
def uN (ops : List Oper) : Nat → List Nat → List Nat
 | 0, S => S
 | k + 1, S => uN ops k (match S.contains k with | true => (match ops[k]? with | some o => p6 o ++ S | none => S) | false => S)
def xJ (ops : List Oper) (i : Nat) (o : Oper) : Bool :=
 let S := uN ops i (p6 o)
 (List.range i).all fun j => S.contains j || (match ops[j]? with | some p => gA p.op | none => true)
def xK (ops : List Oper) (i : Nat) (o : Oper) : Bool :=
 let S := uN ops i (p6 o)
 (List.range i).all fun j => S.contains j || (match ops[j]? with | some p => !cP p | none => true)
def vP (ops : List Oper) : Nat → List Oper → Bool
 | _, [] => true
 | i, o :: l => (match cP o with
   | true => o.guard.isNone && o.dst.isNone && xJ ops i o
   | false => (match eJ o with
    | true => o.guard.isNone && (match o.dst with | some d => (ops.take (firstLoud ops 0)).all (fun p => !(looks ops p).contains d) | none => false)
    | false => gA o.op || xK ops i o)) && vP ops (i + 1) l
where firstLoud : List Oper → Nat → Nat
 | [], k => k
 | o :: l, k => match cP o with | true => k | false => firstLoud l (k + 1)
def BR (ops : List Oper) : Bool := z2 (ops.filterMap (·.dst)) && y5 ops 0 ops && ((ops.all fun o => !cP o && !eJ o) || vP ops 0 ops)
def f9 (N : Nat) : Code → Bool
 | .region _ ops d => ops.toList.all (fun o => cV N o.dst) && (!d || BR ops.toList)
 | .seq a b => f9 N a && f9 N b
 | .cond _ a b => f9 N a && f9 N b
 | .block _ b => f9 N b
 | .loop b => f9 N b
 | .scope b => f9 N b
 | _ => true
mutual
def awp (C : bI) (P : Program) : Code → (Exit → St → Prop) → St → Prop
 | .skip, Q, s => Q .normal s
 | .label _, Q, s => Q .normal s
 | .seq a b, Q, s => awp C P a (qG (awp C P b Q) Q) s
 | .cond c a b, Q, s => match ev s c with
  | .v (.bool t) => wg t (awp C P a Q s) (awp C P b Q s)
  | _ => False
 | .block id b, Q, s => awp C P b (p7 id Q) s
 | .loop b, Q, s => vO (awp C P b) Q s
 | .scope b, Q, s => match aO b with
  | none => awp C P b (wU Q) s
  | some l => awp C P b (tE l (fun s' => gE C P l b (tE l (fun _ => False) Q) s') Q) s
 | .region _ ops draw, Q, s => match draw with
  | false => wops C P ops.toList (Q .normal) ops.toList s
  | true => qops C P ops.toList (Q .normal) ops.toList (.p1 none) s ∨ ∃ pl, j4 ops ops.size (Array.replicate ops.size false) pl = true ∧ pops C P ops.toList (Q .normal) pl s
 | .exit id, Q, s => Q (.exit id) s
 | .goto l, Q, s => Q (.goto l) s
 | .ret, Q, s => Q .ret s
 | .rangeFunc _ _ _ _, _, _ => False
 | .refuse _, _, _ => False
def gE (C : bI) (P : Program) (l : Nat) : Code → (Exit → St → Prop) → St → Prop
 | .seq a b, Q, s => match (findLabel a l).isSome with
  | true => gE C P l a (qG (awp C P b Q) Q) s
  | false => gE C P l b Q s
 | .label l', Q, s => l' = l ∧ Q .normal s
 | _, _, _ => False
end
end Go.AE
