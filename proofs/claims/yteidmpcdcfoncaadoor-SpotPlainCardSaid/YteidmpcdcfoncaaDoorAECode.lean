/- A part of the abstract evaluator: no condition. -/
import Derived.Test.YteidmpcdcfoncaaDoorAEEffV
import Derived.ScopeJumps
import Derived.Orders
set_option linter.unusedVariables false
set_option linter.unusedSimpArgs false
/- Calls, regions, code: what is to be shown of a function's text. -/
namespace Go.AE

/-! ### A function's border -/
mutual
/-- What comes over the border has its objects in the local memory, from number k on. -/
def imp : Nat → AV → AV × List Ob
  | k, .own e sz n cs => (.ref k 0 n, [.arr e sz cs])
  | k, .lend sz n cs => (.ref k 0 n, [.row false sz cs])
  | k, .tup xs => (.tup (imps k xs).1, (imps k xs).2)
  | k, .ag xs => (.ag (imps k xs).1, (imps k xs).2)
  | _, x => (x, [])
def imps : Nat → List AV → List AV × List Ob
  | _, [] => ([], [])
  | k, x :: l => ((imp k x).1 :: (imps (k + (imp k x).2.length) l).1, (imp k x).2 ++ (imps (k + (imp k x).2.length) l).2)
end

mutual
def shift (k : Nat) : AV → AV
  | .ref id off n => .ref (id + k) off n
  | .ptr id off => .ptr (id + k) off
  | .mr id => .mr (id + k)
  | .ag xs => .ag (shifts k xs)
  | .tup xs => .tup (shifts k xs)
  | .fn f a b => .fn f (shifts k a) (shifts k b)
  | x => x
def shifts (k : Nat) : List AV → List AV
  | [] => []
  | x :: l => shift k x :: shifts k l
end

def shiftO (k : Nat) : Ob → Ob
  | .row true sz cs => .row true sz (shifts k cs)
  | o => o

/-- What the objects of a border are. -/
structure Objs (w : World) (F : Nat → Prop) (H : Gh) (obs : List Ob) : Prop where
  len : H.length = obs.length
  ob : ∀ (id : Nat) (g : Option Loc), H[id]? = some g → ObRel w F H g (obj obs id)
  lt : ∀ (id : Nat) (L : Loc), H[id]? = some (some L) → ¬ F L.b ∧ L.b < w.heap.size
  inj : ∀ (i j : Nat) (L M : Loc), H[i]? = some (some L) → H[j]? = some (some M) → L.b = M.b → i = j

/-- How a call ends that is given nothing but frozen values. -/
def Post (w : World) (F : Nat → Prop) (r : AV) (e : Ending) (w' : World) : Prop :=
  ∃ v F' H, e = .returned v ∧ Grow w w' ∧ (∀ b, F b → F' b) ∧ (∀ b, F' b → (F b ∨ w.heap.size ≤ b) ∧ b < w'.heap.size) ∧
    Rep w' F' H (imp 0 r).1 v ∧ Objs w' F' H (imp 0 r).2 ∧ ∀ (id : Nat) (L : Loc), H[id]? = some (some L) → w.heap.size ≤ L.b

/-- CALLED WITH WHAT READS AS 'args', THE FUNCTION RETURNS WHAT READS AS 'r'; nothing that was there turns. -/
def Spec (P : Program) (f : FuncId) (args : List AV) (r : AV) : Prop :=
  (∃ fn, P.funcs[f]? = some fn ∧ fn.body.isSome = true ∧ (fn.name == "runtime.NumGoroutine") = false) ∧
  ∀ (w : World) (F : Nat → Prop) (vs : List Value), (∀ b, F b → b < w.heap.size) → Tabs P w F → Reps w F [] args vs → Calls P f vs.toArray w (Post w F r)

/-! ### Calls -/

/-- A slice or an address of the local memory, lent to be read. -/
def fz1 (s : St) : AV → AV
  | .ref id off n => match obj s.m id with
    | .arr _ sz cs => .sl n ((cs.drop off).take (n * sz))
    | .row false sz cs => .sl n ((cs.drop off).take (n * sz))
    | _ => .junk
  | .v x => .v x
  | .sl n cs => .sl n cs
  | .cp cs => .cp cs
  | .mp es => .mp es
  | .mr id => match obj s.m id with
    | .mp es => .mp es
    | _ => .junk
  | _ => .junk

mutual
def fz (s : St) : AV → AV
  | .ref id off n => fz1 s (.ref id off n)
  | .ptr id off => match obj s.m id with
    | .arr _ _ cs => .cp (cs.drop off)
    | .row false _ cs => .cp (cs.drop off)
    | .row true _ cs => .cp ((cs.map (fz1 s)).drop off)
    | _ => .junk
  | .ag cs => .ag (fzs s cs)
  | .tup cs => .tup (fzs s cs)
  | .fn f a b => .fn f (fzs s a) (fzs s b)
  | .mr id => match obj s.m id with
    | .mp es => .mp es
    | _ => .junk
  | .own _ _ _ _ => .junk
  | .lend _ _ _ => .junk
  | .lptr _ => .junk
  | x => x
def fzs (s : St) : List AV → List AV
  | [] => []
  | x :: l => fz s x :: fzs s l
end

mutual
/-- A result that reads nothing that is lent. -/
def clean : AV → Prop
  | .v _ => True
  | .own _ _ _ cs => ∀ c ∈ cs, ∃ x, c = .v x
  | .tup xs => cleans xs
  | .ag xs => cleans xs
  | _ => False
def cleans : List AV → Prop
  | [] => True
  | x :: l => clean x ∧ cleans l
end

/-- The state behind a call. -/
def importS (s : St) (d : Option Nat) (r : AV) : St :=
  ⟨putD s.t d (shift s.m.length (imp 0 r).1), s.m ++ (imp 0 r).2.map (shiftO s.m.length)⟩

mutual
/-- Names nothing from number n on. -/
def below (n : Nat) : AV → Bool
  | .ref i _ _ => decide (i < n)
  | .ptr i _ => decide (i < n)
  | .mr i => decide (i < n)
  | .ag cs => belows n cs
  | .tup cs => belows n cs
  | .fn _ a b => belows n a && belows n b
  | _ => true
def belows (n : Nat) : List AV → Bool
  | [] => true
  | x :: l => below n x && belows n l
end

/-- A callee's number, as the caller's. -/
def renF : List Nat → Nat → Nat → Nat
  | [], n, id => n + id
  | x :: _, _, 0 => x
  | _ :: σ, n, id + 1 => renF σ n id

mutual
def ren (ρ : Nat → Nat) : AV → AV
  | .ref id off n => .ref (ρ id) off n
  | .ptr id off => .ptr (ρ id) off
  | .mr id => .mr (ρ id)
  | .ag xs => .ag (rens ρ xs)
  | .tup xs => .tup (rens ρ xs)
  | .fn f a b => .fn f (rens ρ a) (rens ρ b)
  | x => x
def rens (ρ : Nat → Nat) : List AV → List AV
  | [] => []
  | x :: l => ren ρ x :: rens ρ l
end

def renO (ρ : Nat → Nat) : Ob → Ob
  | .row true sz cs => .row true sz (rens ρ cs)
  | .fence => .dead
  | o => o

/-- What is lent, and the blocks that are given, and the regions. -/
def ownsL : List Ob → Gh → List Nat
  | .row _ _ _ :: m, _ :: g => ownsL m g
  | _ :: m, some L :: g => L.b :: ownsL m g
  | _ :: m, none :: g => ownsL m g
  | _, _ => []
def regsL : List Ob → Gh → List Reg
  | .row _ _ cs :: m, some L :: g => ⟨L.b, L.o, L.o + cs.length⟩ :: regsL m g
  | _ :: m, _ :: g => regsL m g
  | _, _ => []
def pinL : List Ob → Gh → Nat → Option (Option Loc)
  | .row _ _ _ :: _, g :: _, 0 => some g
  | _ :: m, _ :: g, id + 1 => pinL m g id
  | _, _, _ => none

def VL (F : Nat → Prop) (m : List Ob) (g : Gh) : Given := ⟨F, ownsL m g, regsL m g, [], some m.length, pinL m g⟩

/-- CALLED WITH THE OBJECTS m0 (rows to be written in place, arrays that are given away), THE FUNCTION ENDS WITH THE OBJECTS m1 AND RETURNS r. -/
def SpecL (P : Program) (f : FuncId) (m0 : List Ob) (args : List AV) (m1 : List Ob) (r : AV) : Prop :=
  (∃ fn, P.funcs[f]? = some fn ∧ fn.body.isSome = true ∧ (fn.name == "runtime.NumGoroutine") = false) ∧
  ∀ (w : World) (F : Nat → Prop) (g : Gh) (vs : List Value), Rel P 0 (VL F m0 g) w ⟨[], m0 ++ [.fence]⟩ (g ++ [none]) F { tmps := #[], defers := [] } w → Reps w F (g ++ [none]) args vs →
    Calls P f vs.toArray w fun e w' => ∃ v G' F', e = .returned v ∧ Rel P 0 (VL F m0 g) w ⟨[], m1⟩ G' F' { tmps := #[], defers := [] } w' ∧ Rep w' F' G' r v

/-- May the caller's object be lent so? -/
def lendOb (k : Nat) (ρ : Nat → Nat) : Ob → Ob → Prop
  | .row true sz cs, .row true sz' cs' => sz = sz' ∧ cs = rens ρ cs' ∧ belows k cs' = true
  | .row false sz cs, .row false sz' cs' => sz = sz' ∧ cs = cs'
  | .arr _ sz cs, .row false sz' cs' => sz = sz' ∧ cs = cs' ∧ 0 < cs.length
  | .arr e sz cs, .arr e' sz' cs' => e = e' ∧ sz = sz' ∧ cs = cs'
  | _, _ => False

def lendObs (k : Nat) (ρ : Nat → Nat) (m : List Ob) : List Nat → List Ob → Prop
  | [], [] => True
  | j :: σ, o :: m0 => lendOb k ρ (obj m j) o ∧ lendObs k ρ m σ m0
  | _, _ => False

def kindOk : Ob → Ob → Bool
  | .row true _ _, .row true _ _ => true
  | .row false _ _, .row false _ _ => true
  | .arr _ _ _, .arr _ _ _ => true
  | _, .dead => true
  | _, _ => false

def kindsOk : List Ob → List Ob → Bool
  | [], _ => true
  | o :: m0, p :: m1 => kindOk o p && kindsOk m0 m1
  | _ :: _, [] => false

/-- The caller's object, as the callee left it. -/
def backO : Ob → Ob → Ob
  | .arr e sz _, .row _ _ cs => .arr e sz cs
  | _, o => o

def givL : List Nat → List Ob → List Nat
  | j :: σ, .arr _ _ _ :: m => j :: givL σ m
  | _ :: σ, _ :: m => givL σ m
  | _, _ => []

def killTs : List Nat → List (Nat × AV) → List (Nat × AV)
  | [], t => t
  | j :: l, t => killTs l (killT j t)
def killMs : List Nat → List Ob → List Ob
  | [], m => m
  | j :: l, m => killMs l (killM j m)

def updM (ρ : Nat → Nat) (m : List Ob) : List Nat → List Ob → List Ob
  | j :: σ, o :: m1 => updM ρ (setOb m j (backO (obj m j) (renO ρ o))) σ m1
  | _, _ => m

/-- The state behind a call to which objects were lent. -/
def afterL (s : St) (d : Option Nat) (σ : List Nat) (m0 m1 : List Ob) (r : AV) : St :=
  ⟨putD (killTs (givL σ m0) s.t) d (ren (renF σ s.m.length) r), updM (renF σ s.m.length) (killMs (givL σ m0) s.m) σ m1 ++ (m1.drop σ.length).map (renO (renF σ s.m.length))⟩

def nodupN : List Nat → Bool
  | [] => true
  | x :: l => !l.contains x && nodupN l

def lcall (P : Program) (s : St) (d : Option Nat) (f : FuncId) (args : List AV) (K : St → Prop) : Prop :=
  ∃ (σ : List Nat) (m0 : List Ob) (as : List AV) (m1 : List Ob) (r : AV), SpecL P f m0 as m1 r ∧ nodupN σ = true ∧ lendObs σ.length (renF σ s.m.length) s.m σ m0 ∧ kindsOk m0 m1 = true ∧
    belows σ.length as = true ∧ rens (renF σ s.m.length) as = args ∧ K (afterL s d σ m0 m1 r)

def wcall (P : Program) (s : St) (d : Option Nat) (f : FuncId) (args : List AV) (K : St → Prop) : Prop :=
  (∃ r, Spec P f (fzs s args) r ∧ (namess args = false ∨ clean r) ∧ K (importS s d r)) ∨ lcall P s d f args K

def wop (C : Ctx) (P : Program) (s : St) (o : Oper) (K : St → Prop) : Prop :=
  match o.op with
  | .call { callee := .value f, args, .. } => (match ev s f with
    | .fn k first cap => wcall P s o.dst k (first ++ args.toList.map (ev s) ++ cap) K
    | _ => False)
  | _ => effOp C s o K

/-! ### Regions and code -/

def dstOf (ops : List Oper) (j : Nat) : Option Nat := (ops[j]?).bind (·.dst)

def wops (C : Ctx) (P : Program) (ops : List Oper) (Q : St → Prop) : List Oper → St → Prop
  | [], s => Q s
  | o :: os, s =>
    match o.guard with
    | none => wop C P s o (wops C P ops Q os)
    | some (j, want) => match dstOf ops j with
      | none => False
      | some d => match get s.t d with
        | .v (.bool b) => match want with
          | true => wg b (wop C P ⟨put s.t d (.v (.bool true)), s.m⟩ o (wops C P ops Q os)) (wops C P ops Q os ⟨putD (put s.t d (.v (.bool false))) o.dst .un, s.m⟩)
          | false => wg b (wops C P ops Q os ⟨putD (put s.t d (.v (.bool true))) o.dst .un, s.m⟩) (wop C P ⟨put s.t d (.v (.bool false)), s.m⟩ o (wops C P ops Q os))
        | .un => wops C P ops Q os ⟨putD s.t o.dst .un, s.m⟩
        | _ => False

/-! ### A region whose order is open, order by order -/
/-- In which order: one is taken that no other one waits on or turns; the only one that may come up; one of two, either way. -/
inductive Plan where
  | done
  | take (i : Nat) (p : Plan)
  | one (i : Nat) (p : Plan)
  | two (i : Nat) (p : Plan) (j : Nat) (q : Plan)

def unguarded (ops : Array Oper) (i : Nat) : Bool := match ops[i]? with | some o => o.guard.isNone | none => false

def planOk (ops : Array Oper) : Nat → Array Bool → Plan → Bool
  | _, L, .done => (Region.ready .any ops L).isEmpty
  | n + 1, L, .take i p => Region.noSelect ops && Region.free .any ops L i && (Region.ready .any ops L).contains i && unguarded ops i && planOk ops n (L.setIfInBounds i true) p
  | n + 1, L, .one i p => (Region.ready .any ops L == [i]) && unguarded ops i && planOk ops n (L.setIfInBounds i true) p
  | n + 1, L, .two i p j q => (Region.ready .any ops L == [i, j]) && unguarded ops i && unguarded ops j && planOk ops n (L.setIfInBounds i true) p && planOk ops n (L.setIfInBounds j true) q
  | 0, _, _ => false

def plain1 : AV → Bool
  | .v _ => true
  | _ => false

def kpl (s : St) (d : Option Nat) (K : St → Prop) (x : AV) : Prop := plain1 x = true ∧ K ⟨putD s.t d x, s.m⟩

/-- An operation that yields the same whatever the memory holds. -/
def takeOp (C : Ctx) (s : St) (d : Option Nat) (op : Op) (K : St → Prop) : Prop := match op with
  | .move x => K ⟨putD s.t d (ev s x), s.m⟩
  | .assign x => K ⟨putD s.t d (ev s x), s.m⟩
  | op => slotOnlyP op = true ∧ (op.operands.toList.all fun y => plain1 (ev s y)) = true ∧ pureOp C s op (kpl s d K)
where
  slotOnlyP : Op → Bool
  | .pick _ _ _ => true
  | .binOp _ _ _ _ _ => true
  | .unOp _ _ _ => true
  | .index _ _ _ => true
  | .slice _ _ _ _ _ => true
  | _ => false

def pops (C : Ctx) (P : Program) (ops : List Oper) (Q : St → Prop) : Plan → St → Prop
  | .done, s => Q s
  | .take i p, s => (match ops[i]? with | some o => takeOp C s o.dst o.op (pops C P ops Q p) | none => False)
  | .one i p, s => (match ops[i]? with | some o => wop C P s o (pops C P ops Q p) | none => False)
  | .two i p j q, s => (match ops[i]? with | some o => wop C P s o (pops C P ops Q p) | none => False) ∧ (match ops[j]? with | some o => wop C P s o (pops C P ops Q q) | none => False)

def thenK (K : St → Prop) (Q : Exit → St → Prop) : Exit → St → Prop
  | .normal, s => K s
  | .exit id, s => Q (.exit id) s
  | .goto l, s => Q (.goto l) s
  | .ret, s => Q .ret s
  | .panic c, s => Q (.panic c) s
  | .outgrown, s => Q .outgrown s

def blockQ (id : Nat) (Q : Exit → St → Prop) : Exit → St → Prop
  | .normal, s => Q .normal s
  | .exit i, s => if i = id then Q .normal s else Q (.exit i) s
  | .goto l, s => Q (.goto l) s
  | .ret, s => Q .ret s
  | .panic c, s => Q (.panic c) s
  | .outgrown, s => Q .outgrown s

/-- What is known of a state is known of another. -/
def wkT (t : List (Nat × AV)) : List (Nat × AV) → Prop
  | [] => True
  | (k, x) :: l => get t k = x ∧ wkT t l

def isF : Ob → Bool
  | .fence => true
  | _ => false

def noF : List Ob → Bool
  | [] => true
  | .fence :: _ => false
  | _ :: l => noF l

def wkM (m : List Ob) : List Ob → Prop
  | [] => noF m = true
  | o :: l => (match m with | [] => False | p :: m' => (o = .dead ∧ isF p = false ∨ o = p) ∧ wkM m' l)

def belowT (n : Nat) : List (Nat × AV) → Bool
  | [] => true
  | (_, x) :: l => below n x && belowT n l

def belowM (n : Nat) : List Ob → Bool
  | [] => true
  | .row true _ cs :: l => belows n cs && belowM n l
  | _ :: l => belowM n l

def wk (s s' : St) : Prop := wkT s.t s'.t ∧ wkM s.m s'.m ∧ (belowT s'.m.length s'.t && belowM s'.m.length s'.m) = true

mutual
def plainR : AV → Bool
  | .v _ => true
  | .sl _ _ => true
  | .cp _ => true
  | .mp _ => true
  | .tup xs => plainRs xs
  | .ag xs => plainRs xs
  | .fn _ a b => !(namess a || namess b)
  | _ => false
def plainRs : List AV → Bool
  | [] => true
  | x :: l => plainR x && plainRs l
end

mutual
/-- A result that nobody will write: what is the call's own is frozen. -/
def unown : AV → AV
  | .own _ _ n cs => .sl n cs
  | .tup xs => .tup (unowns xs)
  | .ag xs => .ag (unowns xs)
  | x => x
def unowns : List AV → List AV
  | [] => []
  | x :: l => unown x :: unowns l
end

def qcall (P : Program) (s : St) (d : Option Nat) (f : FuncId) (args : List AV) (K : St → Prop) : Prop :=
  ∃ r, Spec P f (fzs s args) r ∧ (namess args = false ∨ clean r) ∧ belows s.m.length args = true ∧ plainR (unown r) = true ∧ K ⟨putD s.t d (unown r), s.m⟩

/-- A slice's literal that nobody will write. -/
def litQ (C : Ctx) (ty : Option TypeDesc) (len : Nat) (ps : List (Nat × AV)) (K : AV → Prop) : Prop := match ty with
  | some (.slice e) => (match C.ti e with
    | some i => ps.length = len ∧ 0 < i.size ∧ len * i.size ≤ 16777216 ∧ litCells i.size 0 ps (fun cs => K (.sl len cs))
    | none => False)
  | _ => False

def quietOp (C : Ctx) (s : St) (op : Op) (K : AV → Prop) : Prop := match op with
  | .buildSlice t len parts => litQ C (C.td t) len (parts.toList.map fun p => (p.1, ev s p.2)) K
  | op => pure2 C s op K

/-- An operation of a region whose order is open: it writes its slot alone. -/
def qop (C : Ctx) (P : Program) (s : St) (o : Oper) (K : St → Prop) : Prop :=
  match o.op with
  | .call { callee := .value f, args, .. } => (match ev s f with
    | .fn k first cap => qcall P s o.dst k (first ++ args.toList.map (ev s) ++ cap) K
    | _ => False)
  | _ => quietOp C s o.op (kput s o.dst K)

/-- What an operation of such a region is: it writes its slot alone; it makes an object; it turns one. -/
inductive Kind where
  | quiet
  | alloc (t : Nat)
  | loud

def kindOf : Op → Kind
  | .alloc t => .alloc t
  | .store _ _ _ => .loud
  | _ => .quiet

/-- How far we are: ahead of the first loud one (and the object that was made), or behind. -/
inductive Ph where
  | p1 (fl : Option Nat)
  | p2

def pushP (C : Ctx) (ph : Ph) (K : St → Prop) (s : St) : Prop := match ph with
  | .p2 => K s
  | .p1 none => K s
  | .p1 (some t) => (match C.ti t with
    | some i => i.zero.cells.all (·.oneCell') = true ∧ K ⟨s.t, s.m ++ [.row true 1 (i.zero.cells.toList.map .v)]⟩
    | none => False)

def qops (C : Ctx) (P : Program) (ops : List Oper) (Q : St → Prop) : List Oper → Ph → St → Prop
  | [], ph, s => pushP C ph Q s
  | o :: os, ph, s =>
    match kindOf o.op with
    | .loud => pushP C ph (fun s => effOp C s o (qops C P ops Q os .p2)) s
    | .alloc t => (match ph with
      | .p1 none => qops C P ops Q os (.p1 (some t)) ⟨putD s.t o.dst (.ptr s.m.length 0), s.m⟩
      | _ => False)
    | .quiet =>
      match o.guard with
      | none => qop C P s o (qops C P ops Q os ph)
      | some (j, want) => match dstOf ops j with
        | none => False
        | some d => match get s.t d with
          | .v (.bool b) => match want with
            | true => wg b (qop C P ⟨put s.t d (.v (.bool true)), s.m⟩ o (qops C P ops Q os ph)) (qops C P ops Q os ph ⟨putD (put s.t d (.v (.bool false))) o.dst .un, s.m⟩)
            | false => wg b (qops C P ops Q os ph ⟨putD (put s.t d (.v (.bool true))) o.dst .un, s.m⟩) (qop C P ⟨put s.t d (.v (.bool false)), s.m⟩ o (qops C P ops Q os ph))
          | .un => qops C P ops Q os ph ⟨putD s.t o.dst .un, s.m⟩
          | _ => False

def renT (ρ : Nat → Nat) : List (Nat × AV) → List (Nat × AV)
  | [] => []
  | (k, x) :: l => (k, ren ρ x) :: renT ρ l

def wkrM (ρ : Nat → Nat) (m : List Ob) : List Nat → List Ob → Prop
  | [], [] => True
  | j :: σ, o :: l => (o = .dead ∨ isF o = false ∧ obj m j = renO ρ o) ∧ wkrM ρ m σ l
  | _, _ => False

/-- Known less, and by other numbers: object i of the second state is object σ[i] of the first. -/
def wkr (σ : List Nat) (s s' : St) : Prop :=
  nodupN σ = true ∧ noF s.m = true ∧ wkT s.t (renT (renF σ 0) s'.t) ∧ wkrM (renF σ 0) s.m σ s'.m ∧ (belowT s'.m.length s'.t && belowM s'.m.length s'.m) = true

def wkB (r : Bool) (s s' : St) : Prop := match r with
  | false => wk s s'
  | true => ∃ σ, wkr σ s s'

/-- A loop: what its states are, by an index, and a measure that every round lowers. -/
def loopP (B : (Exit → St → Prop) → St → Prop) (Q : Exit → St → Prop) (s : St) : Prop :=
  ∃ (ι : Type) (S : ι → St) (μ : ι → Nat) (i0 : ι) (r : Bool), wk s (S i0) ∧ ∀ i, B (thenK (fun s' => ∃ i', wkB r s' (S i') ∧ μ i' < μ i) Q) (S i)

def labelOf : Code → Option Nat
  | .seq a b => match labelOf a with
    | some l => some l
    | none => labelOf b
  | .label l => some l
  | _ => none

def jumpQ (l : Nat) (J : St → Prop) (Q : Exit → St → Prop) : Exit → St → Prop
  | .goto l', s => l' = l ∧ J s
  | .normal, s => Q .normal s
  | .exit i, s => Q (.exit i) s
  | .ret, s => Q .ret s
  | .panic c, s => Q (.panic c) s
  | .outgrown, s => Q .outgrown s

def straightQ (Q : Exit → St → Prop) : Exit → St → Prop
  | .goto _, _ => False
  | .normal, s => Q .normal s
  | .exit i, s => Q (.exit i) s
  | .ret, s => Q .ret s
  | .panic c, s => Q (.panic c) s
  | .outgrown, s => Q .outgrown s

/-! ### What is asked of such a region by sight -/

def tmpsOf (o : Oper) : List Nat := o.op.operands.toList.filterMap fun | .tmp t => some t | _ => none

def looks (ops : List Oper) (o : Oper) : List Nat :=
  tmpsOf o ++ (match o.guard with | some (j, _) => (dstOf ops j).toList | none => [])

def bindsTo (o : Oper) (j : Nat) : Bool := o.after.toList.any fun e => Region.binds .any e && e.on == j

def nodupB : List Nat → Bool
  | [] => true
  | x :: l => !l.contains x && nodupB l

/-- Who writes a slot. -/
def writer : List Oper → Nat → Nat → Option Nat
  | [], _, _ => none
  | o :: l, k, t => if o.dst = some t then some k else writer l (k + 1) t

/-- What an operation looks at is written before it, and it waits for that, or written behind it, and that waits for it. -/
def lookOk (ops : List Oper) (i : Nat) (o : Oper) (t : Nat) : Bool :=
  match writer ops 0 t with
  | none => true
  | some j => i == j || (if j < i then bindsTo o j else (match ops[j]? with | some p => bindsTo p i | none => true))

def backOk (i : Nat) (o : Oper) : Bool := o.after.toList.all fun e => !Region.binds .any e || decide (e.on < i)

def eachOk (ops : List Oper) : Nat → List Oper → Bool
  | _, [] => true
  | i, o :: l => backOk i o && (looks ops o).all (lookOk ops i o) && eachOk ops (i + 1) l

/-- Its value hangs on slots alone. -/
def slotOnly : Op → Bool
  | .move _ => true
  | .assign _ => true
  | .pick _ _ _ => true
  | .binOp _ _ _ _ _ => true
  | .unOp _ _ _ => true
  | .extract _ _ => true
  | .makeFunc _ _ _ => true
  | .nilCheck _ => true
  | .index _ _ _ => true
  | .indexAddr _ _ _ => true
  | .fieldAddr _ _ _ => true
  | .field _ _ _ => true
  | .build _ _ => true
  | .buildSlice _ _ _ => true
  | .slice _ _ _ _ _ => true
  | _ => false

def isLoud (o : Oper) : Bool := match kindOf o.op with | .loud => true | _ => false
def isAlloc (o : Oper) : Bool := match kindOf o.op with | .alloc _ => true | _ => false

def bindsOf (o : Oper) : List Nat := o.after.toList.filterMap fun e => match Region.binds .any e with | true => some e.on | false => none

/-- All that an operation waits for, through others. -/
def closeB (ops : List Oper) : Nat → List Nat → List Nat
  | 0, S => S
  | k + 1, S => closeB ops k (match S.contains k with | true => (match ops[k]? with | some o => bindsOf o ++ S | none => S) | false => S)

/-- Is the operation carried out behind all those ahead of it that are not of slots alone? -/
def behindAll (ops : List Oper) (i : Nat) (o : Oper) : Bool :=
  let S := closeB ops i (bindsOf o)
  (List.range i).all fun j => S.contains j || (match ops[j]? with | some p => slotOnly p.op | none => true)

/-- Is it carried out behind the loud ones ahead of it? -/
def behindLoud (ops : List Oper) (i : Nat) (o : Oper) : Bool :=
  let S := closeB ops i (bindsOf o)
  (List.range i).all fun j => S.contains j || (match ops[j]? with | some p => !isLoud p | none => true)

def loudOk (ops : List Oper) : Nat → List Oper → Bool
  | _, [] => true
  | i, o :: l => (match isLoud o with
      | true => o.guard.isNone && o.dst.isNone && behindAll ops i o
      | false => (match isAlloc o with
        | true => o.guard.isNone && (match o.dst with | some d => (ops.take (firstLoud ops 0)).all (fun p => !(looks ops p).contains d) | none => false)
        | false => slotOnly o.op || behindLoud ops i o)) && loudOk ops (i + 1) l
where firstLoud : List Oper → Nat → Nat
  | [], k => k
  | o :: l, k => match isLoud o with | true => k | false => firstLoud l (k + 1)

def drawOk (ops : List Oper) : Bool := nodupB (ops.filterMap (·.dst)) && eachOk ops 0 ops && ((ops.all fun o => !isLoud o && !isAlloc o) || loudOk ops 0 ops)

/-- What is asked of a function's text by sight. -/
def codeOk (N : Nat) : Code → Bool
  | .region _ ops d => ops.toList.all (fun o => dOk N o.dst) && (!d || drawOk ops.toList)
  | .seq a b => codeOk N a && codeOk N b
  | .cond _ a b => codeOk N a && codeOk N b
  | .block _ b => codeOk N b
  | .loop b => codeOk N b
  | .scope b => codeOk N b
  | _ => true

mutual
def awp (C : Ctx) (P : Program) : Code → (Exit → St → Prop) → St → Prop
  | .skip, Q, s => Q .normal s
  | .label _, Q, s => Q .normal s
  | .seq a b, Q, s => awp C P a (thenK (awp C P b Q) Q) s
  | .cond c a b, Q, s => match ev s c with
    | .v (.bool t) => wg t (awp C P a Q s) (awp C P b Q s)
    | _ => False
  | .block id b, Q, s => awp C P b (blockQ id Q) s
  | .loop b, Q, s => loopP (awp C P b) Q s
  | .scope b, Q, s => match labelOf b with
    | none => awp C P b (straightQ Q) s
    | some l => awp C P b (jumpQ l (fun s' => awpFrom C P l b (jumpQ l (fun _ => False) Q) s') Q) s
  | .region _ ops draw, Q, s => match draw with
    | false => wops C P ops.toList (Q .normal) ops.toList s
    | true => qops C P ops.toList (Q .normal) ops.toList (.p1 none) s ∨ ∃ pl, planOk ops ops.size (Array.replicate ops.size false) pl = true ∧ pops C P ops.toList (Q .normal) pl s
  | .exit id, Q, s => Q (.exit id) s
  | .goto l, Q, s => Q (.goto l) s
  | .ret, Q, s => Q .ret s
  | .rangeFunc _ _ _ _, _, _ => False
  | .refuse _, _, _ => False
/-- From a label on. -/
def awpFrom (C : Ctx) (P : Program) (l : Nat) : Code → (Exit → St → Prop) → St → Prop
  | .seq a b, Q, s => match (findLabel a l).isSome with
    | true => awpFrom C P l a (thenK (awp C P b Q) Q) s
    | false => awpFrom C P l b Q s
  | .label l', Q, s => l' = l ∧ Q .normal s
  | _, _, _ => False
end

end Go.AE
