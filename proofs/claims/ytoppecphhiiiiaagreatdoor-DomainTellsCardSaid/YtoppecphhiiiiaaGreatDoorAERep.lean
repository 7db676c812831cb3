/- A part of the abstract evaluator: no condition. -/
import Derived.Test.YtoppecphhiiiiaaGreatDoorAEDefs
import Derived.Laws.OwnMore
import Derived.Laws.MakeOwn
import Derived.Laws.Slices
import Derived.Laws.Strings
import Derived.Laws.Small
import Derived.RowKit3
set_option linter.unusedVariables false
set_option linter.unusedSimpArgs false
namespace Go.AE
structure bU where
 b : Nat
 o : Nat
 cap : Nat
abbrev Gh := List (Option bU)
def gD (w : World) (a : Addr) (vs : List Value) : Prop :=
 a.spot = none ∧ (∀ i, i < vs.length → w.cell? ⟨a.block, a.off + i, none⟩ = vs[i]?) ∧ ∀ u ∈ vs, u.oneCell' = true
mutual
inductive aH (w : World) (F : Nat → Prop) : Gh → AV → Value → Prop
 | v {G} (x : Value) : aH w F G (.v x) x
 | junk {G} (x : Value) : aH w F G .junk x
 | un {G} : aH w F G .un (.tuple #[])
 | sl0 {G} : aH w F G (.sl 0 []) (.slice none 0 0)
 | sl {G n cs a cap vs} : F a.block → n ≤ cap → gD w a vs → aF w F [] cs vs → aH w F G (.sl n cs) (.slice (some a) n cap)
 | ref {G id off len cap L} : G[id]? = some (some L) → (off = 0 → cap = L.cap) → len ≤ cap → aH w F G (.ref id off len) (.slice (some ⟨L.b, L.o + off, none⟩) len cap)
 | refe {G id off off' cap L} : G[id]? = some (some L) → off ≠ 0 → aH w F G (.ref id off 0) (.slice (some ⟨L.b, off', none⟩) 0 cap)
 | ref0 {G id} : G[id]? = some none → aH w F G (.ref id 0 0) (.slice none 0 0)
 | ptr {G id off L} : G[id]? = some (some L) → aH w F G (.ptr id off) (.pointer (some ⟨L.b, L.o + off, none⟩))
 | cp {G cs a vs} : F a.block → gD w a vs → aF w F [] cs vs → aH w F G (.cp cs) (.pointer (some a))
 | ag {G cs vs} : aF w F G cs vs → aH w F G (.ag cs) (.agg vs.toArray)
 | tup {G xs vs} : aF w F G xs vs → aH w F G (.tup xs) (.tuple vs.toArray)
 | fn {G f fs cs fvs cvs} : aF w F G fs fvs → aF w F G cs cvs → aH w F G (.fn f fs cs) (.func (.func f) fvs.toArray cvs.toArray)
 | mp {G es r ents clock} : F r → w.heap[r]? = some (.map ents clock) → eU w F es ents.toList → aH w F G (.mp es) (.map (some r))
 | mr {G id L} : G[id]? = some (some L) → aH w F G (.mr id) (.map (some L.b))
inductive aF (w : World) (F : Nat → Prop) : Gh → List AV → List Value → Prop
 | nil {G} : aF w F G [] []
 | cons {G x xs v vs} : aH w F G x v → aF w F G xs vs → aF w F G (x :: xs) (v :: vs)
inductive eU (w : World) (F : Nat → Prop) : List (Value × AV) → List MapEntry → Prop
 | nil : eU w F [] []
 | cons {k x es e ents} : e.key = k → aH w F [] x e.val → eU w F es ents → eU w F ((k, x) :: es) (e :: ents)
end
structure fQ (F F' : Nat → Prop) (w w' : World) : Prop where
 sub : ∀ b, F b → F' b
 heap : ∀ b, F b → w'.heap[b]? = w.heap[b]?
theorem gD.same {F F' w w' a vs} (h : fQ F F' w w') (hf : F a.block) (hr : gD w a vs) : gD w' a vs :=
 ⟨hr.1, fun i hi => (World.cell?_of_block (a := ⟨a.block, a.off + i, none⟩) (h.heap _ hf)).trans (hr.2.1 i hi), hr.2.2⟩
def bS (G G' : Gh) : Prop := ∀ (id : Nat) (x : Option bU), G[id]? = some x → G'[id]? = some x
theorem bS.refl (G : Gh) : bS G G := fun _ _ h => h
theorem bS.nil (G : Gh) : bS [] G := fun _ _ h => by simp at h
theorem bS.snoc (G : Gh) (x : Option bU) : bS G (G ++ [x]) := fun id y h => by
 rw [List.getElem?_append_left]; · exact h
 ·exact (List.getElem?_eq_some_iff.1 h).1
mutual
theorem aH.mono {F F' w w'} (h : fQ F F' w w') : ∀ {G G' x v}, bS G G' → aH w F G x v → aH w' F' G' x v
 | _, _, _, _, _, .v x => .v x
 | _, _, _, _, _, .junk x => .junk x
 | _, _, _, _, _, .un => .un
 | _, _, _, _, _, .sl0 => .sl0
 | _, _, _, _, _, .sl hf hn hr hs => .sl (h.sub _ hf) hn (hr.same h hf) (aF.mono h (bS.refl _) hs)
 | _, _, _, _, g, .ref hg hc hl => .ref (g _ _ hg) hc hl
 | _, _, _, _, g, .refe hg hc => .refe (g _ _ hg) hc
 | _, _, _, _, g, .ref0 hg => .ref0 (g _ _ hg)
 | _, _, _, _, g, .ptr hg => .ptr (g _ _ hg)
 | _, _, _, _, _, .cp hf hr hs => .cp (h.sub _ hf) (hr.same h hf) (aF.mono h (bS.refl _) hs)
 | _, _, _, _, g, .ag hs => .ag (aF.mono h g hs)
 | _, _, _, _, g, .tup hs => .tup (aF.mono h g hs)
 | _, _, _, _, g, .fn hs hs' => .fn (aF.mono h g hs) (aF.mono h g hs')
 | _, _, _, _, _, .mp hf hh hm => .mp (h.sub _ hf) ((h.heap _ hf).trans hh) (eU.mono h hm)
 | _, _, _, _, g, .mr hg => .mr (g _ _ hg)
theorem aF.mono {F F' w w'} (h : fQ F F' w w') : ∀ {G G' xs vs}, bS G G' → aF w F G xs vs → aF w' F' G' xs vs
 | _, _, _, _, _, .nil => .nil
 | _, _, _, _, g, .cons hx hs => .cons (aH.mono h g hx) (aF.mono h g hs)
theorem eU.mono {F F' w w'} (h : fQ F F' w w') : ∀ {es ents}, eU w F es ents → eU w' F' es ents
 | _, _, .nil => .nil
 | _, _, .cons hk hx hs => .cons hk (aH.mono h (bS.refl _) hx) (eU.mono h hs)
end
theorem aF.length {w F G xs vs} (h : aF w F G xs vs) : xs.length = vs.length := by
 induction xs generalizing vs with
 | nil => cases h; rfl
 | cons x xs ih => cases h with | cons _ hs => simp [ih hs]
theorem aF.append {w F G xs vs ys us} (h : aF w F G xs vs) (k : aF w F G ys us) : aF w F G (xs ++ ys) (vs ++ us) := by
 induction xs generalizing vs with
 | nil => cases h; exact k
 | cons x xs ih => cases h with | cons hx hs => exact .cons hx (ih hs)
theorem aF.drop {w F G xs vs} (n : Nat) (h : aF w F G xs vs) : aF w F G (xs.drop n) (vs.drop n) := by
 induction n generalizing xs vs with
 | zero => simpa using h
 | succ n ih => cases h with
  | nil => simpa using aF.nil
  | cons _ hs => simpa using ih hs
theorem aF.take {w F G xs vs} (n : Nat) (h : aF w F G xs vs) : aF w F G (xs.take n) (vs.take n) := by
 induction n generalizing xs vs with
 | zero => simpa using aF.nil
 | succ n ih => cases h with
  | nil => simpa using aF.nil
  | cons hx hs => simpa using aF.cons hx (ih hs)
theorem aF.nth {w F G xs vs} (h : aF w F G xs vs) (n : Nat) {v : Value} (hv : vs[n]? = some v) : aH w F G (nth xs n) v := by
 induction n generalizing xs vs with
 | zero => cases h with
  | nil => simp at hv
  | cons hx _ => simp at hv; subst hv; exact hx
 | succ n ih => cases h with
  | nil => simp at hv
  | cons _ hs => exact ih hs (by simpa using hv)
theorem aF.set {w F G xs vs} (h : aF w F G xs vs) (n : Nat) {x : AV} {v : Value} (hv : aH w F G x v) : aF w F G (nU xs n x) (vs.set n v) := by
 induction n generalizing xs vs with
 | zero => cases h with
  | nil => exact .nil
  | cons _ hs => exact .cons hv hs
 | succ n ih => cases h with
  | nil => exact .nil
  | cons hx hs => exact .cons hx (ih hs)
def slv (g : Option bU) (n : Nat) : Value := match g with | none => .slice none 0 0 | some L => .slice (some ⟨L.b, 0, none⟩) n L.cap
def eI (w : World) (b o : Nat) (vs : List Value) : Prop :=
 ∃ c e fz, w.heap[b]? = some (.cells c e fz) ∧ o + vs.length ≤ c.size ∧ (∀ i, i < vs.length → c[o + i]? = vs[i]?) ∧ (∀ i, i < vs.length → ¬ (fz.1 ≤ o + i ∧ o + i < fz.2)) ∧ ∀ u ∈ vs, u.oneCell' = true
def d6 (w : World) (F : Nat → Prop) (G : Gh) (g : Option bU) : Ob → Prop
 | .dead => True
 | .fence => g = none
 | .arr e sz cs => ∃ n vs, w.ownsRow 0 e sz (slv g n) n vs ∧ aF w F [] cs vs ∧ (∀ u ∈ vs, u.oneCell' = true) ∧ 0 < sz ∧ ∀ L, g = some L → L.o = 0
 | .row k _ cs => ∃ L vs, g = some L ∧ eI w L.b L.o vs ∧ aF w F (match k with | true => G | false => []) cs vs
 | .it s pos => ∃ L, g = some L ∧ w.heap[L.b]? = some (.stringIter ⟨s.toArray⟩ pos) ∧ L.o = 0
 | .mp es => ∃ L ents clock, g = some L ∧ w.heap[L.b]? = some (.map ents clock) ∧ eU w F es ents.toList ∧ L.o = 0
end Go.AE
