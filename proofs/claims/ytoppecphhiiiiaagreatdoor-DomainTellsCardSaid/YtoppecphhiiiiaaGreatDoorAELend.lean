/- A part of the abstract evaluator: no condition. -/
import Derived.Test.YtoppecphhiiiiaaGreatDoorAECallS
set_option linter.unusedVariables false
set_option linter.unusedSimpArgs false
namespace Go.AE
section
variable {N : Nat} {C : bI} {P : Program} {V : dJ} {w0 w w' : World} {s : St} {G : Gh} {F : Nat → Prop} {a : Act}
mutual
theorem aH.unren {w : World} {F : Nat → Prop} {G Gc : Gh} {ρ : Nat → Nat} {k : Nat} (hg : ∀ id, id < k → ∀ g, G[ρ id]? = some g → Gc[id]? = some g) :
  ∀ (x : AV) {v : Value}, below k x = true → aH w F G (ren ρ x) v → aH w F Gc x v
 | .v y, v, _, h => by cases h; exact .v _
 | .junk, v, _, h => .junk _
 | .un, v, _, h => by cases h; exact .un
 | .sl n cs, v, _, h => by
  cases h with
  | sl0 => exact .sl0
  | sl h1 h2 h3 h4 => exact .sl h1 h2 h3 h4
 | .ref id off n, v, hb, h => by
  have hi : id < k := by simpa [below] using hb
  have hg := hg id hi
  cases h with
  | ref h1 h2 h3 => exact .ref (hg _ h1) h2 h3
  | refe h1 h2 => exact .refe (hg _ h1) h2
  | ref0 h1 => exact .ref0 (hg _ h1)
 | .ptr id off, v, hb, h => by
  have hi : id < k := by simpa [below] using hb
  have hg := hg id hi
  cases h with | ptr h1 => exact .ptr (hg _ h1)
 | .mr id, v, hb, h => by
  have hi : id < k := by simpa [below] using hb
  have hg := hg id hi
  cases h with | mr h1 => exact .mr (hg _ h1)
 | .cp cs, v, _, h => by cases h with | cp h1 h2 h3 => exact .cp h1 h2 h3
 | .mp cs, v, _, h => by cases h with | mp h1 h2 h3 => exact .mp h1 h2 h3
 | .ag cs, v, hb, h => by cases h with | ag h1 => exact .ag (aF.unren hg cs (by simpa [below] using hb) h1)
 | .tup cs, v, hb, h => by cases h with | tup h1 => exact .tup (aF.unren hg cs (by simpa [below] using hb) h1)
 | .fn f p q, v, hb, h => by
  simp [below] at hb
  cases h with | fn h1 h2 => exact .fn (aF.unren hg p hb.1 h1) (aF.unren hg q hb.2 h2)
 | .own _ _ _ _, v, _, h => by cases h
 | .lend _ _ _, v, _, h => by cases h
 | .lptr _, v, _, h => by cases h
theorem aF.unren {w : World} {F : Nat → Prop} {G Gc : Gh} {ρ : Nat → Nat} {k : Nat} (hg : ∀ id, id < k → ∀ g, G[ρ id]? = some g → Gc[id]? = some g) :
  ∀ (xs : List AV) {vs : List Value}, belows k xs = true → aF w F G (rens ρ xs) vs → aF w F Gc xs vs
 | [], vs, _, h => by cases h; exact .nil
 | x :: l, vs, hb, h => by
  simp [belows] at hb
  cases h with | cons h1 h2 => exact .cons (aH.unren hg x hb.1 h1) (aF.unren hg l hb.2 h2)
end
mutual
theorem aH.ren {w : World} {F : Nat → Prop} {Gc G : Gh} {ρ : Nat → Nat} (hg : ∀ id g, Gc[id]? = some g → G[ρ id]? = some g) : ∀ {x : AV} {v : Value}, aH w F Gc x v → aH w F G (AE.ren ρ x) v
 | _, _, .v x => .v x
 | _, _, .junk x => .junk x
 | _, _, .un => .un
 | _, _, .sl0 => .sl0
 | _, _, .sl h1 h2 h3 h4 => .sl h1 h2 h3 h4
 | _, _, .ref h1 h2 h3 => .ref (hg _ _ h1) h2 h3
 | _, _, .refe h1 h2 => .refe (hg _ _ h1) h2
 | _, _, .ref0 h1 => .ref0 (hg _ _ h1)
 | _, _, .ptr h1 => .ptr (hg _ _ h1)
 | _, _, .cp h1 h2 h3 => .cp h1 h2 h3
 | _, _, .ag h1 => .ag (aF.ren hg h1)
 | _, _, .tup h1 => .tup (aF.ren hg h1)
 | _, _, .fn h1 h2 => .fn (aF.ren hg h1) (aF.ren hg h2)
 | _, _, .mp h1 h2 h3 => .mp h1 h2 h3
 | _, _, .mr h1 => .mr (hg _ _ h1)
theorem aF.ren {w : World} {F : Nat → Prop} {Gc G : Gh} {ρ : Nat → Nat} (hg : ∀ id g, Gc[id]? = some g → G[ρ id]? = some g) : ∀ {xs : List AV} {vs : List Value}, aF w F Gc xs vs → aF w F G (AE.rens ρ xs) vs
 | _, _, .nil => .nil
 | _, _, .cons h1 h2 => .cons (aH.ren hg h1) (aF.ren hg h2)
end
mutual
theorem aH.move {F' : Nat → Prop} {l : List Nat} {G G' : Gh} (hs : fQ F F' w w') (hg : ∀ id g, id ∉ l → G[id]? = some g → G'[id]? = some g) : ∀ {x : AV} {v : Value}, (∀ j ∈ l, aJ j x = false) → aH w F G x v → aH w' F' G' x v
 | _, _, _, .v x => .v x
 | _, _, _, .junk x => .junk x
 | _, _, _, .un => .un
 | _, _, _, .sl0 => .sl0
 | _, _, _, .sl hf hn hr hp => .sl (hs.sub _ hf) hn (hr.same hs hf) (aF.mono hs (bS.refl _) hp)
 | _, _, hh, .ref h1 h2 h3 => .ref (hg _ _ (fun hm => by simpa [aJ] using hh _ hm) h1) h2 h3
 | _, _, hh, .refe h1 h2 => .refe (hg _ _ (fun hm => by simpa [aJ] using hh _ hm) h1) h2
 | _, _, hh, .ref0 h1 => .ref0 (hg _ _ (fun hm => by simpa [aJ] using hh _ hm) h1)
 | _, _, hh, .ptr h1 => .ptr (hg _ _ (fun hm => by simpa [aJ] using hh _ hm) h1)
 | _, _, _, .cp hf hr hp => .cp (hs.sub _ hf) (hr.same hs hf) (aF.mono hs (bS.refl _) hp)
 | _, _, hh, .ag hp => .ag (aF.move hs hg (fun j hj => by simpa [aJ] using hh j hj) hp)
 | _, _, hh, .tup hp => .tup (aF.move hs hg (fun j hj => by simpa [aJ] using hh j hj) hp)
 | _, _, hh, .fn hp hp' => .fn (aF.move hs hg (fun j hj => by have := hh j hj; simp [aJ] at this; exact this.1) hp) (aF.move hs hg (fun j hj => by have := hh j hj; simp [aJ] at this; exact this.2) hp')
 | _, _, _, .mp hf h1 h2 => .mp (hs.sub _ hf) ((hs.heap _ hf).trans h1) (eU.mono hs h2)
 | _, _, hh, .mr h1 => .mr (hg _ _ (fun hm => by simpa [aJ] using hh _ hm) h1)
theorem aF.move {F' : Nat → Prop} {l : List Nat} {G G' : Gh} (hs : fQ F F' w w') (hg : ∀ id g, id ∉ l → G[id]? = some g → G'[id]? = some g) : ∀ {xs : List AV} {vs : List Value}, (∀ j ∈ l, fF j xs = false) → aF w F G xs vs → aF w' F' G' xs vs
 | _, _, _, .nil => .nil
 | _, _, hh, .cons h1 h2 => .cons (aH.move hs hg (fun j hj => by have := hh j hj; simp [fF] at this; exact this.1) h1) (aF.move hs hg (fun j hj => by have := hh j hj; simp [fF] at this; exact this.2) h2)
end
theorem SU (id : Nat) (x : AV) : aJ id (kF id x) = false := by
 unfold kF
 split
 ·rfl
 ·assumption
theorem SV {id j : Nat} {x : AV} (h : aJ j x = false) : aJ j (kF id x) = false := by
 unfold kF
 split
 ·rfl
 ·exact h
theorem zek (id : Nat) (cs : List AV) : fF id (j1 id cs) = false := by
 induction cs with
 | nil => rfl
 | cons x l ih => simp [j1, fF, SU, ih]
theorem zel {id j : Nat} {cs : List AV} (h : fF j cs = false) : fF j (j1 id cs) = false := by
 induction cs with
 | nil => rfl
 | cons x l ih => simp [fF] at h; simp [j1, fF, SV h.1, ih h.2]
theorem TM : ∀ (l : List Nat) (t : List (Nat × AV)) (k : Nat), (∀ j ∈ l, aJ j (get (kR l t) k) = false) ∧ ∀ j, aJ j (get t k) = false → aJ j (get (kR l t) k) = false
 | [], t, k => ⟨by simp, fun j h => h⟩
 | i :: l, t, k => by
  have ih := TM l (gO i t) k
  refine ⟨fun j hj => ?_, fun j h => ih.2 j ?_⟩
  ·rcases List.mem_cons.1 hj with rfl | hj
   ·exact ih.2 _ (by rw [yB]; exact SU _ _)
   ·exact ih.1 j hj
  ·rw [yB]; exact SV h
theorem yN : ∀ (l : List Nat) (m : List Ob), (eZ l m).length = m.length
 | [], m => rfl
 | i :: l, m => by rw [eZ, yN l, yU]
def pO : List Nat → Ob → Ob
 | [], o => o
 | j :: l, o => pO l (aR j o)
theorem pN : ∀ (l : List Nat) (m : List Ob) (k : Nat), obj (eZ l m) k = pO l (obj m k)
 | [], m, k => rfl
 | i :: l, m, k => by rw [eZ, pN l, oE, pO]
theorem CZ : ∀ (l : List Nat) (sz : Nat) (cs : List AV), ∃ cs', pO l (.row true sz cs) = .row true sz cs' ∧ cs'.length = cs.length ∧ (∀ j ∈ l, fF j cs' = false) ∧ ∀ j, fF j cs = false → fF j cs' = false
 | [], sz, cs => ⟨cs, rfl, rfl, by simp, fun _ h => h⟩
 | i :: l, sz, cs => by
  obtain ⟨cs', h1, h2, h3, h4⟩ := CZ l sz (j1 i cs)
  refine ⟨cs', by rw [pO]; exact h1, by rw [h2, D2], fun j hj => ?_, fun j h => h4 j (zel h)⟩
  rcases List.mem_cons.1 hj with rfl | hj
  ·exact h4 _ (zek _ _)
  ·exact h3 j hj
theorem qY {o : Ob} (ho : ∀ sz cs, o ≠ .row true sz cs) : ∀ (l : List Nat), pO l o = o
 | [] => rfl
 | i :: l => by
  have : aR i o = o := by
   cases o with
   | row k sz cs => cases k with
    | true => exact absurd rfl (ho sz cs)
    | false => rfl
   | _ => rfl
  rw [pO, this, qY ho l]
theorem aE.forgets : ∀ (l : List Nat) {s : St}, aE P N V w0 s G F a w → aE P N V w0 ⟨kR l s.t, eZ l s.m⟩ G F a w
 | [], s, h => h
 | i :: l, s, h => aE.forgets l (s := ⟨gO i s.t, eH i s.m⟩) (h.forget i)
end
end Go.AE
namespace Go.AE
section
variable {N : Nat} {C : bI} {P : Program} {V : dJ} {w0 w w' : World} {s : St} {G : Gh} {F : Nat → Prop} {a : Act}
def iU : Ob → Bool
 | .row _ _ _ => true
 | _ => false
theorem tL : ∀ (m : List Ob) (g : Gh) (b : Nat), b ∈ nN m g ↔ ∃ i L, g[i]? = some (some L) ∧ i < m.length ∧ iU (obj m i) = false ∧ L.b = b
 | [], g, b => by simp [nN]
 | o :: m, [], b => by cases o <;> simp [nN]
 | o :: m, x :: g, b => by
  have ih := tL m g b
  have step : (∃ i L, (x :: g)[i]? = some (some L) ∧ i < (o :: m).length ∧ iU (obj (o :: m) i) = false ∧ L.b = b) ↔
    ((∃ L, x = some L ∧ iU o = false ∧ L.b = b) ∨ ∃ i L, g[i]? = some (some L) ∧ i < m.length ∧ iU (obj m i) = false ∧ L.b = b) := by
   constructor
   ·rintro ⟨i, L, h1, h2, h3, h4⟩
    cases i with
    | zero => exact .inl ⟨L, by simpa using h1, by simpa [obj] using h3, h4⟩
    | succ i => exact .inr ⟨i, L, by simpa using h1, by simpa using h2, by simpa [obj] using h3, h4⟩
   ·rintro (⟨L, h1, h3, h4⟩ | ⟨i, L, h1, h2, h3, h4⟩)
    ·exact ⟨0, L, by simp [h1], by simp, by simpa [obj] using h3, h4⟩
    ·exact ⟨i + 1, L, by simpa using h1, by simpa using h2, by simpa [obj] using h3, h4⟩
  rw [step, ← ih]
  cases o with
  | row k sz cs => cases x <;> simp [nN, iU]
  | _ => cases x <;> simp [nN, iU, eq_comm]
theorem lS : ∀ (m : List Ob) (g : Gh) (r : lD), r ∈ lR m g ↔ ∃ i L k sz cs, g[i]? = some (some L) ∧ obj m i = .row k sz cs ∧ r = ⟨L.b, L.o, L.o + cs.length⟩
 | [], g, b => by simp [lR, obj]
 | o :: m, [], b => by cases o <;> simp [lR]
 | o :: m, x :: g, r => by
  have ih := lS m g r
  have step : (∃ i L k sz cs, (x :: g)[i]? = some (some L) ∧ obj (o :: m) i = .row k sz cs ∧ r = ⟨L.b, L.o, L.o + cs.length⟩) ↔
    ((∃ L k sz cs, x = some L ∧ o = .row k sz cs ∧ r = ⟨L.b, L.o, L.o + cs.length⟩) ∨ ∃ i L k sz cs, g[i]? = some (some L) ∧ obj m i = .row k sz cs ∧ r = ⟨L.b, L.o, L.o + cs.length⟩) := by
   constructor
   ·rintro ⟨i, L, k, sz, cs, h1, h2, h3⟩
    cases i with
    | zero => exact .inl ⟨L, k, sz, cs, by simpa using h1, by simpa [obj] using h2, h3⟩
    | succ i => exact .inr ⟨i, L, k, sz, cs, by simpa using h1, by simpa [obj] using h2, h3⟩
   ·rintro (⟨L, k, sz, cs, h1, h2, h3⟩ | ⟨i, L, k, sz, cs, h1, h2, h3⟩)
    ·exact ⟨0, L, k, sz, cs, by simp [h1], by simpa [obj] using h2, h3⟩
    ·exact ⟨i + 1, L, k, sz, cs, by simpa using h1, by simpa [obj] using h2, h3⟩
  rw [step, ← ih]
  cases o with
  | row k sz cs =>
   cases x with
   | none => simp [lR]
   | some L =>
    simp only [lR, List.mem_cons]
    constructor
    ·rintro (h | h)
     ·exact .inl ⟨L, k, sz, cs, rfl, rfl, h⟩
     ·exact .inr h
    ·rintro (⟨L', k', sz', cs', h1, h2, h3⟩ | h)
     ·simp at h1 h2; obtain ⟨rfl, rfl, rfl⟩ := h2; subst h1; exact .inl h3
     ·exact .inr h
  | _ => cases x <;> simp [lR]
theorem vZ : ∀ (m : List Ob) (g : Gh) (i : Nat) (x : Option bU), rG m g i = some x ↔ (g[i]? = some x ∧ iU (obj m i) = true)
 | [], g, i, x => by simp [rG, obj, iU]
 | o :: m, [], i, x => by cases o <;> cases i <;> simp [rG]
 | o :: m, y :: g, 0, x => by cases o <;> simp [rG, obj, iU]
 | o :: m, y :: g, i + 1, x => by
  have ih := vZ m g i x
  cases o <;> simp [rG, obj, ih]
theorem tO : ∀ (σ : List Nat) (n i : Nat) (h : i < σ.length), cY σ n i = σ[i]
 | [], n, i, h => by simp at h
 | x :: σ, n, 0, h => rfl
 | x :: σ, n, i + 1, h => by simpa [cY] using tO σ n i (by simpa using h)
theorem ZN : ∀ (σ : List Nat) (n i : Nat), cY σ n (σ.length + i) = n + i
 | [], n, i => by simp [cY]
 | x :: σ, n, i => by
  have := ZN σ n i
  rw [show (x :: σ).length + i = (σ.length + i) + 1 by simp; omega]
  exact this
theorem DB : ∀ {σ : List Nat}, fZ σ = true → ∀ (i j : Nat) (hi : i < σ.length) (hj : j < σ.length), σ[i] = σ[j] → i = j
 | [], _, i, j, hi, _, _ => by simp at hi
 | x :: σ, h, i, j, hi, hj, e => by
  simp [fZ] at h
  cases i with
  | zero => cases j with
   | zero => rfl
   | succ j => simp at e; exact absurd (e ▸ List.getElem_mem _) h.1
  | succ i => cases j with
   | zero => simp at e; exact absurd (e ▸ List.getElem_mem _) h.1
   | succ j => have := DB h.2 i j (by simpa using hi) (by simpa using hj) (by simpa using e); omega
theorem yS {k : Nat} {ρ : Nat → Nat} {m : List Ob} : ∀ {σ : List Nat} {m0 : List Ob}, aT k ρ m σ m0 → σ.length = m0.length ∧ ∀ i (h : i < σ.length), aU k ρ (obj m σ[i]) (obj m0 i)
 | [], [], _ => ⟨rfl, by simp⟩
 | [], _ :: _, h => h.elim
 | _ :: _, [], h => h.elim
 | j :: σ, o :: m0, h => by
  obtain ⟨h1, h2⟩ := yS h.2
  refine ⟨by simp [h1], fun i hi => ?_⟩
  cases i with
  | zero => simpa [obj] using h.1
  | succ i => simpa [obj] using h2 i (by simpa using hi)
theorem UE : ∀ {m0 m1 : List Ob}, j2 m0 m1 = true → m0.length ≤ m1.length ∧ ∀ i, i < m0.length → aS (obj m0 i) (obj m1 i) = true
 | [], m1, _ => ⟨by simp, by simp⟩
 | o :: m0, [], h => by simp [j2] at h
 | o :: m0, p :: m1, h => by
  simp [j2] at h
  obtain ⟨h1, h2⟩ := UE h.2
  refine ⟨by simpa using h1, fun i hi => ?_⟩
  cases i with
  | zero => simpa [obj] using h.1
  | succ i => simpa [obj] using h2 i (by simpa using hi)
theorem SS : ∀ (σ : List Nat) (m0 : List Ob) (j : Nat), j ∈ aN σ m0 → ∃ i, ∃ h : i < σ.length, σ[i] = j ∧ ∃ e sz cs, obj m0 i = .arr e sz cs
 | [], m0, j, h => by simp [aN] at h
 | _ :: _, [], j, h => by simp [aN] at h
 | x :: σ, o :: m0, j, h => by
  have rest : j ∈ aN σ m0 → ∃ i, ∃ h : i < (x :: σ).length, (x :: σ)[i] = j ∧ ∃ e sz cs, obj (o :: m0) i = .arr e sz cs := fun h => by
   obtain ⟨i, h1, h2, h3⟩ := SS σ m0 j h
   exact ⟨i + 1, by simpa using h1, by simpa using h2, by simpa [obj] using h3⟩
  cases o with
  | arr e sz cs =>
   simp only [aN, List.mem_cons] at h
   rcases h with rfl | h
   ·exact ⟨0, by simp, rfl, e, sz, cs, rfl⟩
   ·exact rest h
  | _ => exact rest (by simpa [aN] using h)
theorem SR : ∀ (σ : List Nat) (m0 : List Ob) (i : Nat) (h : i < σ.length) {e sz : Nat} {cs : List AV}, obj m0 i = .arr e sz cs → σ[i] ∈ aN σ m0
 | [], m0, i, h, _, _, _, _ => by simp at h
 | _ :: _, [], i, h, _, _, _, ho => by simp [obj] at ho
 | x :: σ, o :: m0, 0, h, _, _, _, ho => by simp only [obj] at ho; subst ho; simp [aN]
 | x :: σ, o :: m0, i + 1, h, _, _, _, ho => by
  have := SR σ m0 i (by simpa using h) (by simpa [obj] using ho)
  cases o <;> simp [aN, this]
theorem FT (ρ : Nat → Nat) : ∀ (σ : List Nat) (m m1 : List Ob), (aP ρ m σ m1).length = m.length
 | [], m, m1 => by cases m1 <;> rfl
 | _ :: _, m, [] => rfl
 | j :: σ, m, o :: m1 => by rw [aP, FT ρ σ, yV]
theorem z1a (m : List Ob) (id k : Nat) (o : Ob) (h : k ≠ id) : obj (cD m id o) k = obj m k := by
 induction m generalizing id k with
 | nil => rfl
 | cons x l ih => cases id with
  | zero => cases k with
   | zero => exact absurd rfl h
   | succ k => rfl
  | succ id => cases k with
   | zero => rfl
   | succ k => simp only [cD, obj]; exact ih _ _ (by omega)
theorem FU (ρ : Nat → Nat) : ∀ (σ : List Nat) (m m1 : List Ob) (j : Nat), j ∉ σ → obj (aP ρ m σ m1) j = obj m j
 | [], m, m1, j, _ => by cases m1 <;> rfl
 | _ :: _, m, [], j, _ => rfl
 | x :: σ, m, o :: m1, j, h => by
  simp at h
  rw [aP, FU ρ σ _ m1 j h.2, z1a _ _ _ _ h.1]
theorem z3a (ρ : Nat → Nat) : ∀ (σ : List Nat) (m m1 : List Ob) (i : Nat) (h : i < σ.length), fZ σ = true → (∀ j ∈ σ, j < m.length) → i < m1.length → obj (aP ρ m σ m1) σ[i] = aX (obj m σ[i]) (renO ρ (obj m1 i))
 | [], m, m1, i, h, _, _, _ => by simp at h
 | _ :: _, m, [], i, h, _, _, h1 => by simp at h1
 | x :: σ, m, o :: m1, 0, h, hn, hlt, h1 => by
  simp [fZ] at hn
  rw [aP, List.getElem_cons_zero, FU ρ σ _ m1 x hn.1, oF _ _ _ _ (hlt x (by simp)), if_pos rfl]
  rfl
 | x :: σ, m, o :: m1, i + 1, h, hn, hlt, h1 => by
  simp [fZ] at hn
  have hne : σ[i]'(by simpa using h) ≠ x := fun e => hn.1 (e ▸ List.getElem_mem _)
  rw [aP]
  simp only [List.getElem_cons_succ]
  rw [z3a ρ σ _ m1 i (by simpa using h) hn.2 (fun j hj => by rw [yV]; exact hlt j (by simp [hj])) (by simpa using h1), z1a _ _ _ _ hne]
  rfl
end
end Go.AE
