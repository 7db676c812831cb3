/- A part of the abstract evaluator: no condition. -/
import Derived.Test.YteidmpcdcfoncaaDoorAECallS
set_option linter.unusedVariables false
set_option linter.unusedSimpArgs false
/- Calls to which objects are lent or given: the callee's state out of the caller's, and back. -/
namespace Go.AE

section
variable {N : Nat} {C : Ctx} {P : Program} {V : Given} {w0 w w' : World} {s : St} {G : Gh} {F : Nat → Prop} {a : Act}

/-! ### Names -/
mutual
theorem Rep.unren {w : World} {F : Nat → Prop} {G Gc : Gh} {ρ : Nat → Nat} {k : Nat} (hg : ∀ id, id < k → ∀ g, G[ρ id]? = some g → Gc[id]? = some g) :
    ∀ (x : AV) {v : Value}, below k x = true → Rep w F G (ren ρ x) v → Rep w F Gc x v
  | .v y, v, _, h => by cases h; exact .v _
  | .junk, v, _, h => .junk _
  | .un, v, _, h => by cases h; exact .un
  | .sl n cs, v, _, h => by
    cases h with
    | sl0 => exact .sl0
    | sl h1 h2 h3 h4 => exact .sl h1 h2 h3 h4
  | .ref id off n, v, hb, h => by
    have hi : id < k := by simpa [below] using hb
    have hg := hg id hi
    cases h with
    | ref h1 h2 h3 => exact .ref (hg _ h1) h2 h3
    | refe h1 h2 => exact .refe (hg _ h1) h2
    | ref0 h1 => exact .ref0 (hg _ h1)
  | .ptr id off, v, hb, h => by
    have hi : id < k := by simpa [below] using hb
    have hg := hg id hi
    cases h with | ptr h1 => exact .ptr (hg _ h1)
  | .mr id, v, hb, h => by
    have hi : id < k := by simpa [below] using hb
    have hg := hg id hi
    cases h with | mr h1 => exact .mr (hg _ h1)
  | .cp cs, v, _, h => by cases h with | cp h1 h2 h3 => exact .cp h1 h2 h3
  | .mp cs, v, _, h => by cases h with | mp h1 h2 h3 => exact .mp h1 h2 h3
  | .ag cs, v, hb, h => by cases h with | ag h1 => exact .ag (Reps.unren hg cs (by simpa [below] using hb) h1)
  | .tup cs, v, hb, h => by cases h with | tup h1 => exact .tup (Reps.unren hg cs (by simpa [below] using hb) h1)
  | .fn f p q, v, hb, h => by
    simp [below] at hb
    cases h with | fn h1 h2 => exact .fn (Reps.unren hg p hb.1 h1) (Reps.unren hg q hb.2 h2)
  | .own _ _ _ _, v, _, h => by cases h
  | .lend _ _ _, v, _, h => by cases h
  | .lptr _, v, _, h => by cases h
theorem Reps.unren {w : World} {F : Nat → Prop} {G Gc : Gh} {ρ : Nat → Nat} {k : Nat} (hg : ∀ id, id < k → ∀ g, G[ρ id]? = some g → Gc[id]? = some g) :
    ∀ (xs : List AV) {vs : List Value}, belows k xs = true → Reps w F G (rens ρ xs) vs → Reps w F Gc xs vs
  | [], vs, _, h => by cases h; exact .nil
  | x :: l, vs, hb, h => by
    simp [belows] at hb
    cases h with | cons h1 h2 => exact .cons (Rep.unren hg x hb.1 h1) (Reps.unren hg l hb.2 h2)
end

mutual
theorem Rep.ren {w : World} {F : Nat → Prop} {Gc G : Gh} {ρ : Nat → Nat} (hg : ∀ id g, Gc[id]? = some g → G[ρ id]? = some g) : ∀ {x : AV} {v : Value}, Rep w F Gc x v → Rep w F G (AE.ren ρ x) v
  | _, _, .v x => .v x
  | _, _, .junk x => .junk x
  | _, _, .un => .un
  | _, _, .sl0 => .sl0
  | _, _, .sl h1 h2 h3 h4 => .sl h1 h2 h3 h4
  | _, _, .ref h1 h2 h3 => .ref (hg _ _ h1) h2 h3
  | _, _, .refe h1 h2 => .refe (hg _ _ h1) h2
  | _, _, .ref0 h1 => .ref0 (hg _ _ h1)
  | _, _, .ptr h1 => .ptr (hg _ _ h1)
  | _, _, .cp h1 h2 h3 => .cp h1 h2 h3
  | _, _, .ag h1 => .ag (Reps.ren hg h1)
  | _, _, .tup h1 => .tup (Reps.ren hg h1)
  | _, _, .fn h1 h2 => .fn (Reps.ren hg h1) (Reps.ren hg h2)
  | _, _, .mp h1 h2 h3 => .mp h1 h2 h3
  | _, _, .mr h1 => .mr (hg _ _ h1)
theorem Reps.ren {w : World} {F : Nat → Prop} {Gc G : Gh} {ρ : Nat → Nat} (hg : ∀ id g, Gc[id]? = some g → G[ρ id]? = some g) : ∀ {xs : List AV} {vs : List Value}, Reps w F Gc xs vs → Reps w F G (AE.rens ρ xs) vs
  | _, _, .nil => .nil
  | _, _, .cons h1 h2 => .cons (Rep.ren hg h1) (Reps.ren hg h2)
end

mutual
theorem Rep.move {F' : Nat → Prop} {l : List Nat} {G G' : Gh} (hs : Same F F' w w') (hg : ∀ id g, id ∉ l → G[id]? = some g → G'[id]? = some g) : ∀ {x : AV} {v : Value}, (∀ j ∈ l, hasId j x = false) → Rep w F G x v → Rep w' F' G' x v
  | _, _, _, .v x => .v x
  | _, _, _, .junk x => .junk x
  | _, _, _, .un => .un
  | _, _, _, .sl0 => .sl0
  | _, _, _, .sl hf hn hr hp => .sl (hs.sub _ hf) hn (hr.same hs hf) (Reps.mono hs (GSub.refl _) hp)
  | _, _, hh, .ref h1 h2 h3 => .ref (hg _ _ (fun hm => by simpa [hasId] using hh _ hm) h1) h2 h3
  | _, _, hh, .refe h1 h2 => .refe (hg _ _ (fun hm => by simpa [hasId] using hh _ hm) h1) h2
  | _, _, hh, .ref0 h1 => .ref0 (hg _ _ (fun hm => by simpa [hasId] using hh _ hm) h1)
  | _, _, hh, .ptr h1 => .ptr (hg _ _ (fun hm => by simpa [hasId] using hh _ hm) h1)
  | _, _, _, .cp hf hr hp => .cp (hs.sub _ hf) (hr.same hs hf) (Reps.mono hs (GSub.refl _) hp)
  | _, _, hh, .ag hp => .ag (Reps.move hs hg (fun j hj => by simpa [hasId] using hh j hj) hp)
  | _, _, hh, .tup hp => .tup (Reps.move hs hg (fun j hj => by simpa [hasId] using hh j hj) hp)
  | _, _, hh, .fn hp hp' => .fn (Reps.move hs hg (fun j hj => by have := hh j hj; simp [hasId] at this; exact this.1) hp) (Reps.move hs hg (fun j hj => by have := hh j hj; simp [hasId] at this; exact this.2) hp')
  | _, _, _, .mp hf h1 h2 => .mp (hs.sub _ hf) ((hs.heap _ hf).trans h1) (MReps.mono hs h2)
  | _, _, hh, .mr h1 => .mr (hg _ _ (fun hm => by simpa [hasId] using hh _ hm) h1)
theorem Reps.move {F' : Nat → Prop} {l : List Nat} {G G' : Gh} (hs : Same F F' w w') (hg : ∀ id g, id ∉ l → G[id]? = some g → G'[id]? = some g) : ∀ {xs : List AV} {vs : List Value}, (∀ j ∈ l, hasIds j xs = false) → Reps w F G xs vs → Reps w' F' G' xs vs
  | _, _, _, .nil => .nil
  | _, _, hh, .cons h1 h2 => .cons (Rep.move hs hg (fun j hj => by have := hh j hj; simp [hasIds] at this; exact this.1) h1) (Reps.move hs hg (fun j hj => by have := hh j hj; simp [hasIds] at this; exact this.2) h2)
end

/-! ### Names that are forgotten -/
theorem hasId_killX (id : Nat) (x : AV) : hasId id (killX id x) = false := by
  unfold killX
  split
  · rfl
  · assumption
theorem hasId_killX' {id j : Nat} {x : AV} (h : hasId j x = false) : hasId j (killX id x) = false := by
  unfold killX
  split
  · rfl
  · exact h
theorem hasIds_killCs (id : Nat) (cs : List AV) : hasIds id (killCs id cs) = false := by
  induction cs with
  | nil => rfl
  | cons x l ih => simp [killCs, hasIds, hasId_killX, ih]
theorem hasIds_killCs' {id j : Nat} {cs : List AV} (h : hasIds j cs = false) : hasIds j (killCs id cs) = false := by
  induction cs with
  | nil => rfl
  | cons x l ih => simp [hasIds] at h; simp [killCs, hasIds, hasId_killX' h.1, ih h.2]

theorem killTs_get : ∀ (l : List Nat) (t : List (Nat × AV)) (k : Nat), (∀ j ∈ l, hasId j (get (killTs l t) k) = false) ∧ ∀ j, hasId j (get t k) = false → hasId j (get (killTs l t) k) = false
  | [], t, k => ⟨by simp, fun j h => h⟩
  | i :: l, t, k => by
    have ih := killTs_get l (killT i t) k
    refine ⟨fun j hj => ?_, fun j h => ih.2 j ?_⟩
    · rcases List.mem_cons.1 hj with rfl | hj
      · exact ih.2 _ (by rw [get_killT]; exact hasId_killX _ _)
      · exact ih.1 j hj
    · rw [get_killT]; exact hasId_killX' h

theorem killMs_len : ∀ (l : List Nat) (m : List Ob), (killMs l m).length = m.length
  | [], m => rfl
  | i :: l, m => by rw [killMs, killMs_len l, length_killM]

def killOs : List Nat → Ob → Ob
  | [], o => o
  | j :: l, o => killOs l (killO j o)

theorem killMs_obj : ∀ (l : List Nat) (m : List Ob) (k : Nat), obj (killMs l m) k = killOs l (obj m k)
  | [], m, k => rfl
  | i :: l, m, k => by rw [killMs, killMs_obj l, obj_killM, killOs]

theorem killOs_row : ∀ (l : List Nat) (sz : Nat) (cs : List AV), ∃ cs', killOs l (.row true sz cs) = .row true sz cs' ∧ cs'.length = cs.length ∧ (∀ j ∈ l, hasIds j cs' = false) ∧ ∀ j, hasIds j cs = false → hasIds j cs' = false
  | [], sz, cs => ⟨cs, rfl, rfl, by simp, fun _ h => h⟩
  | i :: l, sz, cs => by
    obtain ⟨cs', h1, h2, h3, h4⟩ := killOs_row l sz (killCs i cs)
    refine ⟨cs', by rw [killOs]; exact h1, by rw [h2, length_killCs], fun j hj => ?_, fun j h => h4 j (hasIds_killCs' h)⟩
    rcases List.mem_cons.1 hj with rfl | hj
    · exact h4 _ (hasIds_killCs _ _)
    · exact h3 j hj

theorem killOs_other {o : Ob} (ho : ∀ sz cs, o ≠ .row true sz cs) : ∀ (l : List Nat), killOs l o = o
  | [] => rfl
  | i :: l => by
    have : killO i o = o := by
      cases o with
      | row k sz cs => cases k with
        | true => exact absurd rfl (ho sz cs)
        | false => rfl
      | _ => rfl
    rw [killOs, this, killOs_other ho l]

theorem Rel.forgets : ∀ (l : List Nat) {s : St}, Rel P N V w0 s G F a w → Rel P N V w0 ⟨killTs l s.t, killMs l s.m⟩ G F a w
  | [], s, h => h
  | i :: l, s, h => Rel.forgets l (s := ⟨killT i s.t, killM i s.m⟩) (h.forget i)

end
end Go.AE
namespace Go.AE
section
variable {N : Nat} {C : Ctx} {P : Program} {V : Given} {w0 w w' : World} {s : St} {G : Gh} {F : Nat → Prop} {a : Act}

/-! ### Lists of what is lent -/
def isRow : Ob → Bool
  | .row _ _ _ => true
  | _ => false

theorem ownsL_mem : ∀ (m : List Ob) (g : Gh) (b : Nat), b ∈ ownsL m g ↔ ∃ i L, g[i]? = some (some L) ∧ i < m.length ∧ isRow (obj m i) = false ∧ L.b = b
  | [], g, b => by simp [ownsL]
  | o :: m, [], b => by cases o <;> simp [ownsL]
  | o :: m, x :: g, b => by
    have ih := ownsL_mem m g b
    have step : (∃ i L, (x :: g)[i]? = some (some L) ∧ i < (o :: m).length ∧ isRow (obj (o :: m) i) = false ∧ L.b = b) ↔
        ((∃ L, x = some L ∧ isRow o = false ∧ L.b = b) ∨ ∃ i L, g[i]? = some (some L) ∧ i < m.length ∧ isRow (obj m i) = false ∧ L.b = b) := by
      constructor
      · rintro ⟨i, L, h1, h2, h3, h4⟩
        cases i with
        | zero => exact .inl ⟨L, by simpa using h1, by simpa [obj] using h3, h4⟩
        | succ i => exact .inr ⟨i, L, by simpa using h1, by simpa using h2, by simpa [obj] using h3, h4⟩
      · rintro (⟨L, h1, h3, h4⟩ | ⟨i, L, h1, h2, h3, h4⟩)
        · exact ⟨0, L, by simp [h1], by simp, by simpa [obj] using h3, h4⟩
        · exact ⟨i + 1, L, by simpa using h1, by simpa using h2, by simpa [obj] using h3, h4⟩
    rw [step, ← ih]
    cases o with
    | row k sz cs => cases x <;> simp [ownsL, isRow]
    | _ => cases x <;> simp [ownsL, isRow, eq_comm]

theorem regsL_mem : ∀ (m : List Ob) (g : Gh) (r : Reg), r ∈ regsL m g ↔ ∃ i L k sz cs, g[i]? = some (some L) ∧ obj m i = .row k sz cs ∧ r = ⟨L.b, L.o, L.o + cs.length⟩
  | [], g, b => by simp [regsL, obj]
  | o :: m, [], b => by cases o <;> simp [regsL]
  | o :: m, x :: g, r => by
    have ih := regsL_mem m g r
    have step : (∃ i L k sz cs, (x :: g)[i]? = some (some L) ∧ obj (o :: m) i = .row k sz cs ∧ r = ⟨L.b, L.o, L.o + cs.length⟩) ↔
        ((∃ L k sz cs, x = some L ∧ o = .row k sz cs ∧ r = ⟨L.b, L.o, L.o + cs.length⟩) ∨ ∃ i L k sz cs, g[i]? = some (some L) ∧ obj m i = .row k sz cs ∧ r = ⟨L.b, L.o, L.o + cs.length⟩) := by
      constructor
      · rintro ⟨i, L, k, sz, cs, h1, h2, h3⟩
        cases i with
        | zero => exact .inl ⟨L, k, sz, cs, by simpa using h1, by simpa [obj] using h2, h3⟩
        | succ i => exact .inr ⟨i, L, k, sz, cs, by simpa using h1, by simpa [obj] using h2, h3⟩
      · rintro (⟨L, k, sz, cs, h1, h2, h3⟩ | ⟨i, L, k, sz, cs, h1, h2, h3⟩)
        · exact ⟨0, L, k, sz, cs, by simp [h1], by simpa [obj] using h2, h3⟩
        · exact ⟨i + 1, L, k, sz, cs, by simpa using h1, by simpa [obj] using h2, h3⟩
    rw [step, ← ih]
    cases o with
    | row k sz cs =>
      cases x with
      | none => simp [regsL]
      | some L =>
        simp only [regsL, List.mem_cons]
        constructor
        · rintro (h | h)
          · exact .inl ⟨L, k, sz, cs, rfl, rfl, h⟩
          · exact .inr h
        · rintro (⟨L', k', sz', cs', h1, h2, h3⟩ | h)
          · simp at h1 h2; obtain ⟨rfl, rfl, rfl⟩ := h2; subst h1; exact .inl h3
          · exact .inr h
    | _ => cases x <;> simp [regsL]

theorem pinL_some : ∀ (m : List Ob) (g : Gh) (i : Nat) (x : Option Loc), pinL m g i = some x ↔ (g[i]? = some x ∧ isRow (obj m i) = true)
  | [], g, i, x => by simp [pinL, obj, isRow]
  | o :: m, [], i, x => by cases o <;> cases i <;> simp [pinL]
  | o :: m, y :: g, 0, x => by cases o <;> simp [pinL, obj, isRow]
  | o :: m, y :: g, i + 1, x => by
    have ih := pinL_some m g i x
    cases o <;> simp [pinL, obj, ih]

theorem renF_lt : ∀ (σ : List Nat) (n i : Nat) (h : i < σ.length), renF σ n i = σ[i]
  | [], n, i, h => by simp at h
  | x :: σ, n, 0, h => rfl
  | x :: σ, n, i + 1, h => by simpa [renF] using renF_lt σ n i (by simpa using h)

theorem renF_ge : ∀ (σ : List Nat) (n i : Nat), renF σ n (σ.length + i) = n + i
  | [], n, i => by simp [renF]
  | x :: σ, n, i => by
    have := renF_ge σ n i
    rw [show (x :: σ).length + i = (σ.length + i) + 1 by simp; omega]
    exact this

theorem nodupN_inj : ∀ {σ : List Nat}, nodupN σ = true → ∀ (i j : Nat) (hi : i < σ.length) (hj : j < σ.length), σ[i] = σ[j] → i = j
  | [], _, i, j, hi, _, _ => by simp at hi
  | x :: σ, h, i, j, hi, hj, e => by
    simp [nodupN] at h
    cases i with
    | zero => cases j with
      | zero => rfl
      | succ j => simp at e; exact absurd (e ▸ List.getElem_mem _) h.1
    | succ i => cases j with
      | zero => simp at e; exact absurd (e ▸ List.getElem_mem _) h.1
      | succ j => have := nodupN_inj h.2 i j (by simpa using hi) (by simpa using hj) (by simpa using e); omega

theorem lendObs_get {k : Nat} {ρ : Nat → Nat} {m : List Ob} : ∀ {σ : List Nat} {m0 : List Ob}, lendObs k ρ m σ m0 → σ.length = m0.length ∧ ∀ i (h : i < σ.length), lendOb k ρ (obj m σ[i]) (obj m0 i)
  | [], [], _ => ⟨rfl, by simp⟩
  | [], _ :: _, h => h.elim
  | _ :: _, [], h => h.elim
  | j :: σ, o :: m0, h => by
    obtain ⟨h1, h2⟩ := lendObs_get h.2
    refine ⟨by simp [h1], fun i hi => ?_⟩
    cases i with
    | zero => simpa [obj] using h.1
    | succ i => simpa [obj] using h2 i (by simpa using hi)

theorem kindsOk_get : ∀ {m0 m1 : List Ob}, kindsOk m0 m1 = true → m0.length ≤ m1.length ∧ ∀ i, i < m0.length → kindOk (obj m0 i) (obj m1 i) = true
  | [], m1, _ => ⟨by simp, by simp⟩
  | o :: m0, [], h => by simp [kindsOk] at h
  | o :: m0, p :: m1, h => by
    simp [kindsOk] at h
    obtain ⟨h1, h2⟩ := kindsOk_get h.2
    refine ⟨by simpa using h1, fun i hi => ?_⟩
    cases i with
    | zero => simpa [obj] using h.1
    | succ i => simpa [obj] using h2 i (by simpa using hi)

theorem givL_mem : ∀ (σ : List Nat) (m0 : List Ob) (j : Nat), j ∈ givL σ m0 → ∃ i, ∃ h : i < σ.length, σ[i] = j ∧ ∃ e sz cs, obj m0 i = .arr e sz cs
  | [], m0, j, h => by simp [givL] at h
  | _ :: _, [], j, h => by simp [givL] at h
  | x :: σ, o :: m0, j, h => by
    have rest : j ∈ givL σ m0 → ∃ i, ∃ h : i < (x :: σ).length, (x :: σ)[i] = j ∧ ∃ e sz cs, obj (o :: m0) i = .arr e sz cs := fun h => by
      obtain ⟨i, h1, h2, h3⟩ := givL_mem σ m0 j h
      exact ⟨i + 1, by simpa using h1, by simpa using h2, by simpa [obj] using h3⟩
    cases o with
    | arr e sz cs =>
      simp only [givL, List.mem_cons] at h
      rcases h with rfl | h
      · exact ⟨0, by simp, rfl, e, sz, cs, rfl⟩
      · exact rest h
    | _ => exact rest (by simpa [givL] using h)

theorem givL_in : ∀ (σ : List Nat) (m0 : List Ob) (i : Nat) (h : i < σ.length) {e sz : Nat} {cs : List AV}, obj m0 i = .arr e sz cs → σ[i] ∈ givL σ m0
  | [], m0, i, h, _, _, _, _ => by simp at h
  | _ :: _, [], i, h, _, _, _, ho => by simp [obj] at ho
  | x :: σ, o :: m0, 0, h, _, _, _, ho => by simp only [obj] at ho; subst ho; simp [givL]
  | x :: σ, o :: m0, i + 1, h, _, _, _, ho => by
    have := givL_in σ m0 i (by simpa using h) (by simpa [obj] using ho)
    cases o <;> simp [givL, this]

theorem updM_len (ρ : Nat → Nat) : ∀ (σ : List Nat) (m m1 : List Ob), (updM ρ m σ m1).length = m.length
  | [], m, m1 => by cases m1 <;> rfl
  | _ :: _, m, [] => rfl
  | j :: σ, m, o :: m1 => by rw [updM, updM_len ρ σ, length_setOb]

theorem setOb_ge (m : List Ob) (id k : Nat) (o : Ob) (h : k ≠ id) : obj (setOb m id o) k = obj m k := by
  induction m generalizing id k with
  | nil => rfl
  | cons x l ih => cases id with
    | zero => cases k with
      | zero => exact absurd rfl h
      | succ k => rfl
    | succ id => cases k with
      | zero => rfl
      | succ k => simp only [setOb, obj]; exact ih _ _ (by omega)

theorem updM_out (ρ : Nat → Nat) : ∀ (σ : List Nat) (m m1 : List Ob) (j : Nat), j ∉ σ → obj (updM ρ m σ m1) j = obj m j
  | [], m, m1, j, _ => by cases m1 <;> rfl
  | _ :: _, m, [], j, _ => rfl
  | x :: σ, m, o :: m1, j, h => by
    simp at h
    rw [updM, updM_out ρ σ _ m1 j h.2, setOb_ge _ _ _ _ h.1]

theorem updM_in (ρ : Nat → Nat) : ∀ (σ : List Nat) (m m1 : List Ob) (i : Nat) (h : i < σ.length), nodupN σ = true → (∀ j ∈ σ, j < m.length) → i < m1.length → obj (updM ρ m σ m1) σ[i] = backO (obj m σ[i]) (renO ρ (obj m1 i))
  | [], m, m1, i, h, _, _, _ => by simp at h
  | _ :: _, m, [], i, h, _, _, h1 => by simp at h1
  | x :: σ, m, o :: m1, 0, h, hn, hlt, h1 => by
    simp [nodupN] at hn
    rw [updM, List.getElem_cons_zero, updM_out ρ σ _ m1 x hn.1, obj_setOb _ _ _ _ (hlt x (by simp)), if_pos rfl]
    rfl
  | x :: σ, m, o :: m1, i + 1, h, hn, hlt, h1 => by
    simp [nodupN] at hn
    have hne : σ[i]'(by simpa using h) ≠ x := fun e => hn.1 (e ▸ List.getElem_mem _)
    rw [updM]
    simp only [List.getElem_cons_succ]
    rw [updM_in ρ σ _ m1 i (by simpa using h) hn.2 (fun j hj => by rw [length_setOb]; exact hlt j (by simp [hj])) (by simpa using h1), setOb_ge _ _ _ _ hne]
    rfl

end
end Go.AE
