/- A part of the abstract evaluator: no condition. -/
import Derived.Test.YtoppecphhiiiiaaGreatDoorAEEff
import Derived.Laws.AppendOwnNone
set_option linter.unusedVariables false
set_option linter.unusedSimpArgs false
namespace Go.AE
section
variable {N : Nat} {C : bI} {P : Program} {V : dJ} {w0 w w' : World} {s : St} {G : Gh} {F : Nat → Prop} {a : Act}
theorem aH.solid {x : AV} {v : Value} (hx : solid x = true) (h : aH w F G x v) : aH w F [] x v := by
 cases h <;> simp [AE.solid] at hx
 ·exact .v _
 ·exact .sl0
 ·rename_i h1 h2 h3 h4; exact .sl h1 h2 h3 h4
 ·rename_i h1 h2 h3; exact .cp h1 h2 h3
 ·rename_i h1 h2 h3; exact .mp h1 h2 h3
theorem aH.one {x : AV} {v : Value} (hx : dI x = true) (h : aH w F G x v) : v.oneCell' = true := by
 cases h <;> first | exact hx | (simp [dI] at hx; done) | rfl
theorem aF.solids {cs : List AV} {vs : List Value} (hx : cs.all (fun c => dI c && AE.solid c) = true) (h : aF w F G cs vs) : aF w F [] cs vs ∧ ∀ u ∈ vs, u.oneCell' = true := by
 induction cs generalizing vs with
 | nil => cases h; exact ⟨.nil, by simp⟩
 | cons c cs ih => cases h with
  | cons h1 h2 =>
   simp only [List.all_cons, Bool.and_eq_true] at hx
   obtain ⟨h3, h4⟩ := ih hx.2 h2
   refine ⟨.cons (h1.solid hx.1.2) h3, fun u hu => ?_⟩
   rcases List.mem_cons.1 hu with rfl | hu
   ·exact h1.one hx.1.1
   ·exact h4 u hu
theorem aF.ones {cs : List AV} {vs : List Value} (hx : cs.all dI = true) (h : aF w F G cs vs) : ∀ u ∈ vs, u.oneCell' = true := by
 induction cs generalizing vs with
 | nil => cases h; simp
 | cons c cs ih => cases h with
  | cons h1 h2 =>
   simp only [List.all_cons, Bool.and_eq_true] at hx
   intro u hu
   rcases List.mem_cons.1 hu with rfl | hu
   ·exact h1.one hx.1
   ·exact ih hx.2 h2 u hu
theorem aH.cells {x : AV} {v : Value} (h : aH w F G x v) (hx : (bV x).all dI = true) : aF w F G (bV x) v.cells.toList := by
 cases h with
 | ag h => simpa [bV, Value.cells] using h
 | v x =>
  have : v.cells = #[v] := by
   simp [bV, dI] at hx
   cases v <;> simp_all [Value.cells, Value.oneCell']
  rw [this]; exact .cons (.v _) .nil
 | _ => first
  | (simp [bV, dI] at hx; done)
  | (simp only [bV, Value.cells]; exact .cons (by constructor <;> assumption) .nil)
theorem aH.cells' {x : AV} {v : Value} (h : aH w F G x v) (hx : (bV x).all (fun c => dI c && AE.solid c) = true) : aF w F [] (bV x) v.cells.toList ∧ ∀ u ∈ v.cells.toList, u.oneCell' = true := by
 refine aF.solids hx (h.cells ?_)
 rw [List.all_eq_true] at hx ⊢
 intro c hc
 have := hx c hc
 simp at this
 exact this.1
theorem EY (b o : Nat) (e : Nat) (fz : Nat × Nat) : ∀ (vs : List Value) (i : Nat) (w : World) (c : Array Value), w.heap[b]? = some (.cells c e fz) → o + i + vs.length ≤ c.size →
  (∀ j, j < vs.length → ¬ (fz.1 ≤ o + i + j ∧ o + i + j < fz.2)) → (∀ u ∈ vs, u.oneCell' = true) →
  ∃ w', (storeCells ⟨b, o, none⟩ vs i).run P w = .ok () w' ∧ w'.os = w.os ∧ w'.tape = w.tape ∧ w'.output = w.output ∧ w'.heap.size = w.heap.size ∧ (∀ k, k ≠ b → w'.heap[k]? = w.heap[k]?) ∧
   ∃ c', w'.heap[b]? = some (.cells c' e fz) ∧ c'.size = c.size ∧ ∀ j, c'[j]? = if o + i ≤ j ∧ j < o + i + vs.length then vs[j - (o + i)]? else c[j]?
 | [], i, w, c, hb, _, _, _ => ⟨w, rfl, rfl, rfl, rfl, rfl, fun _ _ => rfl, c, hb, rfl, fun j => by rw [if_neg (by simp)]⟩
 | v :: vs, i, w, c, hb, hl, hf, h1 => by
  simp only [List.length_cons] at hl hf
  have hlt : o + i < c.size := by omega
  have hcell : w.cell? ⟨b, o + i, none⟩ = some c[o + i] := by simp [World.cell?, hb, hlt]
  have hfr : w.frozen? ⟨b, o + i, none⟩ = false := by
   have := hf 0 (by omega)
   obtain ⟨lo, hi⟩ := fz
   simp [World.frozen?, hb]
   simpa using this
  have hset : (w.setCell ⟨b, o + i, none⟩ v).heap[b]? = some (.cells (c.setIfInBounds (o + i) v) e fz) := by
   have hbl := kT hb
   simp [World.setCell, Array.getElem?_modify, hb]
  obtain ⟨w', hrun, r1, r2, r3, r4, r5, c', r6, r7, r8⟩ := EY b o e fz vs (i + 1) (w.setCell ⟨b, o + i, none⟩ v) (c.setIfInBounds (o + i) v) hset (by simp; omega)
   (fun j hj => by have := hf (j + 1) (by omega); simpa [Nat.add_assoc, Nat.add_comm 1 j] using this) (fun u hu => h1 u (List.mem_cons_of_mem _ hu))
  refine ⟨w', ?_, r1, r2, r3, by rw [r4]; simp, fun k hk => (r5 k hk).trans (Go.RowKit.Below.heap_setCell _ _ _ _ hk), c', r6, by rw [r7]; simp, fun j => ?_⟩
  ·simp only [storeCells, Sem.run_bind, fW (b := ⟨b, o, none⟩) rfl]
   rw [run_store P w _ v _ (h1 v (by simp)), hcell]
   simp [hfr, hrun]
  ·rw [r8 j]
   have e1 : o + (i + 1) = o + i + 1 := by omega
   rw [e1, Array.getElem?_setIfInBounds]
   simp only [List.length_cons]
   by_cases h0 : o + i = j
   ·subst h0
    rw [if_neg (by omega), if_pos rfl, if_pos hlt, if_pos (by omega)]
    simp
   ·rw [if_neg h0]
    by_cases h2 : o + i + 1 ≤ j ∧ j < o + i + 1 + vs.length
    ·rw [if_pos h2, if_pos (by omega)]
     have : j - (o + i) = (j - (o + i + 1)) + 1 := by omega
     rw [this, List.getElem?_cons_succ]
    ·rw [if_neg h2, if_neg (by omega)]
theorem A6 {cs xs : List AV} {vs us : List Value} (i : Nat) (h : aF w F G cs vs) (k : aF w F G xs us) (hl : i + us.length ≤ vs.length) :
  aF w F G (setCells cs i xs) (vs.take i ++ us ++ vs.drop (i + us.length)) := by
 induction xs generalizing cs vs us i with
 | nil => cases k; simpa [setCells] using h
 | cons x xs ih =>
  cases k with
  | @cons _ _ _ u us h1 h2 =>
   simp only [List.length_cons] at hl
   have := ih (i + 1) (h.set i h1) h2 (by simp; omega)
   have e : (vs.set i u).take (i + 1) ++ us ++ (vs.set i u).drop (i + 1 + us.length) = vs.take i ++ (u :: us) ++ vs.drop (i + (us.length + 1)) := by
    rw [List.drop_set_of_lt (by omega), List.take_set, List.append_assoc, List.append_assoc]
    have h3 : (vs.take (i + 1)).set i u = vs.take i ++ [u] := by
     have hi : i < vs.length := by omega
     rw [List.take_add_one, List.getElem?_eq_getElem hi]
     rw [List.set_append_right _ _ (by simp; omega)]
     simp
     have : i - min i vs.length = 0 := by omega
     rw [this]
     rfl
    rw [h3]
    have h4 : i + 1 + us.length = i + (us.length + 1) := by omega
    rw [h4]
    simp
   simp only [setCells, List.length_cons]
   rw [e] at this
   exact this
end
end Go.AE
