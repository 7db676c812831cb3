/- A part of the abstract evaluator: no condition. -/
import Derived.Test.YtoppecphhiiiiaaGreatDoorAESimp
set_option linter.unusedVariables false
set_option linter.unusedSimpArgs false
namespace Go.AE
section
variable {N : Nat} {C : bI} {P : Program} {V : dJ} {w0 w w' : World} {s : St} {G : Gh} {F : Nat → Prop} {a : Act}
mutual
theorem aH.shift {w : World} {F : Nat → Prop} {H : Gh} {x : AV} {v : Value} (G0 : Gh) : aH w F H x v → aH w F (G0 ++ H) (AE.shift G0.length x) v
 | .v x => .v x
 | .junk x => .junk x
 | .un => .un
 | .sl0 => .sl0
 | .sl h1 h2 h3 h4 => .sl h1 h2 h3 h4
 | .ref hg hc hl => .ref (by rw [List.getElem?_append_right (by omega)]; simpa using hg) hc hl
 | .refe hg hc => .refe (by rw [List.getElem?_append_right (by omega)]; simpa using hg) hc
 | .ref0 hg => .ref0 (by rw [List.getElem?_append_right (by omega)]; simpa using hg)
 | .ptr hg => .ptr (by rw [List.getElem?_append_right (by omega)]; simpa using hg)
 | .cp h1 h2 h3 => .cp h1 h2 h3
 | .ag hs => .ag (aF.shift G0 hs)
 | .tup hs => .tup (aF.shift G0 hs)
 | .fn hs hs' => .fn (aF.shift G0 hs) (aF.shift G0 hs')
 | .mp h1 h2 h3 => .mp h1 h2 h3
 | .mr hg => .mr (by rw [List.getElem?_append_right (by omega)]; simpa using hg)
theorem aF.shift {w : World} {F : Nat → Prop} {H : Gh} {xs : List AV} {vs : List Value} (G0 : Gh) : aF w F H xs vs → aF w F (G0 ++ H) (AE.shifts G0.length xs) vs
 | .nil => .nil
 | .cons hx hs => .cons (aH.shift G0 hx) (aF.shift G0 hs)
end
theorem d6.shift {H : Gh} {g : Option bU} {o : Ob} (G0 : Gh) (h : d6 w F H g o) : d6 w F (G0 ++ H) g (oS G0.length o) := by
 cases o with
 | dead => trivial
 | fence => exact h
 | arr e sz cs => exact h
 | row k sz cs =>
  cases k with
  | true =>
   obtain ⟨L, vs, h1, h2, h3⟩ := h
   exact ⟨L, vs, h1, h2, h3.shift G0⟩
  | false => exact h
 | it t p => exact h
 | mp es => exact h
theorem rA (m l : List Ob) (k : Nat) (h : k < m.length) : obj (m ++ l) k = obj m k := by
 induction m generalizing k with
 | nil => simp at h
 | cons x m ih => cases k with
  | zero => rfl
  | succ k => simp only [List.cons_append, obj]; exact ih k (by simpa using h)
theorem DC (m l : List Ob) (k : Nat) (h : m.length ≤ k) : obj (m ++ l) k = obj l (k - m.length) := by
 induction m generalizing k with
 | nil => simp
 | cons x m ih => cases k with
  | zero => simp at h
  | succ k => simp only [List.cons_append, obj]; rw [ih k (by simpa using h)]; simp
theorem WN (f : Ob → Ob) (hf : f .dead = .dead) (l : List Ob) (k : Nat) : obj (l.map f) k = f (obj l k) := by
 induction l generalizing k with
 | nil => simp [obj, hf]
 | cons x l ih => cases k <;> simp [obj, ih]
theorem aE.brought (h : aE P N V w0 s G F a w) (hw : d7 w w') {F' : Nat → Prop} (hF : ∀ b, F b → F' b) (hF' : ∀ b, F' b → (F b ∨ w.heap.size ≤ b) ∧ b < w'.heap.size) {H : Gh} {obs : List Ob} (ho : o8 w' F' H obs)
  (hn : ∀ (id : Nat) (L : bU), H[id]? = some (some L) → w.heap.size ≤ L.b) : aE P N V w0 ⟨s.t, s.m ++ obs.map (oS s.m.length)⟩ (G ++ H) F' a w' := by
 have h' := h.grow hw
 have hs : fQ F F' w' w' := ⟨hF, fun _ _ => rfl⟩
 have hsub : bS G (G ++ H) := fun id x hx => by rw [List.getElem?_append_left (List.getElem?_eq_some_iff.1 hx).1]; exact hx
 have hsplit : ∀ (id : Nat) (x : Option bU), (G ++ H)[id]? = some x → (G[id]? = some x ∧ id < s.m.length) ∨ (H[id - s.m.length]? = some x ∧ s.m.length ≤ id) := by
  intro id x hx
  rw [← h.len]
  by_cases hid : id < G.length
  ·rw [List.getElem?_append_left hid] at hx; exact .inl ⟨hx, hid⟩
  ·rw [List.getElem?_append_right (by omega)] at hx; exact .inr ⟨hx, by omega⟩
 have hdead : oS s.m.length .dead = .dead := rfl
 exact {
  defers := h'.defers
  tsize := h'.tsize
  tm := fun k => aH.mono hs hsub (h'.tm k)
  len := by simp [h.len, ho.len]
  ob := fun id x hx => by
   show d6 w' F' _ x (obj (s.m ++ obs.map (oS s.m.length)) id)
   rcases hsplit id x hx with ⟨hx, hid⟩ | ⟨hx, hid⟩
   ·rw [rA _ _ _ hid]
    exact (h'.ob id x hx).keep hs hsub fun _ _ => rfl
   ·rw [DC _ _ _ hid, WN _ hdead, ← h.len]
    exact (ho.ob _ x (by rw [h.len]; exact hx)).shift G
  live := fun id L hL => by
   show _ ∧ _ ∧ eE V w0 L (obj (s.m ++ obs.map (oS s.m.length)) id)
   rcases hsplit id _ hL with ⟨hx, hid⟩ | ⟨hx, hid⟩
   ·rw [rA _ _ _ hid]
    refine ⟨fun hb => ?_, (h'.live id L hx).2⟩
    rcases (hF' _ hb).1 with hb | hb
    ·exact (h.live id L hx).1 hb
    ·have := (h.live id L hx).2.1; omega
   ·have h1 := ho.lt _ L hx
    have h2 := hn _ L hx
    have h3 := h.keep.size
    refine ⟨h1.1, h1.2, ?_⟩
    have : w0.heap.size ≤ L.b := by omega
    unfold eE
    split
    all_goals exact .inl this
  inj := fun i j L M hi hj hb => by
   rcases hsplit i _ hi with ⟨hi', h1⟩ | ⟨hi', h1⟩ <;> rcases hsplit j _ hj with ⟨hj', h2⟩ | ⟨hj', h2⟩
   ·exact h.inj i j L M hi' hj' hb
   ·have := (h.live i L hi').2.1; have := hn _ M hj'; omega
   ·have := (h.live j M hj').2.1; have := hn _ L hi'; omega
   ·have := ho.inj _ _ L M hi' hj' hb; omega
  fb := fun b hb => ⟨(hF' b hb).2, by
   rcases (hF' b hb).1 with hb | hb
   ·exact (h.fb b hb).2
   ·have := h.keep.size; exact .inl (by omega)⟩
  keep := h'.keep
  f0 := ⟨fun b hb => hF b (h.f0.1 b hb), fun b hb => by
   rcases (hF' b hb).1 with hb | hb
   ·exact h.f0.2 b hb
   ·have := h.keep.size; exact .inr (by omega)⟩
  nd := h.nd
  rows := h'.rows
  fence := fun k hk => (rA _ _ _ (sZ (h.fence k hk))).trans (h.fence k hk)
  tabs := h.tabs
  pin := fun id L hp => by
   obtain ⟨h1, h2, h3⟩ := h.pin id L hp
   have hlt : id < s.m.length := by rw [← h.len]; exact (List.getElem?_eq_some_iff.1 h2).1
   refine ⟨h1, hsub _ _ h2, ?_⟩
   show rowish (obj (s.m ++ obs.map (oS s.m.length)) id) = true
   rw [rA _ _ _ hlt]; exact h3 }
mutual
theorem aH.clean {w : World} {F F' : Nat → Prop} {H : Gh} {x : AV} {v : Value} {k : Nat} (hx : AE.clean x) (h : aH w F H (imp k x).1 v) : aH w F' H (imp k x).1 v := by
 cases x with
 | v x => cases h; exact .v _
 | own e sz n cs =>
  cases h with
  | ref h1 h2 h3 => exact .ref h1 h2 h3
  | refe h1 h2 => exact absurd rfl h2
  | ref0 h1 => exact .ref0 h1
 | tup xs =>
  simp only [imp] at h ⊢
  cases h with | tup hs => exact .tup (aF.clean (by simpa [AE.clean] using hx) hs)
 | ag xs =>
  simp only [imp] at h ⊢
  cases h with | ag hs => exact .ag (aF.clean (by simpa [AE.clean] using hx) hs)
 | _ => exact (by simp [AE.clean] at hx)
theorem aF.clean {w : World} {F F' : Nat → Prop} {H : Gh} {xs : List AV} {vs : List Value} {k : Nat} (hx : AE.cleans xs) (h : aF w F H (imps k xs).1 vs) : aF w F' H (imps k xs).1 vs := by
 cases xs with
 | nil => cases h; exact .nil
 | cons x l =>
  simp only [imps] at h ⊢
  simp only [cleans] at hx
  cases h with | cons h1 h2 => exact .cons (aH.clean hx.1 h1) (aF.clean hx.2 h2)
end
end
end Go.AE
