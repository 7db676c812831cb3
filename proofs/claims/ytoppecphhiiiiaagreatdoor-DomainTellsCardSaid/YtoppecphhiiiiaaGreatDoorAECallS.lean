/- A part of the abstract evaluator: no condition. -/
import Derived.Test.YtoppecphhiiiiaaGreatDoorAECodeS
set_option linter.unusedVariables false
set_option linter.unusedSimpArgs false
namespace Go.AE
section
variable {N : Nat} {C : bI} {P : Program} {V : dJ} {w0 w w' : World} {s : St} {G : Gh} {F : Nat → Prop} {a : Act}
mutual
theorem yI {x : AV} {k : Nat} (hx : clean x) : ∀ o ∈ (imp k x).2, ∃ e sz cs, o = .arr e sz cs ∧ ∀ c ∈ cs, ∃ y, c = .v y := by
 cases x with
 | own e sz n cs => intro o ho; simp [imp] at ho; subst ho; exact ⟨e, sz, cs, rfl, by simpa [clean] using hx⟩
 | v x => simp [imp]
 | tup xs => simp only [imp]; exact CO (by simpa [clean] using hx)
 | ag xs => simp only [imp]; exact CO (by simpa [clean] using hx)
 | _ => exact (by simp [clean] at hx)
theorem CO {xs : List AV} {k : Nat} (hx : cleans xs) : ∀ o ∈ (imps k xs).2, ∃ e sz cs, o = .arr e sz cs ∧ ∀ c ∈ cs, ∃ y, c = .v y := by
 cases xs with
 | nil => simp [imps]
 | cons x l =>
  simp only [cleans] at hx
  simp only [imps]
  intro o ho
  rcases List.mem_append.1 ho with ho | ho
  ·exact yI hx.1 o ho
  ·exact CO hx.2 o ho
end
theorem aF.vs {w : World} {F F' : Nat → Prop} {H H' : Gh} {cs : List AV} {vs : List Value} (hc : ∀ c ∈ cs, ∃ y, c = .v y) (h : aF w F H cs vs) : aF w F' H' cs vs := by
 induction cs generalizing vs with
 | nil => cases h; exact .nil
 | cons c cs ih =>
  cases h with
  | cons h1 h2 =>
   obtain ⟨y, rfl⟩ := hc c (by simp)
   cases h1
   exact .cons (.v _) (ih (fun c hc' => hc c (List.mem_cons_of_mem _ hc')) h2)
theorem zhk (l : List Ob) (k : Nat) : obj l k = .dead ∨ obj l k ∈ l := by
 induction l generalizing k with
 | nil => exact .inl rfl
 | cons x l ih => cases k with
  | zero => exact .inr (by simp [obj])
  | succ k =>
   rcases ih k with h | h
   ·exact .inl h
   ·exact .inr (List.mem_cons_of_mem _ h)
theorem o8.clean {F' : Nat → Prop} {H : Gh} {obs : List Ob} (hc : ∀ o ∈ obs, ∃ e sz cs, o = .arr e sz cs ∧ ∀ c ∈ cs, ∃ y, c = .v y) (h : o8 w F' H obs) (hF : ∀ b, F b → F' b) : o8 w F H obs where
 len := h.len
 ob := fun id g hg => by
  have := h.ob id g hg
  rcases zhk obs id with ho | ho
  ·rw [ho]; trivial
  ·obtain ⟨e, sz, cs, he, hv⟩ := hc _ ho
   rw [he] at this ⊢
   obtain ⟨n, vs, h1, h2, h3⟩ := this
   exact ⟨n, vs, h1, h2.vs hv, h3⟩
 lt := fun id L hL => ⟨fun hb => (h.lt id L hL).1 (hF _ hb), (h.lt id L hL).2⟩
 inj := h.inj
def hP (F : Nat → Prop) (G : Gh) (b : Nat) : Prop := F b ∨ ∃ (id : Nat) (L : bU), G[id]? = some (some L) ∧ L.b = b
theorem nJ (F : Nat → Prop) (G : Gh) (w : World) : fQ F (hP F G) w w := ⟨fun _ h => .inl h, fun _ _ => rfl⟩
theorem SO (h : aE P N V w0 s G F a w) {id : Nat} {v : Value} (hx : aH w F G (.mr id) v) : aH w (hP F G) [] (match obj s.m id with | .mp es => .mp es | _ => .junk) v := by
 split
 ·rename_i es ho
  cases hx with
  | mr hg =>
   have := h.obG hg
   rw [ho] at this
   obtain ⟨L', ents, clock, e, h1, h2, _⟩ := this
   simp at e; subst e
   exact .mp (.inr ⟨id, _, hg, rfl⟩) h1 (eU.mono (nJ F G w) h2)
 ·exact .junk v
theorem S8 (h : aE P N V w0 s G F a w) {x : AV} {v : Value} (hx : aH w F G x v) : aH w (hP F G) [] (dW s x) v := by
 have key : ∀ (id off n sz : Nat) (cs : List AV), x = .ref id off n → ((∃ e sz, obj s.m id = .arr e sz cs) ∨ ∃ sz, obj s.m id = .row false sz cs) → aH w (hP F G) [] (.sl n ((cs.drop off).take (n * sz))) v := by
  rintro id off n sz cs rfl ho
  rcases hx.ref_inv with ⟨_, rfl, rfl, rfl⟩ | ⟨L, off', cap, hg, rfl, hn, _, h4⟩
  ·simp; exact .sl0
  ·obtain ⟨vs, hr, hb⟩ := yA h hg ho
   have hr := aF.mono (nJ F G w) (bS.refl _) hr
   have hl : hP F G L.b := .inr ⟨id, L, hg, rfl⟩
   rcases h4 with ⟨rfl, _⟩ | rfl
   ·simp
    exact .sl (vs := []) hl (Nat.zero_le _) ⟨rfl, by simp, by simp⟩ .nil
   ·refine .sl (vs := (vs.drop off).take (n * sz)) hl hn ?_ ((hr.drop off).take _)
    have := hb.add off
    rw [fW rfl] at this
    refine ⟨rfl, fun i hi => ?_, fun u hu => hb.2.2 u (List.mem_of_mem_drop (List.mem_of_mem_take hu))⟩
    have hi' : i < (vs.drop off).length := by simp at hi ⊢; omega
    rw [List.getElem?_take_of_lt (by simp at hi; omega)]
    exact this.2.1 i hi'
 unfold dW
 split
 ·rename_i id off n
  split
  ·rename_i e sz cs ho; exact key _ _ _ _ _ rfl (.inl ⟨_, _, ho⟩)
  ·rename_i sz cs ho; exact key _ _ _ _ _ rfl (.inr ⟨_, ho⟩)
  ·exact .junk v
 ·cases hx; exact .v _
 ·cases hx with
  | sl0 => exact .sl0
  | sl h1 h2 h3 h4 => exact .sl (.inl h1) h2 h3 (aF.mono (nJ F G w) (bS.refl _) h4)
 ·cases hx with | cp h1 h2 h3 => exact .cp (.inl h1) h2 (aF.mono (nJ F G w) (bS.refl _) h3)
 ·cases hx with | mp h1 h2 h3 => exact .mp (.inl h1) h2 (eU.mono (nJ F G w) h3)
 ·exact SO h hx
 ·exact .junk v
theorem zd0 (h : aE P N V w0 s G F a w) {xs : List AV} {vs : List Value} (hx : aF w F G xs vs) : aF w (hP F G) [] (xs.map (dW s)) vs := by
 induction xs generalizing vs with
 | nil => cases hx; exact .nil
 | cons x xs ih => cases hx with | cons h1 h2 => exact .cons (S8 h h1) (ih h2)
mutual
theorem v8 (h : aE P N V w0 s G F a w) {x : AV} {v : Value} (hx : aH w F G x v) : aH w (hP F G) [] (fz s x) v := by
 cases x with
 | ref id off n => simp only [fz]; exact S8 h hx
 | ptr id off =>
  obtain ⟨L, hg, rfl⟩ := hx.ptr_inv
  have hl : hP F G L.b := .inr ⟨id, L, hg, rfl⟩
  have done : ∀ {cs : List AV} {vs : List Value}, aF w (hP F G) [] cs vs → gD w ⟨L.b, L.o, none⟩ vs → aH w (hP F G) [] (.cp (cs.drop off)) (.pointer (some ⟨L.b, L.o + off, none⟩)) := fun hr hb => by
   have := hb.add off
   rw [fW rfl] at this
   exact .cp (a := ⟨L.b, L.o + off, none⟩) hl this (hr.drop off)
  simp only [fz]
  split
  ·rename_i e sz cs ho
   obtain ⟨vs, hr, hb⟩ := yA h hg (.inl ⟨_, _, ho⟩)
   exact done (aF.mono (nJ F G w) (bS.refl _) hr) hb
  ·rename_i sz cs ho
   obtain ⟨vs, hr, hb⟩ := yA h hg (.inr ⟨_, ho⟩)
   exact done (aF.mono (nJ F G w) (bS.refl _) hr) hb
  ·rename_i sz cs ho
   obtain ⟨vs, hr, hb⟩ := DQ h hg (.inr ⟨_, _, ho⟩)
   exact done (zd0 h hr) hb
  ·exact .junk _
 | ag cs => obtain ⟨vs, rfl, hr⟩ := hx.ag_inv; simp only [fz]; exact .ag (pJ h hr)
 | tup cs => obtain ⟨vs, rfl, hr⟩ := hx.tup_inv; simp only [fz]; exact .tup (pJ h hr)
 | fn f fs cs => cases hx with | fn h1 h2 => simp only [fz]; exact .fn (pJ h h1) (pJ h h2)
 | v x => cases hx; simp only [fz]; exact .v _
 | junk => simp only [fz]; exact .junk _
 | un => cases hx; simp only [fz]; exact .un
 | sl n cs => simp only [fz]; exact aH.mono (nJ F G w) (bS.nil _) (by
   cases hx with
   | sl0 => exact .sl0
   | sl h1 h2 h3 h4 => exact .sl h1 h2 h3 h4)
 | cp cs => simp only [fz]; exact aH.mono (nJ F G w) (bS.nil _) (by cases hx with | cp h1 h2 h3 => exact .cp h1 h2 h3)
 | mp cs => simp only [fz]; exact aH.mono (nJ F G w) (bS.nil _) (by cases hx with | mp h1 h2 h3 => exact .mp h1 h2 h3)
 | mr id => simp only [fz]; exact SO h hx
 | own e sz n cs => simp only [fz]; exact .junk _
 | lend sz n cs => simp only [fz]; exact .junk _
 | lptr cs => simp only [fz]; exact .junk _
theorem pJ (h : aE P N V w0 s G F a w) {xs : List AV} {vs : List Value} (hx : aF w F G xs vs) : aF w (hP F G) [] (fzs s xs) vs := by
 cases xs with
 | nil => cases hx; exact .nil
 | cons x l => cases hx with | cons h1 h2 => simp only [fzs]; exact .cons (v8 h h1) (pJ h h2)
end
mutual
theorem CH (h : aE P N V w0 s G F a w) {x : AV} {v : Value} (hn : names x = false) (hx : aH w F G x v) : aH w F [] (fz s x) v := by
 cases x with
 | ref id off n => simp [names] at hn
 | ptr id off => simp [names] at hn
 | mr id => simp [names] at hn
 | ag cs => obtain ⟨vs, rfl, hr⟩ := hx.ag_inv; simp only [fz]; exact .ag (pI h (by simpa [names] using hn) hr)
 | tup cs => obtain ⟨vs, rfl, hr⟩ := hx.tup_inv; simp only [fz]; exact .tup (pI h (by simpa [names] using hn) hr)
 | fn f fs cs => cases hx with | fn h1 h2 => simp only [fz]; simp [names] at hn; exact .fn (pI h hn.1 h1) (pI h hn.2 h2)
 | v x => cases hx; simp only [fz]; exact .v _
 | junk => simp only [fz]; exact .junk _
 | un => cases hx; simp only [fz]; exact .un
 | sl n cs => simp only [fz]; cases hx with
   | sl0 => exact .sl0
   | sl h1 h2 h3 h4 => exact .sl h1 h2 h3 h4
 | cp cs => simp only [fz]; cases hx with | cp h1 h2 h3 => exact .cp h1 h2 h3
 | mp cs => simp only [fz]; cases hx with | mp h1 h2 h3 => exact .mp h1 h2 h3
 | own e sz n cs => simp only [fz]; exact .junk _
 | lend sz n cs => simp only [fz]; exact .junk _
 | lptr cs => simp only [fz]; exact .junk _
theorem pI (h : aE P N V w0 s G F a w) {xs : List AV} {vs : List Value} (hn : namess xs = false) (hx : aF w F G xs vs) : aF w F [] (fzs s xs) vs := by
 cases xs with
 | nil => cases hx; exact .nil
 | cons x l => cases hx with
  | cons h1 h2 => simp only [fzs]; simp [namess] at hn; exact .cons (CH h hn.1 h1) (pI h hn.2 h2)
end
end
end Go.AE
