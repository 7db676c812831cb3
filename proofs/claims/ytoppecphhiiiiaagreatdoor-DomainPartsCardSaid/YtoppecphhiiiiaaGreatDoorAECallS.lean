/- A part of the abstract evaluator: no condition. -/
import Derived.Test.YtoppecphhiiiiaaGreatDoorAECodeS
set_option linter.unusedVariables false
set_option linter.unusedSimpArgs false
namespace Go.AE
section
variable {N : Nat} {C : Ctx} {P : Program} {V : z2e} {w0 w w' : World} {s : St} {G : Gh} {F : Nat → Prop} {a : Act}
mutual
theorem zbr {x : AV} {k : Nat} (hx : clean x) : ∀ o ∈ (imp k x).2, ∃ e sz cs, o = .arr e sz cs ∧ ∀ c ∈ cs, ∃ y, c = .v y := by
 cases x with
 | own e sz n cs => intro o ho; simp [imp] at ho; subst ho; exact ⟨e, sz, cs, rfl, by simpa [clean] using hx⟩
 | v x => simp [imp]
 | tup xs => simp only [imp]; exact zd5 (by simpa [clean] using hx)
 | ag xs => simp only [imp]; exact zd5 (by simpa [clean] using hx)
 | _ => exact (by simp [clean] at hx)
theorem zd5 {xs : List AV} {k : Nat} (hx : cleans xs) : ∀ o ∈ (imps k xs).2, ∃ e sz cs, o = .arr e sz cs ∧ ∀ c ∈ cs, ∃ y, c = .v y := by
 cases xs with
 | nil => simp [imps]
 | cons x l =>
   simp only [cleans] at hx
   simp only [imps]
   intro o ho
   rcases List.mem_append.1 ho with ho | ho
   · exact zbr hx.1 o ho
   · exact zd5 hx.2 o ho
end
theorem z0l.vs {w : World} {F F' : Nat → Prop} {H H' : Gh} {cs : List AV} {vs : List Value} (hc : ∀ c ∈ cs, ∃ y, c = .v y) (h : z0l w F H cs vs) : z0l w F' H' cs vs := by
 induction cs generalizing vs with
 | nil => cases h; exact .nil
 | cons c cs ih =>
   cases h with
   | cons h1 h2 =>
     obtain ⟨y, rfl⟩ := hc c (by simp)
     cases h1
     exact .cons (.v _) (ih (fun c hc' => hc c (List.mem_cons_of_mem _ hc')) h2)
theorem y0i6 (l : List Ob) (k : Nat) : obj l k = .dead ∨ obj l k ∈ l := by
 induction l generalizing k with
 | nil => exact .inl rfl
 | cons x l ih => cases k with
   | zero => exact .inr (by simp [obj])
   | succ k =>
     rcases ih k with h | h
     · exact .inl h
     · exact .inr (List.mem_cons_of_mem _ h)
theorem y0a6.clean {F' : Nat → Prop} {H : Gh} {obs : List Ob} (hc : ∀ o ∈ obs, ∃ e sz cs, o = .arr e sz cs ∧ ∀ c ∈ cs, ∃ y, c = .v y) (h : y0a6 w F' H obs) (hF : ∀ b, F b → F' b) : y0a6 w F H obs where
 len := h.len
 ob := fun id g hg => by
   have := h.ob id g hg
   rcases y0i6 obs id with ho | ho
   · rw [ho]; trivial
   · obtain ⟨e, sz, cs, he, hv⟩ := hc _ ho
     rw [he] at this ⊢
     obtain ⟨n, vs, h1, h2, h3⟩ := this
     exact ⟨n, vs, h1, h2.vs hv, h3⟩
 lt := fun id L hL => ⟨fun hb => (h.lt id L hL).1 (hF _ hb), (h.lt id L hL).2⟩
 inj := h.inj
def zmo (F : Nat → Prop) (G : Gh) (b : Nat) : Prop := F b ∨ ∃ (id : Nat) (L : Loc), G[id]? = some (some L) ∧ L.b = b
theorem z3b (F : Nat → Prop) (G : Gh) (w : World) : zev F (zmo F G) w w := ⟨fun _ h => .inl h, fun _ _ => rfl⟩
theorem zpi (h : Rel P N V w0 s G F a w) {id : Nat} {v : Value} (hx : Rep w F G (.mr id) v) : Rep w (zmo F G) [] (match obj s.m id with | .mp es => .mp es | _ => .junk) v := by
 split
 · rename_i es ho
   cases hx with
   | mr hg =>
     have := h.obG hg
     rw [ho] at this
     obtain ⟨L', ents, clock, e, h1, h2, _⟩ := this
     simp at e; subst e
     exact .mp (.inr ⟨id, _, hg, rfl⟩) h1 (z49.mono (z3b F G w) h2)
 · exact .junk v
theorem zph (h : Rel P N V w0 s G F a w) {x : AV} {v : Value} (hx : Rep w F G x v) : Rep w (zmo F G) [] (fz1 s x) v := by
 have key : ∀ (id off n sz : Nat) (cs : List AV), x = .ref id off n → ((∃ e sz, obj s.m id = .arr e sz cs) ∨ ∃ sz, obj s.m id = .row false sz cs) → Rep w (zmo F G) [] (.sl n ((cs.drop off).take (n * sz))) v := by
   rintro id off n sz cs rfl ho
   rcases hx.ref_inv with ⟨_, rfl, rfl, rfl⟩ | ⟨L, off', cap, hg, rfl, hn, _, h4⟩
   · simp; exact .sl0
   · obtain ⟨vs, hr, hb⟩ := z5s h hg ho
     have hr := z0l.mono (z3b F G w) (z2v.refl _) hr
     have hl : zmo F G L.b := .inr ⟨id, L, hg, rfl⟩
     rcases h4 with ⟨rfl, _⟩ | rfl
     · simp
       exact .sl (vs := []) hl (Nat.zero_le _) ⟨rfl, by simp, by simp⟩ .nil
     · refine .sl (vs := (vs.drop off).take (n * sz)) hl hn ?_ ((hr.drop off).take _)
       have := hb.add off
       rw [z1e rfl] at this
       refine ⟨rfl, fun i hi => ?_, fun u hu => hb.2.2 u (List.mem_of_mem_drop (List.mem_of_mem_take hu))⟩
       have hi' : i < (vs.drop off).length := by simp at hi ⊢; omega
       rw [List.getElem?_take_of_lt (by simp at hi; omega)]
       exact this.2.1 i hi'
 unfold fz1
 split
 · rename_i id off n
   split
   · rename_i e sz cs ho; exact key _ _ _ _ _ rfl (.inl ⟨_, _, ho⟩)
   · rename_i sz cs ho; exact key _ _ _ _ _ rfl (.inr ⟨_, ho⟩)
   · exact .junk v
 · cases hx; exact .v _
 · cases hx with
   | sl0 => exact .sl0
   | sl h1 h2 h3 h4 => exact .sl (.inl h1) h2 h3 (z0l.mono (z3b F G w) (z2v.refl _) h4)
 · cases hx with | cp h1 h2 h3 => exact .cp (.inl h1) h2 (z0l.mono (z3b F G w) (z2v.refl _) h3)
 · cases hx with | mp h1 h2 h3 => exact .mp (.inl h1) h2 (z49.mono (z3b F G w) h3)
 · exact zpi h hx
 · exact .junk v
theorem y000 (h : Rel P N V w0 s G F a w) {xs : List AV} {vs : List Value} (hx : z0l w F G xs vs) : z0l w (zmo F G) [] (xs.map (fz1 s)) vs := by
 induction xs generalizing vs with
 | nil => cases hx; exact .nil
 | cons x xs ih => cases hx with | cons h1 h2 => exact .cons (zph h h1) (ih h2)
mutual
theorem zbo (h : Rel P N V w0 s G F a w) {x : AV} {v : Value} (hx : Rep w F G x v) : Rep w (zmo F G) [] (fz s x) v := by
 cases x with
 | ref id off n => simp only [fz]; exact zph h hx
 | ptr id off =>
   obtain ⟨L, hg, rfl⟩ := hx.ptr_inv
   have hl : zmo F G L.b := .inr ⟨id, L, hg, rfl⟩
   have done : ∀ {cs : List AV} {vs : List Value}, z0l w (zmo F G) [] cs vs → z1u w ⟨L.b, L.o, none⟩ vs → Rep w (zmo F G) [] (.cp (cs.drop off)) (.pointer (some ⟨L.b, L.o + off, none⟩)) := fun hr hb => by
     have := hb.add off
     rw [z1e rfl] at this
     exact .cp (a := ⟨L.b, L.o + off, none⟩) hl this (hr.drop off)
   simp only [fz]
   split
   · rename_i e sz cs ho
     obtain ⟨vs, hr, hb⟩ := z5s h hg (.inl ⟨_, _, ho⟩)
     exact done (z0l.mono (z3b F G w) (z2v.refl _) hr) hb
   · rename_i sz cs ho
     obtain ⟨vs, hr, hb⟩ := z5s h hg (.inr ⟨_, ho⟩)
     exact done (z0l.mono (z3b F G w) (z2v.refl _) hr) hb
   · rename_i sz cs ho
     obtain ⟨vs, hr, hb⟩ := zhb h hg (.inr ⟨_, _, ho⟩)
     exact done (y000 h hr) hb
   · exact .junk _
 | ag cs => obtain ⟨vs, rfl, hr⟩ := hx.ag_inv; simp only [fz]; exact .ag (z4x h hr)
 | tup cs => obtain ⟨vs, rfl, hr⟩ := hx.tup_inv; simp only [fz]; exact .tup (z4x h hr)
 | fn f fs cs => cases hx with | fn h1 h2 => simp only [fz]; exact .fn (z4x h h1) (z4x h h2)
 | v x => cases hx; simp only [fz]; exact .v _
 | junk => simp only [fz]; exact .junk _
 | un => cases hx; simp only [fz]; exact .un
 | sl n cs => simp only [fz]; exact Rep.mono (z3b F G w) (z2v.nil _) (by
     cases hx with
     | sl0 => exact .sl0
     | sl h1 h2 h3 h4 => exact .sl h1 h2 h3 h4)
 | cp cs => simp only [fz]; exact Rep.mono (z3b F G w) (z2v.nil _) (by cases hx with | cp h1 h2 h3 => exact .cp h1 h2 h3)
 | mp cs => simp only [fz]; exact Rep.mono (z3b F G w) (z2v.nil _) (by cases hx with | mp h1 h2 h3 => exact .mp h1 h2 h3)
 | mr id => simp only [fz]; exact zpi h hx
 | own e sz n cs => simp only [fz]; exact .junk _
 | lend sz n cs => simp only [fz]; exact .junk _
 | lptr cs => simp only [fz]; exact .junk _
theorem z4x (h : Rel P N V w0 s G F a w) {xs : List AV} {vs : List Value} (hx : z0l w F G xs vs) : z0l w (zmo F G) [] (fzs s xs) vs := by
 cases xs with
 | nil => cases hx; exact .nil
 | cons x l => cases hx with | cons h1 h2 => simp only [fzs]; exact .cons (zbo h h1) (z4x h h2)
end
mutual
theorem zgj (h : Rel P N V w0 s G F a w) {x : AV} {v : Value} (hn : names x = false) (hx : Rep w F G x v) : Rep w F [] (fz s x) v := by
 cases x with
 | ref id off n => simp [names] at hn
 | ptr id off => simp [names] at hn
 | mr id => simp [names] at hn
 | ag cs => obtain ⟨vs, rfl, hr⟩ := hx.ag_inv; simp only [fz]; exact .ag (z3r h (by simpa [names] using hn) hr)
 | tup cs => obtain ⟨vs, rfl, hr⟩ := hx.tup_inv; simp only [fz]; exact .tup (z3r h (by simpa [names] using hn) hr)
 | fn f fs cs => cases hx with | fn h1 h2 => simp only [fz]; simp [names] at hn; exact .fn (z3r h hn.1 h1) (z3r h hn.2 h2)
 | v x => cases hx; simp only [fz]; exact .v _
 | junk => simp only [fz]; exact .junk _
 | un => cases hx; simp only [fz]; exact .un
 | sl n cs => simp only [fz]; cases hx with
     | sl0 => exact .sl0
     | sl h1 h2 h3 h4 => exact .sl h1 h2 h3 h4
 | cp cs => simp only [fz]; cases hx with | cp h1 h2 h3 => exact .cp h1 h2 h3
 | mp cs => simp only [fz]; cases hx with | mp h1 h2 h3 => exact .mp h1 h2 h3
 | own e sz n cs => simp only [fz]; exact .junk _
 | lend sz n cs => simp only [fz]; exact .junk _
 | lptr cs => simp only [fz]; exact .junk _
theorem z3r (h : Rel P N V w0 s G F a w) {xs : List AV} {vs : List Value} (hn : namess xs = false) (hx : z0l w F G xs vs) : z0l w F [] (fzs s xs) vs := by
 cases xs with
 | nil => cases hx; exact .nil
 | cons x l => cases hx with
   | cons h1 h2 => simp only [fzs]; simp [namess] at hn; exact .cons (zgj h hn.1 h1) (z3r h hn.2 h2)
end
end
end Go.AE
