/- A part of the abstract evaluator: no condition. -/
import Derived.Test.YtoppecphhiiiiaaGreatDoorAEDraw
import Derived.Test.YtoppecphhiiiiaaGreatDoorAEPlan
set_option linter.unusedVariables false
set_option linter.unusedSimpArgs false
namespace Go.AE
section
variable {N : Nat} {C : bI} {P : Program} {V : dJ} {w0 w w' : World} {s s' : St} {G : Gh} {F : Nat → Prop} {a : Act}
mutual
theorem aH.take {w : World} {F : Nat → Prop} {n : Nat} {G : Gh} {x : AV} {v : Value} (hx : below n x = true) (h : aH w F G x v) : aH w F (G.take n) x v := by
 have key : ∀ {id : Nat} {y : Option bU}, id < n → G[id]? = some y → (G.take n)[id]? = some y := fun hi hg => by rw [List.getElem?_take_of_lt hi]; exact hg
 cases h with
 | v => exact .v _
 | junk => exact .junk _
 | un => exact .un
 | sl0 => exact .sl0
 | sl h1 h2 h3 h4 => exact .sl h1 h2 h3 h4
 | ref h1 h2 h3 => exact .ref (key (by simpa [below] using hx) h1) h2 h3
 | refe h1 h2 => exact .refe (key (by simpa [below] using hx) h1) h2
 | ref0 h1 => exact .ref0 (key (by simpa [below] using hx) h1)
 | ptr h1 => exact .ptr (key (by simpa [below] using hx) h1)
 | cp h1 h2 h3 => exact .cp h1 h2 h3
 | ag h1 => exact .ag (aF.takeG (by simpa [below] using hx) h1)
 | tup h1 => exact .tup (aF.takeG (by simpa [below] using hx) h1)
 | fn h1 h2 => simp [below] at hx; exact .fn (aF.takeG hx.1 h1) (aF.takeG hx.2 h2)
 | mp h1 h2 h3 => exact .mp h1 h2 h3
 | mr h1 => exact .mr (key (by simpa [below] using hx) h1)
theorem aF.takeG {w : World} {F : Nat → Prop} {n : Nat} {G : Gh} {xs : List AV} {vs : List Value} (hx : belows n xs = true) (h : aF w F G xs vs) : aF w F (G.take n) xs vs := by
 cases h with
 | nil => exact .nil
 | cons h1 h2 => simp [belows] at hx; exact .cons (aH.take hx.1 h1) (aF.takeG hx.2 h2)
end
theorem z3e {t l : List (Nat × AV)} (h : aL t l) (k : Nat) : get l k = .junk ∨ get l k = get t k := by
 induction l with
 | nil => exact .inl rfl
 | cons p l ih =>
  obtain ⟨j, x⟩ := p
  simp only [aL] at h
  by_cases hj : j = k
  ·subst hj; exact .inr (by simp [get, h.1])
  ·simp only [get, hj, if_false]; exact ih h.2
theorem O2 {n : Nat} {l : List (Nat × AV)} (h : aK n l = true) (k : Nat) : below n (get l k) = true := by
 induction l with
 | nil => rfl
 | cons p l ih =>
  obtain ⟨j, x⟩ := p
  simp only [aK, Bool.and_eq_true] at h
  by_cases hj : j = k
  ·subst hj; simp [get, h.1]
  ·simp only [get, hj, if_false]; exact ih h.2
theorem DA {m : List Ob} (h : aD m = true) (k : Nat) : obj m k ≠ .fence := by
 induction m generalizing k with
 | nil => simp [obj]
 | cons o m ih =>
  cases k with
  | zero => intro e; simp only [obj] at e; subst e; simp [aD] at h
  | succ k =>
   simp only [obj]
   exact ih (by cases o <;> simp_all [aD]) k
theorem zln {m l : List Ob} (h : aI m l) : l.length ≤ m.length ∧ (∀ k, obj l k = .dead ∨ obj l k = obj m k) ∧ ∀ k, obj m k = .fence → obj l k = .fence := by
 induction l generalizing m with
 | nil => exact ⟨by simp, fun k => .inl (by cases k <;> rfl), fun k e => absurd e (DA (by simpa [aI] using h) k)⟩
 | cons o l ih =>
  cases m with
  | nil => exact h.elim
  | cons p m =>
   simp only [aI] at h
   obtain ⟨h1, h2, h3⟩ := ih h.2
   refine ⟨by simpa using h1, fun k => ?_, fun k e => ?_⟩
   ·cases k with
    | zero =>
     simp only [obj]
     rcases h.1 with h | h
     ·exact .inl h.1
     ·exact .inr h
    | succ k => simpa [obj] using h2 k
   ·cases k with
    | zero =>
     simp only [obj] at e ⊢
     rcases h.1 with h | h
     ·rw [e] at h; simp [aC] at h
     ·rw [h, e]
    | succ k => simpa [obj] using h3 k (by simpa [obj] using e)
theorem O1 {n : Nat} {l : List Ob} (h : belowM n l = true) (k sz : Nat) (cs : List AV) (ho : obj l k = .row true sz cs) : belows n cs = true := by
 induction l generalizing k with
 | nil => simp [obj] at ho
 | cons o l ih =>
  cases k with
  | zero =>
   simp only [obj] at ho
   subst ho
   simp only [belowM, Bool.and_eq_true] at h
   exact h.1
  | succ k =>
   refine ih ?_ k (by simpa [obj] using ho)
   unfold belowM at h
   split at h
   ·rename_i heq; simp at heq
   ·rename_i heq; simp at heq; obtain ⟨rfl, rfl⟩ := heq; simp at h; exact h.2
   ·rename_i heq; simp at heq; obtain ⟨rfl, rfl⟩ := heq; exact h
theorem aE.weak (h : aE P N V w0 s G F a w) (hk : wk s s') : aE P N V w0 s' (G.take s'.m.length) F a w := by
 obtain ⟨h1, h2, h3⟩ := hk
 simp only [Bool.and_eq_true] at h3
 obtain ⟨hl, ho, hfe⟩ := zln h2
 have hget : ∀ {id : Nat} {g : Option bU}, (G.take s'.m.length)[id]? = some g → G[id]? = some g ∧ id < s'.m.length := by
  intro id g hg
  have hlt : id < s'.m.length := by have := (List.getElem?_eq_some_iff.1 hg).1; simp at this; omega
  rw [List.getElem?_take_of_lt hlt] at hg
  exact ⟨hg, hlt⟩
 exact {
  defers := h.defers
  tsize := h.tsize
  tm := fun k => by
   have hb := O2 h3.1 k
   rcases z3e h1 k with e | e
   ·rw [e]; exact .junk _
   ·refine aH.take hb ?_
    rw [e]; exact h.tm k
  len := by simp [h.len]; omega
  ob := fun id g hg => by
   obtain ⟨hg, hlt⟩ := hget hg
   have := h.ob id g hg
   rcases ho id with e | e
   ·rw [e]; trivial
   ·cases hob : obj s.m id with
    | row k sz cs =>
     rw [hob] at this
     rw [e, hob]
     cases k with
     | true =>
      obtain ⟨L, vs, q1, q2, q3⟩ := this
      exact ⟨L, vs, q1, q2, aF.takeG (O1 h3.2 id sz cs (e.trans hob)) q3⟩
     | false => exact this
    | dead => rw [e, hob]; trivial
    | fence => rw [hob] at this; rw [e, hob]; exact this
    | arr e' sz cs => rw [hob] at this; rw [e, hob]; exact this
    | it t p => rw [hob] at this; rw [e, hob]; exact this
    | mp es => rw [hob] at this; rw [e, hob]; exact this
  live := fun id L hL => by
   obtain ⟨hg, hlt⟩ := hget hL
   have := h.live id L hg
   refine ⟨this.1, this.2.1, ?_⟩
   rcases ho id with e | e
   ·rw [e]
    have h4 := this.2.2
    unfold eE at h4 ⊢
    split at h4
    ·rcases h4 with h4 | h4
     ·exact .inl h4
     ·exact .inr (.inr ⟨_, h4, rfl⟩)
    ·exact h4
    ·rcases h4 with h4 | h4
     ·exact .inl h4
     ·exact .inr (.inl h4.1)
   ·rw [e]; exact this.2.2
  inj := fun i j L M hi hj hb => h.inj i j L M (hget hi).1 (hget hj).1 hb
  fb := h.fb
  keep := h.keep
  f0 := h.f0
  nd := h.nd
  rows := h.rows
  fence := fun k hk => hfe k (h.fence k hk)
  tabs := h.tabs
  pin := fun id L hp => by
   obtain ⟨⟨k, q1, q2⟩, q3, q4⟩ := h.pin id L hp
   have hlt : k < s'.m.length := sZ (hfe k (h.fence k q1))
   refine ⟨⟨k, q1, q2⟩, by rw [List.getElem?_take_of_lt (by omega)]; exact q3, ?_⟩
   rcases ho id with e | e
   ·rw [e]; rfl
   ·rw [e]; exact q4 }
theorem ziv (ρ : Nat → Nat) (l : List (Nat × AV)) (k : Nat) : get (pY ρ l) k = ren ρ (get l k) := by
 induction l with
 | nil => rfl
 | cons p l ih =>
  obtain ⟨j, x⟩ := p
  by_cases hj : j = k
  ·simp [pY, get, hj]
  ·simp only [pY, get, hj, if_false]; exact ih
theorem ziw {ρ : Nat → Nat} {x : AV} (h : ren ρ x = .junk) : x = .junk := by
 cases x <;> simp_all [ren]
theorem z3f {ρ : Nat → Nat} {m : List Ob} : ∀ {σ : List Nat} {l : List Ob}, rU ρ m σ l → σ.length = l.length ∧ ∀ (i : Nat) (h : i < σ.length), obj l i = .dead ∨ aC (obj l i) = false ∧ obj m σ[i] = renO ρ (obj l i)
 | [], [], _ => ⟨rfl, fun i h => by simp at h⟩
 | [], _ :: _, h => h.elim
 | _ :: _, [], h => h.elim
 | j :: σ, o :: l, h => by
  simp only [rU] at h
  obtain ⟨h1, h2⟩ := z3f h.2
  refine ⟨by simp [h1], fun i hi => ?_⟩
  cases i with
  | zero => simpa [obj] using h.1
  | succ i => simpa [obj] using h2 i (by simpa using hi)
theorem aE.weakR {σ : List Nat} (h : aE P N V w0 s G F a w) (hk : wkr σ s s') : aE P N V w0 s' (cI G σ) F a w := by
 obtain ⟨hn, hf, h1, h2, h3⟩ := hk
 simp only [Bool.and_eq_true] at h3
 obtain ⟨hlen, ho⟩ := z3f h2
 have hgl : (cI G σ).length = σ.length := by simp [cI]
 have hget : ∀ i (hi : i < σ.length), (cI G σ)[i]? = some ((G[σ[i]]?).getD none) := fun i hi => by simp [cI, hi]
 have hG : ∀ {i : Nat} {L : bU}, (cI G σ)[i]? = some (some L) → ∃ hi : i < σ.length, G[σ[i]]? = some (some L) := by
  intro i L hx
  have hi : i < σ.length := by rw [← hgl]; exact (List.getElem?_eq_some_iff.1 hx).1
  refine ⟨hi, ?_⟩
  rw [hget i hi] at hx
  cases hq : G[σ[i]]? with
  | none => rw [hq] at hx; simp at hx
  | some y => rw [hq] at hx; simpa using hx
 have hun : ∀ id, id < s'.m.length → ∀ g, G[cY σ 0 id]? = some g → (cI G σ)[id]? = some g := by
  intro id hid g hg
  rw [tO σ 0 id (by omega)] at hg
  rw [hget id (by omega), hg]; rfl
 have hdead : ∀ {L : bU} {o : Ob}, eE V w0 L o → eE V w0 L .dead := by
  intro L o h4
  unfold eE at h4 ⊢
  split at h4
  ·rcases h4 with h4 | h4
   ·exact .inl h4
   ·exact .inr (.inr ⟨_, h4, rfl⟩)
  ·exact h4
  ·rcases h4 with h4 | h4
   ·exact .inl h4
   ·exact .inr (.inl h4.1)
 exact {
  defers := h.defers
  tsize := h.tsize
  tm := fun k => by
   have hb := O2 h3.1 k
   have hk := z3e h1 k
   rw [ziv] at hk
   rcases hk with e | e
   ·rw [ziw e]; exact .junk _
   ·refine aH.unren hun _ hb ?_
    rw [e]; exact h.tm k
  len := by rw [hgl, hlen]
  ob := fun id g hg => by
   have hid : id < σ.length := by rw [← hgl]; exact (List.getElem?_eq_some_iff.1 hg).1
   rcases ho id hid with e | ⟨e1, e2⟩
   ·rw [e]; trivial
   ·by_cases hd : obj s'.m id = .dead
    ·rw [hd]; trivial
    ·have hlt : σ[id] < G.length := by
      rw [h.len]
      refine zC fun hx => hd ?_
      rw [hx] at e2
      cases hob : obj s'.m id with
      | row k sz cs => rw [hob] at e2; cases k <;> cases e2
      | fence => rw [hob] at e1; cases e1
      | dead => rfl
      | arr _ _ _ => rw [hob] at e2; cases e2
      | it _ _ => rw [hob] at e2; cases e2
      | mp _ => rw [hob] at e2; cases e2
     rw [hget id hid] at hg
     have hgG : G[σ[id]]? = some g := by
      rw [List.getElem?_eq_getElem hlt] at hg ⊢
      simpa using hg
     have this := h.ob _ g hgG
     rw [e2] at this
     cases hob : obj s'.m id with
     | row k sz cs =>
      rw [hob] at this
      cases k with
      | true =>
       obtain ⟨L, vs, q1, q2, q3⟩ := this
       exact ⟨L, vs, q1, q2, aF.unren hun _ (O1 h3.2 id sz cs hob) q3⟩
      | false => exact this
     | fence => rw [hob] at e1; cases e1
     | dead => trivial
     | arr _ _ _ => rw [hob] at this; exact this
     | it _ _ => rw [hob] at this; exact this
     | mp _ => rw [hob] at this; exact this
  live := fun id L hL => by
   obtain ⟨hi, hg⟩ := hG hL
   have := h.live _ L hg
   refine ⟨this.1, this.2.1, ?_⟩
   rcases ho id hi with e | ⟨e1, e2⟩
   ·rw [e]; exact hdead this.2.2
   ·have h4 := this.2.2
    rw [e2] at h4
    cases hob : obj s'.m id with
    | row k sz cs =>
     rw [hob] at h4
     cases k with
     | true => simpa [renO, eE, wJ] using h4
     | false => exact h4
    | fence => rw [hob] at e1; simp [aC] at e1
    | dead => rw [hob] at h4; exact h4
    | arr _ _ _ => rw [hob] at h4; exact h4
    | it _ _ => rw [hob] at h4; exact h4
    | mp _ => rw [hob] at h4; exact h4
  inj := fun i j L M hi hj hb => by
   obtain ⟨q1, q2⟩ := hG hi
   obtain ⟨q3, q4⟩ := hG hj
   exact DB hn i j q1 q3 (h.inj _ _ L M q2 q4 hb)
  fb := h.fb
  keep := h.keep
  f0 := h.f0
  nd := h.nd
  rows := h.rows
  fence := fun k hk => absurd (h.fence k hk) (DA hf k)
  tabs := h.tabs
  pin := fun id g hp => by
   obtain ⟨⟨k, q1, q2⟩, _⟩ := h.pin id g hp
   exact absurd (h.fence k q1) (DA hf k) }
def LQ (P : Program) (N : Nat) (V : dJ) (w0 : World) (Q : Exit → St → Prop) : Exit → Act → World → Prop := fun e => eB P N V w0 (Q e)
theorem C6 : ∀ (c : Code) {l : Nat}, aO c = some l → ∃ rest, findLabel c l = some rest
 | .seq x y, l, h => by
  simp only [aO] at h
  split at h
  ·rename_i l' hx
   simp at h; subst h
   obtain ⟨rest, hr⟩ := C6 x hx
   exact ⟨.seq rest y, by simp [findLabel, hr]⟩
  ·obtain ⟨rest, hr⟩ := C6 y h
   cases hx : findLabel x l with
   | some r => exact ⟨.seq r y, by simp [findLabel, hx]⟩
   | none => exact ⟨rest, by simp [findLabel, hx, hr]⟩
 | .label l', l, h => by simp [aO] at h; subst h; exact ⟨.skip, by simp [findLabel]⟩
 | .skip, l, h => by simp [aO] at h
 | .exit _, l, h => by simp [aO] at h
 | .goto _, l, h => by simp [aO] at h
 | .ret, l, h => by simp [aO] at h
 | .rangeFunc _ _ _ _, l, h => by simp [aO] at h
 | .refuse _, l, h => by simp [aO] at h
 | .cond _ _ _, l, h => by simp [aO] at h
 | .block _ _, l, h => by simp [aO] at h
 | .loop _, l, h => by simp [aO] at h
 | .scope _, l, h => by simp [aO] at h
 | .region _ _ _, l, h => by simp [aO] at h
theorem least {p : Nat → Prop} (h : ∃ n, p n) : ∃ n, p n ∧ ∀ m, p m → n ≤ m := by
 obtain ⟨n, hn⟩ := h
 induction n using Nat.strongRecOn with
 | _ n ih =>
  by_cases hm : ∃ m, m < n ∧ p m
  ·obtain ⟨m, h1, h2⟩ := hm; exact ih m h1 h2
  ·exact ⟨n, hn, fun m h => Nat.le_of_not_lt fun hlt => hm ⟨m, hlt, h⟩⟩
theorem zg8 {b : Code} {Q : Exit → St → Prop} (hb : ∀ {Q : Exit → St → Prop} {s : St} {G : Gh} {F : Nat → Prop} {a : Act} {w : World}, aE P N V w0 s G F a w → awp C P b Q s → b.wp P (LQ P N V w0 Q) a w)
  (h : aE P N V w0 s G F a w) (hk : vO (awp C P b) Q s) : (Code.loop b).wp P (LQ P N V w0 Q) a w := by
 obtain ⟨ι, S, μ, i0, r, h0, hr⟩ := hk
 let At : ι → Act → World → Prop := fun i a w => eB P N V w0 (fun s => s = S i) a w
 let Pn : Act → World → Nat → Prop := fun a w n => ∃ i, μ i = n ∧ At i a w
 have hat : ∀ {s : St} {G : Gh} {F : Nat → Prop} {a : Act} {w : World} {i : ι}, aE P N V w0 s G F a w → wk s (S i) → At i a w := fun h hw => ⟨_, _, _, rfl, h.weak hw⟩
 have hatB : ∀ {s : St} {G : Gh} {F : Nat → Prop} {a : Act} {w : World} {i : ι}, aE P N V w0 s G F a w → wY r s (S i) → At i a w := fun h hw => by
  cases r with
  | false => exact hat h hw
  | true => obtain ⟨σ, hσ⟩ := hw; exact ⟨_, _, _, rfl, h.weakR hσ⟩
 classical
 refine wp_loop (fun a w => ∃ n, Pn a w n) (fun a w => if hn : ∃ n, Pn a w n then Classical.choose (least hn) else 0) ⟨_, i0, rfl, hat h h0⟩ ?_
 intro a w hI
 obtain ⟨i, hi, s1, G1, F1, rfl, hrel⟩ := (Classical.choose_spec (least hI)).1
 refine wp_mono (hb hrel (hr i)) ?_
 rintro e a' w' ⟨s', G', F', hq, hrel'⟩
 cases e with
 | normal =>
  obtain ⟨i', hw, hlt⟩ := hq
  have hI' : ∃ n, Pn a' w' n := ⟨_, i', rfl, hatB hrel' hw⟩
  refine ⟨hI', ?_⟩
  rw [dif_pos hI', dif_pos hI]
  have := (Classical.choose_spec (least hI')).2 _ ⟨i', rfl, hatB hrel' hw⟩
  omega
 | exit id => exact ⟨s', G', F', hq, hrel'⟩
 | goto l => exact ⟨s', G', F', hq, hrel'⟩
 | ret => exact ⟨s', G', F', hq, hrel'⟩
 | panic c => exact ⟨s', G', F', hq, hrel'⟩
 | outgrown => exact ⟨s', G', F', hq, hrel'⟩
mutual
theorem m4 (hC : C.Ok P) : ∀ (c : Code) {Q : Exit → St → Prop} {s : St} {G : Gh} {F : Nat → Prop} {a : Act} {w : World}, f9 N c = true → aE P N V w0 s G F a w → awp C P c Q s → c.wp P (LQ P N V w0 Q) a w
 | .skip, Q, s, G, F, a, w, _, h, hk => wp_skip ⟨s, G, F, by simpa [awp] using hk, h⟩
 | .label l, Q, s, G, F, a, w, _, h, hk => wp_label ⟨s, G, F, by simpa [awp] using hk, h⟩
 | .exit i, Q, s, G, F, a, w, _, h, hk => wp_exit ⟨s, G, F, by simpa [awp] using hk, h⟩
 | .goto l, Q, s, G, F, a, w, _, h, hk => wp_goto ⟨s, G, F, by simpa [awp] using hk, h⟩
 | .ret, Q, s, G, F, a, w, _, h, hk => wp_ret ⟨s, G, F, by simpa [awp] using hk, h⟩
 | .rangeFunc _ _ _ _, Q, s, G, F, a, w, _, h, hk => by simp [awp] at hk
 | .refuse _, Q, s, G, F, a, w, _, h, hk => by simp [awp] at hk
 | .seq x y, Q, s, G, F, a, w, ho, h, hk => by
  simp only [f9, Bool.and_eq_true] at ho
  simp only [awp] at hk
  refine wp_seq (wp_mono (m4 hC x ho.1 h hk) ?_)
  rintro e a' w' ⟨s', G', F', hq, h'⟩
  cases e with
  | normal => exact m4 hC y ho.2 h' hq
  | _ => exact ⟨s', G', F', hq, h'⟩
 | .cond c x y, Q, s, G, F, a, w, ho, h, hk => by
  simp only [f9, Bool.and_eq_true] at ho
  simp only [awp] at hk
  have hc := h.ev c
  split at hk
  ·rename_i t heq
   rw [heq] at hc
   cases t with
   | true => exact wp_cond_true hc.v_inv (m4 hC x ho.1 h (hk.1 rfl))
   | false => exact wp_cond_false hc.v_inv (m4 hC y ho.2 h (hk.2 rfl))
  ·exact hk.elim
 | .block id x, Q, s, G, F, a, w, ho, h, hk => by
  simp only [f9] at ho
  simp only [awp] at hk
  refine wp_block (wp_mono (m4 hC x ho h hk) ?_)
  rintro e a' w' ⟨s', G', F', hq, h'⟩
  cases e with
  | exit i =>
   simp only [p7] at hq
   simp only [Exit.inBlock]
   split
   ·rename_i e; rw [if_pos e] at hq; exact ⟨s', G', F', hq, h'⟩
   ·rename_i e; rw [if_neg e] at hq; exact ⟨s', G', F', hq, h'⟩
  | _ => exact ⟨s', G', F', hq, h'⟩
 | .loop x, Q, s, G, F, a, w, ho, h, hk => by
  simp only [f9] at ho
  simp only [awp] at hk
  exact zg8 (fun h hk => m4 hC x ho h hk) h hk
 | .scope x, Q, s, G, F, a, w, ho, h, hk => by
  simp only [f9] at ho
  simp only [awp] at hk
  split at hk
  ·refine wp_scope_straight (wp_mono (m4 hC x ho h hk) ?_)
   rintro e a' w' ⟨s', G', F', hq, h'⟩
   cases e with
   | goto l => exact hq.elim
   | _ => exact ⟨s', G', F', hq, h'⟩
  ·rename_i l hl
   obtain ⟨rest, hf⟩ := C6 x hl
   refine wp_scope_jumps l (eB P N V w0 fun s' => gE C P l x (tE l (fun _ => False) Q) s') (fun _ _ => 0) hf (wp_mono (m4 hC x ho h hk) ?_) ?_
   ·rintro e a' w' ⟨s', G', F', hq, h'⟩
    cases e with
    | goto l' => exact ⟨hq.1, s', G', F', hq.2, h'⟩
    | _ => exact ⟨s', G', F', hq, h'⟩
   ·rintro a' w' ⟨s', G', F', hq, h'⟩
    obtain ⟨rest', hf', hw⟩ := CF hC l x ho h' hq
    rw [hf] at hf'
    simp at hf'
    subst hf'
    refine wp_mono hw ?_
    rintro e a' w' ⟨s', G', F', hq, h'⟩
    cases e with
    | goto l' => exact hq.2.elim
    | _ => exact ⟨s', G', F', hq, h'⟩
 | .region id ops draw, Q, s, G, F, a, w, ho, h, hk => by
  simp only [f9, Bool.and_eq_true, List.all_eq_true, Bool.or_eq_true, Bool.not_eq_true'] at ho
  simp only [awp] at hk
  cases draw with
  | false => exact wp_region_list (z4l hC ops (fun a w h => h) ops.toList ho.1 h hk)
  | true =>
   rcases hk with hk | ⟨pl, hok, hk⟩
   ·exact zbr hC h ho.1 (by simpa using ho.2) hk
   ·exact zic hC h ho.1 hok hk
theorem CF (hC : C.Ok P) (l : Nat) : ∀ (c : Code) {Q : Exit → St → Prop} {s : St} {G : Gh} {F : Nat → Prop} {a : Act} {w : World}, f9 N c = true → aE P N V w0 s G F a w → gE C P l c Q s →
  ∃ rest, findLabel c l = some rest ∧ rest.wp P (LQ P N V w0 Q) a w
 | .seq x y, Q, s, G, F, a, w, ho, h, hk => by
  simp only [f9, Bool.and_eq_true] at ho
  simp only [gE] at hk
  split at hk
  ·obtain ⟨rest, hf, hw⟩ := CF hC l x ho.1 h hk
   refine ⟨.seq rest y, by simp [findLabel, hf], wp_seq (wp_mono hw ?_)⟩
   rintro e a' w' ⟨s', G', F', hq, h'⟩
   cases e with
   | normal => exact m4 hC y ho.2 h' hq
   | _ => exact ⟨s', G', F', hq, h'⟩
  ·rename_i hl
   obtain ⟨rest, hf, hw⟩ := CF hC l y ho.2 h hk
   refine ⟨rest, ?_, hw⟩
   have : findLabel x l = none := by cases hx : findLabel x l <;> simp_all
   simp [findLabel, this, hf]
 | .label l', Q, s, G, F, a, w, _, h, hk => by
  simp only [gE] at hk
  obtain ⟨rfl, hk⟩ := hk
  exact ⟨.skip, by simp [findLabel], wp_skip ⟨s, G, F, hk, h⟩⟩
 | .skip, Q, s, G, F, a, w, _, h, hk => by simp [gE] at hk
 | .exit _, Q, s, G, F, a, w, _, h, hk => by simp [gE] at hk
 | .goto _, Q, s, G, F, a, w, _, h, hk => by simp [gE] at hk
 | .ret, Q, s, G, F, a, w, _, h, hk => by simp [gE] at hk
 | .rangeFunc _ _ _ _, Q, s, G, F, a, w, _, h, hk => by simp [gE] at hk
 | .refuse _, Q, s, G, F, a, w, _, h, hk => by simp [gE] at hk
 | .cond _ _ _, Q, s, G, F, a, w, _, h, hk => by simp [gE] at hk
 | .block _ _, Q, s, G, F, a, w, _, h, hk => by simp [gE] at hk
 | .loop _, Q, s, G, F, a, w, _, h, hk => by simp [gE] at hk
 | .scope _, Q, s, G, F, a, w, _, h, hk => by simp [gE] at hk
 | .region _ _ _, Q, s, G, F, a, w, _, h, hk => by simp [gE] at hk
end
end
end Go.AE
