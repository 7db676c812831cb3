/- A part of the abstract evaluator: no condition. -/
import Derived.Test.YtoppecphhiiiiaaGreatDoorAEQuiet
import Derived.Orders
set_option linter.unusedVariables false
set_option linter.unusedSimpArgs false
namespace Go.AE
theorem Q1 {ops : List Oper} : ∀ (l : List Oper) (k : Nat), y5 ops k l = true → ∀ (i : Nat) (o : Oper), l[i]? = some o → BF (k + i) o = true ∧ ∀ t ∈ looks ops o, D5 ops (k + i) o t = true
 | [], k, _, i, o, ho => by simp at ho
 | p :: l, k, h, i, o, ho => by
  simp only [y5, Bool.and_eq_true] at h
  cases i with
  | zero => simp at ho; subst ho; exact ⟨h.1.1, by simpa using h.1.2⟩
  | succ i =>
   have := Q1 l (k + 1) h.2 i o (by simpa using ho)
   have e : k + 1 + i = k + (i + 1) := by omega
   rw [e] at this
   exact this
theorem u9 : ∀ (l : List Oper) (k t j : Nat), writer l k t = some j → k ≤ j ∧ ∃ o, l[j - k]? = some o ∧ o.dst = some t
 | [], k, t, j, h => by simp [writer] at h
 | o :: l, k, t, j, h => by
  simp only [writer] at h
  split at h
  ·rename_i e; simp at h; subst h; exact ⟨Nat.le_refl _, o, by simp, e⟩
  ·obtain ⟨h1, p, h2, h3⟩ := u9 l (k + 1) t j h
   refine ⟨by omega, p, ?_, h3⟩
   have : j - k = (j - (k + 1)) + 1 := by omega
   rw [this]; simpa using h2
theorem AR : ∀ (l : List Oper) (k i t : Nat) (o : Oper), z2 (l.filterMap (·.dst)) = true → l[i]? = some o → o.dst = some t → writer l k t = some (k + i)
 | [], k, i, t, o, _, h, _ => by simp at h
 | p :: l, k, i, t, o, hn, h, hd => by
  cases i with
  | zero => simp at h; subst h; simp [writer, hd]
  | succ i =>
   have h' : l[i]? = some o := by simpa using h
   have hmem : t ∈ l.filterMap (·.dst) := List.mem_filterMap.2 ⟨o, List.mem_of_getElem? h', hd⟩
   cases hp : p.dst with
   | none =>
    simp only [List.filterMap_cons, hp] at hn
    simp only [writer, hp]
    have := AR l (k + 1) i t o hn h' hd
    simp [this]; omega
   | some u =>
    simp only [List.filterMap_cons, hp, z2, Bool.and_eq_true, Bool.not_eq_true'] at hn
    have hne : u ≠ t := fun e => by subst e; simp at hn; simp at hmem; obtain ⟨q, hq, hqd⟩ := hmem; exact hn.1 q hq hqd
    simp only [writer, hp]
    rw [if_neg (by simpa using hne)]
    have := AR l (k + 1) i t o hn.2 h' hd
    rw [this]; congr 1; omega
theorem O4 {o : Oper} {j : Nat} (h : xL o j = true) : ∃ e ∈ o.after, Region.binds .any e = true ∧ e.on = j := by
 simp only [xL, List.any_eq_true, Bool.and_eq_true, beq_iff_eq] at h
 obtain ⟨e, he, h1, h2⟩ := h
 exact ⟨e, by simpa using he, h1, h2⟩
section
variable {N : Nat} {C : bI} {P : Program} {V : dJ} {w0 w w' : World} {s s' : St} {G : Gh} {F : Nat → Prop} {a : Act}
def OV (C : bI) (P : Program) (s : St) (o : Oper) (x : AV) : Prop :=
 match o.op with
 | .call { callee := .value f, args, .. } => (match ev s f with
  | .fn k first cap => ∃ r, aG P k (fzs s (first ++ args.toList.map (ev s) ++ cap)) r ∧ (namess (first ++ args.toList.map (ev s) ++ cap) = false ∨ clean r) ∧ belows s.m.length (first ++ args.toList.map (ev s) ++ cap) = true ∧ aQ (unown r) = true ∧ x = unown r
  | _ => False)
 | _ => jT C s o.op (· = x)
theorem ZA {o : Oper} {K : St → Prop} (h : qop C P s o K) : ∃ x, OV C P s o x ∧ K ⟨putD s.t o.dst x, s.m⟩ := by
 unfold qop at h
 split at h
 ·rename_i f args ats ho
  split at h
  ·rename_i k first cap hf
   obtain ⟨r, h1, h2, h2', h3, h4⟩ := h
   exact ⟨unown r, by unfold OV; rw [ho]; simp only [hf]; exact ⟨r, h1, h2, h2', h3, rfl⟩, h4⟩
  ·exact h.elim
 ·rename_i hne
  obtain ⟨x, h1, h2⟩ := zik h
  refine ⟨x, ?_, h1⟩
  unfold OV
  split
  ·rename_i f args ats ho; exact absurd ho (hne f args ats)
  ·exact h2 _ rfl
theorem glt {G : Gh} {id : Nat} {y : Option bU} (hg : G[id]? = some y) : id < G.length := (List.getElem?_eq_some_iff.1 hg).1
mutual
theorem aH.belowL {w : World} {F : Nat → Prop} : ∀ {G : Gh} {x : AV} {v : Value}, aH w F G x v → AE.below G.length x = true
 | _, _, _, .v x => rfl
 | _, _, _, .junk x => rfl
 | _, _, _, .un => rfl
 | _, _, _, .sl0 => rfl
 | _, _, _, .sl _ _ _ _ => rfl
 | _, _, _, .ref h1 _ _ => by simpa [AE.below] using glt h1
 | _, _, _, .refe h1 _ => by simpa [AE.below] using glt h1
 | _, _, _, .ref0 h1 => by simpa [AE.below] using glt h1
 | _, _, _, .ptr h1 => by simpa [AE.below] using glt h1
 | _, _, _, .cp _ _ _ => rfl
 | _, _, _, .ag hs => by simpa [AE.below] using aF.belowL hs
 | _, _, _, .tup hs => by simpa [AE.below] using aF.belowL hs
 | _, _, _, .fn hs hs' => by simp [AE.below, aF.belowL hs, aF.belowL hs']
 | _, _, _, .mp _ _ _ => rfl
 | _, _, _, .mr h1 => by simpa [AE.below] using glt h1
theorem aF.belowL {w : World} {F : Nat → Prop} : ∀ {G : Gh} {xs : List AV} {vs : List Value}, aF w F G xs vs → AE.belows G.length xs = true
 | _, _, _, .nil => rfl
 | _, _, _, .cons h1 h2 => by simp [AE.belows, aH.belowL h1, aF.belowL h2]
end
mutual
theorem z9v {n m : Nat} (h : n ≤ m) : ∀ {x : AV}, below n x = true → below m x = true
 | .ref i _ _, hx => by simp only [below, decide_eq_true_eq] at hx ⊢; omega
 | .ptr i _, hx => by simp only [below, decide_eq_true_eq] at hx ⊢; omega
 | .mr i, hx => by simp only [below, decide_eq_true_eq] at hx ⊢; omega
 | .ag cs, hx => by simp only [below] at hx ⊢; exact sC h hx
 | .tup cs, hx => by simp only [below] at hx ⊢; exact sC h hx
 | .fn _ a b, hx => by simp only [below, Bool.and_eq_true] at hx ⊢; exact ⟨sC h hx.1, sC h hx.2⟩
 | .v _, _ => rfl
 | .junk, _ => rfl
 | .un, _ => rfl
 | .sl _ _, _ => rfl
 | .cp _, _ => rfl
 | .mp _, _ => rfl
 | .own _ _ _ _, _ => rfl
 | .lend _ _ _, _ => rfl
 | .lptr _, _ => rfl
theorem sC {n m : Nat} (h : n ≤ m) : ∀ {xs : List AV}, belows n xs = true → belows m xs = true
 | [], _ => rfl
 | x :: l, hx => by simp only [belows, Bool.and_eq_true] at hx ⊢; exact ⟨z9v h hx.1, sC h hx.2⟩
end
def x6 (m : List Ob) : Prop := ∀ id sz cs, obj m id = .row true sz cs → belows m.length cs = true
theorem aE.belowM (h : aE P N V w0 s G F a w) : x6 s.m := fun id sz cs ho => by
 by_cases hid : id < G.length
 ·have := h.ob id _ (List.getElem?_eq_getElem hid)
  rw [ho] at this
  obtain ⟨L, vs, _, _, hr⟩ := this
  have := aF.belowL (G := G) (w := w) (F := F) (xs := cs) (vs := vs) hr
  rwa [h.len] at this
 ·have : obj s.m id = .dead := by
   rw [h.len] at hid
   have : ∀ (l : List Ob) (k : Nat), l.length ≤ k → obj l k = .dead := by
    intro l
    induction l with
    | nil => intro k _; cases k <;> rfl
    | cons x l ih => intro k hk; cases k with
     | zero => simp at hk
     | succ k => simp only [obj]; exact ih k (by simpa using hk)
   exact this _ _ (by omega)
  rw [this] at ho; simp at ho
theorem vT {m e : List Ob} {id : Nat} (h : id < m.length) : obj (m ++ e) id = obj m id := by
 induction m generalizing id with
 | nil => simp at h
 | cons x l ih => cases id with
  | zero => rfl
  | succ k => simp only [List.cons_append, obj]; exact ih (by simpa using h)
theorem zhl {m : List Ob} {id : Nat} (h : ∀ _ : obj m id = .dead, False) : id < m.length := by
 rcases Nat.lt_or_ge id m.length with h' | h'
 ·exact h'
 ·exfalso; apply h
  clear h
  induction m generalizing id with
  | nil => cases id <;> rfl
  | cons x l ih => cases id with
   | zero => simp at h'
   | succ k => simp only [obj]; exact ih (by simpa using h')
theorem m3.ext (m e : List Ob) : m3 m (m ++ e) := fun _ h => vT (zhl h)
mutual
theorem SJ {t1 t2 : List (Nat × AV)} {m1 : List Ob} (h1 : dW ⟨t1, m1⟩ = dW ⟨t2, m1⟩) : ∀ x, fz ⟨t1, m1⟩ x = fz ⟨t2, m1⟩ x
 | .ref id off n => by simp only [fz, h1]
 | .ptr id off => by simp only [fz, h1]
 | .ag cs => by simp only [fz, tC h1 cs]
 | .tup cs => by simp only [fz, tC h1 cs]
 | .fn f x y => by simp only [fz, tC h1 x, tC h1 y]
 | .v _ => rfl
 | .junk => rfl
 | .un => rfl
 | .sl _ _ => rfl
 | .cp _ => rfl
 | .mp _ => rfl
 | .mr id => by simp only [fz]
 | .own _ _ _ _ => rfl
 | .lend _ _ _ => rfl
 | .lptr _ => rfl
theorem tC {t1 t2 : List (Nat × AV)} {m1 : List Ob} (h1 : dW ⟨t1, m1⟩ = dW ⟨t2, m1⟩) : ∀ xs, fzs ⟨t1, m1⟩ xs = fzs ⟨t2, m1⟩ xs
 | [] => rfl
 | x :: l => by simp only [fzs, SJ h1 x, tC h1 l]
end
theorem zd1 {t1 t2 : List (Nat × AV)} {m1 : List Ob} (h1 : dW ⟨t1, m1⟩ = dW ⟨t2, m1⟩) : (∀ x, fz ⟨t1, m1⟩ x = fz ⟨t2, m1⟩ x) ∧ ∀ xs, fzs ⟨t1, m1⟩ xs = fzs ⟨t2, m1⟩ xs := ⟨SJ h1, tC h1⟩
theorem S0 {e : List Ob} (hm : s'.m = s.m ++ e) {x : AV} (hx : below s.m.length x = true) : dW s' x = dW s x := by
 cases x <;> simp only [dW, hm]
 ·rw [vT (by simpa [below] using hx)]
 ·rw [vT (by simpa [below] using hx)]
theorem zcz {e : List Ob} (hm : s'.m = s.m ++ e) {xs : List AV} (hx : belows s.m.length xs = true) : xs.map (dW s') = xs.map (dW s) := by
 induction xs with
 | nil => rfl
 | cons x l ih => simp only [belows, Bool.and_eq_true] at hx; simp only [List.map_cons, S0 hm hx.1, ih hx.2]
mutual
theorem zd2 {e : List Ob} (hm : s'.m = s.m ++ e) (hb : x6 s.m) : ∀ {x : AV}, below s.m.length x = true → fz s' x = fz s x
 | .ref id off n, hx => by simp only [fz, S0 hm hx]
 | .ptr id off, hx => by
  simp only [fz, hm]
  rw [vT (by simpa [below] using hx)]
  split <;> first | rfl | skip
  rename_i sz cs ho
  rw [zcz hm (hb _ _ _ ho)]
 | .ag cs, hx => by simp only [fz, t8 hm hb (show belows s.m.length cs = true from hx)]
 | .tup cs, hx => by simp only [fz, t8 hm hb (show belows s.m.length cs = true from hx)]
 | .fn f x y, hx => by
  simp only [below, Bool.and_eq_true] at hx
  simp only [fz, t8 hm hb hx.1, t8 hm hb hx.2]
 | .v _, _ => rfl
 | .junk, _ => rfl
 | .un, _ => rfl
 | .sl _ _, _ => rfl
 | .cp _, _ => rfl
 | .mp _, _ => rfl
 | .mr id, hx => by simp only [fz, hm]; rw [vT (by simpa [below] using hx)]
 | .own _ _ _ _, _ => rfl
 | .lend _ _ _, _ => rfl
 | .lptr _, _ => rfl
theorem t8 {e : List Ob} (hm : s'.m = s.m ++ e) (hb : x6 s.m) : ∀ {xs : List AV}, belows s.m.length xs = true → fzs s' xs = fzs s xs
 | [], _ => rfl
 | x :: l, hx => by
  simp only [belows, Bool.and_eq_true] at hx
  simp only [fzs, zd2 hm hb hx.1, t8 hm hb hx.2]
end
theorem zd3 (hm : s.m = s'.m) (xs : List AV) : fzs s xs = fzs s' xs := by
 have : ∀ s1 s2 : St, s1.m = s2.m → fz s1 = fz s2 ∧ fzs s1 = fzs s2 := by
  rintro ⟨t1, m1⟩ ⟨t2, m2⟩ rfl
  have h1 : ∀ x, dW ⟨t1, m1⟩ x = dW ⟨t2, m1⟩ x := fun x => by cases x <;> simp only [dW]
  have h1' : dW ⟨t1, m1⟩ = dW ⟨t2, m1⟩ := funext h1
  have h2 : (∀ x, fz ⟨t1, m1⟩ x = fz ⟨t2, m1⟩ x) ∧ ∀ xs, fzs ⟨t1, m1⟩ xs = fzs ⟨t2, m1⟩ xs := zd1 h1'
  exact ⟨funext h2.1, funext h2.2⟩
 rw [(this s s' hm).2]
theorem z8l {o : Oper} {x : AV} {e : List Ob} (hm : s'.m = s.m ++ e) (hb : x6 s.m) (he : ∀ y ∈ o.op.operands, ev s y = ev s' y) (h : OV C P s o x) : OV C P s' o x := by
 unfold OV at h ⊢
 split
 ·rename_i f args ats ho
  rw [ho] at h
  simp only at h
  have hf := he f (by simp [ho, Op.operands, Call.operands])
  have ha : args.toList.map (ev s) = args.toList.map (ev s') := List.map_congr_left fun y hy => he y (by simp [ho, Op.operands, Call.operands]; exact .inr (by simpa using hy))
  rw [← hf]
  split
  ·rename_i k first cap hk
   simp only [hk] at h
   obtain ⟨r, h1, h2, h3, h4, h5⟩ := h
   rw [← ha]
   exact ⟨r, by rw [t8 hm hb h3]; exact h1, h2, sC (by rw [hm]; simp) h3, h4, h5⟩
  ·rename_i hk
   split at h
   ·rename_i k first cap hk'; exact absurd hk' (hk k first cap)
   ·exact h
 ·rename_i hne
  split at h
  ·rename_i f args ats ho; exact absurd ho (hne f args ats)
  ·exact ZB (by rw [hm]; exact m3.ext _ _) he h
theorem B6 {o : Oper} {x : AV} (hs : gA o.op = true) (he : ∀ y ∈ o.op.operands, ev s y = ev s' y) (h : OV C P s o x) : OV C P s' o x := by
 unfold OV at h ⊢
 split
 ·rename_i f args ats ho
  rw [ho] at hs; simp [gA] at hs
 ·rename_i hne
  split at h
  ·rename_i f args ats ho; exact absurd ho (hne f args ats)
  ·exact ZC hs he h
def TV (C : bI) (s : St) (o : Oper) (m' : List Ob) : Prop := gH C s o (· = ⟨putD s.t o.dst .junk, m'⟩)
theorem vQ {o : Oper} (h : cP o = true) : ∃ t p x, o.op = .store t p x := by
 unfold cP dC at h
 cases hop : o.op <;> rw [hop] at h <;> simp at h
 exact ⟨_, _, _, rfl⟩
theorem zg9 {o : Oper} {K : St → Prop} (hl : cP o = true) (h : gH C s o K) : ∃ m', TV C s o m' ∧ K ⟨putD s.t o.dst .junk, m'⟩ := by
 obtain ⟨t, p, x, ho⟩ := vQ hl
 unfold gH at h
 rw [ho] at h
 simp only at h
 split at h
 ·rename_i i id off e1 e2
  split at h
  ·rename_i e sz cs e3
   exact ⟨_, by unfold TV gH; rw [ho]; simp only [e1, e2, e3]; exact ⟨h.1, h.2.1, h.2.2.1, trivial⟩, h.2.2.2⟩
  ·rename_i sz cs e3
   exact ⟨_, by unfold TV gH; rw [ho]; simp only [e1, e2, e3]; exact ⟨h.1, h.2.1, h.2.2.1, trivial⟩, h.2.2.2⟩
  ·rename_i sz cs e3
   exact ⟨_, by unfold TV gH; rw [ho]; simp only [e1, e2, e3]; exact ⟨h.1, h.2.1, h.2.2.1, trivial⟩, h.2.2.2⟩
  ·exact h.elim
 ·exact h.elim
theorem VR {o : Oper} {m' : List Ob} (hl : cP o = true) (hm : s.m = s'.m) (he : ∀ y ∈ o.op.operands, ev s y = ev s' y) (h : TV C s o m') : TV C s' o m' := by
 obtain ⟨t, p, x, ho⟩ := vQ hl
 have hp := he p (by simp [ho, Op.operands])
 have hx := he x (by simp [ho, Op.operands])
 unfold TV gH at h ⊢
 rw [ho] at h ⊢
 simp only at h ⊢
 rw [← hp, ← hx, ← hm]
 split
 ·rename_i i id off e1 e2
  rw [e1, e2] at h
  simp only at h
  split
  ·rename_i e sz cs e3
   rw [e3] at h
   obtain ⟨h1, h2, h3, h4⟩ := h
   simp only [St.mk.injEq] at h4
   exact ⟨h1, h2, h3, by rw [h4.2]⟩
  ·rename_i sz cs e3
   rw [e3] at h
   obtain ⟨h1, h2, h3, h4⟩ := h
   simp only [St.mk.injEq] at h4
   exact ⟨h1, h2, h3, by rw [h4.2]⟩
  ·rename_i sz cs e3
   rw [e3] at h
   obtain ⟨h1, h2, h3, h4⟩ := h
   simp only [St.mk.injEq] at h4
   exact ⟨h1, h2, h3, by rw [h4.2]⟩
  ·rename_i h1 h2 h3
   split at h
   ·rename_i e sz cs e3; exact absurd e3 (h1 _ _ _)
   ·rename_i sz cs e3; exact absurd e3 (h2 _ _)
   ·rename_i sz cs e3; exact absurd e3 (h3 _ _)
   ·exact h
 ·rename_i h1
  split at h
  ·rename_i i id off e1 e2; exact absurd e2 (h1 _ _ _ e1)
  ·exact h
def xA (H : Gh) (b : Nat) : Prop := ∃ (id : Nat) (L : bU), H[id]? = some (some L) ∧ L.b = b
mutual
theorem z34 {w : World} {F : Nat → Prop} {H : Gh} {obs : List Ob} (ho : ∀ (id : Nat) (g : Option bU), H[id]? = some g → d6 w F H g (obj obs id)) :
  ∀ (r : AV) (k : Nat) {v : Value}, (∀ j, j < (imp k r).2.length → obj obs (k + j) = obj (imp k r).2 j) → aQ (unown r) = true → aH w F H (imp k r).1 v → aH w (fun b => F b ∨ xA H b) [] (unown r) v
 | .own e sz n cs, k, v, hob, hp, h => by
  have h0 := hob 0 (by simp [imp])
  simp only [imp, Nat.add_zero, obj] at h0
  simp only [imp] at h
  simp only [unown]
  have hsub : fQ F (fun b => F b ∨ xA H b) w w := ⟨fun _ h => .inl h, fun _ _ => rfl⟩
  rcases h.ref_inv with ⟨hg, rfl, _, rfl⟩ | ⟨L, off', cap, hg, rfl, hn, hc, hoff⟩
  ·have := ho k _ hg
   rw [h0] at this
   obtain ⟨n', vs, hown, hr, _⟩ := this
   have hvs : vs = [] := by
    rcases hown.2 with ⟨_, hn⟩ | ⟨_, _, _, h5, _⟩
    ·subst hn; exact List.eq_nil_of_length_eq_zero (by simpa using hown.1)
    ·simp [slv] at h5
   subst hvs
   have : cs = [] := List.eq_nil_of_length_eq_zero (by simpa using hr.length)
   subst this
   exact .sl0
  ·have := ho k _ hg
   rw [h0] at this
   obtain ⟨n', vs, hown, hr, h1, _, hL0⟩ := this
   have e : off' = L.o + 0 := by rcases hoff with ⟨_, h⟩ | h; exact absurd rfl h; exact h
   subst e
   refine .sl (.inr ⟨k, L, hg, rfl⟩) hn ?_ (aF.mono hsub (bS.refl _) hr)
   rw [hL0 L rfl]
   exact BE hown h1
 | .tup xs, k, v, hob, hp, h => by
  simp only [imp] at h hob
  obtain ⟨vs, rfl, hr⟩ := h.tup_inv
  simp only [unown, aQ] at hp ⊢
  exact .tup (FQ ho xs k hob hp hr)
 | .v x, k, v, hob, hp, h => by cases h; exact .v _
 | .sl n cs, k, v, hob, hp, h => by
  simp only [imp] at h
  exact aH.mono ⟨fun _ h => .inl h, fun _ _ => rfl⟩ (bS.nil _) (by
   cases h with
   | sl0 => exact .sl0
   | sl h1 h2 h3 h4 => exact .sl h1 h2 h3 h4)
 | .cp cs, k, v, hob, hp, h => by
  simp only [imp] at h
  exact aH.mono ⟨fun _ h => .inl h, fun _ _ => rfl⟩ (bS.nil _) (by cases h with | cp h1 h2 h3 => exact .cp h1 h2 h3)
 | .mp cs, k, v, hob, hp, h => by
  simp only [imp] at h
  exact aH.mono ⟨fun _ h => .inl h, fun _ _ => rfl⟩ (bS.nil _) (by cases h with | mp h1 h2 h3 => exact .mp h1 h2 h3)
 | .junk, k, v, hob, hp, h => by simp [unown, aQ] at hp
 | .un, k, v, hob, hp, h => by simp [unown, aQ] at hp
 | .ref _ _ _, k, v, hob, hp, h => by simp [unown, aQ] at hp
 | .ptr _ _, k, v, hob, hp, h => by simp [unown, aQ] at hp
 | .ag xs, k, v, hob, hp, h => by
  simp only [imp] at h hob
  obtain ⟨vs, rfl, hr⟩ := h.ag_inv
  simp only [unown, aQ] at hp ⊢
  exact .ag (FQ ho xs k hob hp hr)
 | .fn f fa fb, k, v, hob, hp, h => by
  simp only [imp] at h
  simp only [unown, aQ, Bool.not_eq_true'] at hp ⊢
  exact aH.mono ⟨fun _ h => .inl h, fun _ _ => rfl⟩ (bS.nil _) (z6 (by simpa [names] using hp) h)
 | .mr _, k, v, hob, hp, h => by simp [unown, aQ] at hp
 | .lend _ _ _, k, v, hob, hp, h => by simp [unown, aQ] at hp
 | .lptr _, k, v, hob, hp, h => by simp [unown, aQ] at hp
theorem FQ {w : World} {F : Nat → Prop} {H : Gh} {obs : List Ob} (ho : ∀ (id : Nat) (g : Option bU), H[id]? = some g → d6 w F H g (obj obs id)) :
  ∀ (rs : List AV) (k : Nat) {vs : List Value}, (∀ j, j < (imps k rs).2.length → obj obs (k + j) = obj (imps k rs).2 j) → oL (unowns rs) = true → aF w F H (imps k rs).1 vs → aF w (fun b => F b ∨ xA H b) [] (unowns rs) vs
 | [], k, vs, hob, hp, h => by cases h; exact .nil
 | r :: rs, k, vs, hob, hp, h => by
  simp only [imps] at h hob
  simp only [unowns, oL, Bool.and_eq_true] at hp ⊢
  cases h with
  | cons h1 h2 =>
   refine .cons (z34 ho r k (fun j hj => ?_) hp.1 h1) (FQ ho rs _ (fun j hj => ?_) hp.2 h2)
   ·rw [hob j (by simp; omega), rA _ _ _ hj]
   ·have := hob ((imp k r).2.length + j) (by simp; omega)
    rw [← Nat.add_assoc] at this
    rw [this, DC _ _ _ (by omega)]
    congr 1
    omega
end
theorem zii (h : aE P N V w0 s G F a w) {o : Oper} (hd : cV N o.dst = true) {f : Operand} {args : Array Operand} {ats : Array TypeId} {k : Nat} {first cap : List AV} {r : AV} {Q : Exit → Act → World → Prop}
  (ho : o.op = .call { callee := .value f, args := args, argTypes := ats }) (hf : ev s f = .fn k first cap) (hs : aG P k (fzs s (first ++ args.toList.map (ev s) ++ cap)) r)
  (hcl : namess (first ++ args.toList.map (ev s) ++ cap) = false ∨ clean r) (hp : aQ (unown r) = true) : o.wp P a w (eB P N V w0 (· = ⟨putD s.t o.dst (unown r), s.m⟩)) Q := by
 have hfv := h.ev f
 rw [hf] at hfv
 obtain ⟨hbody, hspec⟩ := hs
 obtain ⟨fvs, cvs, hfe, hr1, hr2⟩ : ∃ fvs cvs : List Value, a.eval f = .func (.func k) fvs.toArray cvs.toArray ∧ aF w F G first fvs ∧ aF w F G cap cvs := by
  cases hfv' : a.eval f <;> rw [hfv'] at hfv <;> cases hfv
  exact ⟨_, _, rfl, by assumption, by assumption⟩
 have hargs : aF w F G (first ++ args.toList.map (ev s) ++ cap) (fvs ++ args.toList.map a.eval ++ cvs) := (hr1.append (aF.ev h _)).append hr2
 have hrun := C0 (P := P) (w := w) ho hfe hbody
 have harr : fvs.toArray ++ args.map a.eval ++ cvs.toArray = (fvs ++ args.toList.map a.eval ++ cvs).toArray := by
  apply Array.ext'; simp
 rw [harr] at hrun
 unfold Oper.wp
 rw [hrun, Oper.upon_enter]
 have fin : ∀ {w' : World} {v : Value} {F' : Nat → Prop} {H : Gh}, d7 w w' → (∀ b, F b → F' b) → (∀ b, F' b → (F b ∨ w.heap.size ≤ b) ∧ b < w'.heap.size) → aH w' F' H (imp 0 r).1 v → o8 w' F' H (imp 0 r).2 →
   (∀ (id : Nat) (L : bU), H[id]? = some (some L) → w.heap.size ≤ L.b) → eB P N V w0 (· = ⟨putD s.t o.dst (unown r), s.m⟩) (a.put o.dst v) w' := by
  intro w' v F' H hw hF hF' hrep hobs hnew
  have hv := z34 hobs.ob r 0 (fun j _ => by rw [Nat.zero_add]) hp hrep
  have hi := h.brought hw (F' := fun b => F' b ∨ xA H b) (fun b hb => .inl (hF b hb)) (fun b hb => by
   rcases hb with hb | ⟨id, L, hg, rfl⟩
   ·exact hF' b hb
   ·exact ⟨.inr (hnew id L hg), (hobs.lt id L hg).2⟩) (H := []) (obs := []) ⟨rfl, by simp, by simp, by simp⟩ (by simp)
  have hi' := hi.putD hd (aH.mono ⟨fun _ h => h, fun _ _ => rfl⟩ (bS.nil _) hv)
  refine ⟨_, _, _, ?_, hi'⟩
  simp
 by_cases hn : namess (first ++ args.toList.map (ev s) ++ cap) = false
 ·refine (hspec w F _ (fun b hb => (h.fb b hb).1) h.tb (pI h hn hargs)).mono ?_
  rintro e w' ⟨v, F', H, rfl, hw, hF, hF', hrep, hobs, hnew⟩
  exact fin hw hF hF' hrep hobs hnew
 ·have hcl : clean r := hcl.resolve_left hn
  refine (hspec w (hP F G) _ (fun b hb => by
   rcases hb with hb | ⟨id, L, hg, rfl⟩
   ·exact (h.fb b hb).1
   ·exact (h.live id L hg).2.1) (h.tb.sub fun _ hb => .inl hb) (pJ h hargs)).mono ?_
  rintro e w' ⟨v, F', H, rfl, hw, hF, hF', hrep, hobs, hnew⟩
  exact fin hw (F' := F) (fun _ h => h) (fun b hb => ⟨.inl hb, Nat.lt_of_lt_of_le (h.fb b hb).1 hw.size⟩) (hrep.clean hcl) (hobs.clean (yI hcl) (fun b hb => hF b (.inl hb))) hnew
theorem zg1 (hC : C.Ok P) (h : aE P N V w0 s G F a w) {o : Oper} (hd : cV N o.dst = true) {t len : Nat} {parts : Array (Nat × Operand)} {x : AV} {Q : Exit → Act → World → Prop} (ho : o.op = .buildSlice t len parts)
  (hk : pQ C (C.td t) len (parts.toList.map fun p => (p.1, ev s p.2)) (· = x)) : o.wp P a w (eB P N V w0 (· = ⟨putD s.t o.dst x, s.m⟩)) Q := by
 unfold pQ at hk
 split at hk
 ·rename_i e ht
  split at hk
  ·rename_i i hi
   obtain ⟨h1, h2, h3, h4⟩ := hk
   obtain ⟨cs, k1, k2, k3, k4, k5⟩ := D4 h i.size parts.toList 0 _ h4
   obtain ⟨vs, hvs⟩ : ∃ vs, vs = (parts.toList.map fun p => (p.1, a.eval p.2)).flatMap fun p => p.2.cells.toList := ⟨_, rfl⟩
   rw [← hvs] at k2 k3
   have hl : parts.toList.length = len := by simpa using h1
   have hvl : vs.length = len * i.size := by rw [← k2.length, k5, hl]
   have hw : d7 w (w.alloc (.cells vs.toArray e)) := .alloc _ _
   have hrun : (execOp a.eval o).run P w = .ok (.value (.slice (some ⟨w.heap.size, 0, none⟩) len len)) (w.alloc (.cells vs.toArray e)) := VA hC ho ht hi hl h2 h3 k4 hvs hvl
   unfold Oper.wp
   rw [hrun]
   subst k1
   let F' : Nat → Prop := fun b => F b ∨ b = w.heap.size
   have hi := h.brought hw (F' := F') (fun b hb => .inl hb) (fun b hb => by
    rcases hb with hb | hb
    ·exact ⟨.inl hb, Nat.lt_of_lt_of_le (h.fb b hb).1 hw.size⟩
    ·subst hb; exact ⟨.inr (Nat.le_refl _), by simp⟩) (H := []) (obs := []) ⟨rfl, by simp, by simp, by simp⟩ (by simp)
   have hrep : aH (w.alloc (.cells vs.toArray e)) F' (G ++ []) (.sl len cs) (.slice (some ⟨w.heap.size, 0, none⟩) len len) := by
    have hrd := wM (zY w vs.toArray e (by simpa using k3))
    exact .sl (.inr rfl) (Nat.le_refl _) (vs := vs) (by simpa using hrd) (aF.mono ⟨fun b hb => .inl hb, fun b hb => hw.block b (h.fb b hb).1⟩ (bS.refl _) k2)
   have hi' := hi.putD hd hrep
   exact ⟨_, _, _, by simp, hi'⟩
  ·exact hk.elim
 ·exact hk.elim
theorem z8m (hC : C.Ok P) (h : aE P N V w0 s G F a w) {o : Oper} (hd : cV N o.dst = true) {x : AV} {Q : Exit → Act → World → Prop} (ho : OV C P s o x) : o.wp P a w (eB P N V w0 (· = ⟨putD s.t o.dst x, s.m⟩)) Q := by
 unfold OV at ho
 split at ho
 ·rename_i f args ats hop
  split at ho
  ·rename_i k first cap hf
   obtain ⟨r, h1, h2, _, h3, rfl⟩ := ho
   exact zii h hd hop hf h1 h2 h3
  ·exact ho.elim
 ·unfold jT at ho
  split at ho
  ·rename_i t len parts hop
   exact zg1 hC h hd hop ho
  ·obtain ⟨s', G', a', w', nx, h1, h2, h3, h4⟩ := Q2 hC h hd (K := (· = ⟨putD s.t o.dst x, s.m⟩)) (by
    obtain ⟨y, hy, hk⟩ := Y0 ho
    subst hy
    exact hk _ rfl)
   unfold Oper.wp
   rw [h3]
   rcases h4 with ⟨v, rfl, rfl⟩ | ⟨rfl, rfl⟩
   ·exact ⟨s', G', F, h1, h2⟩
   ·exact ⟨s', G', F, h1, h2⟩
def fV (C : bI) (P : Program) (ops : List Oper) (s : St) (o : Oper) (x : AV) : Prop :=
 match o.guard with
 | none => OV C P s o x
 | some (j, want) => ∃ d, gU ops j = some d ∧ ((get s.t d = .v (.bool want) ∧ OV C P s o x) ∨ (get s.t d = .v (.bool (!want)) ∧ x = .un) ∨ (get s.t d = .un ∧ x = .un))
theorem KV {o : Oper} {x : AV} (hm : s.m = s'.m) (he : ∀ y ∈ o.op.operands, ev s y = ev s' y) (h : OV C P s o x) : OV C P s' o x := by
 by_cases hs : gA o.op = true
 ·exact B6 hs he h
 ·unfold OV at h ⊢
  split
  ·rename_i f args ats ho
   rw [ho] at h
   simp only at h
   have hf := he f (by simp [ho, Op.operands, Call.operands])
   have ha : args.toList.map (ev s) = args.toList.map (ev s') := List.map_congr_left fun y hy => he y (by simp [ho, Op.operands, Call.operands]; exact .inr (by simpa using hy))
   rw [← hf]
   split
   ·rename_i k first cap hk
    simp only [hk] at h
    rw [← ha, ← hm, ← zd3 hm]
    exact h
   ·rename_i hk
    split at h
    ·rename_i k first cap hk'; exact absurd hk' (hk k first cap)
    ·exact h
  ·rename_i hne
   split at h
   ·rename_i f args ats ho; exact absurd ho (hne f args ats)
   ·exact ZB (by rw [hm]; exact m3.refl _) he h
theorem xC {ops : List Oper} {o : Oper} {x : AV} (hg : ∀ k ∈ looks ops o, get s.t k = get s'.t k) (hov : (∀ y ∈ o.op.operands, ev s y = ev s' y) → OV C P s o x → OV C P s' o x) (h : fV C P ops s o x) : fV C P ops s' o x := by
 have hov : OV C P s o x → OV C P s' o x := hov fun y hy => by
  cases y with
  | tmp t => exact hg t (List.mem_append_left _ (List.mem_filterMap.2 ⟨_, by simpa using hy, rfl⟩))
  | _ => rfl
 unfold fV at h ⊢
 cases hgd : o.guard with
 | none => rw [hgd] at h; exact hov h
 | some p =>
  obtain ⟨j, want⟩ := p
  rw [hgd] at h
  obtain ⟨d, hd, h⟩ := h
  have hl : get s.t d = get s'.t d := hg d (List.mem_append_right _ (by rw [hgd]; simp [hd]))
  refine ⟨d, hd, ?_⟩
  rw [← hl]
  rcases h with ⟨h1, h2⟩ | h | h
  ·exact .inl ⟨h1, hov h2⟩
  ·exact .inr (.inl h)
  ·exact .inr (.inr h)
theorem NA {ops : List Oper} {o : Oper} {x : AV} (hm : s.m = s'.m) (hg : ∀ k ∈ looks ops o, get s.t k = get s'.t k) (h : fV C P ops s o x) : fV C P ops s' o x :=
 xC hg (fun he => KV hm he) h
theorem zc4 {t t' : List (Nat × AV)} {m : List Ob} (h : ∀ k, get t k = get t' k) (y : Operand) : ev ⟨t, m⟩ y = ev ⟨t', m⟩ y := by cases y <;> simp [ev, h]
theorem nI (t : List (Nat × AV)) (d : Option Nat) (x : AV) (k : Nat) : get (putD t d x) k = if d = some k then x else get t k := by
 cases d with
 | none => simp [putD]
 | some d =>
  by_cases h : d = k
  ·subst h; simp [putD, yC]
  ·simp [putD, h, CL _ _ _ _ (fun e => h e.symm)]
theorem zd4 (t : List (Nat × AV)) (d : Nat) (x : AV) (k : Nat) : get (put t d x) k = if d = k then x else get t k := by
 have := nI t (some d) x k
 simpa [putD] using this
theorem ZD {ops : List Oper} {o : Oper} {K : St → Prop} {s : St}
  (h : match o.guard with
   | none => qop C P s o K
   | some (j, want) => match gU ops j with
    | none => False
    | some d => match get s.t d with
     | .v (.bool b) => match want with
      | true => wg b (qop C P ⟨put s.t d (.v (.bool true)), s.m⟩ o K) (K ⟨putD (put s.t d (.v (.bool false))) o.dst .un, s.m⟩)
      | false => wg b (K ⟨putD (put s.t d (.v (.bool true))) o.dst .un, s.m⟩) (qop C P ⟨put s.t d (.v (.bool false)), s.m⟩ o K)
     | .un => K ⟨putD s.t o.dst .un, s.m⟩
     | _ => False) :
  ∃ x s1, fV C P ops s o x ∧ s1.m = s.m ∧ (∀ k, get s1.t k = if o.dst = some k then x else get s.t k) ∧ K s1 := by
 split at h
 ·rename_i hgd
  obtain ⟨x, h1, h2⟩ := ZA h
  exact ⟨x, ⟨putD s.t o.dst x, s.m⟩, by unfold fV; rw [hgd]; exact h1, rfl, fun k => nI _ _ _ _, h2⟩
 ·rename_i j want hgd
  split at h
  ·exact h.elim
  ·rename_i d hdst
   split at h
   ·rename_i b hb
    have same : ∀ c, b = c → ∀ k, get (put s.t d (.v (.bool c))) k = get s.t k := fun c hc k => by
     rw [zd4]; split
     ·rename_i e; subst e; rw [hb, hc]
     ·rfl
    have taken : ∀ c, b = c → c = want → qop C P ⟨put s.t d (.v (.bool c)), s.m⟩ o K → ∃ x s1, fV C P ops s o x ∧ s1.m = s.m ∧ (∀ k, get s1.t k = if o.dst = some k then x else get s.t k) ∧ K s1 := fun c hc hw h => by
     obtain ⟨x, h1, h2⟩ := ZA h
     have hv : fV C P ops s o x := by
      unfold fV; rw [hgd]
      refine ⟨d, hdst, .inl ⟨by rw [hb, hc, hw], KV (s := ⟨put s.t d (.v (.bool c)), s.m⟩) rfl (fun y _ => ?_) h1⟩⟩
      exact zc4 (m := s.m) (same c hc) y
     exact ⟨x, ⟨putD (put s.t d (.v (.bool c))) o.dst x, s.m⟩, hv, rfl, fun k => by rw [nI, same c hc], h2⟩
    have skipped : ∀ c, b = c → c = !want → K ⟨putD (put s.t d (.v (.bool c))) o.dst .un, s.m⟩ → ∃ x s1, fV C P ops s o x ∧ s1.m = s.m ∧ (∀ k, get s1.t k = if o.dst = some k then x else get s.t k) ∧ K s1 := fun c hc hw h => by
     have hv : fV C P ops s o .un := by
      unfold fV; rw [hgd]
      exact ⟨d, hdst, .inr (.inl ⟨by rw [hb, hc, hw], rfl⟩)⟩
     exact ⟨.un, ⟨putD (put s.t d (.v (.bool c))) o.dst .un, s.m⟩, hv, rfl, fun k => by rw [nI, same c hc], h⟩
    cases want <;> cases b <;> simp only [wg] at h
    ·exact taken false rfl rfl (h.2 trivial)
    ·exact skipped true rfl rfl (h.1 trivial)
    ·exact skipped false rfl rfl (h.2 trivial)
    ·exact taken true rfl rfl (h.1 trivial)
   ·rename_i hb
    exact ⟨.un, ⟨putD s.t o.dst .un, s.m⟩, by unfold fV; rw [hgd]; exact ⟨d, hdst, .inr (.inr ⟨hb, rfl⟩)⟩, rfl, fun k => nI _ _ _ _, h⟩
   ·exact h.elim
def LV (C : bI) (P : Program) (ops : List Oper) (Q : St → Prop) (os : List Oper) (s : St) : Prop :=
 ∃ (xs : List AV) (ss : Nat → St) (sf : St), xs.length = os.length ∧ (∀ k, get (ss 0).t k = get s.t k) ∧ (ss 0).m = s.m ∧ Q sf ∧ sf.m = (ss os.length).m ∧ (∀ k, get sf.t k = get (ss os.length).t k) ∧
  ∀ (i : Nat) (o : Oper) (x : AV), os[i]? = some o → xs[i]? = some x → eJ o = false ∧
   ((cP o = false ∧ fV C P ops (ss i) o x ∧ (ss (i + 1)).m = (ss i).m) ∨ (cP o = true ∧ x = .junk ∧ TV C (ss i) o (ss (i + 1)).m)) ∧ ∀ k, get (ss (i + 1)).t k = if o.dst = some k then x else get (ss i).t k
theorem DX {ops : List Oper} {Q : St → Prop} (o : Oper) (os : List Oper) (ph : Ph) (s : St) : qops C P ops Q (o :: os) ph s =
  match dC o.op with
  | .loud => kU C ph (fun s => gH C s o (qops C P ops Q os .p2)) s
  | .alloc t => (match ph with
   | .p1 none => qops C P ops Q os (.p1 (some t)) ⟨putD s.t o.dst (.ptr s.m.length 0), s.m⟩
   | _ => False)
  | .quiet =>
   match o.guard with
   | none => qop C P s o (qops C P ops Q os ph)
   | some (j, want) => match gU ops j with
    | none => False
    | some d => match get s.t d with
     | .v (.bool b) => match want with
      | true => wg b (qop C P ⟨put s.t d (.v (.bool true)), s.m⟩ o (qops C P ops Q os ph)) (qops C P ops Q os ph ⟨putD (put s.t d (.v (.bool false))) o.dst .un, s.m⟩)
      | false => wg b (qops C P ops Q os ph ⟨putD (put s.t d (.v (.bool true))) o.dst .un, s.m⟩) (qop C P ⟨put s.t d (.v (.bool false)), s.m⟩ o (qops C P ops Q os ph))
     | .un => qops C P ops Q os ph ⟨putD s.t o.dst .un, s.m⟩
     | _ => False := rfl
theorem z0l {ops : List Oper} {Q : St → Prop} : ∀ (os : List Oper) (s : St), qops C P ops Q os .p2 s → LV C P ops Q os s
 | [], s, h => ⟨[], fun _ => s, s, rfl, fun _ => rfl, rfl, h, rfl, fun _ => rfl, by simp⟩
 | o :: os, s, h => by
  have step : ∀ (x : AV) (s1 : St), eJ o = false → ((cP o = false ∧ fV C P ops s o x ∧ s1.m = s.m) ∨ (cP o = true ∧ x = .junk ∧ TV C s o s1.m)) → (∀ k, get s1.t k = if o.dst = some k then x else get s.t k) → qops C P ops Q os .p2 s1 → LV C P ops Q (o :: os) s := by
   intro x s1 ha hv hg hq
   obtain ⟨xs, ss, sf, hl, h0, hm0, hQ, hfm, hft, h3⟩ := z0l os s1 hq
   refine ⟨x :: xs, fun i => match i with | 0 => s | 1 => s1 | i + 2 => ss (i + 1), sf, by simp [hl], fun _ => rfl, rfl, hQ, ?_, ?_, ?_⟩
   ·cases os with
    | nil => simp only [List.length_nil] at hfm; exact hfm.trans hm0
    | cons p os => exact hfm
   ·intro k
    cases os with
    | nil => simp only [List.length_nil] at hft; exact (hft k).trans (h0 k)
    | cons p os => exact hft k
   ·intro i p y hp hy
    cases i with
    | zero =>
     simp at hp hy; subst hp; subst hy
     exact ⟨ha, hv, hg⟩
    | succ i =>
     have h4 := h3 i p y (by simpa using hp) (by simpa using hy)
     cases i with
     | zero =>
      refine ⟨h4.1, ?_, fun k => by rw [← h0 k]; exact h4.2.2 k⟩
      rcases h4.2.1 with ⟨q1, q2, q3⟩ | ⟨q1, q2, q3⟩
      ·exact .inl ⟨q1, NA hm0 (fun k _ => h0 k) q2, q3.trans hm0⟩
      ·exact .inr ⟨q1, q2, VR q1 hm0 (fun y _ => by cases y <;> simp [ev, h0]) q3⟩
     | succ i => exact h4
  rw [DX] at h
  split at h
  ·rename_i hk
   have hl : cP o = true := by simp [cP, hk]
   obtain ⟨m', h1, h2⟩ := zg9 hl (show gH C s o (qops C P ops Q os .p2) from h)
   refine step .junk ⟨putD s.t o.dst .junk, m'⟩ (by simp [eJ, hk]) (.inr ⟨hl, rfl, h1⟩) (fun k => nI _ _ _ _) h2
  ·exact h.elim
  ·rename_i hk
   obtain ⟨x, s1, h1, h2, h3, h4⟩ := ZD h
   exact step x s1 (by simp [eJ, hk]) (.inl ⟨by simp [cP, hk], h1, h2⟩) h3 h4
def FO (C : bI) (fl : Option Nat) (mo : List Ob) : Prop := match fl with
 | none => mo = []
 | some t => ∃ i, C.ti t = some i ∧ i.zero.cells.all (·.oneCell') = true ∧ mo = [.row true 1 (i.zero.cells.toList.map .v)]
theorem YJ {fl : Option Nat} {K : St → Prop} {s : St} (h : kU C (.p1 fl) K s) : ∃ mo, FO C fl mo ∧ K ⟨s.t, s.m ++ mo⟩ := by
 cases fl with
 | none => exact ⟨[], rfl, by rw [List.append_nil]; exact h⟩
 | some t =>
  simp only [kU] at h
  split at h
  ·rename_i i hi; exact ⟨_, ⟨i, hi, h.1, rfl⟩, h.2⟩
  ·exact h.elim
def LU (C : bI) (P : Program) (ops : List Oper) (Q : St → Prop) (os : List Oper) (fl0 : Option Nat) (s : St) : Prop :=
 ∃ (n : Nat) (xs : List AV) (ss : Nat → St) (fl : Option Nat) (mo : List Ob), n ≤ os.length ∧ xs.length = n ∧ (∀ k, get (ss 0).t k = get s.t k) ∧ (∀ i, (ss i).m = s.m) ∧
  (∀ o, os[n]? = some o → cP o = true) ∧ FO C fl mo ∧ qops C P ops Q (os.drop n) .p2 ⟨(ss n).t, s.m ++ mo⟩ ∧ (∀ t, fl0 = some t → fl = some t ∧ ∀ (i : Nat) (o : Oper), i < n → os[i]? = some o → eJ o = false) ∧
  (fl0 = none → ∀ t, fl = some t → ∃ (i : Nat) (o : Oper), i < n ∧ os[i]? = some o ∧ eJ o = true) ∧ (∀ (i j : Nat) (o p : Oper), i < n → j < n → os[i]? = some o → os[j]? = some p → eJ o = true → eJ p = true → i = j) ∧
  ∀ (i : Nat) (o : Oper) (x : AV), os[i]? = some o → xs[i]? = some x → cP o = false ∧
   ((eJ o = false ∧ fV C P ops (ss i) o x) ∨ (∃ t, dC o.op = .alloc t ∧ fl = some t ∧ x = .ptr s.m.length 0)) ∧ ∀ k, get (ss (i + 1)).t k = if o.dst = some k then x else get (ss i).t k
theorem z0k {ops : List Oper} {Q : St → Prop} : ∀ (os : List Oper) (fl0 : Option Nat) (s : St), qops C P ops Q os (.p1 fl0) s → LU C P ops Q os fl0 s
 | [], fl0, s, h => by
  obtain ⟨mo, h1, h2⟩ := YJ (show kU C (.p1 fl0) Q s from h)
  exact ⟨0, [], fun _ => s, fl0, mo, by simp, rfl, fun _ => rfl, fun _ => rfl, by simp, h1, h2, fun t ht => ⟨ht, by simp⟩, fun h0 t ht => by rw [h0] at ht; simp at ht, by simp, by simp⟩
 | o :: os, fl0, s, h => by
  have step : ∀ (x : AV) (s1 : St) (fl1 : Option Nat), cP o = false → ((eJ o = false ∧ fl1 = fl0 ∧ fV C P ops s o x) ∨ (∃ t, dC o.op = .alloc t ∧ fl0 = none ∧ fl1 = some t ∧ x = .ptr s.m.length 0)) → s1.m = s.m →
    (∀ k, get s1.t k = if o.dst = some k then x else get s.t k) → qops C P ops Q os (.p1 fl1) s1 → LU C P ops Q (o :: os) fl0 s := by
   intro x s1 fl1 hnl hv hm hg hq
   obtain ⟨n, xs, ss, fl, mo, hn, hl, h0, hms, hn2, hfo, hq2, hfl, hfl2, huniq, h3⟩ := z0k os fl1 s1 hq
   refine ⟨n + 1, x :: xs, fun i => match i with | 0 => s | i + 1 => ss i, fl, mo, by simpa using hn, by simp [hl], fun _ => rfl, fun i => ?_, fun o ho => hn2 o (by simpa using ho), hfo, ?_, ?_, ?_, ?_, ?_⟩
   ·cases i with
    | zero => rfl
    | succ i => exact (hms i).trans hm
   ·rw [← hm]; exact hq2
   ·intro t ht
    rcases hv with ⟨ha, hf, _⟩ | ⟨t', _, hf, _⟩
    ·have := hfl t (by rw [hf]; exact ht)
     refine ⟨this.1, fun i p hi hp => ?_⟩
     cases i with
     | zero => simp at hp; subst hp; exact ha
     | succ i => exact this.2 i p (by omega) (by simpa using hp)
    ·rw [hf] at ht; simp at ht
   ·intro hf0 t ht
    rcases hv with ⟨ha, hf, _⟩ | ⟨t', hk, _⟩
    ·obtain ⟨i, p, h4, h5, h6⟩ := hfl2 (by rw [hf]; exact hf0) t ht
     exact ⟨i + 1, p, by omega, by simpa using h5, h6⟩
    ·exact ⟨0, o, by omega, rfl, by simp [eJ, hk]⟩
   ·intro i j p q hi hj hp hq' hap haq
    have key : ∀ (j : Nat) (q : Oper), j < n → os[j]? = some q → eJ q = true → eJ o = true → False := by
     intro j q hj hq haq hao
     rcases hv with ⟨ha, _⟩ | ⟨t', hk, h4, h5, _⟩
     ·rw [ha] at hao; simp at hao
     ·have := (hfl t' h5).2 j q hj hq
      rw [haq] at this; simp at this
    cases i with
    | zero =>
     cases j with
     | zero => rfl
     | succ j => simp at hp; subst hp; exact (key j q (by omega) (by simpa using hq') haq hap).elim
    | succ i =>
     cases j with
     | zero => simp at hq'; subst hq'; exact (key i p (by omega) (by simpa using hp) hap haq).elim
     | succ j => rw [huniq i j p q (by omega) (by omega) (by simpa using hp) (by simpa using hq') hap haq]
   ·intro i p y hp hy
    cases i with
    | zero =>
     simp at hp hy; subst hp; subst hy
     refine ⟨hnl, ?_, fun k => (h0 k).trans (hg k)⟩
     rcases hv with ⟨ha, _, hv⟩ | ⟨t', hk, h4, h5, h6⟩
     ·exact .inl ⟨ha, hv⟩
     ·exact .inr ⟨t', hk, (hfl t' h5).1, h6⟩
    | succ i =>
     have h4 := h3 i p y (by simpa using hp) (by simpa using hy)
     rw [hm] at h4
     exact h4
  rw [DX] at h
  split at h
  ·rename_i hk
   have hl : cP o = true := by simp [cP, hk]
   obtain ⟨mo, h1, h2⟩ := YJ h
   refine ⟨0, [], fun _ => s, fl0, mo, by simp, rfl, fun _ => rfl, fun _ => rfl, by simp [hl], h1, ?_, fun t ht => ⟨ht, by simp⟩, fun h0 t ht => by rw [h0] at ht; simp at ht, by simp, by simp⟩
   show qops C P ops Q (o :: os) .p2 ⟨s.t, s.m ++ mo⟩
   rw [DX, hk]
   exact h2
  ·rename_i t hk
   split at h
   ·rename_i e
    simp only [Ph.p1.injEq] at e
    subst e
    exact step (.ptr s.m.length 0) ⟨putD s.t o.dst (.ptr s.m.length 0), s.m⟩ (some t) (by simp [cP, hk]) (.inr ⟨t, hk, rfl, rfl, rfl⟩) rfl (fun k => nI _ _ _ _) h
   ·exact h.elim
  ·rename_i hk
   obtain ⟨x, s1, h1, h2, h3, h4⟩ := ZD h
   exact step x s1 fl0 (by simp [cP, hk]) (.inl ⟨by simp [eJ, hk], rfl, h1⟩) h2 h3 h4
def At (ops : List Oper) (xs : List AV) (s : St) (L : Array Bool) (k : Nat) : AV :=
 match writer ops 0 k with
 | some i => if L.getD i false then xs.getD i .junk else get s.t k
 | none => get s.t k
theorem aE.gets (h : aE P N V w0 s G F a w) (hm : s'.m = s.m) (hg : ∀ k, get s'.t k = get s.t k) : aE P N V w0 s' G F a w where
 defers := h.defers
 tsize := h.tsize
 tm := fun k => by rw [hg]; exact h.tm k
 len := by rw [hm]; exact h.len
 ob := by rw [hm]; exact h.ob
 live := by rw [hm]; exact h.live
 inj := h.inj
 fb := h.fb
 keep := h.keep
 f0 := h.f0
 nd := h.nd
 rows := h.rows
 fence := by rw [hm]; exact h.fence
 tabs := h.tabs
 pin := by rw [hm]; exact h.pin
theorem aE.drawn (h : aE P N V w0 s G F a w) : aE P N V w0 s G F a { w with drawn := w.drawn + 1 } := h.grow (.drew w)
theorem z8x (hC : C.Ok P) {ops : Array Oper} {i : Nat} {o : Oper} {x : AV} (ho : ops[i]? = some o) (h : aE P N V w0 s G F a w) (hd : cV N o.dst = true) (hv : fV C P ops.toList s o x) {K : Act → World → Prop} {Q : Exit → Act → World → Prop}
  (hk : ∀ a w, eB P N V w0 (· = ⟨putD s.t o.dst x, s.m⟩) a w → K a w) : wpOp P ops Q i K a w := by
 unfold wpOp
 rw [ho]
 simp only
 have run : OV C P s o x → o.wp P a w K Q := fun hov => Oper.wp_mono (z8m hC h hd hov) hk
 have skip : x = .un → K (a.put o.dst undef) w := fun e => hk _ _ ⟨_, G, F, rfl, by subst e; exact h.putD hd .un⟩
 unfold fV at hv
 cases hgd : o.guard with
 | none =>
  rw [hgd] at hv
  rw [if_pos (by simp [Region.wanted, hgd])]
  exact .inl (run hv)
 | some p =>
  obtain ⟨j, want⟩ := p
  rw [hgd] at hv
  obtain ⟨d, hdst, hv⟩ := hv
  have htm := h.tm d
  rcases hv with ⟨h1, h2⟩ | ⟨h1, h2⟩ | ⟨h1, h2⟩
  ·rw [h1] at htm
   have hy := AS hdst htm.v_inv
   rw [if_pos (by simp [Region.wanted, hgd, hy])]
   exact .inl (run h2)
  ·rw [h1] at htm
   have hy := AS hdst htm.v_inv
   rw [if_neg (by simp [Region.wanted, hgd, hy])]
   exact skip h2
  ·rw [h1] at htm
   have hv : a.tmps.getD d undef = .tuple #[] := by cases hx : a.tmps.getD d undef <;> rw [hx] at htm <;> cases htm; rfl
   have hy := FY hdst hv
   rw [if_neg (by simp [Region.wanted, hgd, hy])]
   exact skip h2
theorem zlc (n : Nat) (L : Array Bool) (i : Nat) (hi : i < n) (hs : L.size = n) (hl : L.getD i true = false) :
  ((List.range n).filter fun j => !(L.setIfInBounds i true).getD j true).length < ((List.range n).filter fun j => !L.getD j true).length := by
 have hsub : ((List.range n).filter fun j => !(L.setIfInBounds i true).getD j true) = (((List.range n).filter fun j => !L.getD j true).filter fun j => decide (j ≠ i)) := by
  rw [List.filter_filter]
  apply List.filter_congr
  intro j hj
  by_cases e : i = j
  ·subst e
   have : i < L.size := by omega
   simp [this]
  ·rw [getD_set_ne true e]
   have : j ≠ i := fun h => e h.symm
   simp [this]
 rw [hsub]
 have hmem : i ∈ (List.range n).filter fun j => !L.getD j true := by simp [hi]; simpa using hl
 have := List.length_filter_lt_length_iff_exists (p := fun j => decide (j ≠ i)) (l := (List.range n).filter fun j => !L.getD j true)
 exact this.2 ⟨i, hmem, by simp⟩
def DLO (ops : List Oper) (i : Nat) (o : Oper) : Prop :=
 (cP o = true → o.guard = none ∧ o.dst = none ∧ xJ ops i o = true) ∧
 (eJ o = true → o.guard = none ∧ ∃ d, o.dst = some d ∧ ∀ p ∈ ops.take (vP.firstLoud ops 0), d ∉ looks ops p) ∧
 (cP o = false → eJ o = false → gA o.op = false → xK ops i o = true)
theorem VQ {ops : List Oper} : ∀ (l : List Oper) (k : Nat), vP ops k l = true → ∀ (i : Nat) (o : Oper), l[i]? = some o → DLO ops (k + i) o
 | [], k, _, i, o, ho => by simp at ho
 | p :: l, k, h, i, o, ho => by
  simp only [vP, Bool.and_eq_true] at h
  cases i with
  | zero =>
   simp at ho; subst ho
   have h := h.1
   refine ⟨fun hl => ?_, fun ha => ?_, fun hl ha hs => ?_⟩
   ·rw [hl] at h
    simp only [Bool.and_eq_true, Option.isNone_iff_eq_none] at h
    exact ⟨h.1.1, h.1.2, by simpa using h.2⟩
   ·have hl : cP p = false := by
     cases hk : dC p.op <;> simp_all [cP, eJ]
    rw [hl, ha] at h
    simp only [Bool.and_eq_true, Option.isNone_iff_eq_none] at h
    refine ⟨h.1, ?_⟩
    have h := h.2
    split at h
    ·rename_i d hd
     refine ⟨d, hd, fun q hq => ?_⟩
     have := List.all_eq_true.1 h q hq
     simpa using this
    ·simp at h
   ·rw [hl, ha] at h
    simp only [Bool.or_eq_true] at h
    rcases h with h | h
    ·rw [hs] at h; simp at h
    ·simpa using h
  | succ i =>
   have := VQ l (k + 1) h.2 i o (by simpa using ho)
   have e : k + 1 + i = k + (i + 1) := by omega
   rw [e] at this
   exact this
theorem zij {ops : List Oper} (h : ops.all (fun o => !cP o && !eJ o) = true) (i : Nat) (o : Oper) (ho : ops[i]? = some o) : DLO ops i o := by
 have hall := List.all_eq_true.1 h
 have ho' := hall o (List.mem_of_getElem? ho)
 simp only [Bool.and_eq_true, Bool.not_eq_true'] at ho'
 refine ⟨fun hl => by rw [ho'.1] at hl; simp at hl, fun ha => by rw [ho'.2] at ha; simp at ha, fun _ _ _ => ?_⟩
 unfold xK
 simp only [List.all_eq_true, List.mem_range, Bool.or_eq_true]
 intro j hj
 right
 split
 ·rename_i p hp
  have := hall p (List.mem_of_getElem? hp)
  simp only [Bool.and_eq_true] at this
  exact this.1
 ·rfl
theorem BM {ops : Array Oper} {L : Array Bool} (hcl : ∀ (j : Nat) (o : Oper), ops[j]? = some o → L.getD j false = true → ∀ e ∈ o.after, Region.binds .any e = true → L.getD e.on false = true) :
  ∀ (k : Nat) (S : List Nat), (∀ j ∈ S, L.getD j false = true) → ∀ j ∈ uN ops.toList k S, L.getD j false = true
 | 0, S, hS => hS
 | k + 1, S, hS => by
  simp only [uN]
  refine BM hcl k _ ?_
  split
  ·rename_i hc
   split
   ·rename_i o ho
    intro j hj
    rcases List.mem_append.1 hj with hj | hj
    ·unfold p6 at hj
     simp only [List.mem_filterMap] at hj
     obtain ⟨e, he, hj⟩ := hj
     split at hj
     ·rename_i hb
      simp at hj; subst hj
      exact hcl k o (by rw [← Array.getElem?_toList]; exact ho) (hS k (by simpa using hc)) e (by simpa using he) hb
     ·simp at hj
    ·exact hS j hj
   ·exact hS
  ·exact hS
theorem O5 {o : Oper} {L : Array Bool} (h : ∀ e ∈ o.after, Region.binds .any e = true → L.getD e.on false = true) : ∀ j ∈ p6 o, L.getD j false = true := by
 intro j hj
 unfold p6 at hj
 simp only [List.mem_filterMap] at hj
 obtain ⟨e, he, hj⟩ := hj
 split at hj
 ·rename_i hb; simp at hj; subst hj; exact h e (by simpa using he) hb
 ·simp at hj
theorem zbr (hC : C.Ok P) {id : Nat} {ops : Array Oper} {Q : Exit → St → Prop} (h : aE P N V w0 s G F a w) (hd : ∀ o ∈ ops.toList, cV N o.dst = true) (hok : BR ops.toList = true)
  (hk : qops C P ops.toList (Q .normal) ops.toList (.p1 none) s) : (Code.region id ops true).wp P (fun e => eB P N V w0 (Q e)) a w := by
 simp only [BR, Bool.and_eq_true, Bool.or_eq_true] at hok
 obtain ⟨⟨hnd, heach⟩, hlo⟩ := hok
 have hEach := Q1 ops.toList 0 heach
 simp only [Nat.zero_add] at hEach
 have hLO : ∀ (i : Nat) (o : Oper), ops.toList[i]? = some o → DLO ops.toList i o := by
  rcases hlo with hlo | hlo
  ·exact fun i o ho => zij hlo i o ho
  ·intro i o ho
   have := VQ ops.toList 0 hlo i o ho
   rwa [Nat.zero_add] at this
 obtain ⟨n, xs1, ss1, fl, mo, hnl, hx1, h10, h1m, hn2, hfo, hq2, _, hfl2, huniq, hval1⟩ := z0k _ _ _ hk
 obtain ⟨xs2, ss2, sf, hx2, h20, h2m, hQ, hfm, hft, hval2⟩ := z0l _ _ hq2
 have hfl2 := hfl2 rfl
 have hbM := h.belowM

 obtain ⟨xs, hxs⟩ : ∃ xs, xs = xs1 ++ xs2 := ⟨_, rfl⟩
 obtain ⟨ss, hss⟩ : ∃ ss : Nat → St, ss = fun i => if i < n then ss1 i else ss2 (i - n) := ⟨_, rfl⟩
 have hlen : ops.toList.length = ops.size := by simp
 have hxl : xs.length = ops.toList.length := by rw [hxs, List.length_append, hx1, hx2, List.length_drop]; omega
 have hx1of : ∀ (i : Nat) (x : AV), i < n → xs[i]? = some x → xs1[i]? = some x := fun i x hi hx => by
  rw [hxs, List.getElem?_append_left (by omega)] at hx; exact hx
 have hslt : ∀ i, i < n → ss i = ss1 i := fun i hi => by rw [hss]; simp [hi]
 have hsge : ∀ i, n ≤ i → ss i = ss2 (i - n) := fun i hi => by rw [hss]; simp [Nat.not_lt.2 hi]
 have hnloud : ∀ (i : Nat) (o : Oper), i < n → ops.toList[i]? = some o → cP o = false := fun i o hi ho => by
  have : xs1[i]? = some xs1[i] := List.getElem?_eq_getElem (by omega)
  exact (hval1 i o _ ho this).1
 have hloudge : ∀ (i : Nat) (o : Oper), ops.toList[i]? = some o → cP o = true → n ≤ i := fun i o ho hl => by
  rcases Nat.lt_or_ge i n with hi | hi
  ·rw [hnloud i o hi ho] at hl; simp at hl
  ·exact hi
 have hallt : ∀ (i : Nat) (o : Oper), ops.toList[i]? = some o → eJ o = true → i < n := fun i o ho ha => by
  rcases Nat.lt_or_ge i n with hi | hi
  ·exact hi
  ·have hilt := (List.getElem?_eq_some_iff.1 ho).1
   have h2 : (ops.toList.drop n)[i - n]? = some o := by rw [List.getElem?_drop]; rw [show n + (i - n) = i by omega]; exact ho
   have hx : xs2[i - n]? = some (xs2[i - n]'(by rw [hx2, List.length_drop]; omega)) := List.getElem?_eq_getElem _
   have := (hval2 _ _ _ h2 hx).1
   rw [this] at ha; simp at ha

 have hupd : ∀ (i : Nat) (o : Oper) (x : AV), ops.toList[i]? = some o → xs[i]? = some x → ∀ k, get (ss (i + 1)).t k = if o.dst = some k then x else get (ss i).t k := by
  intro i o x ho hx k
  rcases Nat.lt_or_ge i n with hi | hi
  ·have hx' : xs1[i]? = some x := by rw [hxs, List.getElem?_append_left (by omega)] at hx; exact hx
   have h3 := (hval1 i o x ho hx').2.2 k
   rw [hslt i hi]
   rcases Nat.lt_or_ge (i + 1) n with hi1 | hi1
   ·rw [hslt _ hi1]; exact h3
   ·rw [hsge _ hi1, show i + 1 - n = 0 by omega, h20]
    have : i + 1 = n := by omega
    rw [← this]; exact h3
  ·have hilt := (List.getElem?_eq_some_iff.1 ho).1
   have h2 : (ops.toList.drop n)[i - n]? = some o := by rw [List.getElem?_drop]; rw [show n + (i - n) = i by omega]; exact ho
   have hx' : xs2[i - n]? = some x := by rw [hxs, List.getElem?_append_right (by omega), hx1] at hx; exact hx
   have h3 := (hval2 _ _ _ h2 hx').2.2 k
   rw [hsge i hi, hsge (i + 1) (by omega), show i + 1 - n = i - n + 1 by omega]
   exact h3
 have hs0 : ∀ k, get (ss 0).t k = get s.t k := fun k => by
  rcases Nat.lt_or_ge 0 n with hi | hi
  ·rw [hslt 0 hi]; exact h10 k
  ·have : n = 0 := by omega
   rw [hsge 0 hi, Nat.zero_sub, h20, this]; exact h10 k
 have hmem0 : (ss n).m = s.m ++ mo := by rw [hsge n (Nat.le_refl _), Nat.sub_self]; exact h2m
 have hget : ∀ i o, ops[i]? = some o → ops.toList[i]? = some o := fun i o h => by rw [Array.getElem?_toList]; exact h
 have hget' : ∀ i o, ops.toList[i]? = some o → ops[i]? = some o := fun i o h => by rw [← Array.getElem?_toList]; exact h

 have hquiet1 : ∀ (i : Nat) (o : Oper) (x : AV), i < n → ops.toList[i]? = some o → xs[i]? = some x → eJ o = false → ∃ s0 : St, fV C P ops.toList s0 o x ∧ s0.m = s.m ∧ ∀ k, get s0.t k = get (ss i).t k := by
  intro i o x hi ho hx ha
  have hx' : xs1[i]? = some x := by rw [hxs, List.getElem?_append_left (by omega)] at hx; exact hx
  rcases (hval1 i o x ho hx').2.1 with ⟨_, hv⟩ | ⟨t, hk, _⟩
  ·exact ⟨ss1 i, hv, h1m i, fun k => by rw [hslt i hi]⟩
  ·simp [eJ, hk] at ha
 have hge : ∀ (i : Nat) (o : Oper) (x : AV), n ≤ i → ops.toList[i]? = some o → xs[i]? = some x →
   ((cP o = false ∧ fV C P ops.toList (ss i) o x ∧ (ss (i + 1)).m = (ss i).m) ∨ (cP o = true ∧ x = .junk ∧ TV C (ss i) o (ss (i + 1)).m)) := by
  intro i o x hi ho hx
  have hilt := (List.getElem?_eq_some_iff.1 ho).1
  have h2 : (ops.toList.drop n)[i - n]? = some o := by rw [List.getElem?_drop]; rw [show n + (i - n) = i by omega]; exact ho
  have hx' : xs2[i - n]? = some x := by rw [hxs, List.getElem?_append_right (by omega), hx1] at hx; exact hx
  have h3 := (hval2 _ _ _ h2 hx').2.1
  rw [hsge i hi, hsge (i + 1) (by omega), show i + 1 - n = i - n + 1 by omega]
  exact h3
 have hconst : ∀ (b c : Nat), n ≤ b → b ≤ c → c ≤ ops.toList.length → (∀ (j : Nat) (o : Oper), b ≤ j → j < c → ops.toList[j]? = some o → cP o = false) → (ss c).m = (ss b).m := by
  intro b c hb hbc hcl hno
  induction c with
  | zero =>
   have : b = 0 := by omega
   subst this; rfl
  | succ c ih =>
   by_cases e : b = c + 1
   ·rw [e]
   ·have hc : c < ops.toList.length := by omega
    have ho : ops.toList[c]? = some ops.toList[c] := List.getElem?_eq_getElem hc
    have hx : xs[c]? = some (xs[c]'(by omega)) := List.getElem?_eq_getElem _
    have hl := hno c _ (by omega) (by omega) ho
    rcases hge c _ _ (by omega) ho hx with ⟨_, _, h3⟩ | ⟨h3, _⟩
    ·rw [h3]; exact ih (by omega) (by omega) fun j o h1 h2 => hno j o h1 (by omega)
    ·rw [hl] at h3; simp at h3

 have htext : ∀ (i : Nat), i ≤ ops.toList.length → ∀ k, get (ss i).t k = match writer ops.toList 0 k with | some j => if j < i then xs.getD j .junk else get s.t k | none => get s.t k := by
  intro i
  induction i with
  | zero => intro _ k; rw [hs0]; split <;> simp
  | succ i ih =>
   intro hi k
   have hio : i < ops.toList.length := by omega
   have ho : ops.toList[i]? = some ops.toList[i] := List.getElem?_eq_getElem hio
   have hx : xs[i]? = some (xs[i]'(by omega)) := List.getElem?_eq_getElem _
   rw [hupd i _ _ ho hx k]
   by_cases hdk : ops.toList[i].dst = some k
   ·rw [if_pos hdk, AR _ 0 i k _ hnd ho hdk]
    simp [hx]
   ·rw [if_neg hdk, ih (by omega) k]
    cases hw : writer ops.toList 0 k with
    | none => rfl
    | some j =>
     simp only
     by_cases hj : j < i
     ·rw [if_pos hj, if_pos (by omega)]
     ·by_cases hj' : j = i
      ·subst hj'
       obtain ⟨_, p, hp, hpd⟩ := u9 _ _ _ _ hw
       rw [Nat.sub_zero, ho] at hp
       simp only [Option.some.injEq] at hp
       exact absurd (hp ▸ hpd) hdk
      ·rw [if_neg hj, if_neg (by omega)]
 refine wp_region_any hC.mixed ?_
 classical

 let LF : Array Bool → Prop := fun L => ∃ (f : Nat) (o : Oper), ops.toList[f]? = some o ∧ eJ o = true ∧ L.getD f false = true
 let MI : Array Bool → List Ob → Prop := fun L m => ((∀ (j : Nat) (o : Oper), ops.toList[j]? = some o → cP o = true → L.getD j false = false) ∧ m = s.m ++ (if LF L then mo else [])) ∨
  ∃ (i : Nat) (o : Oper), ops.toList[i]? = some o ∧ cP o = true ∧ L.getD i false = true ∧ (∀ (j : Nat) (p : Oper), ops.toList[j]? = some p → cP p = true → L.getD j false = true → j ≤ i) ∧ m = (ss (i + 1)).m
 have hmoLF : ∀ L, (∀ (f : Nat) (o : Oper), ops.toList[f]? = some o → eJ o = true → L.getD f false = true) → (if LF L then mo else []) = mo := by
  intro L hall
  cases hfl : fl with
  | none =>
   rw [hfl] at hfo
   have : mo = [] := hfo
   rw [this]; split <;> rfl
  | some t =>
   obtain ⟨f, o, hf, ho, ha⟩ := hfl2 t hfl
   rw [if_pos ⟨f, o, ho, ha, hall f o ho ha⟩]
 have done : ∀ {L : Array Bool} {a : Act} {w : World} {s1 : St} {G : Gh} {F : Nat → Prop}, (∀ i, i < ops.size → L.getD i false = true) → aE P N V w0 s1 G F a w → MI L s1.m → (∀ k, get s1.t k = At ops.toList xs s L k) → eB P N V w0 (Q .normal) a w := by
  intro L a w s1 G F hall hr hm hg
  have hLt : ∀ (j : Nat) (o : Oper), ops.toList[j]? = some o → L.getD j false = true := fun j o ho => hall j (by have := (List.getElem?_eq_some_iff.1 ho).1; omega)
  have hmm : sf.m = s1.m := by
   have e : sf.m = (ss ops.toList.length).m := by rw [hfm, hsge _ hnl, List.length_drop]
   rw [e]
   rcases hm with ⟨hno, hm⟩ | ⟨i, o, ho, hl, _, hmax, hm⟩
   ·have hnn : ∀ (j : Nat) (o : Oper), ops.toList[j]? = some o → cP o = false := fun j o ho => by
     cases hb : cP o with
     | false => rfl
     | true => have := hno j o ho hb; rw [hLt j o ho] at this; simp at this
    rw [hconst n _ (Nat.le_refl _) hnl (Nat.le_refl _) fun j o _ _ ho => hnn j o ho, hmem0, hm, hmoLF L fun f o ho _ => hLt f o ho]
   ·rw [hm]
    have hi := (List.getElem?_eq_some_iff.1 ho).1
    refine hconst (i + 1) _ (by have := hloudge i o ho hl; omega) (by omega) (Nat.le_refl _) fun j p h1 h2 hp => ?_
    cases hb : cP p with
    | false => rfl
    | true => have := hmax j p hp hb (hLt j p hp); omega
  refine ⟨sf, G, F, hQ, hr.gets hmm fun k => ?_⟩
  have e2 : get sf.t k = get (ss ops.toList.length).t k := by rw [hft, hsge _ hnl, List.length_drop]
  rw [e2, htext _ (Nat.le_refl _), hg]
  unfold At
  cases hw : writer ops.toList 0 k with
  | none => rfl
  | some j =>
   obtain ⟨_, p, hp, _⟩ := u9 _ _ _ _ hw
   have hj : j < ops.toList.length := by have := (List.getElem?_eq_some_iff.1 hp).1; simpa using this
   simp only
   rw [if_pos hj, hall j (by omega)]
   rfl
 have key : ∀ (fuel : Nat) (L : Array Bool) (a : Act) (w : World) (s1 : St) (G : Gh) (F : Nat → Prop), L.size = ops.size → ((List.range ops.size).filter fun j => !L.getD j true).length ≤ fuel →
   (∀ (j : Nat) (o : Oper), ops[j]? = some o → L.getD j false = true → ∀ e ∈ o.after, Region.binds .any e = true → L.getD e.on false = true) →
   aE P N V w0 s1 G F a w → MI L s1.m → (∀ k, get s1.t k = At ops.toList xs s L k) → wpAny P .any ops (fun e => eB P N V w0 (Q e)) fuel L a w := by
  intro fuel
  induction fuel with
  | zero =>
   intro L a w s1 G F hsz hcnt hcl hr hm hg
   have hall : ∀ i, i < ops.size → L.getD i true = true := by
    intro i hi
    cases hb : L.getD i true with
    | true => rfl
    | false =>
     have : i ∈ (List.range ops.size).filter fun j => !L.getD j true := by simp only [List.mem_filter, List.mem_range, hb]; exact ⟨hi, rfl⟩
     have := List.length_pos_of_mem this
     omega
   refine ⟨?_, done (fun i hi => ?_) hr hm hg⟩
   ·cases hready : Region.ready .any ops L with
    | nil => rfl
    | cons i l =>
     have : i ∈ Region.ready .any ops L := by rw [hready]; simp
     rw [mem_ready] at this
     obtain ⟨h1, o, ho, _⟩ := this
     have := hall i (Array.getElem?_eq_some_iff.1 ho).1
     rw [h1] at this; simp at this
   ·have := hall i hi
    have hlt : i < L.size := by omega
    simpa [Array.getD_eq_getD_getElem?, hlt] using this
  | succ fuel ih =>
   intro L a w s1 G F hsz hcnt hcl hr hm hg
   have hsame : ∀ i, i < ops.size → L.getD i true = L.getD i false := fun i hi => by
    have hlt : i < L.size := by omega
    simp [Array.getD_eq_getD_getElem?, hlt]
   refine ⟨fun hready => done (fun i hi => ?_) hr hm hg, fun i hi => ?_⟩
   ·induction i using Nat.strongRecOn with
    | _ i ihi =>
     cases hb : L.getD i false with
     | true => rfl
     | false =>
      have ho : ops[i]? = some ops[i] := Array.getElem?_eq_getElem hi
      have hb' := (hEach i _ (hget i _ ho)).1
      have : i ∈ Region.ready .any ops L := by
       rw [mem_ready]
       refine ⟨by rw [hsame i hi, hb], _, ho, fun e he hbind => ?_⟩
       simp only [BF, List.all_eq_true] at hb'
       have := hb' e (by simpa using he)
       simp only [hbind, Bool.not_true, Bool.false_or, decide_eq_true_eq] at this
       exact ihi e.on this (by omega)
      rw [hready] at this
      simp at this
   ·have hi' := hi
    rw [mem_ready] at hi'
    obtain ⟨hun, o, ho, hbefore⟩ := hi'
    have hio : i < ops.size := (Array.getElem?_eq_some_iff.1 ho).1
    have hunf : L.getD i false = false := by rw [← hsame i hio, hun]
    have hol := hget i o ho
    have hx : xs[i]? = some (xs[i]'(by omega)) := List.getElem?_eq_getElem _
    have hlook := (hEach i o hol).2
    have hlo := hLO i o hol
    have hdo := hd o (List.mem_of_getElem? hol)

    have hcli := BM hcl i (p6 o) (O5 hbefore)
    have hafter : ∀ (j : Nat) (p : Oper), ops.toList[j]? = some p → cP p = true → gA o.op = false → L.getD j false = true → j < i := by
     intro j p hp hl hs hj
     rcases Nat.lt_or_ge j i with hlt | hge'
     ·exact hlt
     ·exfalso
      by_cases e : j = i
      ·subst e; rw [hunf] at hj; simp at hj
      ·have hb := ((hLO j p hp).1 hl).2.2
       unfold xJ at hb
       simp only [List.all_eq_true, List.mem_range, Bool.or_eq_true] at hb
       have hb := hb i (by omega)
       rw [hol] at hb
       simp only [hs, Bool.false_eq_true, or_false, List.contains_eq_mem, decide_eq_true_eq] at hb
       have := BM hcl j (p6 p) (O5 (fun e he hb => hcl j p (hget' j p hp) hj e he hb)) i hb
       rw [hunf] at this; simp at this

    have hslots : ∀ k ∈ looks ops.toList o, get (ss i).t k = get s1.t k := by
     intro k hk
     have hlk := hlook k hk
     rw [htext i (by omega) k, hg k]
     unfold At
     unfold D5 at hlk
     cases hw : writer ops.toList 0 k with
     | none => rfl
     | some j =>
      rw [hw] at hlk
      simp only [Bool.or_eq_true, beq_iff_eq] at hlk
      simp only
      rcases hlk with rfl | hlk
      ·rw [if_neg (Nat.lt_irrefl _), hunf]; rfl
      ·by_cases hj : j < i
       ·rw [if_pos hj] at hlk
        obtain ⟨e, he, hbind, hon⟩ := O4 hlk
        have := hbefore e he hbind
        rw [hon] at this
        rw [if_pos hj, this]; rfl
       ·rw [if_neg hj] at hlk
        obtain ⟨_, p, hp, _⟩ := u9 _ _ _ _ hw
        rw [Nat.sub_zero] at hp
        rw [hp] at hlk
        simp only at hlk
        obtain ⟨e, he, hbind, hon⟩ := O4 hlk
        have hpa : ops[j]? = some p := hget' j p hp
        have : L.getD j false = false := by
         cases hb : L.getD j false with
         | false => rfl
         | true =>
          have := hcl j p hpa hb e he hbind
          rw [hon, hunf] at this; simp at this
        rw [if_neg hj, this]; rfl
    have hset : ∀ j, (L.setIfInBounds i true).getD j false = if j = i then true else L.getD j false := by
     intro j
     by_cases e : j = i
     ·subst e; have : j < L.size := by omega
      simp [this]
     ·rw [if_neg e, getD_set_ne false (fun h => e h.symm)]

    have next : ∀ {a' : Act} {w' : World} {s2 : St} {G2 : Gh} {F2 : Nat → Prop}, aE P N V w0 s2 G2 F2 a' w' → (∀ k, get s2.t k = if o.dst = some k then xs[i]'(by omega) else get s1.t k) → MI (L.setIfInBounds i true) s2.m →
      wpAny P .any ops (fun e => eB P N V w0 (Q e)) fuel (L.setIfInBounds i true) a' w' := by
     intro a' w' s2 G2 F2 hr2 hg2 hm2
     refine ih _ _ _ _ _ _ (by simp [hsz]) (by have := zlc ops.size L i hio hsz hun; omega) ?_ hr2 hm2 ?_
     ·intro j p hp hj e he hbind
      rw [hset] at hj ⊢
      by_cases eo : e.on = i
      ·rw [if_pos eo]
      ·rw [if_neg eo]
       by_cases ej : j = i
       ·subst ej; rw [ho] at hp; simp at hp; subst hp; exact hbefore e he hbind
       ·rw [if_neg ej] at hj; exact hcl j p hp hj e he hbind
     ·intro k
      rw [hg2]
      by_cases hdk : o.dst = some k
      ·rw [if_pos hdk]
       unfold At
       rw [AR _ 0 i k o hnd hol hdk]
       simp only [Nat.zero_add]
       rw [hset, if_pos rfl]
       simp [hx]
      ·rw [if_neg hdk, hg k]
       unfold At
       cases hw : writer ops.toList 0 k with
       | none => rfl
       | some j =>
        simp only
        rw [hset]
        by_cases ej : j = i
        ·subst ej
         obtain ⟨_, p, hp, hpd⟩ := u9 _ _ _ _ hw
         rw [Nat.sub_zero, hol] at hp
         simp only [Option.some.injEq] at hp
         exact absurd (hp ▸ hpd) hdk
        ·rw [if_neg ej]

    have hMIq : cP o = false → eJ o = false → MI (L.setIfInBounds i true) s1.m := by
     intro hl ha
     have hLF : LF (L.setIfInBounds i true) ↔ LF L := by
      constructor
      ·rintro ⟨f, p, hp, hpa, hf⟩
       refine ⟨f, p, hp, hpa, ?_⟩
       rw [hset] at hf
       by_cases e : f = i
       ·subst e; rw [hol] at hp; simp at hp; subst hp; rw [ha] at hpa; simp at hpa
       ·rwa [if_neg e] at hf
      ·rintro ⟨f, p, hp, hpa, hf⟩
       exact ⟨f, p, hp, hpa, by rw [hset]; split; rfl; exact hf⟩
     have hne : ∀ (j : Nat) (p : Oper), ops.toList[j]? = some p → cP p = true → (L.setIfInBounds i true).getD j false = L.getD j false := by
      intro j p hp hpl
      rw [hset]
      by_cases e : j = i
      ·subst e; rw [hol] at hp; simp at hp; subst hp; rw [hl] at hpl; simp at hpl
      ·rw [if_neg e]
     rcases hm with ⟨hno, hm⟩ | ⟨j, p, hp, hpl, hj, hmax, hm⟩
     ·left
      refine ⟨fun j p hp hpl => by rw [hne j p hp hpl]; exact hno j p hp hpl, ?_⟩
      rw [hm]
      by_cases q : LF L
      ·rw [if_pos q, if_pos (hLF.2 q)]
      ·rw [if_neg q, if_neg (fun q' => q (hLF.1 q'))]
     ·right
      exact ⟨j, p, hp, hpl, by rw [hne j p hp hpl]; exact hj, fun k q hq hql hk => hmax k q hq hql (by rw [hne k q hq hql] at hk; exact hk), hm⟩
    by_cases hloud : cP o = true
    ·
     obtain ⟨hgd, hds, hbeh⟩ := hlo.1 hloud
     have hni : n ≤ i := hloudge i o hol hloud
     have hso : gA o.op = false := by obtain ⟨t, p, x, hop⟩ := vQ hloud; rw [hop]; rfl
     unfold xJ at hbeh
     simp only [List.all_eq_true, List.mem_range, Bool.or_eq_true] at hbeh
     have hlisted : ∀ (j : Nat) (p : Oper), j < i → ops.toList[j]? = some p → gA p.op = false → L.getD j false = true := by
      intro j p hj hp hps
      have := hbeh j hj
      rw [hp] at this
      simp only [hps, Bool.false_eq_true, or_false, List.contains_eq_mem, decide_eq_true_eq] at this
      exact hcli j this
     have hsloud : ∀ (p : Oper), cP p = true → gA p.op = false := fun p hp => by obtain ⟨t, q, x, hop⟩ := vQ hp; rw [hop]; rfl
     have hsalloc : ∀ (p : Oper), eJ p = true → gA p.op = false := fun p hp => by
      unfold eJ dC at hp
      cases hop : p.op <;> rw [hop] at hp <;> simp at hp
      rfl
     have hmi : s1.m = (ss i).m := by
      rcases hm with ⟨hno, hm⟩ | ⟨j, p, hp, hpl, hj, hmax, hm⟩
      ·have hin : i = n := by
        by_cases e : i = n
        ·exact e
        ·exfalso
         have hnlt : n < ops.toList.length := by omega
         have hon : ops.toList[n]? = some ops.toList[n] := List.getElem?_eq_getElem hnlt
         have hl := hn2 _ hon
         have h1 := hno n _ hon hl
         have h2 := hlisted n _ (by omega) hon (hsloud _ hl)
         rw [h1] at h2; simp at h2
       rw [hm, hin, hmem0, hmoLF L fun f p hp ha => hlisted f p (by have := hallt f p hp ha; omega) hp (hsalloc p ha)]
      ·have hji := hafter j p hp hpl hso hj
       rw [hm]
       refine (hconst (j + 1) i (by have := hloudge j p hp hpl; omega) (by omega) (by omega) fun k q h1 h2 hq => ?_).symm
       cases hb : cP q with
       | false => rfl
       | true => have := hmax k q hq hb (hlisted k q h2 hq (hsloud q hb)); omega
     rcases hge i o _ hni hol hx with ⟨h3, _⟩ | ⟨_, hxj, hTV⟩
     ·rw [hloud] at h3; simp at h3
     have hTV1 : TV C s1 o (ss (i + 1)).m := VR hloud hmi.symm (fun y hy => by
      cases y with
      | tmp t => exact hslots t (List.mem_append_left _ (List.mem_filterMap.2 ⟨_, by simpa using hy, rfl⟩))
      | _ => rfl) hTV
     unfold wpOp
     rw [ho]
     simp only
     rw [if_pos (by simp [Region.wanted, hgd])]
     left
     have hwop : wop C P s1 o (· = ⟨putD s1.t o.dst .junk, (ss (i + 1)).m⟩) := by
      obtain ⟨t, p, x, hop⟩ := vQ hloud
      unfold wop
      split
      ·rename_i f args ats hc; rw [hop] at hc; simp at hc
      ·exact hTV1
     refine Oper.wp_mono (AN hC hr hdo hwop) ?_
     rintro a' w' ⟨s2, G2, F2, rfl, hr2⟩
     refine next hr2 (fun k => ?_) ?_
     ·show get (putD s1.t o.dst .junk) k = _
      rw [nI, hxj]
     ·right
      refine ⟨i, o, hol, hloud, by rw [hset, if_pos rfl], fun j p hp hpl hj => ?_, rfl⟩
      rw [hset] at hj
      by_cases e : j = i
      ·omega
      ·rw [if_neg e] at hj
       exact Nat.le_of_lt (hafter j p hp hpl hso hj)
    ·have hloud : cP o = false := by simpa using hloud
     by_cases halloc : eJ o = true
     ·
      obtain ⟨hgd, d, hds, hnot⟩ := hlo.2.1 halloc
      have hin := hallt i o hol halloc
      have hx' : xs1[i]? = some (xs[i]'(by omega)) := hx1of i _ hin hx
      obtain ⟨t, hkind, hflt, hxv⟩ : ∃ t, dC o.op = .alloc t ∧ fl = some t ∧ xs[i]'(by omega) = .ptr s.m.length 0 := by
       rcases (hval1 i o _ hol hx').2.1 with ⟨h3, _⟩ | h3
       ·rw [halloc] at h3; simp at h3
       ·exact h3
      have hop : o.op = .alloc t := by
       unfold dC at hkind
       cases hop : o.op <;> rw [hop] at hkind <;> simp at hkind
       rw [hkind]
      have hso : gA o.op = false := by rw [hop]; rfl
      have hm1 : (∀ (j : Nat) (p : Oper), ops.toList[j]? = some p → cP p = true → L.getD j false = false) ∧ s1.m = s.m := by
       have hnol : ∀ (j : Nat) (p : Oper), ops.toList[j]? = some p → cP p = true → L.getD j false = false := by
        intro j p hp hpl
        cases hb : L.getD j false with
        | false => rfl
        | true => have h6 := hafter j p hp hpl hso hb; have := hloudge j p hp hpl; omega
       refine ⟨hnol, ?_⟩
       rcases hm with ⟨_, hm⟩ | ⟨j, p, hp, hpl, hj, _⟩
       ·rw [hm, if_neg]; · simp
        rintro ⟨f, p, hp, hpa, hf⟩
        have : f = i := huniq f i p o (hallt f p hp hpa) hin hp hol hpa halloc
        subst this; rw [hunf] at hf; simp at hf
       ·rw [hnol j p hp hpl] at hj; simp at hj
      rw [hflt] at hfo
      obtain ⟨ti, hti, hz, hmo⟩ := hfo
      unfold wpOp
      rw [ho]
      simp only
      rw [if_pos (by simp [Region.wanted, hgd])]
      left
      have hwop : wop C P s1 o (· = dS s1 o.dst (.ptr s1.m.length 0) (.row true 1 (ti.zero.cells.toList.map .v))) := by
       unfold wop
       split
       ·rename_i f args ats hc; rw [hop] at hc; simp at hc
       ·unfold gH
        rw [hop]
        simp only [hti]
        exact ⟨trivial, hz⟩
      refine Oper.wp_mono (AN hC hr hdo hwop) ?_
      rintro a' w' ⟨s2, G2, F2, rfl, hr2⟩
      refine next hr2 (fun k => ?_) ?_
      ·show get (putD s1.t o.dst (.ptr s1.m.length 0)) k = _
       rw [nI, hxv, hm1.2]
      ·left
       refine ⟨fun j p hp hpl => ?_, ?_⟩
       ·rw [hset]
        by_cases e : j = i
        ·subst e; rw [hol] at hp; simp at hp; subst hp; rw [hloud] at hpl; simp at hpl
        ·rw [if_neg e]; exact hm1.1 j p hp hpl
       ·rw [if_pos ⟨i, o, hol, halloc, by rw [hset, if_pos rfl]⟩, hmo]
        show s1.m ++ _ = _
        rw [hm1.2]
     ·have halloc : eJ o = false := by simpa using halloc

      have hv1 : fV C P ops.toList s1 o (xs[i]'(by omega)) := by
       by_cases hso : gA o.op = true
       ·rcases Nat.lt_or_ge i n with hin | hin
        ·obtain ⟨s0, hv, _, hs0t⟩ := hquiet1 i o _ hin hol hx halloc
         exact xC (fun k hk => by rw [hs0t, hslots k hk]) (fun he => B6 hso he) hv
        ·rcases hge i o _ hin hol hx with ⟨_, hv, _⟩ | ⟨h3, _⟩
         ·exact xC (fun k hk => hslots k hk) (fun he => B6 hso he) hv
         ·rw [hloud] at h3; simp at h3
       ·have hso : gA o.op = false := by simpa using hso
        have hbl := hlo.2.2 hloud halloc hso
        unfold xK at hbl
        simp only [List.all_eq_true, List.mem_range, Bool.or_eq_true] at hbl
        have hlisted : ∀ (j : Nat) (p : Oper), j < i → ops.toList[j]? = some p → cP p = true → L.getD j false = true := by
         intro j p hj hp hpl
         have := hbl j hj
         rw [hp] at this
         simp only [hpl, Bool.not_true, Bool.false_eq_true, or_false, List.contains_eq_mem, decide_eq_true_eq] at this
         exact hcli j this
        rcases Nat.lt_or_ge i n with hin | hin
        ·obtain ⟨s0, hv, hs0m, hs0t⟩ := hquiet1 i o _ hin hol hx halloc
         have hme : ∃ e, s1.m = s0.m ++ e := by
          rcases hm with ⟨_, hm⟩ | ⟨j, p, hp, hpl, hj, _⟩
          ·exact ⟨_, by rw [hm, hs0m]⟩
          ·have := hafter j p hp hpl hso hj
           have := hloudge j p hp hpl
           omega
         obtain ⟨e, hme⟩ := hme
         exact xC (fun k hk => by rw [hs0t, hslots k hk]) (fun he => z8l hme (by rw [hs0m]; exact hbM) he) hv
        ·rcases hge i o _ hin hol hx with ⟨_, hv, _⟩ | ⟨h3, _⟩
         ·have hmi : (ss i).m = s1.m := by
           have hin' : n < i := by
            rcases Nat.lt_or_ge n i with h6 | h6
            ·exact h6
            ·have : i = n := by omega
             have := hn2 o (by rw [← this]; exact hol)
             rw [hloud] at this; simp at this
           rcases hm with ⟨hno, hm⟩ | ⟨j, p, hp, hpl, hj, hmax, hm⟩
           ·exfalso
            have hon : ops.toList[n]? = some (ops.toList[n]'(by omega)) := List.getElem?_eq_getElem _
            have hl := hn2 _ hon
            have h1 := hno n _ hon hl
            have h2 := hlisted n _ hin' hon hl
            rw [h1] at h2; simp at h2
           ·have hji := hafter j p hp hpl hso hj
            rw [hm]
            refine hconst (j + 1) i (by have := hloudge j p hp hpl; omega) (by omega) (by omega) fun k q h1 h2 hq => ?_
            cases hb : cP q with
            | false => rfl
            | true => have := hmax k q hq hb (hlisted k q h2 hq hb); omega
          exact NA hmi (fun k hk => hslots k hk) hv
         ·rw [hloud] at h3; simp at h3
      refine z8x hC ho hr hdo hv1 ?_
      rintro a' w' ⟨s2, G2, F2, rfl, hr2⟩
      exact next hr2 (fun k => nI _ _ _ _) (hMIq hloud halloc)
 refine key ops.size _ a _ s G F (by simp) ?_ ?_ h.drawn ?_ ?_
 ·have := List.length_filter_le (fun j => !(Array.replicate ops.size false).getD j true) (List.range ops.size)
  simpa using this
 ·intro j o hj hl
  have hlt := (Array.getElem?_eq_some_iff.1 hj).1
  simp [hlt] at hl
 ·left
  have hz : ∀ j : Nat, (Array.replicate ops.size false).getD j false = false := fun j => by
   by_cases hj : j < ops.size <;> simp [hj]
  refine ⟨fun j o _ _ => hz j, ?_⟩
  rw [if_neg]; · simp
  rintro ⟨f, o, _, _, hf⟩
  rw [hz] at hf; simp at hf
 ·intro k
  unfold At
  split
  ·rename_i j hw
   obtain ⟨_, p, hp, _⟩ := u9 _ _ _ _ hw
   have hj : j < ops.size := by have := (List.getElem?_eq_some_iff.1 hp).1; simp at this; omega
   simp [hj]
  ·rfl
end
end Go.AE
