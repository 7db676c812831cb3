/- A part of the abstract evaluator: no condition. -/
import Derived.Test.YtoppecphhiiiiaaGreatDoorAERange
import Derived.OrdersIn
import Derived.Test.YtoppecphhiiiiaaGreatDoorAEPlan
import Derived.Test.YtoppecphhiiiiaaGreatDoorAELend3
import Derived.Test.YtoppecphhiiiiaaGreatDoorAELendS
import Derived.Test.YtoppecphhiiiiaaGreatDoorAEBun
set_option linter.unusedVariables false
set_option linter.unusedSimpArgs false
namespace Go.AE
inductive gT where
 | done
 | take (i : Nat) (p : gT)
 | one (i : Nat) (p : gT)
 | two (i : Nat) (p : gT) (j : Nat) (q : gT)
 | three (i : Nat) (p : gT) (j : Nat) (q : gT) (k : Nat) (r : gT)
 | four (i : Nat) (p : gT) (j : Nat) (q : gT) (k : Nat) (r : gT) (l : Nat) (t : gT)
def fU (ops : Array Oper) : Nat → Array Bool → gT → Bool
 | _, L, .done => (Region.ready .any ops L).isEmpty
 | n + 1, L, .take i p => Region.noSelect ops && Region.free .any ops L i && (Region.ready .any ops L).contains i && unguarded ops i && fU ops n (L.setIfInBounds i true) p
 | n + 1, L, .one i p => (Region.ready .any ops L == [i]) && unguarded ops i && fU ops n (L.setIfInBounds i true) p
 | n + 1, L, .two i p j q => (Region.ready .any ops L == [i, j]) && (unguarded ops i && fU ops n (L.setIfInBounds i true) p) && (unguarded ops j && fU ops n (L.setIfInBounds j true) q)
 | n + 1, L, .three i p j q k r => (Region.ready .any ops L == [i, j, k]) && (unguarded ops i && fU ops n (L.setIfInBounds i true) p) && (unguarded ops j && fU ops n (L.setIfInBounds j true) q) && (unguarded ops k && fU ops n (L.setIfInBounds k true) r)
 | n + 1, L, .four i p j q k r l t => (Region.ready .any ops L == [i, j, k, l]) && (unguarded ops i && fU ops n (L.setIfInBounds i true) p) && (unguarded ops j && fU ops n (L.setIfInBounds j true) q) && (unguarded ops k && fU ops n (L.setIfInBounds k true) r) && (unguarded ops l && fU ops n (L.setIfInBounds l true) t)
 | 0, _, _ => false
def PN (C : bI) (P : Program) (ops : List Oper) (Q : St → Prop) : gT → St → Prop
 | .done, s => Q s
 | .take i p, s => TO C P ops[i]? (PN C P ops Q p) s
 | .one i p, s => OO C P ops[i]? (PN C P ops Q p) s
 | .two i p j q, s => OO C P ops[i]? (PN C P ops Q p) s ∧ OO C P ops[j]? (PN C P ops Q q) s
 | .three i p j q k r, s => OO C P ops[i]? (PN C P ops Q p) s ∧ OO C P ops[j]? (PN C P ops Q q) s ∧ OO C P ops[k]? (PN C P ops Q r) s
 | .four i p j q k r l t, s => OO C P ops[i]? (PN C P ops Q p) s ∧ OO C P ops[j]? (PN C P ops Q q) s ∧ OO C P ops[k]? (PN C P ops Q r) s ∧ OO C P ops[l]? (PN C P ops Q t) s
section
variable {N : Nat} {C : bI} {P : Program} {V : dJ} {w0 w w' : World} {s s' : St} {G : Gh} {F : Nat → Prop} {a : Act} {ops : List Oper} {K : St → Prop}
theorem z8o : PN C P ops K .done s = K s := rfl
theorem z8r (i : Nat) (p : gT) : PN C P ops K (.take i p) s = TO C P ops[i]? (PN C P ops K p) s := rfl
theorem z8q (i : Nat) (p : gT) : PN C P ops K (.one i p) s = OO C P ops[i]? (PN C P ops K p) s := rfl
theorem z8t (i j : Nat) (p q : gT) : PN C P ops K (.two i p j q) s = (OO C P ops[i]? (PN C P ops K p) s ∧ OO C P ops[j]? (PN C P ops K q) s) := rfl
theorem z8s (i j k : Nat) (p q r : gT) : PN C P ops K (.three i p j q k r) s = (OO C P ops[i]? (PN C P ops K p) s ∧ OO C P ops[j]? (PN C P ops K q) s ∧ OO C P ops[k]? (PN C P ops K r) s) := rfl
theorem z8p (i j k l : Nat) (p q r t : gT) : PN C P ops K (.four i p j q k r l t) s = (OO C P ops[i]? (PN C P ops K p) s ∧ OO C P ops[j]? (PN C P ops K q) s ∧ OO C P ops[k]? (PN C P ops K r) s ∧ OO C P ops[l]? (PN C P ops K t) s) := rfl
def z7 : Op → Bool
 | .defer _ => false
 | _ => true
theorem z91 {o : Oper} {K : St → Prop} (hk : dN C s o.dst o.op K) (w : World) (ρ : Operand → Value) : o.about P w ρ = none := by
 unfold Oper.about
 unfold dN at hk
 split at hk
 ·rename_i x ho; rw [ho]
 ·rename_i x ho; rw [ho]
 ·obtain ⟨h1, _⟩ := hk
  cases ho : o.op <;> rw [ho] at h1 <;> first | rfl | (simp [dN.slotOnlyP] at h1)
theorem nX (hC : C.Ok P) {m : Nat} {ops : Array Oper} {Q : Exit → Act → World → Prop} (hd : ∀ o ∈ ops.toList, cV N o.dst = true) {K : St → Prop} {R : Act → World → Prop} {i : Nat}
  (ih : ∀ {s : St} {G : Gh} {F : Nat → Prop} {a : Act} {w : World}, aE P N V w0 s G F a w → K s → R a w) (hu : unguarded ops i = true) (h : aE P N V w0 s G F a w) (hk : OO C P ops.toList[i]? K s) : wpOpIn (fr none) m P ops Q i R a w := by
 unfold OO at hk
 split at hk
 ·rename_i o ho
  have ho' : ops[i]? = some o := by simpa using ho
  have hg : o.guard = none := by simpa [unguarded, ho'] using hu
  have hw : Region.wanted o (yielded ops a.tmps) = true := by simp [Region.wanted, hg]
  unfold wpOpIn
  simp only [ho', hw, if_true]
  exact AQ (z4k none m hC h (hd o (List.mem_of_getElem? ho)) hk) fun a w ⟨s, G, F, h1, h2⟩ => ih h2 h1
 ·exact hk.elim
theorem lQ (hC : C.Ok P) {m : Nat} {ops : Array Oper} {K : St → Prop} {Q : Exit → Act → World → Prop} (hd : ∀ o ∈ ops.toList, cV N o.dst = true) (hQ : ∀ a w, eB P N V w0 K a w → Q .normal a w) (hQp : ∀ c a w, ¬ Q (.panic c) a w) :
  ∀ (pl : gT) (n : Nat) (L : Array Bool) {s : St} {G : Gh} {F : Nat → Prop} {a : Act} {w : World}, fU ops n L pl = true → aE P N V w0 s G F a w → PN C P ops.toList K pl s → wpAnyIn (fr none) m P .any ops Q n L a w
 | .done, n, L, s, G, F, a, w, hok, h, hk => by
  refine wpAnyIn_done ?_ (hQ _ _ ⟨s, G, F, hk, h⟩) n
  cases n <;> simpa [fU] using hok
 | .take i p, n, L, s, G, F, a, w, hok, h, hk => by
  cases n with
  | zero => simp [fU] at hok
  | succ n =>
   simp only [fU, Bool.and_eq_true] at hok
   obtain ⟨⟨⟨⟨h1, h2⟩, h3⟩, h4⟩, h5⟩ := hok
   simp only [PN, TO] at hk
   split at hk
   ·rename_i o ho
    have ho' : ops[i]? = some o := by simpa using ho
    have hg : o.guard = none := by simpa [unguarded, ho'] using h4
    have hmem : o ∈ ops.toList := List.mem_of_getElem? ho
    obtain ⟨v, x, hy, hr, hK⟩ := z2k hC h (hd o hmem) hg hk ops
    exact wpAnyIn_take rfl ho' h1 h2 h3 (fun c a w hq => absurd hq (hQp c _ _)) ⟨hy, fun w => z91 hk w _⟩ (lQ hC hd hQ hQp p n _ h5 hr hK)
   ·exact hk.elim
 | .one i p, n, L, s, G, F, a, w, hok, h, hk => by
  cases n with
  | zero => simp [fU] at hok
  | succ n =>
   simp only [fU, Bool.and_eq_true] at hok
   obtain ⟨⟨h1, h2⟩, h3⟩ := hok
   simp only [PN] at hk
   refine wpAnyIn_all (rs := [i]) (by simpa using h1) (by simp) fun j hj => ?_
   simp at hj; subst hj
   exact nX hC hd (fun h hk => lQ hC hd hQ hQp p n _ h3 h hk) h2 h hk
 | .two i p j q, n, L, s, G, F, a, w, hok, h, hk => by
  cases n with
  | zero => simp [fU] at hok
  | succ n =>
   simp only [fU, Bool.and_eq_true] at hok
   obtain ⟨⟨h1, h2, h3⟩, h4, h5⟩ := hok
   simp only [PN] at hk
   obtain ⟨hk1, hk2⟩ := hk
   refine wpAnyIn_all (rs := [i, j]) (by simpa using h1) (by simp) fun k hk => ?_
   simp at hk
   rcases hk with rfl | rfl
   ·exact nX hC hd (fun h hk => lQ hC hd hQ hQp p n _ h3 h hk) h2 h hk1
   ·exact nX hC hd (fun h hk => lQ hC hd hQ hQp q n _ h5 h hk) h4 h hk2
 | .three i p j q k r, n, L, s, G, F, a, w, hok, h, hk => by
  cases n with
  | zero => simp [fU] at hok
  | succ n =>
   simp only [fU, Bool.and_eq_true] at hok
   obtain ⟨⟨⟨h1, h2, h3⟩, h4, h5⟩, h6, h7⟩ := hok
   simp only [PN] at hk
   obtain ⟨hk1, hk2, hk3⟩ := hk
   refine wpAnyIn_all (rs := [i, j, k]) (by simpa using h1) (by simp) fun k hk => ?_
   simp at hk
   rcases hk with rfl | rfl | rfl
   ·exact nX hC hd (fun h hk => lQ hC hd hQ hQp p n _ h3 h hk) h2 h hk1
   ·exact nX hC hd (fun h hk => lQ hC hd hQ hQp q n _ h5 h hk) h4 h hk2
   ·exact nX hC hd (fun h hk => lQ hC hd hQ hQp r n _ h7 h hk) h6 h hk3
 | .four i p j q k r l t, n, L, s, G, F, a, w, hok, h, hk => by
  cases n with
  | zero => simp [fU] at hok
  | succ n =>
   simp only [fU, Bool.and_eq_true] at hok
   obtain ⟨⟨⟨⟨h1, h2, h3⟩, h4, h5⟩, h6, h7⟩, h8, h9⟩ := hok
   simp only [PN] at hk
   obtain ⟨hk1, hk2, hk3, hk4⟩ := hk
   refine wpAnyIn_all (rs := [i, j, k, l]) (by simpa using h1) (by simp) fun k hk => ?_
   simp at hk
   rcases hk with rfl | rfl | rfl | rfl
   ·exact nX hC hd (fun h hk => lQ hC hd hQ hQp p n _ h3 h hk) h2 h hk1
   ·exact nX hC hd (fun h hk => lQ hC hd hQ hQp q n _ h5 h hk) h4 h hk2
   ·exact nX hC hd (fun h hk => lQ hC hd hQ hQp r n _ h7 h hk) h6 h hk3
   ·exact nX hC hd (fun h hk => lQ hC hd hQ hQp t n _ h9 h hk) h8 h hk4
theorem zl5 (r : Option Nat) {m : Nat} {o : Oper} {K : Act → World → Prop} {Q : Exit → Act → World → Prop} (hn : z7 o.op = true) (h : o.wpIn (fr none) m P a w K Q) : o.wpIn (fr r) m P a w K Q := by
 have hnd : ∀ c, o.op ≠ .defer c := fun c e => by rw [e] at hn; cases hn
 refine ⟨fun f hf => h.1 f hf, ?_⟩
 have h2 := h.2
 rw [l0 none _ _ hnd] at h2
 rw [l0 r _ _ hnd]
 exact h2
theorem xH (r : Option Nat) {m : Nat} {ops : Array Oper} {Q : Exit → Act → World → Prop} (hn : (ops.toList.all fun o => z7 o.op) = true) :
  ∀ (n : Nat) (L : Array Bool) (a : Act) (w : World), wpAnyIn (fr none) m P .any ops Q n L a w → wpAnyIn (fr r) m P .any ops Q n L a w
 | 0, L, a, w, h => h
 | n + 1, L, a, w, h => by
  refine ⟨h.1, fun i hi => ?_⟩
  have h1 := h.2 i hi
  unfold wpOpIn at h1 ⊢
  split
  ·rename_i e
   rw [e] at h1
   exact xH r hn n _ _ _ h1
  ·rename_i o ho
   rw [ho] at h1
   have hno : z7 o.op = true := List.all_eq_true.1 hn o (List.mem_of_getElem? (by simpa using ho))
   split
   ·rename_i hw
    simp only [hw, if_true] at h1
    exact AQ (zl5 r hno h1) fun a w => xH r hn n _ a w
   ·rename_i hw
    simp only [hw] at h1
    exact ⟨fun f hf => h1.1 f hf, xH r hn n _ _ _ h1.2⟩
theorem zid (r : Option Nat) (m : Nat) (hC : C.Ok P) {id : Nat} {ops : Array Oper} {Q : Exit → St → Prop} {pl : gT} (h : aE P N V w0 s G F a w) (hd : (ops.toList.all fun o => cV N o.dst) = true) (hn : (ops.toList.all fun o => z7 o.op) = true)
  (hok : fU ops ops.size (Array.replicate ops.size false) pl = true) (hk : PN C P ops.toList (Q .normal) pl s) : (Code.region id ops true).wpIn (fr r) m P (fun e => eB P N V w0 (Q e)) a w := by
 refine wpIn_mono (Q := calm (fun e => eB P N V w0 (Q e))) (wpIn_region_any hC.mixed (xH r hn _ _ _ _ (lQ hC (fun o ho => List.all_eq_true.1 hd o ho) (fun a w h => h) (fun c a w h => h) pl _ _ hok (h.grow (.drew w)) hk))) ?_
 intro e a w hq
 cases e <;> first | exact hq | exact hq.elim
end
end Go.AE
