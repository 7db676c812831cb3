/- A part of the abstract evaluator: no condition. -/
import Derived.Test.YtoppecphhiiiiaaGreatDoorAERegS
import Derived.Test.YtoppecphhiiiiaaGreatDoorAEQuiet
set_option linter.unusedVariables false
set_option linter.unusedSimpArgs false
namespace Go.AE
section
variable {N : Nat} {C : bI} {P : Program} {V : dJ} {w0 w w' : World} {s s' : St} {G : Gh} {F : Nat → Prop} {a : Act}
def tN (t : List (Nat × AV)) : List (Nat × AV) := t.map fun p => (p.1, match fN p.2 with | true => p.2 | false => .junk)
theorem CK : ∀ (t : List (Nat × AV)) (k : Nat), get (tN t) k = match fN (get t k) with | true => get t k | false => .junk
 | [], k => rfl
 | (j, x) :: l, k => by
  show get ((j, _) :: tN l) k = _
  by_cases h : j = k
  ·simp [get, h]
  ·simp only [get, h, if_false]; exact CK l k
theorem ziu (h : aE P N V w0 s G F a w) (w2 : World) : aE { P with globals := #[] } N ⟨fun _ => False, [], [], V.ds, none, fun _ => none⟩ w2 ⟨tN s.t, []⟩ [] (fun _ => False) a w2 where
 defers := h.defers
 tsize := h.tsize
 tm := fun k => by
  have := h.tm k
  show aH w2 _ [] (get (tN s.t) k) _
  rw [CK]
  cases hx : get s.t k with
  | v x => rw [hx] at this; rw [this.v_inv]; exact .v _
  | _ => exact .junk _
 len := rfl
 ob := fun id g hg => by simp at hg
 live := fun id L hg => by simp at hg
 inj := fun i j L M hi => by simp at hi
 fb := fun b hb => hb.elim
 keep := ⟨rfl, rfl, rfl, Nat.le_refl _, fun _ _ _ => rfl⟩
 f0 := ⟨fun _ h => h, fun _ h => h.elim⟩
 nd := by simp
 rows := by simp
 fence := fun k hk => by cases hk
 tabs := .none _ _ _
 pin := fun id L hp => by cases hp
theorem z2k (hC : C.Ok P) (h : aE P N V w0 s G F a w) {o : Oper} (hd : cV N o.dst = true) {K : St → Prop} (hg : o.guard = none) (hk : dN C s o.dst o.op K) (ops : Array Oper) :
  ∃ v x, Yields P ops o v a ∧ aE P N V w0 ⟨putD s.t o.dst x, s.m⟩ G F (a.put o.dst v) w ∧ K ⟨putD s.t o.dst x, s.m⟩ := by
 have hw : Region.wanted o (yielded ops a.tmps) = true := by simp [Region.wanted, hg]
 have mv : ∀ x : Operand, (∀ w2, (execOp a.eval o).run P w2 = .ok (.value (a.eval x)) w2) → K ⟨putD s.t o.dst (ev s x), s.m⟩ → ∃ v y, Yields P ops o v a ∧ aE P N V w0 ⟨putD s.t o.dst y, s.m⟩ G F (a.put o.dst v) w ∧ K ⟨putD s.t o.dst y, s.m⟩ :=
  fun x hr hk => ⟨_, _, .inl ⟨hw, hr⟩, h.putD hd (h.ev x), hk⟩
 have other : (op : Op) → o.op = op → dN.slotOnlyP op = true → (op.operands.toList.all fun y => fN (ev s y)) = true → bB C s op (kpl s o.dst K) → ∃ v y, Yields P ops o v a ∧ aE P N V w0 ⟨putD s.t o.dst y, s.m⟩ G F (a.put o.dst v) w ∧ K ⟨putD s.t o.dst y, s.m⟩ := by
  intro op ho hs hp hk
  have hs' : gA op = true := by cases op <;> simp_all [dN.slotOnlyP, gA]
  obtain ⟨x, ⟨hx, hK⟩, hall⟩ := DT hk
  obtain ⟨xv, rfl⟩ : ∃ xv, x = .v xv := by cases x <;> simp [fN] at hx; exact ⟨_, rfl⟩
  have hev : ∀ y ∈ op.operands, ev s y = ev ⟨tN s.t, []⟩ y := by
   intro y hy
   have h1 := List.all_eq_true.1 hp y (by simpa using hy)
   cases y with
   | tmp k =>
    show get s.t k = get (tN s.t) k
    rw [CK]
    have h1 : fN (get s.t k) = true := h1
    rw [h1]
   | _ => rfl
  have hrun : ∀ w2, (execOp a.eval o).run P w2 = .ok (.value xv) w2 := fun w2 => by
   have h2 := EP hs' hev (hall (fun y => y = .v xv) rfl)
   have := wC hC (ziu h w2) (o := o) (K := fun y => y = .v xv) (by rw [ho]; exact h2)
   obtain ⟨y, v, hy, hv, hr⟩ := this
   subst hy
   rw [hv.v_inv] at hr
   exact hr
  exact ⟨xv, .v xv, .inl ⟨hw, hrun⟩, h.putD hd (.v _), hK⟩
 unfold dN at hk
 split at hk
 ·rename_i x ho
  exact mv x (fun w2 => by simp [execOp, ho]) hk
 ·rename_i x ho
  exact mv x (fun w2 => by simp [execOp, ho]) hk
 ·exact other o.op rfl hk.1 hk.2.1 hk.2.2
def calm (Q : Exit → Act → World → Prop) : Exit → Act → World → Prop
 | .panic _, _, _ => False
 | e, a, w => Q e a w
theorem wA (hC : C.Ok P) {ops : Array Oper} {K : St → Prop} {Q : Exit → Act → World → Prop} (hd : ∀ o ∈ ops.toList, cV N o.dst = true) (hQ : ∀ a w, eB P N V w0 K a w → Q .normal a w) (hQp : ∀ c a w, ¬ Q (.panic c) a w) :
  ∀ (pl : jD) (n : Nat) (L : Array Bool) {s : St} {G : Gh} {F : Nat → Prop} {a : Act} {w : World}, j4 ops n L pl = true → aE P N V w0 s G F a w → pops C P ops.toList K pl s → wpAny P .any ops Q n L a w
 | .done, n, L, s, G, F, a, w, hok, h, hk => by
  refine wpAny_done ?_ (hQ _ _ ⟨s, G, F, hk, h⟩) n
  cases n <;> simpa [j4] using hok
 | .take i p, n, L, s, G, F, a, w, hok, h, hk => by
  cases n with
  | zero => simp [j4] at hok
  | succ n =>
   simp only [j4, Bool.and_eq_true] at hok
   obtain ⟨⟨⟨⟨h1, h2⟩, h3⟩, h4⟩, h5⟩ := hok
   simp only [pops] at hk
   split at hk
   ·rename_i o ho
    have ho' : ops[i]? = some o := by simpa using ho
    have hg : o.guard = none := by simpa [unguarded, ho'] using h4
    have hmem : o ∈ ops.toList := List.mem_of_getElem? ho
    obtain ⟨v, x, hy, hr, hK⟩ := z2k hC h (hd o hmem) hg hk ops
    exact wpAny_take ho' h1 h2 h3 (fun c a w hq => absurd hq (hQp c _ _)) hy (wA hC hd hQ hQp p n _ h5 hr hK)
   ·exact hk.elim
 | .one i p, n, L, s, G, F, a, w, hok, h, hk => by
  cases n with
  | zero => simp [j4] at hok
  | succ n =>
   simp only [j4, Bool.and_eq_true] at hok
   obtain ⟨⟨h1, h2⟩, h3⟩ := hok
   simp only [pops] at hk
   refine wpAny_all (rs := [i]) (by simpa using h1) (by simp) fun j hj => ?_
   simp at hj; subst hj
   split at hk
   ·rename_i o ho
    exact step hC hd hQ hQp (fun h hk => wA hC hd hQ hQp p n _ h3 h hk) h2 ho h hk
   ·exact hk.elim
 | .two i p j q, n, L, s, G, F, a, w, hok, h, hk => by
  cases n with
  | zero => simp [j4] at hok
  | succ n =>
   simp only [j4, Bool.and_eq_true] at hok
   obtain ⟨⟨⟨⟨h1, h2⟩, h3⟩, h4⟩, h5⟩ := hok
   simp only [pops] at hk
   obtain ⟨hk1, hk2⟩ := hk
   refine wpAny_all (rs := [i, j]) (by simpa using h1) (by simp) fun k hk => ?_
   simp at hk
   rcases hk with rfl | rfl
   ·split at hk1
    ·rename_i o ho
     exact step hC hd hQ hQp (fun h hk => wA hC hd hQ hQp p n _ h4 h hk) h2 ho h hk1
    ·exact hk1.elim
   ·split at hk2
    ·rename_i o ho
     exact step hC hd hQ hQp (fun h hk => wA hC hd hQ hQp q n _ h5 h hk) h3 ho h hk2
    ·exact hk2.elim
where
 step (hC : C.Ok P) {ops : Array Oper} {K : St → Prop} {Q : Exit → Act → World → Prop} (hd : ∀ o ∈ ops.toList, cV N o.dst = true) (hQ : ∀ a w, eB P N V w0 K a w → Q .normal a w) (hQp : ∀ c a w, ¬ Q (.panic c) a w)
   {p : jD} {R : Act → World → Prop} {i : Nat} {o : Oper} {s : St} {G : Gh} {F : Nat → Prop} {a : Act} {w : World} (ih : ∀ {s : St} {G : Gh} {F : Nat → Prop} {a : Act} {w : World}, aE P N V w0 s G F a w → pops C P ops.toList K p s → R a w)
   (hu : unguarded ops i = true) (ho : ops.toList[i]? = some o) (h : aE P N V w0 s G F a w) (hk : wop C P s o (pops C P ops.toList K p)) : wpOp P ops Q i R a w := by
  have ho' : ops[i]? = some o := by simpa using ho
  have hg : o.guard = none := by simpa [unguarded, ho'] using hu
  have hw : Region.wanted o (yielded ops a.tmps) = true := by simp [Region.wanted, hg]
  unfold wpOp
  simp only [ho', hw, if_true]
  exact .inl (Oper.wp_mono (AN hC h (hd o (List.mem_of_getElem? ho)) hk) fun a w ⟨s, G, F, h1, h2⟩ => ih h2 h1)
theorem zic (hC : C.Ok P) {id : Nat} {ops : Array Oper} {Q : Exit → St → Prop} {pl : jD} (h : aE P N V w0 s G F a w) (hd : ∀ o ∈ ops.toList, cV N o.dst = true) (hok : j4 ops ops.size (Array.replicate ops.size false) pl = true)
  (hk : pops C P ops.toList (Q .normal) pl s) : (Code.region id ops true).wp P (fun e => eB P N V w0 (Q e)) a w := by
 refine wp_mono (Q := calm (fun e => eB P N V w0 (Q e))) (wp_region_any hC.mixed (wA hC hd (fun a w h => h) (fun c a w h => h) pl _ _ hok (h.grow (.drew w)) hk)) ?_
 intro e a w hq
 cases e <;> first | exact hq | exact hq.elim
end
end Go.AE
