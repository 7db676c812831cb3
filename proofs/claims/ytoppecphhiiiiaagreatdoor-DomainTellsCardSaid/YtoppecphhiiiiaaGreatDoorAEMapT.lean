/- A part of the abstract evaluator: no condition. -/
import Derived.Test.YtoppecphhiiiiaaGreatDoorAEMapS
import Derived.Laws.Sem
set_option linter.unusedVariables false
set_option linter.unusedSimpArgs false
namespace Go.AE
section
variable {N : Nat} {C : bI} {P : Program} {V : dJ} {w0 w w' : World} {s : St} {G : Gh} {F : Nat → Prop} {a : Act}
theorem VW {α β : Type} (f : α → Sem β) (g : α → β) : ∀ (l : List α), (∀ x ∈ l, (f x).run P w = .ok (g x) w) → (l.mapM f).run P w = .ok (l.map g) w
 | [], _ => by simp
 | x :: l, h => by
  rw [List.mapM_cons]
  simp only [Sem.run_bind, h x (by simp), Result.andThen_ok, VW f g l (fun y hy => h y (by simp [hy])), Sem.run_pure, List.map_cons]
theorem z98 {α β : Type} (f : α → Sem β) (g : α → β) (l : Array α) (h : ∀ x ∈ l.toList, (f x).run P w = .ok (g x) w) : (l.mapM f).run P w = .ok (l.map g) w := by
 rw [Array.mapM_eq_mapM_toList]
 show (List.toArray <$> List.mapM f l.toList).run P w = _
 rw [map_eq_pure_bind]
 simp only [Sem.run_bind, VW f g l.toList h, Result.andThen_ok, Sem.run_pure]
 congr 1
 apply Array.ext'
 simp
theorem zcn {cells : Array Value} {us : Array Value} {off : Nat} (h : off + us.size ≤ cells.size) :
  (us.zipIdx.foldl (fun cs (p : Value × Nat) => cs.setIfInBounds (off + p.2) p.1) cells).toList = cells.toList.take off ++ us.toList ++ cells.toList.drop (off + us.toList.length) := by
 have hfold : us.zipIdx.foldl (fun cs (p : Value × Nat) => cs.setIfInBounds (off + p.2) p.1) cells = (us.toList.zipIdx 0).foldl (fun cs (p : Value × Nat) => cs.setIfInBounds (off + p.2) p.1) cells := by
  rw [← Array.foldl_toList, Array.toList_zipIdx]
 obtain ⟨f1, f2⟩ := CC off us.toList 0 cells (by simpa using h)
 rw [hfold]
 apply List.ext_getElem?
 intro j
 rw [ES (by simpa using h), Array.getElem?_toList, f2 j]
 simp only [Nat.add_zero, Array.getElem?_toList]
theorem RM (hC : C.Ok P) (h : aE P N V w0 s G F a w) (fs : Array Field) : ∀ (l : List (Nat × Operand)) (cs : List AV) (cells : Array Value) (K : List AV → Prop), kE C fs.toList cs (l.map fun p => (p.1, ev s p.2)) K → aF w F G cs cells.toList →
  ∃ cs' cells', K cs' ∧ aF w F G cs' cells'.toList ∧ Instr.fill (fun i => (fs.map fun f => (f.offset, (match C.ti f.type with | some i => i.size | none => 0)))[i]?) cells (l.map fun p => (p.1, a.eval p.2)) = some cells'
 | [], cs, cells, K, hk, hr => ⟨cs, cells, hk, hr, rfl⟩
 | (j, x) :: l, cs, cells, K, hk, hr => by
  simp only [List.map_cons, kE] at hk
  split at hk
  ·rename_i fd hfd
   split at hk
   ·rename_i i hi
    obtain ⟨h1, h2, h3, h4⟩ := hk
    have hx := (h.ev x).cells h3
    have hxl := hx.length
    have hcl := hr.length
    have hle : fd.offset + (a.eval x).cells.size ≤ cells.size := by simp at hxl hcl; omega
    have hr2 := A6 fd.offset hr hx (by simpa using hle)
    rw [← zcn hle] at hr2
    obtain ⟨cs', cells', k1, k2, k3⟩ := RM hC h fs l _ _ K h4 hr2
    refine ⟨cs', cells', k1, k2, ?_⟩
    have hpl : (fs.map fun f => (f.offset, (match C.ti f.type with | some i => i.size | none => 0)))[j]? = some (fd.offset, i.size) := by
     rw [Array.getElem?_map, ← Array.getElem?_toList, hfd]
     simp [hi]
    simp only [List.map_cons, Instr.fill, hpl]
    have e1 : ¬ ((a.eval x).cells.size ≠ i.size) := by simp at hxl; omega
    have e2 : ¬ (fd.offset + (a.eval x).cells.size > cells.size) := by omega
    simp only [e1, e2, decide_false, Bool.or_self, Bool.false_eq_true, if_false]
    exact k3
   ·exact hk.elim
  ·exact hk.elim
theorem zae (hC : C.Ok P) (h : aE P N V w0 s G F a w) {t : Nat} {parts : Array (Nat × Operand)} {K : AV → Prop} (hp : nD C (C.ti t) (parts.toList.map fun p => (p.1, ev s p.2)) K) :
  ∃ x v, K x ∧ aH w F G x v ∧ (Instr.build t (parts.map fun p => (p.1, a.eval p.2))).run P w = .ok v w := by
 unfold nD at hp
 split at hp
 ·rename_i i hi
  split at hp
  ·rename_i fs hfs
   obtain ⟨hall, hp⟩ := hp
   have hc : ∀ l : List Value, aF w F G (l.map .v) l := fun l => by
    induction l with
    | nil => exact .nil
    | cons x l ih => exact .cons (.v x) ih
   obtain ⟨cs', cells', k1, k2, k3⟩ := RM hC h fs parts.toList _ i.zero.cells _ hp (hc _)
   refine ⟨.ag cs', .agg cells', k1, by simpa using aH.ag k2, ?_⟩
   have hu : P.underlying t = some (.struct fs) := by rw [(hC.ty t i hi).1, hfs]
   have hz := wZ hC hi w
   have hm : (fs.mapM fun f => (do let sz ← sizeOf f.type; pure (f.offset, sz) : Sem (Nat × Nat))).run P w = .ok (fs.map fun f => (f.offset, (match C.ti f.type with | some i => i.size | none => 0))) w := by
    refine z98 _ _ fs fun f hf => ?_
    have := List.all_eq_true.1 hall f hf
    cases ht : C.ti f.type with
    | none => rw [ht] at this; simp at this
    | some j => simp only [Sem.run_bind, iM hC ht, Result.andThen_ok, Sem.run_pure]
   simp only [Instr.build, Sem.run_bind, hz, Result.andThen_ok, run_underlying hu, hm]
   have hl : (parts.map fun p => (p.1, a.eval p.2)).toList = parts.toList.map fun p => (p.1, a.eval p.2) := by simp
   rw [hl, k3]
   rfl
  ·exact hp.elim
 ·exact hp.elim
theorem QP {t : Nat} {A B : Array TypeId} {D : Bool} (hu : P.underlying t = some (.func A B D)) (f : Fn) (x y : Array Value) : (Op.equal t (.func f x y) .nilFunc).run P w = .ok false w := by
 show (Op.equalIn (9999 + 1) t _ _).run P w = _
 generalize 9999 = n
 simp [Op.equalIn, run_underlying hu]
theorem QQ {t : Nat} {A B : Array TypeId} {D : Bool} (hu : P.underlying t = some (.func A B D)) : (Op.equal t .nilFunc .nilFunc).run P w = .ok true w := by
 show (Op.equalIn (9999 + 1) t _ _).run P w = _
 generalize 9999 = n
 simp [Op.equalIn, run_underlying hu]
theorem QT {t e : Nat} (hu : P.underlying t = some (.slice e)) (a : Addr) (n c : Nat) : (Op.equal t (.slice (some a) n c) (.slice none 0 0)).run P w = .ok false w := by
 show (Op.equalIn (9999 + 1) t _ _).run P w = _
 generalize 9999 = n
 simp [Op.equalIn, run_underlying hu]
theorem QS {t e : Nat} (hu : P.underlying t = some (.slice e)) : (Op.equal t (.slice none 0 0) (.slice none 0 0)).run P w = .ok true w := by
 show (Op.equalIn (9999 + 1) t _ _).run P w = _
 generalize 9999 = n
 simp [Op.equalIn, run_underlying hu]
theorem WF {x : AV} {v : Value} {K : Bool → Prop} (hx : aH w F G x v) (h : jR x K) : (v = .slice none 0 0 ∧ K true) ∨ ∃ a n c, v = .slice (some a) n c ∧ K false := by
 unfold jR at h
 split at h
 ·rcases hx.sl_inv with ⟨_, h2, _⟩ | ⟨b, cap, vs, h1, _⟩
  ·omega
  ·exact .inr ⟨_, _, _, h1, h.2⟩
 ·rcases hx.ref_inv with ⟨_, _, _, h2⟩ | ⟨L, off', cap, hg, hv, _⟩
  ·omega
  ·exact .inr ⟨_, _, _, hv, h.2⟩
 ·exact .inl ⟨hx.v_inv, h⟩
 ·exact .inr ⟨_, _, _, hx.v_inv, h⟩
 ·exact h.elim
theorem za0 (hC : C.Ok P) (h : aE P N V w0 s G F a w) {o : Oper} {op : BinOp} {t u : Nat} {x y : Operand} {K : AV → Prop} {D : Prop} (ho : o.op = .binOp op t x y u) (hp : cO C op t (ev s x) (ev s y) K D)
  (hD : D → ∃ x v, K x ∧ aH w F G x v ∧ (execOp a.eval o).run P w = .ok (.value v) w) : ∃ x v, K x ∧ aH w F G x v ∧ (execOp a.eval o).run P w = .ok (.value v) w := by
 have hx := h.ev x
 have hy := h.ev y
 unfold cO at hp
 split at hp
 ·rename_i cs ds e1 e2
  rw [e1] at hx; rw [e2] at hy
  obtain ⟨vs, hv, hrv⟩ := hx.ag_inv
  obtain ⟨us, hu, hru⟩ := hy.ag_inv
  have main : ∀ (l m : List Value) (r : Bool), fO cs = some l → fO ds = some m → cC C t (.agg l.toArray) = true → cC C t (.agg m.toArray) = true →
    (Op.equal t (a.eval x) (a.eval y)).run P w = .ok (eqs l m) w ∧ ∀ op, (eqGuard op t x y (a.eval x) (a.eval y)).run P w = .ok () w := by
   intro l m r hl hm h1 h2
   have e1 := zQ hl hrv
   have e2 := zQ hm hru
   subst e1; subst e2
   rw [hv, hu]
   refine ⟨QO hC h1 h2, fun op => ?_⟩
   rcases pG h1 with ⟨d, hd, h3⟩ | ⟨_, fs, _, hd, hm, _⟩
   ·rw [zf2] at h3; simp at h3
   ·exact run_eqGuard_agg w op t x y _ _ (hC.flat t hm).2
  split at hp
  ·rename_i l m hl hm
   obtain ⟨h1, h2, hk⟩ := hp
   obtain ⟨q1, q2⟩ := main l m true hl hm h1 h2
   rw [hv, hu] at q1 q2
   exact ⟨_, _, hk, .v _, by simp [execOp, ho, hv, hu, q2, binOp, q1]⟩
  ·rename_i l m hl hm
   obtain ⟨h1, h2, hk⟩ := hp
   obtain ⟨q1, q2⟩ := main l m true hl hm h1 h2
   rw [hv, hu] at q1 q2
   exact ⟨_, _, hk, .v _, by simp [execOp, ho, hv, hu, q2, binOp, q1]⟩
  ·exact hp.elim
 ·rename_i f fa fb e1 e2
  rw [e1] at hx; rw [e2] at hy
  have hy := hy.v_inv
  obtain ⟨fvs, cvs, hfe⟩ : ∃ fvs cvs, a.eval x = .func (.func f) fvs cvs := by
   cases hq : a.eval x <;> rw [hq] at hx <;> cases hx
   exact ⟨_, _, rfl⟩
  have hg : ∀ op, (eqGuard op t x y (.func (.func f) fvs cvs) .nilFunc).run P w = .ok () w := fun op => by cases op <;> rfl
  split at hp
  ·rename_i A B D hd
   have hq := QP (w := w) (hC.u hd) (.func f) fvs cvs
   exact ⟨_, _, hp, .v _, by simp [execOp, ho, hfe, hy, hg, binOp, hq]⟩
  ·rename_i A B D hd
   have hq := QP (w := w) (hC.u hd) (.func f) fvs cvs
   exact ⟨_, _, hp, .v _, by simp [execOp, ho, hfe, hy, hg, binOp, hq]⟩
  ·exact hp.elim
 ·rename_i e1 e2
  rw [e1] at hx; rw [e2] at hy
  have hx := hx.v_inv
  have hy := hy.v_inv
  have hg : ∀ op, (eqGuard op t x y .nilFunc .nilFunc).run P w = .ok () w := fun op => by cases op <;> rfl
  split at hp
  ·rename_i A B D hd
   have hq := QQ (w := w) (hC.u hd)
   exact ⟨_, _, hp, .v _, by simp [execOp, ho, hx, hy, hg, binOp, hq]⟩
  ·rename_i A B D hd
   have hq := QQ (w := w) (hC.u hd)
   exact ⟨_, _, hp, .v _, by simp [execOp, ho, hx, hy, hg, binOp, hq]⟩
  ·exact hp.elim
 ·rename_i _ e2
  rw [e2] at hy
  have hy := hy.v_inv
  have hg : ∀ op u v c, (eqGuard op t x y (.slice u v c) (.slice none 0 0)).run P w = .ok () w := fun op u v c => by cases op <;> rfl
  split at hp
  ·rename_i e hd
   rcases WF hx hp with ⟨hv, hk⟩ | ⟨b, n, c, hv, hk⟩
   ·have hq := QS (w := w) (hC.u hd)
    exact ⟨_, _, hk, .v _, by simp [execOp, ho, hv, hy, hg, binOp, hq]⟩
   ·have hq := QT (w := w) (hC.u hd) b n c
    exact ⟨_, _, hk, .v _, by simp [execOp, ho, hv, hy, hg, binOp, hq]⟩
  ·rename_i e hd
   rcases WF hx hp with ⟨hv, hk⟩ | ⟨b, n, c, hv, hk⟩
   ·have hq := QS (w := w) (hC.u hd)
    exact ⟨_, _, hk, .v _, by simp [execOp, ho, hv, hy, hg, binOp, hq]⟩
   ·have hq := QT (w := w) (hC.u hd) b n c
    exact ⟨_, _, hk, .v _, by simp [execOp, ho, hv, hy, hg, binOp, hq]⟩
  ·exact hp.elim
 ·exact hD hp
theorem Y3 (hC : C.Ok P) (h : aE P N V w0 s G F a w) {o : Oper} {K : AV → Prop} (hp : jS C s o.op K) :
  ∃ x v, K x ∧ aH w F G x v ∧ (execOp a.eval o).run P w = .ok (.value v) w := by
 unfold jS at hp
 split at hp
 ·rename_i t parts ho
  obtain ⟨x, v, k1, k2, k3⟩ := zae hC h hp
  refine ⟨x, v, k1, k2, ?_⟩
  simp only [execOp, ho, Sem.run_bind]
  rw [show (parts.map fun x => match x with | (i, x) => (i, a.eval x)) = parts.map fun p => (p.1, a.eval p.2) from rfl, k3]
  rfl
 ·rename_i t x ix ok ho
  obtain ⟨y, v, k1, k2, k3⟩ := zg6 hC h hp
  exact ⟨y, v, k1, k2, by simp [execOp, ho, k3]⟩
 ·rename_i op t x y u ho
  exact za0 hC h ho hp fun hd => wC hC h (by rw [ho]; exact hd)
 ·exact wC hC h hp
theorem Q2 (hC : C.Ok P) (h : aE P N V w0 s G F a w) {o : Oper} (hd : cV N o.dst = true) {K : St → Prop} (hp : jS C s o.op (kput s o.dst K)) : dO N V w0 P o K a w F := by
 obtain ⟨x, v, h1, h2, h3⟩ := Y3 hC h hp
 exact dO.val hd rfl h1 h h2 h3
theorem zbv (hC : C.Ok P) (h : aE P N V w0 s G F a w) {o : Oper} (hd : cV N o.dst = true) {K : St → Prop} (hp : bB C s o.op (kput s o.dst K)) : dO N V w0 P o K a w F := by
 obtain ⟨x, v, h1, h2, h3⟩ := wC hC h hp
 exact dO.val hd rfl h1 h h2 h3
theorem zgo (h : aE P N V w0 s G F a w) {o : Oper} (hd : cV N o.dst = true) {K : St → Prop} {t : Nat} (ho : o.op = .makeMap t none) (hk : K (dS s o.dst (.mr s.m.length) (.mp []))) : dO N V w0 P o K a w F := by
 have hw : d7 w (w.alloc (.map #[] 0)) := .alloc _ _
 refine lK (g := some ⟨w.heap.size, 0, 0⟩) (v := .map (some w.heap.size)) h hd hk hw ?_ ?_ ?_ ?_
 ·exact ⟨_, #[], 0, rfl, pL _ _, .nil, rfl⟩
 ·rintro L hL; simp at hL; subst hL; exact ⟨Nat.le_refl _, by simp⟩
 ·exact .mr (gnew _ _ h)
 ·simp [execOp, ho, Instr.makeMap]
theorem eU.put {es : List (Value × AV)} {ents : List MapEntry} (h : eU w F es ents) {k : Value} {x : AV} {v : Value} (hx : aH w F [] x v) (clock : Nat) {r : Option (Nat × Value)} (hf : qI k ents 0 r) :
  (r = none ∧ eU w F (mput k x es) (ents ++ [{ key := k, val := v, born := clock }])) ∨ ∃ j u, r = some (j, u) ∧ ∃ e, ents[j]? = some e ∧ gM k e.key = true ∧ eU w F (mput k x es) (ents.set j { e with key := k, val := v }) := by
 have none_case : ∀ {es : List (Value × AV)} {ents : List MapEntry}, eU w F es ents → (∀ e ∈ ents, gM k e.key = false) → eU w F (mput k x es) (ents ++ [{ key := k, val := v, born := clock }]) := by
  intro es
  induction es with
  | nil => intro ents h _; cases h; exact .cons rfl hx .nil
  | cons p es ih =>
   intro ents h hn
   cases h with
   | cons h1 h2 h3 =>
    have := hn _ (List.mem_cons_self ..)
    rw [h1] at this
    simp only [mput, this, List.cons_append]
    exact .cons h1 h2 (ih h3 fun y hy => hn y (by simp [hy]))
 rcases hf with ⟨rfl, hn⟩ | ⟨pre, e, post, he, rfl, hq, hp⟩
 ·exact .inl ⟨rfl, none_case h hn⟩
 ·right
  refine ⟨_, _, rfl, e, by rw [he]; simp, hq, ?_⟩
  clear none_case
  subst he
  rw [Nat.zero_add]
  induction pre generalizing es with
  | nil =>
   cases h with
   | cons h1 h2 h3 =>
    rw [h1] at hq
    simp only [mput, hq, List.nil_append, List.length_nil, List.set_cons_zero]
    exact .cons rfl hx h3
  | cons q pre ih =>
   cases h with
   | cons h1 h2 h3 =>
    have := hp _ (List.mem_cons_self ..)
    rw [h1] at this
    simp only [mput, this, List.cons_append, List.length_cons, List.set_cons_succ]
    exact .cons h1 h2 (ih (fun y hy => hp y (by simp [hy])) h3)
theorem QG {d : TypeDesc} {x y : Value} (hx : iJ d x = true) (hy : iJ d y = true) (h : gL x y = true) (n : Nat) : Instr.sameBits n y x = true := by
 rcases qX hx hy with ⟨k, p, q, rfl, rfl, rfl⟩ | ⟨p, q, rfl, rfl, rfl⟩ | ⟨p, q, rfl, rfl, rfl⟩
 ·simp [gL] at h; subst h; cases n <;> simp [Instr.sameBits]
 ·simp [gL] at h; subst h; cases n <;> simp [Instr.sameBits]
 ·have : p = q := by simp only [gL, beq_iff_eq] at h; have := congrArg (fun l => (⟨l.toArray⟩ : ByteArray)) h; rw [AB, AB] at this; exact this
  subst this; cases n <;> simp [Instr.sameBits, EZ]
theorem QM {C : bI} {n : Nat} : ∀ (fs : List Field) (k : Nat) (vs us : List Value), iI C fs k vs = true → iI C fs k us = true → eqs vs us = true → us.length = vs.length ∧ (us.zip vs).all (fun p => Instr.sameBits n p.1 p.2) = true
 | [], k, vs, us, hv, hu, _ => by
  cases vs <;> cases us <;> simp [iI] at hv hu
  simp
 | f :: fs, k, vs, us, hv, hu, he => by
  cases vs with
  | nil => simp [iI] at hv
  | cons v vs =>
   cases us with
   | nil => simp [iI] at hu
   | cons u us =>
    simp only [iI, Bool.and_eq_true, beq_iff_eq, bne_iff_ne, ne_eq] at hv hu
    obtain ⟨⟨⟨_, _⟩, h3⟩, h4⟩ := hv
    obtain ⟨⟨_, h5⟩, h6⟩ := hu
    simp only [eqs, Bool.and_eq_true] at he
    obtain ⟨ih1, ih2⟩ := QM (n := n) fs (k + 1) vs us h4 h6 he.2
    cases htd : C.td f.type with
    | none => rw [htd] at h3; simp at h3
    | some d =>
     rw [htd] at h3 h5
     refine ⟨by simp [ih1], ?_⟩
     simp only [List.zip_cons_cons, List.all_cons, Bool.and_eq_true]
     exact ⟨QG h3 h5 he.1 n, ih2⟩
theorem stays {t : Nat} {x y : Value} (hx : cC C t x = true) (hy : cC C t y = true) (h : gM x y = true) : (Instr.keyThatStays y x).run P w = .ok x w := by
 have : Instr.sameBits 10000 y x = true := by
  rcases pG hx with ⟨d, hd, h1⟩ | ⟨vs, fs, rfl, hd, hm, h1⟩ <;> rcases pG hy with ⟨d', hd', h2⟩ | ⟨us, fs', rfl, hd', hm', h2⟩
  ·rw [hd] at hd'; simp at hd'; subst hd'
   refine QG h1 h2 ?_ _
   rcases qX h1 h2 with ⟨k, p, q, rfl, rfl, rfl⟩ | ⟨p, q, rfl, rfl, rfl⟩ | ⟨p, q, rfl, rfl, rfl⟩ <;> exact h
  ·rw [hd] at hd'; simp at hd'; subst hd'; rw [vI] at h1; simp at h1
  ·rw [hd] at hd'; simp at hd'; subst hd'; rw [vI] at h2; simp at h2
  ·rw [hd] at hd'; simp at hd'; subst hd'
   obtain ⟨q1, q2⟩ := QM (n := 9999) fs.toList 0 _ _ h1 h2 h
   show Instr.sameBits (9999 + 1) _ _ = true
   simp only [Instr.sameBits, Bool.and_eq_true, beq_iff_eq]
   exact ⟨by simpa using q1, q2⟩
 simp [Instr.keyThatStays, this]
theorem W7 (hC : C.Ok P) (h : aE P N V w0 s G F a w) {o : Oper} (hd : cV N o.dst = true) {K : St → Prop} {t : Nat} {m k x : Operand} (ho : o.op = .mapUpdate t m k x ∨ o.op = .insert t m k x)
  (hp : pR C s o.dst (C.td t) (ev s m) (gQ (ev s k)) (ev s x) K) : dO N V w0 P o K a w F := by
 unfold pR at hp
 split at hp
 ·rename_i kt e id key ht hm hk
  split at hp
  ·rename_i es hob
   obtain ⟨h1, h2, h3, hK⟩ := hp
   have hmv := h.ev m
   rw [hm] at hmv
   obtain ⟨L, hg, hv⟩ : ∃ L, G[id]? = some (some L) ∧ a.eval m = .map (some L.b) := by
    cases hq : a.eval m <;> rw [hq] at hmv <;> cases hmv
    exact ⟨_, by assumption, rfl⟩
   have hrel := h.obG hg
   rw [hob] at hrel
   obtain ⟨L', ents, clock, e0, hh, hr, hL0⟩ := hrel
   simp at e0; subst e0
   have hlive := h.live id L hg
   rw [hob] at hlive
   have hkv := DP hk (h.ev k)
   have hxr : aH w F [] (ev s x) (a.eval x) := z6 h3 (h.ev x)
   have hu := hC.u ht
   obtain ⟨r, f1, f2⟩ := C5 (w := w) hC h1 ents.toList (hr.keys (Q := fun v => cC C kt v = true) h2)
   have hblk := kT hh

   have turned : ∀ (ents' : Array MapEntry) (c' : Nat), eU w F (mput key (ev s x) es) ents'.toList →
     (Instr.mapUpdate t (a.eval m) (a.eval k) (a.eval x)).run P w = .ok () { w with heap := w.heap.setIfInBounds L.b (.map ents' c') } → dO N V w0 P o K a w F := by
    intro ents' c' hr' hrun
    have hblk' : ∀ k, k ≠ L.b → ({ w with heap := w.heap.setIfInBounds L.b (.map ents' c') } : World).heap[k]? = w.heap[k]? := fun k hk => by
     show (w.heap.setIfInBounds _ _)[k]? = _
     rw [Array.getElem?_setIfInBounds, if_neg (fun e => hk e.symm)]
    have hsame : fQ F F w { w with heap := w.heap.setIfInBounds L.b (.map ents' c') } := ⟨fun _ h => h, fun b hb => hblk' b fun e => hlive.1 (e ▸ hb)⟩
    have hturn := h.turn (w' := { w with heap := w.heap.setIfInBounds L.b (.map ents' c') }) hg (o := .mp (mput key (ev s x) es)) rfl rfl rfl (by simp) hblk'
     ⟨L, ents', c', rfl, by
      show (w.heap.setIfInBounds _ _)[L.b]? = _
      rw [Array.getElem?_setIfInBounds, if_pos rfl, if_pos hblk], eU.mono hsame hr', hL0⟩ hlive.2.2 (fun r hr e => by
     rcases hlive.2.2 with h3 | ⟨_, h3⟩
     ·obtain ⟨c0, c, e1, fz, k1, _⟩ := h.rows r hr
      have := kT k1
      omega
     ·exact absurd e (h3 r hr)) (fun q => by rw [hob] at q; cases q)
    refine ⟨_, G, a.put o.dst undef, _, .skip, hK, hturn.putD (s := ⟨s.t, _⟩) hd (.junk undef), ?_, .inr ⟨rfl, rfl⟩⟩
    rcases ho with ho | ho <;> simp [execOp, ho, hrun]
   have hget : (getObj L.b).run P w = .ok (.map ents clock) w := by simp [getObj, Sem.run, hh]
   have hset : ∀ ob, (setObj L.b ob).run P w = .ok () { w with heap := w.heap.setIfInBounds L.b ob } := fun ob => by simp [setObj, Sem.run, hh]
   rcases hr.put hxr clock f2 with ⟨rfl, q1⟩ | ⟨j, u, rfl, e1, q1, q2, q3⟩
   ·refine turned (ents.push { key := key, val := a.eval x, born := clock }) (clock + 1) (by simpa using q1) ?_
    simp [Instr.mapUpdate, run_underlying hu, hv, hkv, hget, p9 hC h1, f1, hset]
   ·have q1' : ents[j]? = some e1 := by simpa using q1
    have hfit : cC C kt e1.key = true := (hr.keys (Q := fun v => cC C kt v = true) h2) e1 (List.mem_of_getElem? q1)
    refine turned (ents.modify j fun e => { e with key := key, val := a.eval x }) clock ?_ ?_
    ·have : (ents.modify j fun e => { e with key := key, val := a.eval x }).toList = ents.toList.set j { e1 with key := key, val := a.eval x } := by
      rw [Array.toList_modify]
      apply List.ext_getElem?
      intro i
      rw [List.getElem?_modify, List.getElem?_set]
      by_cases hi : j = i
      ·subst hi
       have hj : j < ents.toList.length := (List.getElem?_eq_some_iff.1 q1).1
       simp only [hj, if_true, q1]
       simp
      ·simp [hi]
     rw [this]; exact q3
    ·simp [Instr.mapUpdate, run_underlying hu, hv, hkv, hget, p9 hC h1, f1, hset, q1', stays hfit h1, stays h1 hfit q2]
  ·exact hp.elim
 ·exact hp.elim
end
end Go.AE
