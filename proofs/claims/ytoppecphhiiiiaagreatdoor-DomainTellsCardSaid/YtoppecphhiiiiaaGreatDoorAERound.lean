/- A part of the abstract evaluator: no condition. -/
import Derived.Test.YtoppecphhiiiiaaGreatDoorAEAwp
import Derived.RangeFuncCalls
import Derived.RangeFuncLeaves
import Derived.RangeFuncFrom
import Derived.TacticsIn
set_option linter.unusedVariables false
set_option linter.unusedSimpArgs false
namespace Go.AE
def fr (r : Option Nat) : Fence := { Fence.wide with round := r }
theorem l0 (r : Option Nat) (ρ : Operand → Value) (o : Oper) (h : ∀ c, o.op ≠ .defer c) : Oper.semAt (fr r).round ρ o = execOp ρ o := by
 cases r with
 | none => exact Oper.semAt_none _ _
 | some l => exact Oper.semAt_some l ρ o h
theorem zah {r : Option Nat} {m : Nat} {P : Program} {f : FuncId} {args : Array Value} {w : World} {R : Ending → World → Prop} (h : Calls P f args w R) : CallsIn (fr r) m P f args w R :=
 (callsIn_wide (n := m)).2 h
section
variable {N : Nat} {C : bI} {P : Program} {V : dJ} {w0 w w' : World} {s : St} {G : Gh} {F : Nat → Prop} {a : Act}
theorem AQ {F : Fence} {m : Nat} {o : Oper} {K K' : Act → World → Prop} {Q : Exit → Act → World → Prop} (h : o.wpIn F m P a w K Q) (hk : ∀ a w, K a w → K' a w) : o.wpIn F m P a w K' Q := by
 refine ⟨h.1, ?_⟩
 have h := h.2
 unfold Oper.uponIn at h ⊢
 split at h
 ·exact hk _ _ h
 ·exact hk _ _ h
 ·exact hk _ _ h
 ·refine ⟨h.1, h.2.mono ?_⟩
  intro e w' he
  cases e with
  | returned v => exact hk _ _ he
  | panicked c => exact he
  | outgrown => exact he
 ·exact ⟨h.1, h.2.mono fun v w' hv => hk _ _ hv⟩
 ·refine ⟨h.1, h.2.mono ?_⟩
  intro e w' he
  cases e with
  | returned v => exact hk _ _ he
  | panicked c => exact he
  | outgrown => exact he
 ·exact h
 ·exact h.elim
theorem zlf (r : Option Nat) (m : Nat) (h : aE P N V w0 s G F a w) {o : Oper} (hd : cV N o.dst = true) {f : Operand} {args : Array Operand} {ats : Array TypeId} {k : Nat} {first cap : List AV} {K : St → Prop} {Q : Exit → Act → World → Prop}
  (ho : o.op = .call { callee := .value f, args := args, argTypes := ats }) (hf : ev s f = .fn k first cap) (hk : wcall P s o.dst k (first ++ args.toList.map (ev s) ++ cap) K) : o.wpIn (fr r) m P a w (eB P N V w0 K) Q := by
 have hfv := h.ev f
 rw [hf] at hfv
 have hbody : ∃ fn, P.funcs[k]? = some fn ∧ fn.body.isSome = true ∧ (fn.name == "runtime.NumGoroutine") = false := by
  rcases hk with ⟨_, h1, _⟩ | ⟨_, _, _, _, _, h1, _⟩
  ·exact h1.1
  ·exact h1.1
 obtain ⟨fvs, cvs, hfe, hr1, hr2⟩ : ∃ fvs cvs : List Value, a.eval f = .func (.func k) fvs.toArray cvs.toArray ∧ aF w F G first fvs ∧ aF w F G cap cvs := by
  cases hfv' : a.eval f <;> rw [hfv'] at hfv <;> cases hfv
  exact ⟨_, _, rfl, by assumption, by assumption⟩
 have hargs : aF w F G (first ++ args.toList.map (ev s) ++ cap) (fvs ++ args.toList.map a.eval ++ cvs) := (hr1.append (aF.ev h _)).append hr2
 have hrun := C0 (P := P) (w := w) ho hfe hbody
 have harr : fvs.toArray ++ args.map a.eval ++ cvs.toArray = (fvs ++ args.toList.map a.eval ++ cvs).toArray := by
  apply Array.ext'; simp
 rw [harr] at hrun
 refine ⟨fun _ _ => trivial, ?_⟩
 rw [l0 r a.eval o (fun c e => by rw [ho] at e; cases e), hrun, Oper.uponIn_enter]
 refine ⟨fun e => by simp [fr, Fence.wide] at e, zah ?_⟩
 rcases hk with ⟨rv, ⟨_, hspec⟩, hcl, hk⟩ | ⟨σ, m0, as, m1, rv, hspec, h1, h2, h3, h4, h5, hk⟩
 rotate_left
 ·refine (UY h hd hspec h1 h2 h3 h4 h5 hargs hk).mono ?_
  rintro e w' ⟨v, rfl, hq⟩
  exact hq
 by_cases hn : namess (first ++ args.toList.map (ev s) ++ cap) = false
 ·refine (hspec w F _ (fun b hb => (h.fb b hb).1) h.tb (pI h hn hargs)).mono ?_
  rintro e w' ⟨v, F', H, rfl, hw, hF, hF', hrep, hobs, hnew⟩
  have hi := h.brought hw hF hF' hobs hnew
  refine ⟨_, _, _, hk, hi.putD (s := ⟨s.t, _⟩) hd ?_⟩
  rw [← h.len]
  exact hrep.shift G
 ·have hcl : clean rv := hcl.resolve_left hn
  refine (hspec w (hP F G) _ (fun b hb => by
   rcases hb with hb | ⟨id, L, hg, rfl⟩
   ·exact (h.fb b hb).1
   ·exact (h.live id L hg).2.1) (h.tb.sub fun _ hb => .inl hb) (pJ h hargs)).mono ?_
  rintro e w' ⟨v, F', H, rfl, hw, hF, hF', hrep, hobs, hnew⟩
  have hobs' : o8 w' F H (imp 0 rv).2 := hobs.clean (yI hcl) (fun b hb => hF b (.inl hb))
  have hi := h.brought hw (F' := F) (fun _ h => h) (fun b hb => ⟨.inl hb, Nat.lt_of_lt_of_le (h.fb b hb).1 hw.size⟩) hobs' hnew
  refine ⟨_, _, _, hk, hi.putD (s := ⟨s.t, _⟩) hd ?_⟩
  rw [← h.len]
  exact (hrep.clean hcl).shift G
theorem z4k (r : Option Nat) (m : Nat) (hC : C.Ok P) (h : aE P N V w0 s G F a w) {o : Oper} (hd : cV N o.dst = true) {K : St → Prop} {Q : Exit → Act → World → Prop} (hk : wop C P s o K) : o.wpIn (fr r) m P a w (eB P N V w0 K) Q := by
 unfold wop at hk
 split at hk
 ·rename_i f args ats ho
  split at hk
  ·rename_i k first cap hf
   exact zlf r m h hd ho hf hk
  ·exact hk.elim
 ·have hnd : ∀ c, o.op ≠ .defer c := fun c e => by simp [gH, e, jS, bB] at hk
  obtain ⟨s', G', a', w', nx, h1, h2, h3, h4⟩ := BT hC h hd hk
  refine ⟨fun _ _ => trivial, ?_⟩
  rw [l0 r a.eval o hnd, h3]
  rcases h4 with ⟨v, rfl, rfl⟩ | ⟨rfl, rfl⟩
  ·exact ⟨s', G', F, h1, h2⟩
  ·exact ⟨s', G', F, h1, h2⟩
theorem AO (r : Option Nat) (m : Nat) (rest : List Oper) (hC : C.Ok P) (ops : Array Oper) {K : St → Prop} {Q : Exit → Act → World → Prop} (hQ : ∀ a w, eB P N V w0 K a w → wpListIn (fr r) m P ops Q rest a w) :
  ∀ (os : List Oper) {s : St} {G : Gh} {F : Nat → Prop} {a : Act} {w : World}, (∀ o ∈ os, cV N o.dst = true) → aE P N V w0 s G F a w → wops C P ops.toList K os s → wpListIn (fr r) m P ops Q (os ++ rest) a w
 | [], s, G, F, a, w, _, h, hk => hQ a w ⟨s, G, F, hk, h⟩
 | o :: os, s, G, F, a, w, hd, h, hk => by
  have hdo := hd o (by simp)
  have ih : ∀ a w, eB P N V w0 (wops C P ops.toList K os) a w → wpListIn (fr r) m P ops Q (os ++ rest) a w := fun a w ⟨s, G, F, h1, h2⟩ => AO r m rest hC ops hQ os (fun o ho => hd o (List.mem_cons_of_mem _ ho)) h2 h1
  have run : ∀ {s : St}, aE P N V w0 s G F a w → wop C P s o (wops C P ops.toList K os) → o.wpIn (fr r) m P a w (wpListIn (fr r) m P ops Q (os ++ rest)) Q := fun h hk => AQ (z4k r m hC h hdo hk) ih
  have skip : ∀ {s : St}, aE P N V w0 s G F a w → wops C P ops.toList K os ⟨putD s.t o.dst .un, s.m⟩ → wpListIn (fr r) m P ops Q (os ++ rest) (a.put o.dst undef) w := fun h hk => ih _ _ ⟨_, G, F, hk, h.putD hdo .un⟩
  unfold wops at hk
  show wpListIn (fr r) m P ops Q (o :: (os ++ rest)) a w
  unfold wpListIn
  split at hk
  ·rename_i hg
   rw [if_pos (by simp [Region.wanted, hg])]
   exact (run h hk)
  ·rename_i j want hg
   split at hk
   ·exact hk.elim
   ·rename_i d hdst
    have htm := h.tm d
    split at hk
    ·rename_i b hget
     rw [hget] at htm
     have hv := htm.v_inv
     have hy := AS hdst hv
     have hw : Region.wanted o (yielded ops a.tmps) = (b == want) := by simp [Region.wanted, hg, hy]
     rw [hw]
     have hput : ∀ c, b = c → aE P N V w0 ⟨put s.t d (.v (.bool c)), s.m⟩ G F a w := fun c hc => h.putSame (by rw [hv, hc]; exact .v _)
     cases want <;> cases b <;> simp only [wg] at hk
     ·rw [if_pos (by decide)]
      exact (run (hput false rfl) (hk.2 trivial))
     ·rw [if_neg (by decide)]
      exact ⟨fun _ _ => trivial, skip (s := ⟨put s.t d (.v (.bool true)), s.m⟩) (hput true rfl) (hk.1 trivial)⟩
     ·rw [if_neg (by decide)]
      exact ⟨fun _ _ => trivial, skip (s := ⟨put s.t d (.v (.bool false)), s.m⟩) (hput false rfl) (hk.2 trivial)⟩
     ·rw [if_pos (by decide)]
      exact (run (hput true rfl) (hk.1 trivial))
    ·rename_i hget
     rw [hget] at htm
     have hv : a.tmps.getD d undef = .tuple #[] := by cases hx : a.tmps.getD d undef <;> rw [hx] at htm <;> cases htm; rfl
     have hy := FY hdst hv
     have hw : Region.wanted o (yielded ops a.tmps) = false := by simp [Region.wanted, hg, hy]
     rw [hw]
     simp only [Bool.false_eq_true, if_false]
     exact ⟨fun _ _ => trivial, skip h hk⟩
    ·exact hk.elim
def jK : Code → Bool
 | .seq a b => jK a && jK b
 | .cond _ a b => jK a && jK b
 | .block _ a => jK a
 | .loop a => jK a
 | .region _ _ d => !d
 | .skip => true
 | .exit _ => true
 | .ret => true
 | .label _ => true
 | .goto _ => true
 | _ => false
theorem zg7 (r : Option Nat) (m : Nat) {b : Code} {Q : Exit → St → Prop} (hb : ∀ {Q : Exit → St → Prop} {s : St} {G : Gh} {F : Nat → Prop} {a : Act} {w : World}, aE P N V w0 s G F a w → awp C P b Q s → b.wpIn (fr r) m P (LQ P N V w0 Q) a w)
  (h : aE P N V w0 s G F a w) (hk : vO (awp C P b) Q s) : (Code.loop b).wpIn (fr r) m P (LQ P N V w0 Q) a w := by
 obtain ⟨ι, S, μ, i0, rr, h0, hr⟩ := hk
 let At : ι → Act → World → Prop := fun i a w => eB P N V w0 (fun s => s = S i) a w
 let Pn : Act → World → Nat → Prop := fun a w n => ∃ i, μ i = n ∧ At i a w
 have hat : ∀ {s : St} {G : Gh} {F : Nat → Prop} {a : Act} {w : World} {i : ι}, aE P N V w0 s G F a w → wk s (S i) → At i a w := fun h hw => ⟨_, _, _, rfl, h.weak hw⟩
 have hatB : ∀ {s : St} {G : Gh} {F : Nat → Prop} {a : Act} {w : World} {i : ι}, aE P N V w0 s G F a w → wY rr s (S i) → At i a w := fun h hw => by
  cases rr with
  | false => exact hat h hw
  | true => obtain ⟨σ, hσ⟩ := hw; exact ⟨_, _, _, rfl, h.weakR hσ⟩
 classical
 refine wpIn_loop (fun a w => ∃ n, Pn a w n) (fun a w => if hn : ∃ n, Pn a w n then Classical.choose (least hn) else 0) ⟨_, i0, rfl, hat h h0⟩ ?_
 intro a w hI
 obtain ⟨i, hi, s1, G1, F1, rfl, hrel⟩ := (Classical.choose_spec (least hI)).1
 refine wpIn_mono (hb hrel (hr i)) ?_
 rintro e a' w' ⟨s', G', F', hq, hrel'⟩
 cases e with
 | normal =>
  obtain ⟨i', hw, hlt⟩ := hq
  have hI' : ∃ n, Pn a' w' n := ⟨_, i', rfl, hatB hrel' hw⟩
  refine ⟨hI', ?_⟩
  rw [dif_pos hI', dif_pos hI]
  have := (Classical.choose_spec (least hI')).2 _ ⟨i', rfl, hatB hrel' hw⟩
  omega
 | exit id => exact ⟨s', G', F', hq, hrel'⟩
 | goto l => exact ⟨s', G', F', hq, hrel'⟩
 | ret => exact ⟨s', G', F', hq, hrel'⟩
 | panic c => exact ⟨s', G', F', hq, hrel'⟩
 | outgrown => exact ⟨s', G', F', hq, hrel'⟩
theorem gF (r : Option Nat) (m : Nat) (hC : C.Ok P) : ∀ (c : Code) {Q : Exit → St → Prop} {s : St} {G : Gh} {F : Nat → Prop} {a : Act} {w : World}, jK c = true → f9 N c = true → aE P N V w0 s G F a w → awp C P c Q s → c.wpIn (fr r) m P (LQ P N V w0 Q) a w
 | .skip, Q, s, G, F, a, w, _, _, h, hk => wpIn_skip ⟨s, G, F, by simpa [awp] using hk, h⟩
 | .label l, Q, s, G, F, a, w, _, _, h, hk => wpIn_label ⟨s, G, F, by simpa [awp] using hk, h⟩
 | .exit i, Q, s, G, F, a, w, _, _, h, hk => wpIn_exit ⟨s, G, F, by simpa [awp] using hk, h⟩
 | .goto l, Q, s, G, F, a, w, _, _, h, hk => wpIn_goto ⟨s, G, F, by simpa [awp] using hk, h⟩
 | .ret, Q, s, G, F, a, w, _, _, h, hk => wpIn_ret ⟨s, G, F, by simpa [awp] using hk, h⟩
 | .rangeFunc _ _ _ _, Q, s, G, F, a, w, hc, _, h, hk => by simp [jK] at hc
 | .refuse _, Q, s, G, F, a, w, hc, _, h, hk => by simp [jK] at hc
 | .scope _, Q, s, G, F, a, w, hc, _, h, hk => by simp [jK] at hc
 | .seq x y, Q, s, G, F, a, w, hc, ho, h, hk => by
  simp only [f9, jK, Bool.and_eq_true] at ho hc
  simp only [awp] at hk
  refine wpIn_seq (wpIn_mono (gF r m hC x hc.1 ho.1 h hk) ?_)
  rintro e a' w' ⟨s', G', F', hq, h'⟩
  cases e with
  | normal => exact gF r m hC y hc.2 ho.2 h' hq
  | _ => exact ⟨s', G', F', hq, h'⟩
 | .cond c x y, Q, s, G, F, a, w, hc, ho, h, hk => by
  simp only [f9, jK, Bool.and_eq_true] at ho hc
  simp only [awp] at hk
  have hcv := h.ev c
  split at hk
  ·rename_i t heq
   rw [heq] at hcv
   cases t with
   | true => exact wpIn_cond_true hcv.v_inv (gF r m hC x hc.1 ho.1 h (hk.1 rfl))
   | false => exact wpIn_cond_false hcv.v_inv (gF r m hC y hc.2 ho.2 h (hk.2 rfl))
  ·exact hk.elim
 | .block id x, Q, s, G, F, a, w, hc, ho, h, hk => by
  simp only [f9, jK] at ho hc
  simp only [awp] at hk
  refine wpIn_block (wpIn_mono (gF r m hC x hc ho h hk) ?_)
  rintro e a' w' ⟨s', G', F', hq, h'⟩
  cases e with
  | exit i =>
   simp only [p7] at hq
   simp only [Exit.inBlock]
   split
   ·rename_i e; rw [if_pos e] at hq; exact ⟨s', G', F', hq, h'⟩
   ·rename_i e; rw [if_neg e] at hq; exact ⟨s', G', F', hq, h'⟩
  | _ => exact ⟨s', G', F', hq, h'⟩
 | .loop x, Q, s, G, F, a, w, hc, ho, h, hk => by
  simp only [f9, jK] at ho hc
  simp only [awp] at hk
  exact zg7 r m (fun h hk => gF r m hC x hc ho h hk) h hk
 | .region id ops draw, Q, s, G, F, a, w, hc, ho, h, hk => by
  simp only [f9, Bool.and_eq_true, List.all_eq_true, Bool.or_eq_true, Bool.not_eq_true'] at ho
  simp only [jK, Bool.not_eq_true'] at hc
  subst hc
  simp only [awp] at hk
  refine wpIn_region_list ?_
  have := AO r m [] (Q := LQ P N V w0 Q) hC ops (fun a w h => h) ops.toList ho.1 h hk
  simpa using this
end
end Go.AE
