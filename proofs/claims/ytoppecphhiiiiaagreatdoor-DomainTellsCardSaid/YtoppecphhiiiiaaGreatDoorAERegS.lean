/- A part of the abstract evaluator: no condition. -/
import Derived.Test.YtoppecphhiiiiaaGreatDoorAELend3
set_option linter.unusedVariables false
set_option linter.unusedSimpArgs false
namespace Go.AE
section
variable {N : Nat} {C : bI} {P : Program} {V : dJ} {w0 w w' : World} {s : St} {G : Gh} {F : Nat → Prop} {a : Act}
def eB (P : Program) (N : Nat) (V : dJ) (w0 : World) (K : St → Prop) (a : Act) (w : World) : Prop := ∃ s G F, K s ∧ aE P N V w0 s G F a w
theorem aE.putSame (h : aE P N V w0 s G F a w) {d : Nat} {x : AV} (hx : aH w F G x (a.tmps.getD d undef)) : aE P N V w0 ⟨AE.put s.t d x, s.m⟩ G F a w where
 defers := h.defers
 tsize := h.tsize
 tm := fun k => by
  show aH w F G (get (AE.put s.t d x) k) _
  by_cases hk : k = d
  ·subst hk; rw [yC]; exact hx
  ·rw [CL _ _ _ _ hk]; exact h.tm k
 len := h.len
 ob := h.ob
 live := h.live
 inj := h.inj
 fb := h.fb
 keep := h.keep
 f0 := h.f0
 nd := h.nd
 rows := h.rows
 fence := h.fence
 tabs := h.tabs
 pin := h.pin
theorem C0 {o : Oper} {f : Operand} {args : Array Operand} {ats : Array TypeId} {k : Nat} {first cap : Array Value} (ho : o.op = .call { callee := .value f, args := args, argTypes := ats })
  (hf : a.eval f = .func (.func k) first cap) (hb : ∃ fn, P.funcs[k]? = some fn ∧ fn.body.isSome = true ∧ (fn.name == "runtime.NumGoroutine") = false) :
  (execOp a.eval o).run P w = .ok (.enter k (first ++ args.map a.eval ++ cap)) w := by
 obtain ⟨fn, h1, h2, h3⟩ := hb
 have h4 : fn.body.isNone = false := by cases h : fn.body <;> simp_all
 simp only [execOp, ho, resolve, hf, Deferred.ofValue, Sem.run_bind, Sem.run_pure, Result.andThen_ok, invoke, callFunc, run_program, h1]
 rw [h3, h4]
 rfl
theorem UY (h : aE P N V w0 s G F a w) {d : Option Nat} (hd : cV N d = true) {σ : List Nat} {m0 m1 : List Ob} {k : Nat} {as args : List AV} {r : AV} {vs : List Value} {K : St → Prop}
  (hspec : eV P k m0 as m1 r) (hn : fZ σ = true) (hl : aT σ.length (cY σ s.m.length) s.m σ m0) (hkk : j2 m0 m1 = true) (hb : belows σ.length as = true)
  (harg : rens (cY σ s.m.length) as = args) (hr : aF w F G args vs) (hK : K (BD s d σ m0 m1 r)) :
  Calls P k vs.toArray w fun e w' => ∃ v, e = .returned v ∧ eB P N V w0 K (a.put d v) w' := by
 have hstart := yT h hn hl
 have hargs : aF w F (cI G σ ++ [none]) as vs := by
  subst harg
  refine aF.unren (k := σ.length) (fun i hi g hg => ?_) as hb hr
  rw [tO σ _ i hi] at hg
  rw [List.getElem?_append_left (by simpa [cI] using hi), yD h hl i hi]
  exact hg
 refine (hspec.2 w F _ vs hstart hargs).mono ?_
 rintro e w' ⟨v, G', F', rfl, hR, hrep⟩
 obtain ⟨G2, hren, hrel⟩ := UX h hn hl hkk hR
 exact ⟨v, rfl, _, _, _, hK, hrel.putD (s := ⟨kR (aN σ m0) s.t, _⟩) hd (hren hrep)⟩
theorem zlg (h : aE P N V w0 s G F a w) {o : Oper} (hd : cV N o.dst = true) {f : Operand} {args : Array Operand} {ats : Array TypeId} {k : Nat} {first cap : List AV} {K : St → Prop} {Q : Exit → Act → World → Prop}
  (ho : o.op = .call { callee := .value f, args := args, argTypes := ats }) (hf : ev s f = .fn k first cap) (hk : wcall P s o.dst k (first ++ args.toList.map (ev s) ++ cap) K) : o.wp P a w (eB P N V w0 K) Q := by
 have hfv := h.ev f
 rw [hf] at hfv
 have hbody : ∃ fn, P.funcs[k]? = some fn ∧ fn.body.isSome = true ∧ (fn.name == "runtime.NumGoroutine") = false := by
  rcases hk with ⟨_, h1, _⟩ | ⟨_, _, _, _, _, h1, _⟩
  ·exact h1.1
  ·exact h1.1
 obtain ⟨fvs, cvs, hfe, hr1, hr2⟩ : ∃ fvs cvs : List Value, a.eval f = .func (.func k) fvs.toArray cvs.toArray ∧ aF w F G first fvs ∧ aF w F G cap cvs := by
  cases hfv' : a.eval f <;> rw [hfv'] at hfv <;> cases hfv
  exact ⟨_, _, rfl, by assumption, by assumption⟩
 have hargs : aF w F G (first ++ args.toList.map (ev s) ++ cap) (fvs ++ args.toList.map a.eval ++ cvs) := (hr1.append (aF.ev h _)).append hr2
 have hrun := C0 (P := P) (w := w) ho hfe hbody
 have harr : fvs.toArray ++ args.map a.eval ++ cvs.toArray = (fvs ++ args.toList.map a.eval ++ cvs).toArray := by
  apply Array.ext'; simp
 rw [harr] at hrun
 unfold Oper.wp
 rw [hrun, Oper.upon_enter]
 rcases hk with ⟨r, ⟨_, hspec⟩, hcl, hk⟩ | ⟨σ, m0, as, m1, r, hspec, h1, h2, h3, h4, h5, hk⟩
 rotate_left
 ·refine (UY h hd hspec h1 h2 h3 h4 h5 hargs hk).mono ?_
  rintro e w' ⟨v, rfl, hq⟩
  exact hq
 by_cases hn : namess (first ++ args.toList.map (ev s) ++ cap) = false
 ·refine (hspec w F _ (fun b hb => (h.fb b hb).1) h.tb (pI h hn hargs)).mono ?_
  rintro e w' ⟨v, F', H, rfl, hw, hF, hF', hrep, hobs, hnew⟩
  have hi := h.brought hw hF hF' hobs hnew
  refine ⟨_, _, _, hk, hi.putD (s := ⟨s.t, _⟩) hd ?_⟩
  rw [← h.len]
  exact hrep.shift G
 ·have hcl : clean r := hcl.resolve_left hn
  refine (hspec w (hP F G) _ (fun b hb => by
   rcases hb with hb | ⟨id, L, hg, rfl⟩
   ·exact (h.fb b hb).1
   ·exact (h.live id L hg).2.1) (h.tb.sub fun _ hb => .inl hb) (pJ h hargs)).mono ?_
  rintro e w' ⟨v, F', H, rfl, hw, hF, hF', hrep, hobs, hnew⟩
  have hobs' : o8 w' F H (imp 0 r).2 := hobs.clean (yI hcl) (fun b hb => hF b (.inl hb))
  have hi := h.brought hw (F' := F) (fun _ h => h) (fun b hb => ⟨.inl hb, Nat.lt_of_lt_of_le (h.fb b hb).1 hw.size⟩) hobs' hnew
  refine ⟨_, _, _, hk, hi.putD (s := ⟨s.t, _⟩) hd ?_⟩
  rw [← h.len]
  exact (hrep.clean hcl).shift G
theorem AN (hC : C.Ok P) (h : aE P N V w0 s G F a w) {o : Oper} (hd : cV N o.dst = true) {K : St → Prop} {Q : Exit → Act → World → Prop} (hk : wop C P s o K) : o.wp P a w (eB P N V w0 K) Q := by
 unfold wop at hk
 split at hk
 ·rename_i f args ats ho
  split at hk
  ·rename_i k first cap hf
   exact zlg h hd ho hf hk
  ·exact hk.elim
 ·obtain ⟨s', G', a', w', nx, h1, h2, h3, h4⟩ := BT hC h hd hk
  unfold Oper.wp
  rw [h3]
  rcases h4 with ⟨v, rfl, rfl⟩ | ⟨rfl, rfl⟩
  ·exact ⟨s', G', F, h1, h2⟩
  ·exact ⟨s', G', F, h1, h2⟩
theorem Oper.wp_mono {o : Oper} {K K' : Act → World → Prop} {Q : Exit → Act → World → Prop} (h : o.wp P a w K Q) (hk : ∀ a w, K a w → K' a w) : o.wp P a w K' Q := by
 unfold Oper.wp at h ⊢
 unfold Oper.upon at h ⊢
 split at h
 ·exact hk _ _ h
 ·exact hk _ _ h
 ·exact hk _ _ h
 ·refine h.mono ?_
  intro e w' he
  cases e with
  | returned v => exact hk _ _ he
  | panicked c => exact he
  | outgrown => exact he
 ·exact h.mono fun v w' hv => hk _ _ hv
 ·exact h
 ·exact h.elim
theorem AS {ops : Array Oper} {j d : Nat} {b : Bool} (hd : gU ops.toList j = some d) (hv : a.tmps.getD d undef = .bool b) : yielded ops a.tmps j = some b := by
 have h1 : (ops[j]?).bind (·.dst) = some d := by simpa [gU] using hd
 unfold yielded
 rw [h1]
 by_cases hlt : d < a.tmps.size
 ·rw [Array.getD_eq_getD_getElem?, Array.getElem?_eq_getElem hlt] at hv
  simp only [Option.bind_some, Array.getElem?_eq_getElem hlt]
  simp at hv
  rw [hv]
 ·rw [Array.getD_eq_getD_getElem?, Array.getElem?_eq_none (by omega)] at hv
  simp [undef] at hv
theorem FY {ops : Array Oper} {j d : Nat} (hd : gU ops.toList j = some d) (hv : a.tmps.getD d undef = .tuple #[]) : yielded ops a.tmps j = none := by
 have h1 : (ops[j]?).bind (·.dst) = some d := by simpa [gU] using hd
 unfold yielded
 rw [h1]
 by_cases hlt : d < a.tmps.size
 ·rw [Array.getD_eq_getD_getElem?, Array.getElem?_eq_getElem hlt] at hv
  simp only [Option.bind_some, Array.getElem?_eq_getElem hlt]
  simp at hv
  rw [hv]
 ·simp only [Option.bind_some, Array.getElem?_eq_none (Nat.le_of_not_lt hlt)]
theorem z4l (hC : C.Ok P) (ops : Array Oper) {K : St → Prop} {Q : Exit → Act → World → Prop} (hQ : ∀ a w, eB P N V w0 K a w → Q .normal a w) :
  ∀ (os : List Oper) {s : St} {G : Gh} {F : Nat → Prop} {a : Act} {w : World}, (∀ o ∈ os, cV N o.dst = true) → aE P N V w0 s G F a w → wops C P ops.toList K os s → wpList P ops Q os a w
 | [], s, G, F, a, w, _, h, hk => hQ a w ⟨s, G, F, hk, h⟩
 | o :: os, s, G, F, a, w, hd, h, hk => by
  have hdo := hd o (by simp)
  have ih : ∀ a w, eB P N V w0 (wops C P ops.toList K os) a w → wpList P ops Q os a w := fun a w ⟨s, G, F, h1, h2⟩ => z4l hC ops hQ os (fun o ho => hd o (List.mem_cons_of_mem _ ho)) h2 h1
  have run : ∀ {s : St}, aE P N V w0 s G F a w → wop C P s o (wops C P ops.toList K os) → o.wp P a w (wpList P ops Q os) Q := fun h hk => Oper.wp_mono (AN hC h hdo hk) ih
  have skip : ∀ {s : St}, aE P N V w0 s G F a w → wops C P ops.toList K os ⟨putD s.t o.dst .un, s.m⟩ → wpList P ops Q os (a.put o.dst undef) w := fun h hk => ih _ _ ⟨_, G, F, hk, h.putD hdo .un⟩
  unfold wops at hk
  unfold wpList
  split at hk
  ·rename_i hg
   rw [if_pos (by simp [Region.wanted, hg])]
   exact .inl (run h hk)
  ·rename_i j want hg
   split at hk
   ·exact hk.elim
   ·rename_i d hdst
    have htm := h.tm d
    split at hk
    ·rename_i b hget
     rw [hget] at htm
     have hv := htm.v_inv
     have hy := AS hdst hv
     have hw : Region.wanted o (yielded ops a.tmps) = (b == want) := by simp [Region.wanted, hg, hy]
     rw [hw]
     have hput : ∀ c, b = c → aE P N V w0 ⟨put s.t d (.v (.bool c)), s.m⟩ G F a w := fun c hc => h.putSame (by rw [hv, hc]; exact .v _)
     cases want <;> cases b <;> simp only [wg] at hk
     ·rw [if_pos (by decide)]
      exact .inl (run (hput false rfl) (hk.2 trivial))
     ·rw [if_neg (by decide)]
      exact skip (s := ⟨put s.t d (.v (.bool true)), s.m⟩) (hput true rfl) (hk.1 trivial)
     ·rw [if_neg (by decide)]
      exact skip (s := ⟨put s.t d (.v (.bool false)), s.m⟩) (hput false rfl) (hk.2 trivial)
     ·rw [if_pos (by decide)]
      exact .inl (run (hput true rfl) (hk.1 trivial))
    ·rename_i hget
     rw [hget] at htm
     have hv : a.tmps.getD d undef = .tuple #[] := by cases hx : a.tmps.getD d undef <;> rw [hx] at htm <;> cases htm; rfl
     have hy := FY hdst hv
     have hw : Region.wanted o (yielded ops a.tmps) = false := by simp [Region.wanted, hg, hy]
     rw [hw]
     simp only [Bool.false_eq_true, if_false]
     exact skip h hk
    ·exact hk.elim
end
end Go.AE
