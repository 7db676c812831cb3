/- A part of the abstract evaluator: no condition. -/
import Derived.Test.YtoppecphhiiiiaaGreatDoorAESpec
set_option linter.unusedVariables false
set_option linter.unusedSimpArgs false
namespace Go.AE
section
variable {N : Nat} {C : bI} {P : Program} {V : dJ} {w0 w w' : World} {s s' : St} {G : Gh} {F : Nat → Prop} {a : Act}
def sX (s : St) (m1 : List Ob) (r : AV) (xs : List AV) : Prop := XJ xs = r ∧ aI s.m m1 ∧ belowM m1.length m1 = true ∧ below m1.length r = true
def E6 (C : bI) (ts : List ResultVar) (m1 : List Ob) (r : AV) (s : St) : Prop := lT C s ts (sX s m1 r)
def zV (C : bI) (ts : List ResultVar) (m1 : List Ob) (r : AV) : Exit → St → Prop
 | .normal, s => E6 C ts m1 r s
 | .ret, s => E6 C ts m1 r s
 | _, _ => False
theorem aE.retemp {m : List Ob} {t : List (Nat × AV)} {tmps : Array Value} (h : aE P 0 V w0 ⟨[], m⟩ G F { tmps := #[], defers := V.ds } w) (hn : tmps.size = N) (ht : ∀ k, aH w F G (get t k) (tmps.getD k undef)) :
  aE P N V w0 ⟨t, m⟩ G F { tmps := tmps, defers := V.ds } w where
 defers := rfl
 tsize := hn
 tm := ht
 len := h.len
 ob := h.ob
 live := h.live
 inj := h.inj
 fb := h.fb
 keep := h.keep
 f0 := h.f0
 nd := h.nd
 rows := h.rows
 fence := h.fence
 tabs := h.tabs
 pin := h.pin
theorem aE.untemp {t : List (Nat × AV)} {m : List Ob} (h : aE P N V w0 ⟨t, m⟩ G F a w) : aE P 0 V w0 ⟨[], m⟩ G F { tmps := #[], defers := V.ds } w where
 defers := rfl
 tsize := rfl
 tm := fun k => .junk _
 len := h.len
 ob := h.ob
 live := h.live
 inj := h.inj
 fb := h.fb
 keep := h.keep
 f0 := h.f0
 nd := h.nd
 rows := h.rows
 fence := h.fence
 tabs := h.tabs
 pin := h.pin
theorem zi4 {xs : List AV} {vs : List Value} (h : aF w F G xs vs) : aH w F G (XJ xs) (rF vs) := by
 cases h with
 | nil => exact .tup (vs := []) .nil
 | cons h1 h2 =>
  cases h2 with
  | nil => exact h1
  | cons h2 h3 => exact .tup (vs := _ :: _ :: _) (.cons h1 (.cons h2 h3))
theorem zkh {f : FuncId} {fn : Func} {c : Code} {m0 m1 : List Ob} {args : List AV} {r : AV} (hC : C.Ok P) (hf : P.funcs[f]? = some fn) (hb : fn.body = some c) (hname : (fn.name == "runtime.NumGoroutine") = false)
  (hok : f9 fn.ntmps c = true) (hla : args.length ≤ fn.ntmps) (h : AW C P c (zV C fn.results.toList m1 r) ⟨fY 0 args, m0 ++ [.fence]⟩) : eV P f m0 args m1 r := by
 refine ⟨⟨fn, hf, by simp [hb], hname⟩, fun w F g vs hR hr => ?_⟩
 have hlen := hr.length
 refine calls_of_wp hf hb ?_
 have hrel : aE P fn.ntmps (VL F m0 g) w ⟨fY 0 args, m0 ++ [.fence]⟩ (g ++ [none]) F { tmps := vs.toArray ++ Array.replicate (fn.ntmps - vs.toArray.size) undef, defers := [] } w := by
  refine aE.retemp (V := VL F m0 g) hR (by simp; omega) fun k => ?_
  rcases CS vs (fn.ntmps - vs.length) args 0 k hr with h1 | h1
  ·have e : (vs.toArray ++ Array.replicate (fn.ntmps - vs.toArray.size) undef).getD k undef = ((vs ++ List.replicate (fn.ntmps - vs.length) undef)[k]?).getD undef := by
    rw [Array.getD_eq_getD_getElem?]
    congr 1
    rw [← Array.getElem?_toList]
    simp
   rw [e]
   simpa using h1
  ·rw [h1]; exact .junk _
 refine wp_mono (m4 hC c hok hrel h.out) ?_
 have fin : ∀ {a' : Act} {w' : World} {s' : St} {G' : Gh} {F' : Nat → Prop}, aE P fn.ntmps (VL F m0 g) w s' G' F' a' w' → E6 C fn.results.toList m1 r s' →
   a'.defers = [] ∧ ∃ v, (results fn a'.tmps).run P w' = .ok v w' ∧ ∃ v' G2 F2, Ending.returned v = .returned v' ∧ aE P 0 (VL F m0 g) w ⟨[], m1⟩ G2 F2 { tmps := #[], defers := [] } w' ∧ aH w' F2 G2 r v' := by
  intro a' w' s' G' F' h' hret
  refine ⟨h'.defers, ?_⟩
  obtain ⟨xs, vs', ⟨k1, k4, k5, k6⟩, k2, k3⟩ := E5 hC h' hret
  have hw := h'.weak (s' := ⟨[], m1⟩) ⟨trivial, k4, by simp [aK, k5]⟩
  refine ⟨_, k3, _, _, _, rfl, hw.untemp, ?_⟩
  have := zi4 k2
  rw [k1] at this
  exact aH.take k6 this
 rintro e a' w' ⟨s', G', F', hq, h'⟩
 cases e with
 | normal => exact fin h' hq
 | ret => exact fin h' hq
 | exit id => exact hq.elim
 | goto l => exact hq.elim
 | panic ch => exact hq.elim
 | outgrown => exact hq.elim
end
end Go.AE
