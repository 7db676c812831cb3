/- A part of the abstract evaluator: no condition. -/
import Derived.Test.YtoppecphhiiiiaaGreatDoorAESpec
import Derived.WideShapes
set_option linter.unusedVariables false
set_option linter.unusedSimpArgs false
namespace Go.AE
theorem zfm {P : Program} {f : FuncId} {args : List AV} (h : aG P f args (.v (.bool true))) (w : World) (vs : List Value) (hT : fK P w fun b => b < w.heap.size) (hr : aF w (fun b => b < w.heap.size) [] args vs) :
  Calls P f vs.toArray w fun e w' => e = .returned (.bool true) ∧ Go.RowKit.Below w.heap.size w w' := by
 refine (h.2 w _ vs (fun _ hb => hb) hT hr).mono ?_
 rintro e w' ⟨v, F', H, rfl, hg, _, _, hv, _, _⟩
 cases hv
 exact ⟨rfl, hg.os, hg.tape, hg.output, hg.size, hg.block⟩
theorem ZR (w : World) (F : Nat → Prop) (a : ByteArray) : aH w F [] (.v (.string ⟨a.data.toList.toArray⟩)) (.string a) := by
 have : (⟨a.data.toList.toArray⟩ : ByteArray) = a := by cases a; simp
 rw [this]; exact .v _
end Go.AE
