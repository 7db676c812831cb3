/- A part of the abstract evaluator: no condition. -/
import Derived.Test.YtoppecphhiiiiaaGreatDoorAEBase
import Derived.Test.YtoppecphhiiiiaaGreatDoorAERow
set_option linter.unusedVariables false
set_option linter.unusedSimpArgs false
namespace Go.AE
section
variable {C : bI} {P : Program} {s : St} {d : Option Nat} {ty : TypeId} {L : St → Prop}
theorem z3n : cG C P s d (.assign (.const .nilFunc)) ty L = L ⟨putD s.t d (.v .nilFunc), s.m⟩ := rfl
theorem z3l : cG C P s d (.assign (.const (.map none))) ty L = L ⟨putD s.t d (.v (.map none)), s.m⟩ := rfl
theorem z3o : cG C P s d (.assign (.const (.pointer none))) ty L = L ⟨putD s.t d (.v (.pointer none)), s.m⟩ := rfl
end
theorem O0 : type_of% (And.intro @z3n (And.intro @z3l (@z3o))) := And.intro @z3n (And.intro @z3l (@z3o))
end Go.AE
