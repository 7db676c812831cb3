/- A part of the abstract evaluator: no condition. -/
import Derived.Test.YtoppecphhiiiiaaGreatDoorAEBase
import Derived.Test.YtoppecphhiiiiaaGreatDoorAERow
set_option linter.unusedVariables false
set_option linter.unusedSimpArgs false
namespace Go.AE
section
variable {C : Ctx} {P : Program} {s : St} {d : Option Nat} {ty : TypeId} {L : St → Prop}
theorem z77 : z4f C P s d (.assign (.const .nilFunc)) ty L = L ⟨putD s.t d (.v .nilFunc), s.m⟩ := rfl
theorem z80 : z4f C P s d (.assign (.const (.map none))) ty L = L ⟨putD s.t d (.v (.map none)), s.m⟩ := rfl
theorem z81 : z4f C P s d (.assign (.const (.pointer none))) ty L = L ⟨putD s.t d (.v (.pointer none)), s.m⟩ := rfl
end
theorem y0kt : type_of% (And.intro @z77 (And.intro @z80 (@z81))) := And.intro @z77 (And.intro @z80 (@z81))
end Go.AE
