/- A part of the abstract evaluator: no condition. -/
import Derived.Test.YtpcfmiocndafcaaGreatAEBase
import Derived.Test.YtpcfmiocndafcaaGreatAERow
set_option linter.unusedVariables false
set_option linter.unusedSimpArgs false
namespace Go.AE
section
variable {C : Ctx} {P : Program} {s : St} {d : Option Nat} {ty : TypeId} {L : St → Prop}
theorem z75 : wopC C P s d (.assign (.const .nilFunc)) ty L = L ⟨putD s.t d (.v .nilFunc), s.m⟩ := rfl
theorem z7v : wopC C P s d (.assign (.const (.map none))) ty L = L ⟨putD s.t d (.v (.map none)), s.m⟩ := rfl
theorem z7w : wopC C P s d (.assign (.const (.pointer none))) ty L = L ⟨putD s.t d (.v (.pointer none)), s.m⟩ := rfl
end
theorem baseX : type_of% (And.intro @z75 (And.intro @z7v (@z7w))) := And.intro @z75 (And.intro @z7v (@z7w))
end Go.AE
