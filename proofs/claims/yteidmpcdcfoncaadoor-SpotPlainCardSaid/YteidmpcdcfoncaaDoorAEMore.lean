/- A part of the abstract evaluator: no condition. -/
import Derived.Test.YteidmpcdcfoncaaDoorAEBase
import Derived.Test.YteidmpcdcfoncaaDoorAERow
set_option linter.unusedVariables false
set_option linter.unusedSimpArgs false
/- More rules of the evaluator. -/
namespace Go.AE
section
variable {C : Ctx} {P : Program} {s : St} {d : Option Nat} {ty : TypeId} {L : St → Prop}
theorem wopC_assign_nilfn : wopC C P s d (.assign (.const .nilFunc)) ty L = L ⟨putD s.t d (.v .nilFunc), s.m⟩ := rfl
theorem wopC_assign_map0 : wopC C P s d (.assign (.const (.map none))) ty L = L ⟨putD s.t d (.v (.map none)), s.m⟩ := rfl
theorem wopC_assign_ptr0 : wopC C P s d (.assign (.const (.pointer none))) ty L = L ⟨putD s.t d (.v (.pointer none)), s.m⟩ := rfl
theorem wopC_assign_agg (vs : Array Value) : wopC C P s d (.assign (.const (.agg vs))) ty L = L ⟨putD s.t d (.v (.agg vs)), s.m⟩ := rfl
end
theorem baseX : type_of% (And.intro @wopC_assign_nilfn (And.intro @wopC_assign_map0 (@wopC_assign_ptr0))) := And.intro @wopC_assign_nilfn (And.intro @wopC_assign_map0 (@wopC_assign_ptr0))
end Go.AE
