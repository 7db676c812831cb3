/- A part of the abstract evaluator: no condition. -/
import Derived.Test.YtekgeapohenheaaGreatAEBase
import Derived.Test.YtekgeapohenheaaGreatAERow
set_option linter.unusedVariables false
set_option linter.unusedSimpArgs false
namespace Go.AE
section
variable {C : Ctx} {P : Program} {s : St} {d : Option Nat} {ty : TypeId} {L : St → Prop}
theorem z62 : wopC C P s d (.assign (.const .nilFunc)) ty L = L ⟨putD s.t d (.v .nilFunc), s.m⟩ := rfl
theorem z6r : wopC C P s d (.assign (.const (.map none))) ty L = L ⟨putD s.t d (.v (.map none)), s.m⟩ := rfl
theorem z6s : wopC C P s d (.assign (.const (.pointer none))) ty L = L ⟨putD s.t d (.v (.pointer none)), s.m⟩ := rfl
end
theorem baseX : type_of% (And.intro @z62 (And.intro @z6r (@z6s))) := And.intro @z62 (And.intro @z6r (@z6s))
end Go.AE
