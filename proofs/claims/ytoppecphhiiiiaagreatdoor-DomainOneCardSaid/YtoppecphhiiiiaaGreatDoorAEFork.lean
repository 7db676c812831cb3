/- A part of the abstract evaluator: no condition. -/
import Derived.Test.YtoppecphhiiiiaaGreatDoorAERule
set_option linter.unusedVariables false
set_option linter.unusedSimpArgs false
namespace Go.AE
section
variable {C : Ctx} {P : Program} {s : St} {Q : Exit → St → Prop} {ops os : List Oper} {k : Nat} {d : Option Nat} {op : Op} {ty : TypeId} {ph : Ph} {b : Bool} {K : AV → Prop}
theorem CD_t (x y : Code) : CD C P (.v (.bool true)) x y Q s = AW C P x Q s := by rw [zrp, z05]
theorem CD_f (x y : Code) : CD C P (.v (.bool false)) x y Q s = AW C P y Q s := by rw [zrp, z01]
theorem CD_mk {x y : Code} (h : b = true → AW C P x Q s) (j : b = false → AW C P y Q s) : CD C P (.v (.bool b)) x y Q s := by rw [zrp]; exact y0g4 h j
theorem y0jo : GD C P ops Q os (.v (.bool true)) k true d op ty s = z4f C P ⟨put s.t k (.v (.bool true)), s.m⟩ d op ty (WR C P ops Q os) := by rw [y03z, z05]
theorem y0jm : GD C P ops Q os (.v (.bool false)) k true d op ty s = WR C P ops Q os ⟨putD (put s.t k (.v (.bool false))) d .un, s.m⟩ := by rw [y03z, z01]
theorem y0jn : GD C P ops Q os (.v (.bool true)) k false d op ty s = WR C P ops Q os ⟨putD (put s.t k (.v (.bool true))) d .un, s.m⟩ := by rw [zvy, z05]
theorem y0jl : GD C P ops Q os (.v (.bool false)) k false d op ty s = z4f C P ⟨put s.t k (.v (.bool false)), s.m⟩ d op ty (WR C P ops Q os) := by rw [zvy, z01]
theorem GD_mk {want : Bool} (h : b = true → GD C P ops Q os (.v (.bool true)) k want d op ty s) (j : b = false → GD C P ops Q os (.v (.bool false)) k want d op ty s) : GD C P ops Q os (.v (.bool b)) k want d op ty s := by
 cases b
 · exact j rfl
 · exact h rfl
theorem y0jt : GQ C P ops Q os ph (.v (.bool true)) k true d op s = z9y C P ⟨put s.t k (.v (.bool true)), s.m⟩ d op (QR C P ops Q os ph) := by rw [y043, z05]
theorem y0jr : GQ C P ops Q os ph (.v (.bool false)) k true d op s = QR C P ops Q os ph ⟨putD (put s.t k (.v (.bool false))) d .un, s.m⟩ := by rw [y043, z01]
theorem y0js : GQ C P ops Q os ph (.v (.bool true)) k false d op s = QR C P ops Q os ph ⟨putD (put s.t k (.v (.bool true))) d .un, s.m⟩ := by rw [zvz, z05]
theorem y0jq : GQ C P ops Q os ph (.v (.bool false)) k false d op s = z9y C P ⟨put s.t k (.v (.bool false)), s.m⟩ d op (QR C P ops Q os ph) := by rw [zvz, z01]
theorem GQ_mk {want : Bool} (h : b = true → GQ C P ops Q os ph (.v (.bool true)) k want d op s) (j : b = false → GQ C P ops Q os ph (.v (.bool false)) k want d op s) : GQ C P ops Q os ph (.v (.bool b)) k want d op s := by
 cases b
 · exact j rfl
 · exact h rfl
theorem PK_t (x y : AV) : PK (.v (.bool true)) x y K = K x := by rw [zrr, z05]
theorem PK_f (x y : AV) : PK (.v (.bool false)) x y K = K y := by rw [zrr, z01]
theorem PK_mk {x y : AV} (h : b = true → K x) (j : b = false → K y) : PK (.v (.bool b)) x y K := by rw [zrr]; exact y0g4 h j
end
end Go.AE
