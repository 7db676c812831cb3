/- A part of the abstract evaluator: no condition. -/
import Derived.Test.YteidmpcdcfoncaaDoorAERule
set_option linter.unusedVariables false
set_option linter.unusedSimpArgs false
/- Where a test's outcome is open the evaluator stops: both ways are taken up by hand. -/
namespace Go.AE
section
variable {C : Ctx} {P : Program} {s : St} {Q : Exit → St → Prop} {ops os : List Oper} {k : Nat} {d : Option Nat} {op : Op} {ty : TypeId} {ph : Ph} {b : Bool} {K : AV → Prop}
theorem CD_t (x y : Code) : CD C P (.v (.bool true)) x y Q s = AW C P x Q s := by rw [CD_bool, WG_true]
theorem CD_f (x y : Code) : CD C P (.v (.bool false)) x y Q s = AW C P y Q s := by rw [CD_bool, WG_false]
theorem CD_mk {x y : Code} (h : b = true → AW C P x Q s) (j : b = false → AW C P y Q s) : CD C P (.v (.bool b)) x y Q s := by rw [CD_bool]; exact WG_mk h j
theorem GD_tt : GD C P ops Q os (.v (.bool true)) k true d op ty s = wopC C P ⟨put s.t k (.v (.bool true)), s.m⟩ d op ty (WR C P ops Q os) := by rw [GD_true, WG_true]
theorem GD_ft : GD C P ops Q os (.v (.bool false)) k true d op ty s = WR C P ops Q os ⟨putD (put s.t k (.v (.bool false))) d .un, s.m⟩ := by rw [GD_true, WG_false]
theorem GD_tf : GD C P ops Q os (.v (.bool true)) k false d op ty s = WR C P ops Q os ⟨putD (put s.t k (.v (.bool true))) d .un, s.m⟩ := by rw [GD_false, WG_true]
theorem GD_ff : GD C P ops Q os (.v (.bool false)) k false d op ty s = wopC C P ⟨put s.t k (.v (.bool false)), s.m⟩ d op ty (WR C P ops Q os) := by rw [GD_false, WG_false]
theorem GD_mk {want : Bool} (h : b = true → GD C P ops Q os (.v (.bool true)) k want d op ty s) (j : b = false → GD C P ops Q os (.v (.bool false)) k want d op ty s) : GD C P ops Q os (.v (.bool b)) k want d op ty s := by
  cases b
  · exact j rfl
  · exact h rfl
theorem GQ_tt : GQ C P ops Q os ph (.v (.bool true)) k true d op s = qopC C P ⟨put s.t k (.v (.bool true)), s.m⟩ d op (QR C P ops Q os ph) := by rw [GQ_true, WG_true]
theorem GQ_ft : GQ C P ops Q os ph (.v (.bool false)) k true d op s = QR C P ops Q os ph ⟨putD (put s.t k (.v (.bool false))) d .un, s.m⟩ := by rw [GQ_true, WG_false]
theorem GQ_tf : GQ C P ops Q os ph (.v (.bool true)) k false d op s = QR C P ops Q os ph ⟨putD (put s.t k (.v (.bool true))) d .un, s.m⟩ := by rw [GQ_false, WG_true]
theorem GQ_ff : GQ C P ops Q os ph (.v (.bool false)) k false d op s = qopC C P ⟨put s.t k (.v (.bool false)), s.m⟩ d op (QR C P ops Q os ph) := by rw [GQ_false, WG_false]
theorem GQ_mk {want : Bool} (h : b = true → GQ C P ops Q os ph (.v (.bool true)) k want d op s) (j : b = false → GQ C P ops Q os ph (.v (.bool false)) k want d op s) : GQ C P ops Q os ph (.v (.bool b)) k want d op s := by
  cases b
  · exact j rfl
  · exact h rfl
theorem PK_t (x y : AV) : PK (.v (.bool true)) x y K = K x := by rw [PK_bool, WG_true]
theorem PK_f (x y : AV) : PK (.v (.bool false)) x y K = K y := by rw [PK_bool, WG_false]
theorem PK_mk {x y : AV} (h : b = true → K x) (j : b = false → K y) : PK (.v (.bool b)) x y K := by rw [PK_bool]; exact WG_mk h j
end
end Go.AE
