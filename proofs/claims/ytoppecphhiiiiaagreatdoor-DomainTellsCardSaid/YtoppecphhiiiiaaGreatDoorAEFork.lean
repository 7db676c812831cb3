/- A part of the abstract evaluator: no condition. -/
import Derived.Test.YtoppecphhiiiiaaGreatDoorAERule
set_option linter.unusedVariables false
set_option linter.unusedSimpArgs false
namespace Go.AE
section
variable {C : bI} {P : Program} {s : St} {Q : Exit → St → Prop} {ops os : List Oper} {k : Nat} {d : Option Nat} {op : Op} {ty : TypeId} {ph : Ph} {b : Bool} {K : AV → Prop}
theorem IN (x y : Code) : CD C P (.v (.bool true)) x y Q s = AW C P x Q s := by rw [B1, aW]
theorem IM (x y : Code) : CD C P (.v (.bool false)) x y Q s = AW C P y Q s := by rw [B1, aV]
theorem z8i {x y : Code} (h : b = true → AW C P x Q s) (j : b = false → AW C P y Q s) : CD C P (.v (.bool b)) x y Q s := by rw [B1]; exact BB h j
theorem JL : GD C P ops Q os (.v (.bool true)) k true d op ty s = cG C P ⟨put s.t k (.v (.bool true)), s.m⟩ d op ty (WR C P ops Q os) := by rw [JK, aW]
theorem JH : GD C P ops Q os (.v (.bool false)) k true d op ty s = WR C P ops Q os ⟨putD (put s.t k (.v (.bool false))) d .un, s.m⟩ := by rw [JK, aV]
theorem JJ : GD C P ops Q os (.v (.bool true)) k false d op ty s = WR C P ops Q os ⟨putD (put s.t k (.v (.bool true))) d .un, s.m⟩ := by rw [JF, aW]
theorem JG : GD C P ops Q os (.v (.bool false)) k false d op ty s = cG C P ⟨put s.t k (.v (.bool false)), s.m⟩ d op ty (WR C P ops Q os) := by rw [JF, aV]
theorem z8j {want : Bool} (h : b = true → GD C P ops Q os (.v (.bool true)) k want d op ty s) (j : b = false → GD C P ops Q os (.v (.bool false)) k want d op ty s) : GD C P ops Q os (.v (.bool b)) k want d op ty s := by
 cases b
 ·exact j rfl
 ·exact h rfl
theorem JV : GQ C P ops Q os ph (.v (.bool true)) k true d op s = dZ C P ⟨put s.t k (.v (.bool true)), s.m⟩ d op (QR C P ops Q os ph) := by rw [JU, aW]
theorem JR : GQ C P ops Q os ph (.v (.bool false)) k true d op s = QR C P ops Q os ph ⟨putD (put s.t k (.v (.bool false))) d .un, s.m⟩ := by rw [JU, aV]
theorem JT : GQ C P ops Q os ph (.v (.bool true)) k false d op s = QR C P ops Q os ph ⟨putD (put s.t k (.v (.bool true))) d .un, s.m⟩ := by rw [JP, aW]
theorem JQ : GQ C P ops Q os ph (.v (.bool false)) k false d op s = dZ C P ⟨put s.t k (.v (.bool false)), s.m⟩ d op (QR C P ops Q os ph) := by rw [JP, aV]
theorem z8k {want : Bool} (h : b = true → GQ C P ops Q os ph (.v (.bool true)) k want d op s) (j : b = false → GQ C P ops Q os ph (.v (.bool false)) k want d op s) : GQ C P ops Q os ph (.v (.bool b)) k want d op s := by
 cases b
 ·exact j rfl
 ·exact h rfl
theorem L5 (x y : AV) : PK (.v (.bool true)) x y K = K x := by rw [B7, aW]
theorem L4 (x y : AV) : PK (.v (.bool false)) x y K = K y := by rw [B7, aV]
theorem z8n {x y : AV} (h : b = true → K x) (j : b = false → K y) : PK (.v (.bool b)) x y K := by rw [B7]; exact BB h j
end
end Go.AE
