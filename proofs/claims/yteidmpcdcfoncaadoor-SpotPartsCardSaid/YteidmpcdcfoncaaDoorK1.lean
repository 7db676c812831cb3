/- Contracts of functions that the laws of this seat reach, and plain laws of what they compute. No condition beyond each statement's own. -/
import Derived.Test.YteidmpcdcfoncaaDoorAEBun
import Derived.Test.YteidmpcdcfoncaaDoorProg
set_option linter.unusedVariables false
set_option linter.unusedSimpArgs false
section
/- What is known of the types of this seat's program. -/
namespace Go.AE
open Go.Proofs
set_option maxRecDepth 20000
def T3 : TI := ⟨TypeDesc.int IntKind.i64, 1, 8, Value.int IntKind.i64 0⟩
def T4 : TI := ⟨TypeDesc.bool, 1, 1, Value.bool false⟩
def T5 : TI := ⟨TypeDesc.int IntKind.u8, 1, 1, Value.int IntKind.u8 0⟩
def T9 : TI := ⟨TypeDesc.string, 1, 16, Value.string { data := #[] }⟩
def T23 : TI := ⟨TypeDesc.complex Go.FloatKind.f64, 1, 16, Value.complex Go.FloatKind.f64 0 0⟩
def T24 : TI := ⟨TypeDesc.float Go.FloatKind.f64, 1, 8, Value.float Go.FloatKind.f64 0⟩
def T33 : TI := ⟨TypeDesc.int IntKind.u16, 1, 2, Value.int IntKind.u16 0⟩
def C1 : Ctx := { flat := [], ty := [(3, T3),
  (4, T4),
  (5, T5),
  (9, T9),
  (23, T23),
  (24, T24),
  (33, T33)] }
def Good (t : Nat) (i : TI) : Prop := Tryd.prog.underlying t = some i.d ∧ ∃ j, Tryd.prog.info? t = some j ∧ j.size = i.size ∧ j.bytes = i.bytes ∧ j.zero = some i.zero ∧ i.zero.cells.size = i.size
theorem ty1 (t : Nat) (d : TypeDesc) (sz b : Nat) (z : Value) (h0 : z.cells.size = sz) (h1 : Tryd.prog.underlying t = some d) (h2 : (Tryd.prog.info? t).map (fun j => (j.size, j.bytes, j.zero)) = some (sz, b, some z)) : Good t ⟨d, sz, b, z⟩ := by
  refine ⟨h1, ?_⟩
  cases e : Tryd.prog.info? t with
  | none => rw [e] at h2; simp at h2
  | some j => rw [e] at h2; simp at h2; exact ⟨j, rfl, h2.1, h2.2.1, h2.2.2, h0⟩
theorem findTy_mem : ∀ (l : List (Nat × TI)) (t : Nat) (i : TI), findTy l t = some i → (t, i) ∈ l
  | [], t, i, h => by simp [findTy] at h
  | (k, x) :: l, t, i, h => by
    simp only [findTy] at h
    split at h
    · rename_i e; subst e; simp at h; subst h; exact List.mem_cons_self ..
    · exact List.mem_cons_of_mem _ (findTy_mem l t i h)
theorem good3 : Good 3 T3 := ty1 _ _ _ _ _ rfl (by kernel_rfl) (by kernel_rfl)
theorem good4 : Good 4 T4 := ty1 _ _ _ _ _ rfl (by kernel_rfl) (by kernel_rfl)
theorem good5 : Good 5 T5 := ty1 _ _ _ _ _ rfl (by kernel_rfl) (by kernel_rfl)
theorem good9 : Good 9 T9 := ty1 _ _ _ _ _ rfl (by kernel_rfl) (by kernel_rfl)
theorem good23 : Good 23 T23 := ty1 _ _ _ _ _ rfl (by kernel_rfl) (by kernel_rfl)
theorem good24 : Good 24 T24 := ty1 _ _ _ _ _ rfl (by kernel_rfl) (by kernel_rfl)
theorem good33 : Good 33 T33 := ty1 _ _ _ _ _ rfl (by kernel_rfl) (by kernel_rfl)
theorem goods : ∀ p ∈ C1.ty, Good p.1 p.2 := (List.forall_mem_cons.2 ⟨good3, (List.forall_mem_cons.2 ⟨good4, (List.forall_mem_cons.2 ⟨good5, (List.forall_mem_cons.2 ⟨good9, (List.forall_mem_cons.2 ⟨good23, (List.forall_mem_cons.2 ⟨good24, (List.forall_mem_cons.2 ⟨good33, (List.forall_mem_nil _)⟩)⟩)⟩)⟩)⟩)⟩)⟩)
theorem flats : ∀ t ∈ C1.flat, Tryd.prog.stoodInHeld t = false ∧ Tryd.prog.eqGuardType Tryd.prog.depth t = false := (List.forall_mem_nil _)
theorem ok1 : C1.Ok Tryd.prog where
  mixed := by decide +kernel
  flat := flats
  ty := fun t i h => goods (t, i) (findTy_mem _ _ _ h)
theorem C1_ti3 : C1.ti 3 = some ⟨TypeDesc.int IntKind.i64, 1, 8, Value.int IntKind.i64 0⟩ := rfl
theorem C1_td3 : C1.td 3 = some (TypeDesc.int IntKind.i64) := rfl
theorem C1_ti4 : C1.ti 4 = some ⟨TypeDesc.bool, 1, 1, Value.bool false⟩ := rfl
theorem C1_td4 : C1.td 4 = some (TypeDesc.bool) := rfl
theorem C1_ti5 : C1.ti 5 = some ⟨TypeDesc.int IntKind.u8, 1, 1, Value.int IntKind.u8 0⟩ := rfl
theorem C1_td5 : C1.td 5 = some (TypeDesc.int IntKind.u8) := rfl
theorem C1_ti9 : C1.ti 9 = some ⟨TypeDesc.string, 1, 16, Value.string { data := #[] }⟩ := rfl
theorem C1_td9 : C1.td 9 = some (TypeDesc.string) := rfl
theorem C1_ti23 : C1.ti 23 = some ⟨TypeDesc.complex Go.FloatKind.f64, 1, 16, Value.complex Go.FloatKind.f64 0 0⟩ := rfl
theorem C1_td23 : C1.td 23 = some (TypeDesc.complex Go.FloatKind.f64) := rfl
theorem C1_ti24 : C1.ti 24 = some ⟨TypeDesc.float Go.FloatKind.f64, 1, 8, Value.float Go.FloatKind.f64 0⟩ := rfl
theorem C1_td24 : C1.td 24 = some (TypeDesc.float Go.FloatKind.f64) := rfl
theorem C1_ti33 : C1.ti 33 = some ⟨TypeDesc.int IntKind.u16, 1, 2, Value.int IntKind.u16 0⟩ := rfl
theorem C1_td33 : C1.td 33 = some (TypeDesc.int IntKind.u16) := rfl
theorem C1_fit3 (a : Int) : fitsK C1 3 (.int .i64 a) = true := rfl
theorem C1_fit4 (a : Bool) : fitsK C1 4 (.bool a) = true := rfl
theorem C1_fit5 (a : Int) : fitsK C1 5 (.int .u8 a) = true := rfl
theorem C1_fit9 (a : ByteArray) : fitsK C1 9 (.string a) = true := rfl
theorem C1_fit33 (a : Int) : fitsK C1 33 (.int .u16 a) = true := rfl
theorem B3 : type_of% (And.intro @C1_ti3 (And.intro @C1_td3 @C1_fit3)) := (And.intro @C1_ti3 (And.intro @C1_td3 @C1_fit3))
theorem B4 : type_of% (And.intro @C1_ti4 (And.intro @C1_td4 @C1_fit4)) := (And.intro @C1_ti4 (And.intro @C1_td4 @C1_fit4))
theorem B5 : type_of% (And.intro @C1_ti5 (And.intro @C1_td5 @C1_fit5)) := (And.intro @C1_ti5 (And.intro @C1_td5 @C1_fit5))
theorem B9 : type_of% (And.intro @C1_ti9 (And.intro @C1_td9 @C1_fit9)) := (And.intro @C1_ti9 (And.intro @C1_td9 @C1_fit9))
theorem B23 : type_of% (And.intro @C1_ti23 @C1_td23) := (And.intro @C1_ti23 @C1_td23)
theorem B24 : type_of% (And.intro @C1_ti24 @C1_td24) := (And.intro @C1_ti24 @C1_td24)
theorem B33 : type_of% (And.intro @C1_ti33 (And.intro @C1_td33 @C1_fit33)) := (And.intro @C1_ti33 (And.intro @C1_td33 @C1_fit33))
end Go.AE
end
