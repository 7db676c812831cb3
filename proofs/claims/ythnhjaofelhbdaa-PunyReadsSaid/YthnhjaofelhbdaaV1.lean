/- Contracts of functions that the laws of this seat reach, and plain laws of what they compute. No condition beyond each statement's own. -/
import Derived.Test.YthnhjaofelhbdaaAEMore
import Derived.Test.YthnhjaofelhbdaaProg
import Derived.Test.YthnhjaofelhbdaaAENum
set_option linter.unusedVariables false
set_option linter.unusedSimpArgs false
section
/- What is known of the types of this seat's program. -/
namespace Go.AE
open Go.Proofs
set_option maxRecDepth 20000
def C1 : Ctx := { ty := [(1, ⟨Go.TypeDesc.func #[] #[] false, 1, 8, Go.Value.nilFunc⟩),
  (2, ⟨Go.TypeDesc.int Go.IntKind.i64, 1, 8, Go.Value.int Go.IntKind.i64 0⟩),
  (3, ⟨Go.TypeDesc.int Go.IntKind.i64, 1, 8, Go.Value.int Go.IntKind.i64 0⟩),
  (4, ⟨Go.TypeDesc.bool, 1, 1, Go.Value.bool false⟩),
  (5, ⟨Go.TypeDesc.int Go.IntKind.u8, 1, 1, Go.Value.int Go.IntKind.u8 0⟩),
  (6, ⟨Go.TypeDesc.int Go.IntKind.u8, 1, 1, Go.Value.int Go.IntKind.u8 0⟩),
  (7, ⟨Go.TypeDesc.struct #[{ name := "x", type := 2, offset := 0, embedded := false, tag := "", pkgPath := "runtime", byteOffset := 0 }, { name := "y", type := 3, offset := 1, embedded := false, tag := "", pkgPath := "runtime", byteOffset := 8 }, { name := "signed", type := 4, offset := 2, embedded := false, tag := "", pkgPath := "runtime", byteOffset := 16 }, { name := "code", type := 6, offset := 3, embedded := false, tag := "", pkgPath := "runtime", byteOffset := 17 }], 4, 24, Go.Value.agg #[Go.Value.int Go.IntKind.i64 0, Go.Value.int Go.IntKind.i64 0, Go.Value.bool false, Go.Value.int Go.IntKind.u8 0]⟩),
  (8, ⟨Go.TypeDesc.struct #[{ name := "x", type := 2, offset := 0, embedded := false, tag := "", pkgPath := "runtime", byteOffset := 0 }, { name := "y", type := 3, offset := 1, embedded := false, tag := "", pkgPath := "runtime", byteOffset := 8 }, { name := "signed", type := 4, offset := 2, embedded := false, tag := "", pkgPath := "runtime", byteOffset := 16 }, { name := "code", type := 6, offset := 3, embedded := false, tag := "", pkgPath := "runtime", byteOffset := 17 }], 4, 24, Go.Value.agg #[Go.Value.int Go.IntKind.i64 0, Go.Value.int Go.IntKind.i64 0, Go.Value.bool false, Go.Value.int Go.IntKind.u8 0]⟩),
  (9, ⟨Go.TypeDesc.string, 1, 16, Go.Value.string { data := #[] }⟩),
  (10, ⟨Go.TypeDesc.string, 1, 16, Go.Value.string { data := #[] }⟩),
  (11, ⟨Go.TypeDesc.string, 1, 16, Go.Value.string { data := #[] }⟩),
  (12, ⟨Go.TypeDesc.int Go.IntKind.u64, 1, 8, Go.Value.int Go.IntKind.u64 0⟩),
  (13, ⟨Go.TypeDesc.struct #[{ name := "msg", type := 9, offset := 0, embedded := false, tag := "", pkgPath := "runtime", byteOffset := 0 }, { name := "addr", type := 12, offset := 1, embedded := false, tag := "", pkgPath := "runtime", byteOffset := 16 }], 2, 24, Go.Value.agg #[Go.Value.string { data := #[] }, Go.Value.int Go.IntKind.u64 0]⟩),
  (14, ⟨Go.TypeDesc.struct #[{ name := "msg", type := 9, offset := 0, embedded := false, tag := "", pkgPath := "runtime", byteOffset := 0 }, { name := "addr", type := 12, offset := 1, embedded := false, tag := "", pkgPath := "runtime", byteOffset := 16 }], 2, 24, Go.Value.agg #[Go.Value.string { data := #[] }, Go.Value.int Go.IntKind.u64 0]⟩),
  (15, ⟨Go.TypeDesc.pointer 64, 1, 8, Go.Value.pointer none⟩),
  (16, ⟨Go.TypeDesc.pointer 67, 1, 8, Go.Value.pointer none⟩),
  (17, ⟨Go.TypeDesc.pointer 77, 1, 8, Go.Value.pointer none⟩),
  (18, ⟨Go.TypeDesc.struct #[{ name := "typ", type := 17, offset := 0, embedded := false, tag := "", pkgPath := "internal/runtime/maps", byteOffset := 0 }], 1, 8, Go.Value.agg #[Go.Value.pointer none]⟩),
  (19, ⟨Go.TypeDesc.struct #[{ name := "typ", type := 17, offset := 0, embedded := false, tag := "", pkgPath := "internal/runtime/maps", byteOffset := 0 }], 1, 8, Go.Value.agg #[Go.Value.pointer none]⟩),
  (21, ⟨Go.TypeDesc.int Go.IntKind.i32, 1, 4, Go.Value.int Go.IntKind.i32 0⟩),
  (22, ⟨Go.TypeDesc.func #[] #[4] false, 1, 8, Go.Value.nilFunc⟩),
  (24, ⟨Go.TypeDesc.func #[3] #[5, 4] false, 1, 8, Go.Value.nilFunc⟩),
  (26, ⟨Go.TypeDesc.func #[5] #[3, 4] false, 1, 8, Go.Value.nilFunc⟩),
  (27, ⟨Go.TypeDesc.func #[3, 3, 4] #[3] false, 1, 8, Go.Value.nilFunc⟩),
  (28, ⟨Go.TypeDesc.func #[3, 5, 3, 3, 4] #[4] false, 1, 8, Go.Value.nilFunc⟩),
  (29, ⟨Go.TypeDesc.slice 21, 1, 24, Go.Value.slice none 0 0⟩),
  (31, ⟨Go.TypeDesc.func #[29] #[9, 4] false, 1, 8, Go.Value.nilFunc⟩),
  (32, ⟨Go.TypeDesc.func #[29] #[4] false, 1, 8, Go.Value.nilFunc⟩),
  (34, ⟨Go.TypeDesc.func #[9] #[29, 4] false, 1, 8, Go.Value.nilFunc⟩),
  (35, ⟨Go.TypeDesc.func #[29, 29] #[4] false, 1, 8, Go.Value.nilFunc⟩),
  (36, ⟨Go.TypeDesc.func #[9] #[4] false, 1, 8, Go.Value.nilFunc⟩),
  (37, ⟨Go.TypeDesc.func #[9] #[3] false, 1, 8, Go.Value.nilFunc⟩),
  (38, ⟨Go.TypeDesc.func #[9] #[9] false, 1, 8, Go.Value.nilFunc⟩),
  (39, ⟨Go.TypeDesc.func #[29, 9] #[4] false, 1, 8, Go.Value.nilFunc⟩),
  (41, ⟨Go.TypeDesc.func #[9] #[29, 3] false, 1, 8, Go.Value.nilFunc⟩),
  (42, ⟨Go.TypeDesc.slice 5, 1, 24, Go.Value.slice none 0 0⟩),
  (43, ⟨Go.TypeDesc.func #[21] #[4] false, 1, 8, Go.Value.nilFunc⟩),
  (44, ⟨Go.TypeDesc.func #[29, 21] #[21] false, 1, 8, Go.Value.nilFunc⟩),
  (45, ⟨Go.TypeDesc.func #[42, 3, 3] #[42] false, 1, 8, Go.Value.nilFunc⟩),
  (46, ⟨Go.TypeDesc.func #[3, 3] #[9] false, 1, 8, Go.Value.nilFunc⟩),
  (47, ⟨Go.TypeDesc.func #[9, 5] #[3] false, 1, 8, Go.Value.nilFunc⟩),
  (49, ⟨Go.TypeDesc.func #[9, 3] #[3, 9] false, 1, 8, Go.Value.nilFunc⟩),
  (50, ⟨Go.TypeDesc.func #[29, 3, 29] #[29] true, 1, 8, Go.Value.nilFunc⟩),
  (52, ⟨Go.TypeDesc.func #[9, 3] #[3, 3] false, 1, 8, Go.Value.nilFunc⟩),
  (53, ⟨Go.TypeDesc.func #[42, 54] #[42] false, 1, 8, Go.Value.nilFunc⟩),
  (54, ⟨Go.TypeDesc.func #[5] #[5] false, 1, 8, Go.Value.nilFunc⟩),
  (56, ⟨Go.TypeDesc.func #[5] #[3, 21] false, 1, 8, Go.Value.nilFunc⟩),
  (57, ⟨Go.TypeDesc.int Go.IntKind.u64, 1, 8, Go.Value.int Go.IntKind.u64 0⟩),
  (58, ⟨Go.TypeDesc.func #[21] #[3] false, 1, 8, Go.Value.nilFunc⟩),
  (59, ⟨Go.TypeDesc.func #[3, 3] #[3] false, 1, 8, Go.Value.nilFunc⟩),
  (60, ⟨Go.TypeDesc.func #[29, 3] #[] false, 1, 8, Go.Value.nilFunc⟩),
  (61, ⟨Go.TypeDesc.func #[29] #[] false, 1, 8, Go.Value.nilFunc⟩),
  (62, ⟨Go.TypeDesc.func #[] #[9] false, 1, 8, Go.Value.nilFunc⟩),
  (63, ⟨Go.TypeDesc.struct #[{ name := "_interface", type := 17, offset := 0, embedded := false, tag := "", pkgPath := "runtime", byteOffset := 0 }, { name := "concrete", type := 17, offset := 1, embedded := false, tag := "", pkgPath := "runtime", byteOffset := 8 }, { name := "asserted", type := 17, offset := 2, embedded := false, tag := "", pkgPath := "runtime", byteOffset := 16 }, { name := "missingMethod", type := 9, offset := 3, embedded := false, tag := "", pkgPath := "runtime", byteOffset := 24 }], 4, 40, Go.Value.agg #[Go.Value.pointer none, Go.Value.pointer none, Go.Value.pointer none, Go.Value.string { data := #[] }]⟩),
  (64, ⟨Go.TypeDesc.struct #[{ name := "_interface", type := 17, offset := 0, embedded := false, tag := "", pkgPath := "runtime", byteOffset := 0 }, { name := "concrete", type := 17, offset := 1, embedded := false, tag := "", pkgPath := "runtime", byteOffset := 8 }, { name := "asserted", type := 17, offset := 2, embedded := false, tag := "", pkgPath := "runtime", byteOffset := 16 }, { name := "missingMethod", type := 9, offset := 3, embedded := false, tag := "", pkgPath := "runtime", byteOffset := 24 }], 4, 40, Go.Value.agg #[Go.Value.pointer none, Go.Value.pointer none, Go.Value.pointer none, Go.Value.string { data := #[] }]⟩),
  (65, ⟨Go.TypeDesc.array 0 16, 0, 0, Go.Value.agg #[]⟩),
  (66, ⟨Go.TypeDesc.struct #[{ name := "_", type := 65, offset := 0, embedded := false, tag := "", pkgPath := "runtime", byteOffset := 0 }], 0, 0, Go.Value.agg #[]⟩),
  (67, ⟨Go.TypeDesc.struct #[{ name := "_", type := 65, offset := 0, embedded := false, tag := "", pkgPath := "runtime", byteOffset := 0 }], 0, 0, Go.Value.agg #[]⟩),
  (68, ⟨Go.TypeDesc.func #[] #[3] false, 1, 8, Go.Value.nilFunc⟩),
  (69, ⟨Go.TypeDesc.int Go.IntKind.u32, 1, 4, Go.Value.int Go.IntKind.u32 0⟩),
  (70, ⟨Go.TypeDesc.int Go.IntKind.u8, 1, 1, Go.Value.int Go.IntKind.u8 0⟩),
  (71, ⟨Go.TypeDesc.int Go.IntKind.u8, 1, 1, Go.Value.int Go.IntKind.u8 0⟩),
  (72, ⟨Go.TypeDesc.func #[78, 78] #[4] false, 1, 8, Go.Value.nilFunc⟩),
  (73, ⟨Go.TypeDesc.pointer 5, 1, 8, Go.Value.pointer none⟩),
  (74, ⟨Go.TypeDesc.int Go.IntKind.i32, 1, 4, Go.Value.int Go.IntKind.i32 0⟩),
  (75, ⟨Go.TypeDesc.int Go.IntKind.i32, 1, 4, Go.Value.int Go.IntKind.i32 0⟩),
  (76, ⟨Go.TypeDesc.struct #[{ name := "Size_", type := 12, offset := 0, embedded := false, tag := "", pkgPath := "", byteOffset := 0 }, { name := "PtrBytes", type := 12, offset := 1, embedded := false, tag := "", pkgPath := "", byteOffset := 8 }, { name := "Hash", type := 69, offset := 2, embedded := false, tag := "", pkgPath := "", byteOffset := 16 }, { name := "TFlag", type := 70, offset := 3, embedded := false, tag := "", pkgPath := "", byteOffset := 20 }, { name := "Align_", type := 5, offset := 4, embedded := false, tag := "", pkgPath := "", byteOffset := 21 }, { name := "FieldAlign_", type := 5, offset := 5, embedded := false, tag := "", pkgPath := "", byteOffset := 22 }, { name := "Kind_", type := 71, offset := 6, embedded := false, tag := "", pkgPath := "", byteOffset := 23 }, { name := "Equal", type := 72, offset := 7, embedded := false, tag := "", pkgPath := "", byteOffset := 24 }, { name := "GCData", type := 73, offset := 8, embedded := false, tag := "", pkgPath := "", byteOffset := 32 }, { name := "Str", type := 74, offset := 9, embedded := false, tag := "", pkgPath := "", byteOffset := 40 }, { name := "PtrToThis", type := 75, offset := 10, embedded := false, tag := "", pkgPath := "", byteOffset := 44 }], 11, 48, Go.Value.agg #[Go.Value.int Go.IntKind.u64 0, Go.Value.int Go.IntKind.u64 0, Go.Value.int Go.IntKind.u32 0, Go.Value.int Go.IntKind.u8 0, Go.Value.int Go.IntKind.u8 0, Go.Value.int Go.IntKind.u8 0, Go.Value.int Go.IntKind.u8 0, Go.Value.nilFunc, Go.Value.pointer none, Go.Value.int Go.IntKind.i32 0, Go.Value.int Go.IntKind.i32 0]⟩),
  (77, ⟨Go.TypeDesc.struct #[{ name := "Size_", type := 12, offset := 0, embedded := false, tag := "", pkgPath := "", byteOffset := 0 }, { name := "PtrBytes", type := 12, offset := 1, embedded := false, tag := "", pkgPath := "", byteOffset := 8 }, { name := "Hash", type := 69, offset := 2, embedded := false, tag := "", pkgPath := "", byteOffset := 16 }, { name := "TFlag", type := 70, offset := 3, embedded := false, tag := "", pkgPath := "", byteOffset := 20 }, { name := "Align_", type := 5, offset := 4, embedded := false, tag := "", pkgPath := "", byteOffset := 21 }, { name := "FieldAlign_", type := 5, offset := 5, embedded := false, tag := "", pkgPath := "", byteOffset := 22 }, { name := "Kind_", type := 71, offset := 6, embedded := false, tag := "", pkgPath := "", byteOffset := 23 }, { name := "Equal", type := 72, offset := 7, embedded := false, tag := "", pkgPath := "", byteOffset := 24 }, { name := "GCData", type := 73, offset := 8, embedded := false, tag := "", pkgPath := "", byteOffset := 32 }, { name := "Str", type := 74, offset := 9, embedded := false, tag := "", pkgPath := "", byteOffset := 40 }, { name := "PtrToThis", type := 75, offset := 10, embedded := false, tag := "", pkgPath := "", byteOffset := 44 }], 11, 48, Go.Value.agg #[Go.Value.int Go.IntKind.u64 0, Go.Value.int Go.IntKind.u64 0, Go.Value.int Go.IntKind.u32 0, Go.Value.int Go.IntKind.u8 0, Go.Value.int Go.IntKind.u8 0, Go.Value.int Go.IntKind.u8 0, Go.Value.int Go.IntKind.u8 0, Go.Value.nilFunc, Go.Value.pointer none, Go.Value.int Go.IntKind.i32 0, Go.Value.int Go.IntKind.i32 0]⟩)], flat := [] }
def Good (t : Nat) (i : TI) : Prop := Try.prog.underlying t = some i.d ∧ ∃ j, Try.prog.info? t = some j ∧ j.size = i.size ∧ j.bytes = i.bytes ∧ j.zero = some i.zero ∧ i.zero.cells.size = i.size
theorem ty1 (t : Nat) (d : TypeDesc) (sz b : Nat) (z : Value) (h0 : z.cells.size = sz) (h1 : Try.prog.underlying t = some d) (h2 : (Try.prog.info? t).map (fun j => (j.size, j.bytes, j.zero)) = some (sz, b, some z)) : Good t ⟨d, sz, b, z⟩ := by
  refine ⟨h1, ?_⟩
  cases e : Try.prog.info? t with
  | none => rw [e] at h2; simp at h2
  | some j => rw [e] at h2; simp at h2; exact ⟨j, rfl, h2.1, h2.2.1, h2.2.2, h0⟩
theorem findTy_mem : ∀ (l : List (Nat × TI)) (t : Nat) (i : TI), findTy l t = some i → (t, i) ∈ l
  | [], t, i, h => by simp [findTy] at h
  | (k, x) :: l, t, i, h => by
    simp only [findTy] at h
    split at h
    · rename_i e; subst e; simp at h; subst h; exact List.mem_cons_self ..
    · exact List.mem_cons_of_mem _ (findTy_mem l t i h)
theorem good1 : Good 1 ⟨Go.TypeDesc.func #[] #[] false, 1, 8, Go.Value.nilFunc⟩ := ty1 _ _ _ _ _ rfl (by kernel_rfl) (by kernel_rfl)
theorem good2 : Good 2 ⟨Go.TypeDesc.int Go.IntKind.i64, 1, 8, Go.Value.int Go.IntKind.i64 0⟩ := ty1 _ _ _ _ _ rfl (by kernel_rfl) (by kernel_rfl)
theorem good3 : Good 3 ⟨Go.TypeDesc.int Go.IntKind.i64, 1, 8, Go.Value.int Go.IntKind.i64 0⟩ := ty1 _ _ _ _ _ rfl (by kernel_rfl) (by kernel_rfl)
theorem good4 : Good 4 ⟨Go.TypeDesc.bool, 1, 1, Go.Value.bool false⟩ := ty1 _ _ _ _ _ rfl (by kernel_rfl) (by kernel_rfl)
theorem good5 : Good 5 ⟨Go.TypeDesc.int Go.IntKind.u8, 1, 1, Go.Value.int Go.IntKind.u8 0⟩ := ty1 _ _ _ _ _ rfl (by kernel_rfl) (by kernel_rfl)
theorem good6 : Good 6 ⟨Go.TypeDesc.int Go.IntKind.u8, 1, 1, Go.Value.int Go.IntKind.u8 0⟩ := ty1 _ _ _ _ _ rfl (by kernel_rfl) (by kernel_rfl)
theorem good7 : Good 7 ⟨Go.TypeDesc.struct #[{ name := "x", type := 2, offset := 0, embedded := false, tag := "", pkgPath := "runtime", byteOffset := 0 }, { name := "y", type := 3, offset := 1, embedded := false, tag := "", pkgPath := "runtime", byteOffset := 8 }, { name := "signed", type := 4, offset := 2, embedded := false, tag := "", pkgPath := "runtime", byteOffset := 16 }, { name := "code", type := 6, offset := 3, embedded := false, tag := "", pkgPath := "runtime", byteOffset := 17 }], 4, 24, Go.Value.agg #[Go.Value.int Go.IntKind.i64 0, Go.Value.int Go.IntKind.i64 0, Go.Value.bool false, Go.Value.int Go.IntKind.u8 0]⟩ := ty1 _ _ _ _ _ rfl (by kernel_rfl) (by kernel_rfl)
theorem good8 : Good 8 ⟨Go.TypeDesc.struct #[{ name := "x", type := 2, offset := 0, embedded := false, tag := "", pkgPath := "runtime", byteOffset := 0 }, { name := "y", type := 3, offset := 1, embedded := false, tag := "", pkgPath := "runtime", byteOffset := 8 }, { name := "signed", type := 4, offset := 2, embedded := false, tag := "", pkgPath := "runtime", byteOffset := 16 }, { name := "code", type := 6, offset := 3, embedded := false, tag := "", pkgPath := "runtime", byteOffset := 17 }], 4, 24, Go.Value.agg #[Go.Value.int Go.IntKind.i64 0, Go.Value.int Go.IntKind.i64 0, Go.Value.bool false, Go.Value.int Go.IntKind.u8 0]⟩ := ty1 _ _ _ _ _ rfl (by kernel_rfl) (by kernel_rfl)
theorem good9 : Good 9 ⟨Go.TypeDesc.string, 1, 16, Go.Value.string { data := #[] }⟩ := ty1 _ _ _ _ _ rfl (by kernel_rfl) (by kernel_rfl)
theorem good10 : Good 10 ⟨Go.TypeDesc.string, 1, 16, Go.Value.string { data := #[] }⟩ := ty1 _ _ _ _ _ rfl (by kernel_rfl) (by kernel_rfl)
theorem good11 : Good 11 ⟨Go.TypeDesc.string, 1, 16, Go.Value.string { data := #[] }⟩ := ty1 _ _ _ _ _ rfl (by kernel_rfl) (by kernel_rfl)
theorem good12 : Good 12 ⟨Go.TypeDesc.int Go.IntKind.u64, 1, 8, Go.Value.int Go.IntKind.u64 0⟩ := ty1 _ _ _ _ _ rfl (by kernel_rfl) (by kernel_rfl)
theorem good13 : Good 13 ⟨Go.TypeDesc.struct #[{ name := "msg", type := 9, offset := 0, embedded := false, tag := "", pkgPath := "runtime", byteOffset := 0 }, { name := "addr", type := 12, offset := 1, embedded := false, tag := "", pkgPath := "runtime", byteOffset := 16 }], 2, 24, Go.Value.agg #[Go.Value.string { data := #[] }, Go.Value.int Go.IntKind.u64 0]⟩ := ty1 _ _ _ _ _ rfl (by kernel_rfl) (by kernel_rfl)
theorem good14 : Good 14 ⟨Go.TypeDesc.struct #[{ name := "msg", type := 9, offset := 0, embedded := false, tag := "", pkgPath := "runtime", byteOffset := 0 }, { name := "addr", type := 12, offset := 1, embedded := false, tag := "", pkgPath := "runtime", byteOffset := 16 }], 2, 24, Go.Value.agg #[Go.Value.string { data := #[] }, Go.Value.int Go.IntKind.u64 0]⟩ := ty1 _ _ _ _ _ rfl (by kernel_rfl) (by kernel_rfl)
theorem good15 : Good 15 ⟨Go.TypeDesc.pointer 64, 1, 8, Go.Value.pointer none⟩ := ty1 _ _ _ _ _ rfl (by kernel_rfl) (by kernel_rfl)
theorem good16 : Good 16 ⟨Go.TypeDesc.pointer 67, 1, 8, Go.Value.pointer none⟩ := ty1 _ _ _ _ _ rfl (by kernel_rfl) (by kernel_rfl)
theorem good17 : Good 17 ⟨Go.TypeDesc.pointer 77, 1, 8, Go.Value.pointer none⟩ := ty1 _ _ _ _ _ rfl (by kernel_rfl) (by kernel_rfl)
theorem good18 : Good 18 ⟨Go.TypeDesc.struct #[{ name := "typ", type := 17, offset := 0, embedded := false, tag := "", pkgPath := "internal/runtime/maps", byteOffset := 0 }], 1, 8, Go.Value.agg #[Go.Value.pointer none]⟩ := ty1 _ _ _ _ _ rfl (by kernel_rfl) (by kernel_rfl)
theorem good19 : Good 19 ⟨Go.TypeDesc.struct #[{ name := "typ", type := 17, offset := 0, embedded := false, tag := "", pkgPath := "internal/runtime/maps", byteOffset := 0 }], 1, 8, Go.Value.agg #[Go.Value.pointer none]⟩ := ty1 _ _ _ _ _ rfl (by kernel_rfl) (by kernel_rfl)
theorem good21 : Good 21 ⟨Go.TypeDesc.int Go.IntKind.i32, 1, 4, Go.Value.int Go.IntKind.i32 0⟩ := ty1 _ _ _ _ _ rfl (by kernel_rfl) (by kernel_rfl)
theorem good22 : Good 22 ⟨Go.TypeDesc.func #[] #[4] false, 1, 8, Go.Value.nilFunc⟩ := ty1 _ _ _ _ _ rfl (by kernel_rfl) (by kernel_rfl)
theorem good24 : Good 24 ⟨Go.TypeDesc.func #[3] #[5, 4] false, 1, 8, Go.Value.nilFunc⟩ := ty1 _ _ _ _ _ rfl (by kernel_rfl) (by kernel_rfl)
theorem good26 : Good 26 ⟨Go.TypeDesc.func #[5] #[3, 4] false, 1, 8, Go.Value.nilFunc⟩ := ty1 _ _ _ _ _ rfl (by kernel_rfl) (by kernel_rfl)
theorem good27 : Good 27 ⟨Go.TypeDesc.func #[3, 3, 4] #[3] false, 1, 8, Go.Value.nilFunc⟩ := ty1 _ _ _ _ _ rfl (by kernel_rfl) (by kernel_rfl)
theorem good28 : Good 28 ⟨Go.TypeDesc.func #[3, 5, 3, 3, 4] #[4] false, 1, 8, Go.Value.nilFunc⟩ := ty1 _ _ _ _ _ rfl (by kernel_rfl) (by kernel_rfl)
theorem good29 : Good 29 ⟨Go.TypeDesc.slice 21, 1, 24, Go.Value.slice none 0 0⟩ := ty1 _ _ _ _ _ rfl (by kernel_rfl) (by kernel_rfl)
theorem good31 : Good 31 ⟨Go.TypeDesc.func #[29] #[9, 4] false, 1, 8, Go.Value.nilFunc⟩ := ty1 _ _ _ _ _ rfl (by kernel_rfl) (by kernel_rfl)
theorem good32 : Good 32 ⟨Go.TypeDesc.func #[29] #[4] false, 1, 8, Go.Value.nilFunc⟩ := ty1 _ _ _ _ _ rfl (by kernel_rfl) (by kernel_rfl)
theorem good34 : Good 34 ⟨Go.TypeDesc.func #[9] #[29, 4] false, 1, 8, Go.Value.nilFunc⟩ := ty1 _ _ _ _ _ rfl (by kernel_rfl) (by kernel_rfl)
theorem good35 : Good 35 ⟨Go.TypeDesc.func #[29, 29] #[4] false, 1, 8, Go.Value.nilFunc⟩ := ty1 _ _ _ _ _ rfl (by kernel_rfl) (by kernel_rfl)
theorem good36 : Good 36 ⟨Go.TypeDesc.func #[9] #[4] false, 1, 8, Go.Value.nilFunc⟩ := ty1 _ _ _ _ _ rfl (by kernel_rfl) (by kernel_rfl)
theorem good37 : Good 37 ⟨Go.TypeDesc.func #[9] #[3] false, 1, 8, Go.Value.nilFunc⟩ := ty1 _ _ _ _ _ rfl (by kernel_rfl) (by kernel_rfl)
theorem good38 : Good 38 ⟨Go.TypeDesc.func #[9] #[9] false, 1, 8, Go.Value.nilFunc⟩ := ty1 _ _ _ _ _ rfl (by kernel_rfl) (by kernel_rfl)
theorem good39 : Good 39 ⟨Go.TypeDesc.func #[29, 9] #[4] false, 1, 8, Go.Value.nilFunc⟩ := ty1 _ _ _ _ _ rfl (by kernel_rfl) (by kernel_rfl)
theorem good41 : Good 41 ⟨Go.TypeDesc.func #[9] #[29, 3] false, 1, 8, Go.Value.nilFunc⟩ := ty1 _ _ _ _ _ rfl (by kernel_rfl) (by kernel_rfl)
theorem good42 : Good 42 ⟨Go.TypeDesc.slice 5, 1, 24, Go.Value.slice none 0 0⟩ := ty1 _ _ _ _ _ rfl (by kernel_rfl) (by kernel_rfl)
theorem good43 : Good 43 ⟨Go.TypeDesc.func #[21] #[4] false, 1, 8, Go.Value.nilFunc⟩ := ty1 _ _ _ _ _ rfl (by kernel_rfl) (by kernel_rfl)
theorem good44 : Good 44 ⟨Go.TypeDesc.func #[29, 21] #[21] false, 1, 8, Go.Value.nilFunc⟩ := ty1 _ _ _ _ _ rfl (by kernel_rfl) (by kernel_rfl)
theorem good45 : Good 45 ⟨Go.TypeDesc.func #[42, 3, 3] #[42] false, 1, 8, Go.Value.nilFunc⟩ := ty1 _ _ _ _ _ rfl (by kernel_rfl) (by kernel_rfl)
theorem good46 : Good 46 ⟨Go.TypeDesc.func #[3, 3] #[9] false, 1, 8, Go.Value.nilFunc⟩ := ty1 _ _ _ _ _ rfl (by kernel_rfl) (by kernel_rfl)
theorem good47 : Good 47 ⟨Go.TypeDesc.func #[9, 5] #[3] false, 1, 8, Go.Value.nilFunc⟩ := ty1 _ _ _ _ _ rfl (by kernel_rfl) (by kernel_rfl)
theorem good49 : Good 49 ⟨Go.TypeDesc.func #[9, 3] #[3, 9] false, 1, 8, Go.Value.nilFunc⟩ := ty1 _ _ _ _ _ rfl (by kernel_rfl) (by kernel_rfl)
theorem good50 : Good 50 ⟨Go.TypeDesc.func #[29, 3, 29] #[29] true, 1, 8, Go.Value.nilFunc⟩ := ty1 _ _ _ _ _ rfl (by kernel_rfl) (by kernel_rfl)
theorem good52 : Good 52 ⟨Go.TypeDesc.func #[9, 3] #[3, 3] false, 1, 8, Go.Value.nilFunc⟩ := ty1 _ _ _ _ _ rfl (by kernel_rfl) (by kernel_rfl)
theorem good53 : Good 53 ⟨Go.TypeDesc.func #[42, 54] #[42] false, 1, 8, Go.Value.nilFunc⟩ := ty1 _ _ _ _ _ rfl (by kernel_rfl) (by kernel_rfl)
theorem good54 : Good 54 ⟨Go.TypeDesc.func #[5] #[5] false, 1, 8, Go.Value.nilFunc⟩ := ty1 _ _ _ _ _ rfl (by kernel_rfl) (by kernel_rfl)
theorem good56 : Good 56 ⟨Go.TypeDesc.func #[5] #[3, 21] false, 1, 8, Go.Value.nilFunc⟩ := ty1 _ _ _ _ _ rfl (by kernel_rfl) (by kernel_rfl)
theorem good57 : Good 57 ⟨Go.TypeDesc.int Go.IntKind.u64, 1, 8, Go.Value.int Go.IntKind.u64 0⟩ := ty1 _ _ _ _ _ rfl (by kernel_rfl) (by kernel_rfl)
theorem good58 : Good 58 ⟨Go.TypeDesc.func #[21] #[3] false, 1, 8, Go.Value.nilFunc⟩ := ty1 _ _ _ _ _ rfl (by kernel_rfl) (by kernel_rfl)
theorem good59 : Good 59 ⟨Go.TypeDesc.func #[3, 3] #[3] false, 1, 8, Go.Value.nilFunc⟩ := ty1 _ _ _ _ _ rfl (by kernel_rfl) (by kernel_rfl)
theorem good60 : Good 60 ⟨Go.TypeDesc.func #[29, 3] #[] false, 1, 8, Go.Value.nilFunc⟩ := ty1 _ _ _ _ _ rfl (by kernel_rfl) (by kernel_rfl)
theorem good61 : Good 61 ⟨Go.TypeDesc.func #[29] #[] false, 1, 8, Go.Value.nilFunc⟩ := ty1 _ _ _ _ _ rfl (by kernel_rfl) (by kernel_rfl)
theorem good62 : Good 62 ⟨Go.TypeDesc.func #[] #[9] false, 1, 8, Go.Value.nilFunc⟩ := ty1 _ _ _ _ _ rfl (by kernel_rfl) (by kernel_rfl)
theorem good63 : Good 63 ⟨Go.TypeDesc.struct #[{ name := "_interface", type := 17, offset := 0, embedded := false, tag := "", pkgPath := "runtime", byteOffset := 0 }, { name := "concrete", type := 17, offset := 1, embedded := false, tag := "", pkgPath := "runtime", byteOffset := 8 }, { name := "asserted", type := 17, offset := 2, embedded := false, tag := "", pkgPath := "runtime", byteOffset := 16 }, { name := "missingMethod", type := 9, offset := 3, embedded := false, tag := "", pkgPath := "runtime", byteOffset := 24 }], 4, 40, Go.Value.agg #[Go.Value.pointer none, Go.Value.pointer none, Go.Value.pointer none, Go.Value.string { data := #[] }]⟩ := ty1 _ _ _ _ _ rfl (by kernel_rfl) (by kernel_rfl)
theorem good64 : Good 64 ⟨Go.TypeDesc.struct #[{ name := "_interface", type := 17, offset := 0, embedded := false, tag := "", pkgPath := "runtime", byteOffset := 0 }, { name := "concrete", type := 17, offset := 1, embedded := false, tag := "", pkgPath := "runtime", byteOffset := 8 }, { name := "asserted", type := 17, offset := 2, embedded := false, tag := "", pkgPath := "runtime", byteOffset := 16 }, { name := "missingMethod", type := 9, offset := 3, embedded := false, tag := "", pkgPath := "runtime", byteOffset := 24 }], 4, 40, Go.Value.agg #[Go.Value.pointer none, Go.Value.pointer none, Go.Value.pointer none, Go.Value.string { data := #[] }]⟩ := ty1 _ _ _ _ _ rfl (by kernel_rfl) (by kernel_rfl)
theorem good65 : Good 65 ⟨Go.TypeDesc.array 0 16, 0, 0, Go.Value.agg #[]⟩ := ty1 _ _ _ _ _ rfl (by kernel_rfl) (by kernel_rfl)
theorem good66 : Good 66 ⟨Go.TypeDesc.struct #[{ name := "_", type := 65, offset := 0, embedded := false, tag := "", pkgPath := "runtime", byteOffset := 0 }], 0, 0, Go.Value.agg #[]⟩ := ty1 _ _ _ _ _ rfl (by kernel_rfl) (by kernel_rfl)
theorem good67 : Good 67 ⟨Go.TypeDesc.struct #[{ name := "_", type := 65, offset := 0, embedded := false, tag := "", pkgPath := "runtime", byteOffset := 0 }], 0, 0, Go.Value.agg #[]⟩ := ty1 _ _ _ _ _ rfl (by kernel_rfl) (by kernel_rfl)
theorem good68 : Good 68 ⟨Go.TypeDesc.func #[] #[3] false, 1, 8, Go.Value.nilFunc⟩ := ty1 _ _ _ _ _ rfl (by kernel_rfl) (by kernel_rfl)
theorem good69 : Good 69 ⟨Go.TypeDesc.int Go.IntKind.u32, 1, 4, Go.Value.int Go.IntKind.u32 0⟩ := ty1 _ _ _ _ _ rfl (by kernel_rfl) (by kernel_rfl)
theorem good70 : Good 70 ⟨Go.TypeDesc.int Go.IntKind.u8, 1, 1, Go.Value.int Go.IntKind.u8 0⟩ := ty1 _ _ _ _ _ rfl (by kernel_rfl) (by kernel_rfl)
theorem good71 : Good 71 ⟨Go.TypeDesc.int Go.IntKind.u8, 1, 1, Go.Value.int Go.IntKind.u8 0⟩ := ty1 _ _ _ _ _ rfl (by kernel_rfl) (by kernel_rfl)
theorem good72 : Good 72 ⟨Go.TypeDesc.func #[78, 78] #[4] false, 1, 8, Go.Value.nilFunc⟩ := ty1 _ _ _ _ _ rfl (by kernel_rfl) (by kernel_rfl)
theorem good73 : Good 73 ⟨Go.TypeDesc.pointer 5, 1, 8, Go.Value.pointer none⟩ := ty1 _ _ _ _ _ rfl (by kernel_rfl) (by kernel_rfl)
theorem good74 : Good 74 ⟨Go.TypeDesc.int Go.IntKind.i32, 1, 4, Go.Value.int Go.IntKind.i32 0⟩ := ty1 _ _ _ _ _ rfl (by kernel_rfl) (by kernel_rfl)
theorem good75 : Good 75 ⟨Go.TypeDesc.int Go.IntKind.i32, 1, 4, Go.Value.int Go.IntKind.i32 0⟩ := ty1 _ _ _ _ _ rfl (by kernel_rfl) (by kernel_rfl)
theorem good76 : Good 76 ⟨Go.TypeDesc.struct #[{ name := "Size_", type := 12, offset := 0, embedded := false, tag := "", pkgPath := "", byteOffset := 0 }, { name := "PtrBytes", type := 12, offset := 1, embedded := false, tag := "", pkgPath := "", byteOffset := 8 }, { name := "Hash", type := 69, offset := 2, embedded := false, tag := "", pkgPath := "", byteOffset := 16 }, { name := "TFlag", type := 70, offset := 3, embedded := false, tag := "", pkgPath := "", byteOffset := 20 }, { name := "Align_", type := 5, offset := 4, embedded := false, tag := "", pkgPath := "", byteOffset := 21 }, { name := "FieldAlign_", type := 5, offset := 5, embedded := false, tag := "", pkgPath := "", byteOffset := 22 }, { name := "Kind_", type := 71, offset := 6, embedded := false, tag := "", pkgPath := "", byteOffset := 23 }, { name := "Equal", type := 72, offset := 7, embedded := false, tag := "", pkgPath := "", byteOffset := 24 }, { name := "GCData", type := 73, offset := 8, embedded := false, tag := "", pkgPath := "", byteOffset := 32 }, { name := "Str", type := 74, offset := 9, embedded := false, tag := "", pkgPath := "", byteOffset := 40 }, { name := "PtrToThis", type := 75, offset := 10, embedded := false, tag := "", pkgPath := "", byteOffset := 44 }], 11, 48, Go.Value.agg #[Go.Value.int Go.IntKind.u64 0, Go.Value.int Go.IntKind.u64 0, Go.Value.int Go.IntKind.u32 0, Go.Value.int Go.IntKind.u8 0, Go.Value.int Go.IntKind.u8 0, Go.Value.int Go.IntKind.u8 0, Go.Value.int Go.IntKind.u8 0, Go.Value.nilFunc, Go.Value.pointer none, Go.Value.int Go.IntKind.i32 0, Go.Value.int Go.IntKind.i32 0]⟩ := ty1 _ _ _ _ _ rfl (by kernel_rfl) (by kernel_rfl)
theorem good77 : Good 77 ⟨Go.TypeDesc.struct #[{ name := "Size_", type := 12, offset := 0, embedded := false, tag := "", pkgPath := "", byteOffset := 0 }, { name := "PtrBytes", type := 12, offset := 1, embedded := false, tag := "", pkgPath := "", byteOffset := 8 }, { name := "Hash", type := 69, offset := 2, embedded := false, tag := "", pkgPath := "", byteOffset := 16 }, { name := "TFlag", type := 70, offset := 3, embedded := false, tag := "", pkgPath := "", byteOffset := 20 }, { name := "Align_", type := 5, offset := 4, embedded := false, tag := "", pkgPath := "", byteOffset := 21 }, { name := "FieldAlign_", type := 5, offset := 5, embedded := false, tag := "", pkgPath := "", byteOffset := 22 }, { name := "Kind_", type := 71, offset := 6, embedded := false, tag := "", pkgPath := "", byteOffset := 23 }, { name := "Equal", type := 72, offset := 7, embedded := false, tag := "", pkgPath := "", byteOffset := 24 }, { name := "GCData", type := 73, offset := 8, embedded := false, tag := "", pkgPath := "", byteOffset := 32 }, { name := "Str", type := 74, offset := 9, embedded := false, tag := "", pkgPath := "", byteOffset := 40 }, { name := "PtrToThis", type := 75, offset := 10, embedded := false, tag := "", pkgPath := "", byteOffset := 44 }], 11, 48, Go.Value.agg #[Go.Value.int Go.IntKind.u64 0, Go.Value.int Go.IntKind.u64 0, Go.Value.int Go.IntKind.u32 0, Go.Value.int Go.IntKind.u8 0, Go.Value.int Go.IntKind.u8 0, Go.Value.int Go.IntKind.u8 0, Go.Value.int Go.IntKind.u8 0, Go.Value.nilFunc, Go.Value.pointer none, Go.Value.int Go.IntKind.i32 0, Go.Value.int Go.IntKind.i32 0]⟩ := ty1 _ _ _ _ _ rfl (by kernel_rfl) (by kernel_rfl)
theorem goods : ∀ p ∈ C1.ty, Good p.1 p.2 := (List.forall_mem_cons.2 ⟨good1, (List.forall_mem_cons.2 ⟨good2, (List.forall_mem_cons.2 ⟨good3, (List.forall_mem_cons.2 ⟨good4, (List.forall_mem_cons.2 ⟨good5, (List.forall_mem_cons.2 ⟨good6, (List.forall_mem_cons.2 ⟨good7, (List.forall_mem_cons.2 ⟨good8, (List.forall_mem_cons.2 ⟨good9, (List.forall_mem_cons.2 ⟨good10, (List.forall_mem_cons.2 ⟨good11, (List.forall_mem_cons.2 ⟨good12, (List.forall_mem_cons.2 ⟨good13, (List.forall_mem_cons.2 ⟨good14, (List.forall_mem_cons.2 ⟨good15, (List.forall_mem_cons.2 ⟨good16, (List.forall_mem_cons.2 ⟨good17, (List.forall_mem_cons.2 ⟨good18, (List.forall_mem_cons.2 ⟨good19, (List.forall_mem_cons.2 ⟨good21, (List.forall_mem_cons.2 ⟨good22, (List.forall_mem_cons.2 ⟨good24, (List.forall_mem_cons.2 ⟨good26, (List.forall_mem_cons.2 ⟨good27, (List.forall_mem_cons.2 ⟨good28, (List.forall_mem_cons.2 ⟨good29, (List.forall_mem_cons.2 ⟨good31, (List.forall_mem_cons.2 ⟨good32, (List.forall_mem_cons.2 ⟨good34, (List.forall_mem_cons.2 ⟨good35, (List.forall_mem_cons.2 ⟨good36, (List.forall_mem_cons.2 ⟨good37, (List.forall_mem_cons.2 ⟨good38, (List.forall_mem_cons.2 ⟨good39, (List.forall_mem_cons.2 ⟨good41, (List.forall_mem_cons.2 ⟨good42, (List.forall_mem_cons.2 ⟨good43, (List.forall_mem_cons.2 ⟨good44, (List.forall_mem_cons.2 ⟨good45, (List.forall_mem_cons.2 ⟨good46, (List.forall_mem_cons.2 ⟨good47, (List.forall_mem_cons.2 ⟨good49, (List.forall_mem_cons.2 ⟨good50, (List.forall_mem_cons.2 ⟨good52, (List.forall_mem_cons.2 ⟨good53, (List.forall_mem_cons.2 ⟨good54, (List.forall_mem_cons.2 ⟨good56, (List.forall_mem_cons.2 ⟨good57, (List.forall_mem_cons.2 ⟨good58, (List.forall_mem_cons.2 ⟨good59, (List.forall_mem_cons.2 ⟨good60, (List.forall_mem_cons.2 ⟨good61, (List.forall_mem_cons.2 ⟨good62, (List.forall_mem_cons.2 ⟨good63, (List.forall_mem_cons.2 ⟨good64, (List.forall_mem_cons.2 ⟨good65, (List.forall_mem_cons.2 ⟨good66, (List.forall_mem_cons.2 ⟨good67, (List.forall_mem_cons.2 ⟨good68, (List.forall_mem_cons.2 ⟨good69, (List.forall_mem_cons.2 ⟨good70, (List.forall_mem_cons.2 ⟨good71, (List.forall_mem_cons.2 ⟨good72, (List.forall_mem_cons.2 ⟨good73, (List.forall_mem_cons.2 ⟨good74, (List.forall_mem_cons.2 ⟨good75, (List.forall_mem_cons.2 ⟨good76, (List.forall_mem_cons.2 ⟨good77, (List.forall_mem_nil _)⟩)⟩)⟩)⟩)⟩)⟩)⟩)⟩)⟩)⟩)⟩)⟩)⟩)⟩)⟩)⟩)⟩)⟩)⟩)⟩)⟩)⟩)⟩)⟩)⟩)⟩)⟩)⟩)⟩)⟩)⟩)⟩)⟩)⟩)⟩)⟩)⟩)⟩)⟩)⟩)⟩)⟩)⟩)⟩)⟩)⟩)⟩)⟩)⟩)⟩)⟩)⟩)⟩)⟩)⟩)⟩)⟩)⟩)⟩)⟩)⟩)⟩)⟩)⟩)⟩)⟩)⟩)⟩)
theorem flats : ∀ t ∈ C1.flat, Try.prog.stoodInHeld t = false ∧ Try.prog.eqGuardType Try.prog.depth t = false := (List.forall_mem_nil _)
theorem ok1 : C1.Ok Try.prog where
  mixed := by decide +kernel
  flat := flats
  ty := fun t i h => goods (t, i) (findTy_mem _ _ _ h)
theorem C1_ti1 : C1.ti 1 = some ⟨Go.TypeDesc.func #[] #[] false, 1, 8, Go.Value.nilFunc⟩ := rfl
theorem C1_td1 : C1.td 1 = some (Go.TypeDesc.func #[] #[] false) := rfl
theorem C1_ti2 : C1.ti 2 = some ⟨Go.TypeDesc.int Go.IntKind.i64, 1, 8, Go.Value.int Go.IntKind.i64 0⟩ := rfl
theorem C1_td2 : C1.td 2 = some (Go.TypeDesc.int Go.IntKind.i64) := rfl
theorem C1_ti3 : C1.ti 3 = some ⟨Go.TypeDesc.int Go.IntKind.i64, 1, 8, Go.Value.int Go.IntKind.i64 0⟩ := rfl
theorem C1_td3 : C1.td 3 = some (Go.TypeDesc.int Go.IntKind.i64) := rfl
theorem C1_ti4 : C1.ti 4 = some ⟨Go.TypeDesc.bool, 1, 1, Go.Value.bool false⟩ := rfl
theorem C1_td4 : C1.td 4 = some (Go.TypeDesc.bool) := rfl
theorem C1_ti5 : C1.ti 5 = some ⟨Go.TypeDesc.int Go.IntKind.u8, 1, 1, Go.Value.int Go.IntKind.u8 0⟩ := rfl
theorem C1_td5 : C1.td 5 = some (Go.TypeDesc.int Go.IntKind.u8) := rfl
theorem C1_ti6 : C1.ti 6 = some ⟨Go.TypeDesc.int Go.IntKind.u8, 1, 1, Go.Value.int Go.IntKind.u8 0⟩ := rfl
theorem C1_td6 : C1.td 6 = some (Go.TypeDesc.int Go.IntKind.u8) := rfl
theorem C1_ti7 : C1.ti 7 = some ⟨Go.TypeDesc.struct #[{ name := "x", type := 2, offset := 0, embedded := false, tag := "", pkgPath := "runtime", byteOffset := 0 }, { name := "y", type := 3, offset := 1, embedded := false, tag := "", pkgPath := "runtime", byteOffset := 8 }, { name := "signed", type := 4, offset := 2, embedded := false, tag := "", pkgPath := "runtime", byteOffset := 16 }, { name := "code", type := 6, offset := 3, embedded := false, tag := "", pkgPath := "runtime", byteOffset := 17 }], 4, 24, Go.Value.agg #[Go.Value.int Go.IntKind.i64 0, Go.Value.int Go.IntKind.i64 0, Go.Value.bool false, Go.Value.int Go.IntKind.u8 0]⟩ := rfl
theorem C1_td7 : C1.td 7 = some (Go.TypeDesc.struct #[{ name := "x", type := 2, offset := 0, embedded := false, tag := "", pkgPath := "runtime", byteOffset := 0 }, { name := "y", type := 3, offset := 1, embedded := false, tag := "", pkgPath := "runtime", byteOffset := 8 }, { name := "signed", type := 4, offset := 2, embedded := false, tag := "", pkgPath := "runtime", byteOffset := 16 }, { name := "code", type := 6, offset := 3, embedded := false, tag := "", pkgPath := "runtime", byteOffset := 17 }]) := rfl
theorem C1_fld7_0 : C1.fld 7 0 = some (0, ⟨Go.TypeDesc.int Go.IntKind.i64, 1, 8, Go.Value.int Go.IntKind.i64 0⟩) := rfl
theorem C1_fld7_1 : C1.fld 7 1 = some (1, ⟨Go.TypeDesc.int Go.IntKind.i64, 1, 8, Go.Value.int Go.IntKind.i64 0⟩) := rfl
theorem C1_fld7_2 : C1.fld 7 2 = some (2, ⟨Go.TypeDesc.bool, 1, 1, Go.Value.bool false⟩) := rfl
theorem C1_fld7_3 : C1.fld 7 3 = some (3, ⟨Go.TypeDesc.int Go.IntKind.u8, 1, 1, Go.Value.int Go.IntKind.u8 0⟩) := rfl
theorem C1_ti8 : C1.ti 8 = some ⟨Go.TypeDesc.struct #[{ name := "x", type := 2, offset := 0, embedded := false, tag := "", pkgPath := "runtime", byteOffset := 0 }, { name := "y", type := 3, offset := 1, embedded := false, tag := "", pkgPath := "runtime", byteOffset := 8 }, { name := "signed", type := 4, offset := 2, embedded := false, tag := "", pkgPath := "runtime", byteOffset := 16 }, { name := "code", type := 6, offset := 3, embedded := false, tag := "", pkgPath := "runtime", byteOffset := 17 }], 4, 24, Go.Value.agg #[Go.Value.int Go.IntKind.i64 0, Go.Value.int Go.IntKind.i64 0, Go.Value.bool false, Go.Value.int Go.IntKind.u8 0]⟩ := rfl
theorem C1_td8 : C1.td 8 = some (Go.TypeDesc.struct #[{ name := "x", type := 2, offset := 0, embedded := false, tag := "", pkgPath := "runtime", byteOffset := 0 }, { name := "y", type := 3, offset := 1, embedded := false, tag := "", pkgPath := "runtime", byteOffset := 8 }, { name := "signed", type := 4, offset := 2, embedded := false, tag := "", pkgPath := "runtime", byteOffset := 16 }, { name := "code", type := 6, offset := 3, embedded := false, tag := "", pkgPath := "runtime", byteOffset := 17 }]) := rfl
theorem C1_fld8_0 : C1.fld 8 0 = some (0, ⟨Go.TypeDesc.int Go.IntKind.i64, 1, 8, Go.Value.int Go.IntKind.i64 0⟩) := rfl
theorem C1_fld8_1 : C1.fld 8 1 = some (1, ⟨Go.TypeDesc.int Go.IntKind.i64, 1, 8, Go.Value.int Go.IntKind.i64 0⟩) := rfl
theorem C1_fld8_2 : C1.fld 8 2 = some (2, ⟨Go.TypeDesc.bool, 1, 1, Go.Value.bool false⟩) := rfl
theorem C1_fld8_3 : C1.fld 8 3 = some (3, ⟨Go.TypeDesc.int Go.IntKind.u8, 1, 1, Go.Value.int Go.IntKind.u8 0⟩) := rfl
theorem C1_ti9 : C1.ti 9 = some ⟨Go.TypeDesc.string, 1, 16, Go.Value.string { data := #[] }⟩ := rfl
theorem C1_td9 : C1.td 9 = some (Go.TypeDesc.string) := rfl
theorem C1_ti10 : C1.ti 10 = some ⟨Go.TypeDesc.string, 1, 16, Go.Value.string { data := #[] }⟩ := rfl
theorem C1_td10 : C1.td 10 = some (Go.TypeDesc.string) := rfl
theorem C1_ti11 : C1.ti 11 = some ⟨Go.TypeDesc.string, 1, 16, Go.Value.string { data := #[] }⟩ := rfl
theorem C1_td11 : C1.td 11 = some (Go.TypeDesc.string) := rfl
theorem C1_ti12 : C1.ti 12 = some ⟨Go.TypeDesc.int Go.IntKind.u64, 1, 8, Go.Value.int Go.IntKind.u64 0⟩ := rfl
theorem C1_td12 : C1.td 12 = some (Go.TypeDesc.int Go.IntKind.u64) := rfl
theorem C1_ti13 : C1.ti 13 = some ⟨Go.TypeDesc.struct #[{ name := "msg", type := 9, offset := 0, embedded := false, tag := "", pkgPath := "runtime", byteOffset := 0 }, { name := "addr", type := 12, offset := 1, embedded := false, tag := "", pkgPath := "runtime", byteOffset := 16 }], 2, 24, Go.Value.agg #[Go.Value.string { data := #[] }, Go.Value.int Go.IntKind.u64 0]⟩ := rfl
theorem C1_td13 : C1.td 13 = some (Go.TypeDesc.struct #[{ name := "msg", type := 9, offset := 0, embedded := false, tag := "", pkgPath := "runtime", byteOffset := 0 }, { name := "addr", type := 12, offset := 1, embedded := false, tag := "", pkgPath := "runtime", byteOffset := 16 }]) := rfl
theorem C1_fld13_0 : C1.fld 13 0 = some (0, ⟨Go.TypeDesc.string, 1, 16, Go.Value.string { data := #[] }⟩) := rfl
theorem C1_fld13_1 : C1.fld 13 1 = some (1, ⟨Go.TypeDesc.int Go.IntKind.u64, 1, 8, Go.Value.int Go.IntKind.u64 0⟩) := rfl
theorem C1_ti14 : C1.ti 14 = some ⟨Go.TypeDesc.struct #[{ name := "msg", type := 9, offset := 0, embedded := false, tag := "", pkgPath := "runtime", byteOffset := 0 }, { name := "addr", type := 12, offset := 1, embedded := false, tag := "", pkgPath := "runtime", byteOffset := 16 }], 2, 24, Go.Value.agg #[Go.Value.string { data := #[] }, Go.Value.int Go.IntKind.u64 0]⟩ := rfl
theorem C1_td14 : C1.td 14 = some (Go.TypeDesc.struct #[{ name := "msg", type := 9, offset := 0, embedded := false, tag := "", pkgPath := "runtime", byteOffset := 0 }, { name := "addr", type := 12, offset := 1, embedded := false, tag := "", pkgPath := "runtime", byteOffset := 16 }]) := rfl
theorem C1_fld14_0 : C1.fld 14 0 = some (0, ⟨Go.TypeDesc.string, 1, 16, Go.Value.string { data := #[] }⟩) := rfl
theorem C1_fld14_1 : C1.fld 14 1 = some (1, ⟨Go.TypeDesc.int Go.IntKind.u64, 1, 8, Go.Value.int Go.IntKind.u64 0⟩) := rfl
theorem C1_ti15 : C1.ti 15 = some ⟨Go.TypeDesc.pointer 64, 1, 8, Go.Value.pointer none⟩ := rfl
theorem C1_td15 : C1.td 15 = some (Go.TypeDesc.pointer 64) := rfl
theorem C1_ti16 : C1.ti 16 = some ⟨Go.TypeDesc.pointer 67, 1, 8, Go.Value.pointer none⟩ := rfl
theorem C1_td16 : C1.td 16 = some (Go.TypeDesc.pointer 67) := rfl
theorem C1_ti17 : C1.ti 17 = some ⟨Go.TypeDesc.pointer 77, 1, 8, Go.Value.pointer none⟩ := rfl
theorem C1_td17 : C1.td 17 = some (Go.TypeDesc.pointer 77) := rfl
theorem C1_ti18 : C1.ti 18 = some ⟨Go.TypeDesc.struct #[{ name := "typ", type := 17, offset := 0, embedded := false, tag := "", pkgPath := "internal/runtime/maps", byteOffset := 0 }], 1, 8, Go.Value.agg #[Go.Value.pointer none]⟩ := rfl
theorem C1_td18 : C1.td 18 = some (Go.TypeDesc.struct #[{ name := "typ", type := 17, offset := 0, embedded := false, tag := "", pkgPath := "internal/runtime/maps", byteOffset := 0 }]) := rfl
theorem C1_fld18_0 : C1.fld 18 0 = some (0, ⟨Go.TypeDesc.pointer 77, 1, 8, Go.Value.pointer none⟩) := rfl
theorem C1_ti19 : C1.ti 19 = some ⟨Go.TypeDesc.struct #[{ name := "typ", type := 17, offset := 0, embedded := false, tag := "", pkgPath := "internal/runtime/maps", byteOffset := 0 }], 1, 8, Go.Value.agg #[Go.Value.pointer none]⟩ := rfl
theorem C1_td19 : C1.td 19 = some (Go.TypeDesc.struct #[{ name := "typ", type := 17, offset := 0, embedded := false, tag := "", pkgPath := "internal/runtime/maps", byteOffset := 0 }]) := rfl
theorem C1_fld19_0 : C1.fld 19 0 = some (0, ⟨Go.TypeDesc.pointer 77, 1, 8, Go.Value.pointer none⟩) := rfl
theorem C1_ti21 : C1.ti 21 = some ⟨Go.TypeDesc.int Go.IntKind.i32, 1, 4, Go.Value.int Go.IntKind.i32 0⟩ := rfl
theorem C1_td21 : C1.td 21 = some (Go.TypeDesc.int Go.IntKind.i32) := rfl
theorem C1_ti22 : C1.ti 22 = some ⟨Go.TypeDesc.func #[] #[4] false, 1, 8, Go.Value.nilFunc⟩ := rfl
theorem C1_td22 : C1.td 22 = some (Go.TypeDesc.func #[] #[4] false) := rfl
theorem C1_ti24 : C1.ti 24 = some ⟨Go.TypeDesc.func #[3] #[5, 4] false, 1, 8, Go.Value.nilFunc⟩ := rfl
theorem C1_td24 : C1.td 24 = some (Go.TypeDesc.func #[3] #[5, 4] false) := rfl
theorem C1_ti26 : C1.ti 26 = some ⟨Go.TypeDesc.func #[5] #[3, 4] false, 1, 8, Go.Value.nilFunc⟩ := rfl
theorem C1_td26 : C1.td 26 = some (Go.TypeDesc.func #[5] #[3, 4] false) := rfl
theorem C1_ti27 : C1.ti 27 = some ⟨Go.TypeDesc.func #[3, 3, 4] #[3] false, 1, 8, Go.Value.nilFunc⟩ := rfl
theorem C1_td27 : C1.td 27 = some (Go.TypeDesc.func #[3, 3, 4] #[3] false) := rfl
theorem C1_ti28 : C1.ti 28 = some ⟨Go.TypeDesc.func #[3, 5, 3, 3, 4] #[4] false, 1, 8, Go.Value.nilFunc⟩ := rfl
theorem C1_td28 : C1.td 28 = some (Go.TypeDesc.func #[3, 5, 3, 3, 4] #[4] false) := rfl
theorem C1_ti29 : C1.ti 29 = some ⟨Go.TypeDesc.slice 21, 1, 24, Go.Value.slice none 0 0⟩ := rfl
theorem C1_td29 : C1.td 29 = some (Go.TypeDesc.slice 21) := rfl
theorem C1_ti31 : C1.ti 31 = some ⟨Go.TypeDesc.func #[29] #[9, 4] false, 1, 8, Go.Value.nilFunc⟩ := rfl
theorem C1_td31 : C1.td 31 = some (Go.TypeDesc.func #[29] #[9, 4] false) := rfl
theorem C1_ti32 : C1.ti 32 = some ⟨Go.TypeDesc.func #[29] #[4] false, 1, 8, Go.Value.nilFunc⟩ := rfl
theorem C1_td32 : C1.td 32 = some (Go.TypeDesc.func #[29] #[4] false) := rfl
theorem C1_ti34 : C1.ti 34 = some ⟨Go.TypeDesc.func #[9] #[29, 4] false, 1, 8, Go.Value.nilFunc⟩ := rfl
theorem C1_td34 : C1.td 34 = some (Go.TypeDesc.func #[9] #[29, 4] false) := rfl
theorem C1_ti35 : C1.ti 35 = some ⟨Go.TypeDesc.func #[29, 29] #[4] false, 1, 8, Go.Value.nilFunc⟩ := rfl
theorem C1_td35 : C1.td 35 = some (Go.TypeDesc.func #[29, 29] #[4] false) := rfl
theorem C1_ti36 : C1.ti 36 = some ⟨Go.TypeDesc.func #[9] #[4] false, 1, 8, Go.Value.nilFunc⟩ := rfl
theorem C1_td36 : C1.td 36 = some (Go.TypeDesc.func #[9] #[4] false) := rfl
theorem C1_ti37 : C1.ti 37 = some ⟨Go.TypeDesc.func #[9] #[3] false, 1, 8, Go.Value.nilFunc⟩ := rfl
theorem C1_td37 : C1.td 37 = some (Go.TypeDesc.func #[9] #[3] false) := rfl
theorem C1_ti38 : C1.ti 38 = some ⟨Go.TypeDesc.func #[9] #[9] false, 1, 8, Go.Value.nilFunc⟩ := rfl
theorem C1_td38 : C1.td 38 = some (Go.TypeDesc.func #[9] #[9] false) := rfl
theorem C1_ti39 : C1.ti 39 = some ⟨Go.TypeDesc.func #[29, 9] #[4] false, 1, 8, Go.Value.nilFunc⟩ := rfl
theorem C1_td39 : C1.td 39 = some (Go.TypeDesc.func #[29, 9] #[4] false) := rfl
theorem C1_ti41 : C1.ti 41 = some ⟨Go.TypeDesc.func #[9] #[29, 3] false, 1, 8, Go.Value.nilFunc⟩ := rfl
theorem C1_td41 : C1.td 41 = some (Go.TypeDesc.func #[9] #[29, 3] false) := rfl
theorem C1_ti42 : C1.ti 42 = some ⟨Go.TypeDesc.slice 5, 1, 24, Go.Value.slice none 0 0⟩ := rfl
theorem C1_td42 : C1.td 42 = some (Go.TypeDesc.slice 5) := rfl
theorem C1_ti43 : C1.ti 43 = some ⟨Go.TypeDesc.func #[21] #[4] false, 1, 8, Go.Value.nilFunc⟩ := rfl
theorem C1_td43 : C1.td 43 = some (Go.TypeDesc.func #[21] #[4] false) := rfl
theorem C1_ti44 : C1.ti 44 = some ⟨Go.TypeDesc.func #[29, 21] #[21] false, 1, 8, Go.Value.nilFunc⟩ := rfl
theorem C1_td44 : C1.td 44 = some (Go.TypeDesc.func #[29, 21] #[21] false) := rfl
theorem C1_ti45 : C1.ti 45 = some ⟨Go.TypeDesc.func #[42, 3, 3] #[42] false, 1, 8, Go.Value.nilFunc⟩ := rfl
theorem C1_td45 : C1.td 45 = some (Go.TypeDesc.func #[42, 3, 3] #[42] false) := rfl
theorem C1_ti46 : C1.ti 46 = some ⟨Go.TypeDesc.func #[3, 3] #[9] false, 1, 8, Go.Value.nilFunc⟩ := rfl
theorem C1_td46 : C1.td 46 = some (Go.TypeDesc.func #[3, 3] #[9] false) := rfl
theorem C1_ti47 : C1.ti 47 = some ⟨Go.TypeDesc.func #[9, 5] #[3] false, 1, 8, Go.Value.nilFunc⟩ := rfl
theorem C1_td47 : C1.td 47 = some (Go.TypeDesc.func #[9, 5] #[3] false) := rfl
theorem C1_ti49 : C1.ti 49 = some ⟨Go.TypeDesc.func #[9, 3] #[3, 9] false, 1, 8, Go.Value.nilFunc⟩ := rfl
theorem C1_td49 : C1.td 49 = some (Go.TypeDesc.func #[9, 3] #[3, 9] false) := rfl
theorem C1_ti50 : C1.ti 50 = some ⟨Go.TypeDesc.func #[29, 3, 29] #[29] true, 1, 8, Go.Value.nilFunc⟩ := rfl
theorem C1_td50 : C1.td 50 = some (Go.TypeDesc.func #[29, 3, 29] #[29] true) := rfl
theorem C1_ti52 : C1.ti 52 = some ⟨Go.TypeDesc.func #[9, 3] #[3, 3] false, 1, 8, Go.Value.nilFunc⟩ := rfl
theorem C1_td52 : C1.td 52 = some (Go.TypeDesc.func #[9, 3] #[3, 3] false) := rfl
theorem C1_ti53 : C1.ti 53 = some ⟨Go.TypeDesc.func #[42, 54] #[42] false, 1, 8, Go.Value.nilFunc⟩ := rfl
theorem C1_td53 : C1.td 53 = some (Go.TypeDesc.func #[42, 54] #[42] false) := rfl
theorem C1_ti54 : C1.ti 54 = some ⟨Go.TypeDesc.func #[5] #[5] false, 1, 8, Go.Value.nilFunc⟩ := rfl
theorem C1_td54 : C1.td 54 = some (Go.TypeDesc.func #[5] #[5] false) := rfl
theorem C1_ti56 : C1.ti 56 = some ⟨Go.TypeDesc.func #[5] #[3, 21] false, 1, 8, Go.Value.nilFunc⟩ := rfl
theorem C1_td56 : C1.td 56 = some (Go.TypeDesc.func #[5] #[3, 21] false) := rfl
theorem C1_ti57 : C1.ti 57 = some ⟨Go.TypeDesc.int Go.IntKind.u64, 1, 8, Go.Value.int Go.IntKind.u64 0⟩ := rfl
theorem C1_td57 : C1.td 57 = some (Go.TypeDesc.int Go.IntKind.u64) := rfl
theorem C1_ti58 : C1.ti 58 = some ⟨Go.TypeDesc.func #[21] #[3] false, 1, 8, Go.Value.nilFunc⟩ := rfl
theorem C1_td58 : C1.td 58 = some (Go.TypeDesc.func #[21] #[3] false) := rfl
theorem C1_ti59 : C1.ti 59 = some ⟨Go.TypeDesc.func #[3, 3] #[3] false, 1, 8, Go.Value.nilFunc⟩ := rfl
theorem C1_td59 : C1.td 59 = some (Go.TypeDesc.func #[3, 3] #[3] false) := rfl
theorem C1_ti60 : C1.ti 60 = some ⟨Go.TypeDesc.func #[29, 3] #[] false, 1, 8, Go.Value.nilFunc⟩ := rfl
theorem C1_td60 : C1.td 60 = some (Go.TypeDesc.func #[29, 3] #[] false) := rfl
theorem C1_ti61 : C1.ti 61 = some ⟨Go.TypeDesc.func #[29] #[] false, 1, 8, Go.Value.nilFunc⟩ := rfl
theorem C1_td61 : C1.td 61 = some (Go.TypeDesc.func #[29] #[] false) := rfl
theorem C1_ti62 : C1.ti 62 = some ⟨Go.TypeDesc.func #[] #[9] false, 1, 8, Go.Value.nilFunc⟩ := rfl
theorem C1_td62 : C1.td 62 = some (Go.TypeDesc.func #[] #[9] false) := rfl
theorem C1_ti63 : C1.ti 63 = some ⟨Go.TypeDesc.struct #[{ name := "_interface", type := 17, offset := 0, embedded := false, tag := "", pkgPath := "runtime", byteOffset := 0 }, { name := "concrete", type := 17, offset := 1, embedded := false, tag := "", pkgPath := "runtime", byteOffset := 8 }, { name := "asserted", type := 17, offset := 2, embedded := false, tag := "", pkgPath := "runtime", byteOffset := 16 }, { name := "missingMethod", type := 9, offset := 3, embedded := false, tag := "", pkgPath := "runtime", byteOffset := 24 }], 4, 40, Go.Value.agg #[Go.Value.pointer none, Go.Value.pointer none, Go.Value.pointer none, Go.Value.string { data := #[] }]⟩ := rfl
theorem C1_td63 : C1.td 63 = some (Go.TypeDesc.struct #[{ name := "_interface", type := 17, offset := 0, embedded := false, tag := "", pkgPath := "runtime", byteOffset := 0 }, { name := "concrete", type := 17, offset := 1, embedded := false, tag := "", pkgPath := "runtime", byteOffset := 8 }, { name := "asserted", type := 17, offset := 2, embedded := false, tag := "", pkgPath := "runtime", byteOffset := 16 }, { name := "missingMethod", type := 9, offset := 3, embedded := false, tag := "", pkgPath := "runtime", byteOffset := 24 }]) := rfl
theorem C1_fld63_0 : C1.fld 63 0 = some (0, ⟨Go.TypeDesc.pointer 77, 1, 8, Go.Value.pointer none⟩) := rfl
theorem C1_fld63_1 : C1.fld 63 1 = some (1, ⟨Go.TypeDesc.pointer 77, 1, 8, Go.Value.pointer none⟩) := rfl
theorem C1_fld63_2 : C1.fld 63 2 = some (2, ⟨Go.TypeDesc.pointer 77, 1, 8, Go.Value.pointer none⟩) := rfl
theorem C1_fld63_3 : C1.fld 63 3 = some (3, ⟨Go.TypeDesc.string, 1, 16, Go.Value.string { data := #[] }⟩) := rfl
theorem C1_ti64 : C1.ti 64 = some ⟨Go.TypeDesc.struct #[{ name := "_interface", type := 17, offset := 0, embedded := false, tag := "", pkgPath := "runtime", byteOffset := 0 }, { name := "concrete", type := 17, offset := 1, embedded := false, tag := "", pkgPath := "runtime", byteOffset := 8 }, { name := "asserted", type := 17, offset := 2, embedded := false, tag := "", pkgPath := "runtime", byteOffset := 16 }, { name := "missingMethod", type := 9, offset := 3, embedded := false, tag := "", pkgPath := "runtime", byteOffset := 24 }], 4, 40, Go.Value.agg #[Go.Value.pointer none, Go.Value.pointer none, Go.Value.pointer none, Go.Value.string { data := #[] }]⟩ := rfl
theorem C1_td64 : C1.td 64 = some (Go.TypeDesc.struct #[{ name := "_interface", type := 17, offset := 0, embedded := false, tag := "", pkgPath := "runtime", byteOffset := 0 }, { name := "concrete", type := 17, offset := 1, embedded := false, tag := "", pkgPath := "runtime", byteOffset := 8 }, { name := "asserted", type := 17, offset := 2, embedded := false, tag := "", pkgPath := "runtime", byteOffset := 16 }, { name := "missingMethod", type := 9, offset := 3, embedded := false, tag := "", pkgPath := "runtime", byteOffset := 24 }]) := rfl
theorem C1_fld64_0 : C1.fld 64 0 = some (0, ⟨Go.TypeDesc.pointer 77, 1, 8, Go.Value.pointer none⟩) := rfl
theorem C1_fld64_1 : C1.fld 64 1 = some (1, ⟨Go.TypeDesc.pointer 77, 1, 8, Go.Value.pointer none⟩) := rfl
theorem C1_fld64_2 : C1.fld 64 2 = some (2, ⟨Go.TypeDesc.pointer 77, 1, 8, Go.Value.pointer none⟩) := rfl
theorem C1_fld64_3 : C1.fld 64 3 = some (3, ⟨Go.TypeDesc.string, 1, 16, Go.Value.string { data := #[] }⟩) := rfl
theorem C1_ti65 : C1.ti 65 = some ⟨Go.TypeDesc.array 0 16, 0, 0, Go.Value.agg #[]⟩ := rfl
theorem C1_td65 : C1.td 65 = some (Go.TypeDesc.array 0 16) := rfl
theorem C1_ti66 : C1.ti 66 = some ⟨Go.TypeDesc.struct #[{ name := "_", type := 65, offset := 0, embedded := false, tag := "", pkgPath := "runtime", byteOffset := 0 }], 0, 0, Go.Value.agg #[]⟩ := rfl
theorem C1_td66 : C1.td 66 = some (Go.TypeDesc.struct #[{ name := "_", type := 65, offset := 0, embedded := false, tag := "", pkgPath := "runtime", byteOffset := 0 }]) := rfl
theorem C1_fld66_0 : C1.fld 66 0 = some (0, ⟨Go.TypeDesc.array 0 16, 0, 0, Go.Value.agg #[]⟩) := rfl
theorem C1_ti67 : C1.ti 67 = some ⟨Go.TypeDesc.struct #[{ name := "_", type := 65, offset := 0, embedded := false, tag := "", pkgPath := "runtime", byteOffset := 0 }], 0, 0, Go.Value.agg #[]⟩ := rfl
theorem C1_td67 : C1.td 67 = some (Go.TypeDesc.struct #[{ name := "_", type := 65, offset := 0, embedded := false, tag := "", pkgPath := "runtime", byteOffset := 0 }]) := rfl
theorem C1_fld67_0 : C1.fld 67 0 = some (0, ⟨Go.TypeDesc.array 0 16, 0, 0, Go.Value.agg #[]⟩) := rfl
theorem C1_ti68 : C1.ti 68 = some ⟨Go.TypeDesc.func #[] #[3] false, 1, 8, Go.Value.nilFunc⟩ := rfl
theorem C1_td68 : C1.td 68 = some (Go.TypeDesc.func #[] #[3] false) := rfl
theorem C1_ti69 : C1.ti 69 = some ⟨Go.TypeDesc.int Go.IntKind.u32, 1, 4, Go.Value.int Go.IntKind.u32 0⟩ := rfl
theorem C1_td69 : C1.td 69 = some (Go.TypeDesc.int Go.IntKind.u32) := rfl
theorem C1_ti70 : C1.ti 70 = some ⟨Go.TypeDesc.int Go.IntKind.u8, 1, 1, Go.Value.int Go.IntKind.u8 0⟩ := rfl
theorem C1_td70 : C1.td 70 = some (Go.TypeDesc.int Go.IntKind.u8) := rfl
theorem C1_ti71 : C1.ti 71 = some ⟨Go.TypeDesc.int Go.IntKind.u8, 1, 1, Go.Value.int Go.IntKind.u8 0⟩ := rfl
theorem C1_td71 : C1.td 71 = some (Go.TypeDesc.int Go.IntKind.u8) := rfl
theorem C1_ti72 : C1.ti 72 = some ⟨Go.TypeDesc.func #[78, 78] #[4] false, 1, 8, Go.Value.nilFunc⟩ := rfl
theorem C1_td72 : C1.td 72 = some (Go.TypeDesc.func #[78, 78] #[4] false) := rfl
theorem C1_ti73 : C1.ti 73 = some ⟨Go.TypeDesc.pointer 5, 1, 8, Go.Value.pointer none⟩ := rfl
theorem C1_td73 : C1.td 73 = some (Go.TypeDesc.pointer 5) := rfl
theorem C1_ti74 : C1.ti 74 = some ⟨Go.TypeDesc.int Go.IntKind.i32, 1, 4, Go.Value.int Go.IntKind.i32 0⟩ := rfl
theorem C1_td74 : C1.td 74 = some (Go.TypeDesc.int Go.IntKind.i32) := rfl
theorem C1_ti75 : C1.ti 75 = some ⟨Go.TypeDesc.int Go.IntKind.i32, 1, 4, Go.Value.int Go.IntKind.i32 0⟩ := rfl
theorem C1_td75 : C1.td 75 = some (Go.TypeDesc.int Go.IntKind.i32) := rfl
theorem C1_ti76 : C1.ti 76 = some ⟨Go.TypeDesc.struct #[{ name := "Size_", type := 12, offset := 0, embedded := false, tag := "", pkgPath := "", byteOffset := 0 }, { name := "PtrBytes", type := 12, offset := 1, embedded := false, tag := "", pkgPath := "", byteOffset := 8 }, { name := "Hash", type := 69, offset := 2, embedded := false, tag := "", pkgPath := "", byteOffset := 16 }, { name := "TFlag", type := 70, offset := 3, embedded := false, tag := "", pkgPath := "", byteOffset := 20 }, { name := "Align_", type := 5, offset := 4, embedded := false, tag := "", pkgPath := "", byteOffset := 21 }, { name := "FieldAlign_", type := 5, offset := 5, embedded := false, tag := "", pkgPath := "", byteOffset := 22 }, { name := "Kind_", type := 71, offset := 6, embedded := false, tag := "", pkgPath := "", byteOffset := 23 }, { name := "Equal", type := 72, offset := 7, embedded := false, tag := "", pkgPath := "", byteOffset := 24 }, { name := "GCData", type := 73, offset := 8, embedded := false, tag := "", pkgPath := "", byteOffset := 32 }, { name := "Str", type := 74, offset := 9, embedded := false, tag := "", pkgPath := "", byteOffset := 40 }, { name := "PtrToThis", type := 75, offset := 10, embedded := false, tag := "", pkgPath := "", byteOffset := 44 }], 11, 48, Go.Value.agg #[Go.Value.int Go.IntKind.u64 0, Go.Value.int Go.IntKind.u64 0, Go.Value.int Go.IntKind.u32 0, Go.Value.int Go.IntKind.u8 0, Go.Value.int Go.IntKind.u8 0, Go.Value.int Go.IntKind.u8 0, Go.Value.int Go.IntKind.u8 0, Go.Value.nilFunc, Go.Value.pointer none, Go.Value.int Go.IntKind.i32 0, Go.Value.int Go.IntKind.i32 0]⟩ := rfl
theorem C1_td76 : C1.td 76 = some (Go.TypeDesc.struct #[{ name := "Size_", type := 12, offset := 0, embedded := false, tag := "", pkgPath := "", byteOffset := 0 }, { name := "PtrBytes", type := 12, offset := 1, embedded := false, tag := "", pkgPath := "", byteOffset := 8 }, { name := "Hash", type := 69, offset := 2, embedded := false, tag := "", pkgPath := "", byteOffset := 16 }, { name := "TFlag", type := 70, offset := 3, embedded := false, tag := "", pkgPath := "", byteOffset := 20 }, { name := "Align_", type := 5, offset := 4, embedded := false, tag := "", pkgPath := "", byteOffset := 21 }, { name := "FieldAlign_", type := 5, offset := 5, embedded := false, tag := "", pkgPath := "", byteOffset := 22 }, { name := "Kind_", type := 71, offset := 6, embedded := false, tag := "", pkgPath := "", byteOffset := 23 }, { name := "Equal", type := 72, offset := 7, embedded := false, tag := "", pkgPath := "", byteOffset := 24 }, { name := "GCData", type := 73, offset := 8, embedded := false, tag := "", pkgPath := "", byteOffset := 32 }, { name := "Str", type := 74, offset := 9, embedded := false, tag := "", pkgPath := "", byteOffset := 40 }, { name := "PtrToThis", type := 75, offset := 10, embedded := false, tag := "", pkgPath := "", byteOffset := 44 }]) := rfl
theorem C1_fld76_0 : C1.fld 76 0 = some (0, ⟨Go.TypeDesc.int Go.IntKind.u64, 1, 8, Go.Value.int Go.IntKind.u64 0⟩) := rfl
theorem C1_fld76_1 : C1.fld 76 1 = some (1, ⟨Go.TypeDesc.int Go.IntKind.u64, 1, 8, Go.Value.int Go.IntKind.u64 0⟩) := rfl
theorem C1_fld76_2 : C1.fld 76 2 = some (2, ⟨Go.TypeDesc.int Go.IntKind.u32, 1, 4, Go.Value.int Go.IntKind.u32 0⟩) := rfl
theorem C1_fld76_3 : C1.fld 76 3 = some (3, ⟨Go.TypeDesc.int Go.IntKind.u8, 1, 1, Go.Value.int Go.IntKind.u8 0⟩) := rfl
theorem C1_fld76_4 : C1.fld 76 4 = some (4, ⟨Go.TypeDesc.int Go.IntKind.u8, 1, 1, Go.Value.int Go.IntKind.u8 0⟩) := rfl
theorem C1_fld76_5 : C1.fld 76 5 = some (5, ⟨Go.TypeDesc.int Go.IntKind.u8, 1, 1, Go.Value.int Go.IntKind.u8 0⟩) := rfl
theorem C1_fld76_6 : C1.fld 76 6 = some (6, ⟨Go.TypeDesc.int Go.IntKind.u8, 1, 1, Go.Value.int Go.IntKind.u8 0⟩) := rfl
theorem C1_fld76_7 : C1.fld 76 7 = some (7, ⟨Go.TypeDesc.func #[78, 78] #[4] false, 1, 8, Go.Value.nilFunc⟩) := rfl
theorem C1_fld76_8 : C1.fld 76 8 = some (8, ⟨Go.TypeDesc.pointer 5, 1, 8, Go.Value.pointer none⟩) := rfl
theorem C1_fld76_9 : C1.fld 76 9 = some (9, ⟨Go.TypeDesc.int Go.IntKind.i32, 1, 4, Go.Value.int Go.IntKind.i32 0⟩) := rfl
theorem C1_fld76_10 : C1.fld 76 10 = some (10, ⟨Go.TypeDesc.int Go.IntKind.i32, 1, 4, Go.Value.int Go.IntKind.i32 0⟩) := rfl
theorem C1_ti77 : C1.ti 77 = some ⟨Go.TypeDesc.struct #[{ name := "Size_", type := 12, offset := 0, embedded := false, tag := "", pkgPath := "", byteOffset := 0 }, { name := "PtrBytes", type := 12, offset := 1, embedded := false, tag := "", pkgPath := "", byteOffset := 8 }, { name := "Hash", type := 69, offset := 2, embedded := false, tag := "", pkgPath := "", byteOffset := 16 }, { name := "TFlag", type := 70, offset := 3, embedded := false, tag := "", pkgPath := "", byteOffset := 20 }, { name := "Align_", type := 5, offset := 4, embedded := false, tag := "", pkgPath := "", byteOffset := 21 }, { name := "FieldAlign_", type := 5, offset := 5, embedded := false, tag := "", pkgPath := "", byteOffset := 22 }, { name := "Kind_", type := 71, offset := 6, embedded := false, tag := "", pkgPath := "", byteOffset := 23 }, { name := "Equal", type := 72, offset := 7, embedded := false, tag := "", pkgPath := "", byteOffset := 24 }, { name := "GCData", type := 73, offset := 8, embedded := false, tag := "", pkgPath := "", byteOffset := 32 }, { name := "Str", type := 74, offset := 9, embedded := false, tag := "", pkgPath := "", byteOffset := 40 }, { name := "PtrToThis", type := 75, offset := 10, embedded := false, tag := "", pkgPath := "", byteOffset := 44 }], 11, 48, Go.Value.agg #[Go.Value.int Go.IntKind.u64 0, Go.Value.int Go.IntKind.u64 0, Go.Value.int Go.IntKind.u32 0, Go.Value.int Go.IntKind.u8 0, Go.Value.int Go.IntKind.u8 0, Go.Value.int Go.IntKind.u8 0, Go.Value.int Go.IntKind.u8 0, Go.Value.nilFunc, Go.Value.pointer none, Go.Value.int Go.IntKind.i32 0, Go.Value.int Go.IntKind.i32 0]⟩ := rfl
theorem C1_td77 : C1.td 77 = some (Go.TypeDesc.struct #[{ name := "Size_", type := 12, offset := 0, embedded := false, tag := "", pkgPath := "", byteOffset := 0 }, { name := "PtrBytes", type := 12, offset := 1, embedded := false, tag := "", pkgPath := "", byteOffset := 8 }, { name := "Hash", type := 69, offset := 2, embedded := false, tag := "", pkgPath := "", byteOffset := 16 }, { name := "TFlag", type := 70, offset := 3, embedded := false, tag := "", pkgPath := "", byteOffset := 20 }, { name := "Align_", type := 5, offset := 4, embedded := false, tag := "", pkgPath := "", byteOffset := 21 }, { name := "FieldAlign_", type := 5, offset := 5, embedded := false, tag := "", pkgPath := "", byteOffset := 22 }, { name := "Kind_", type := 71, offset := 6, embedded := false, tag := "", pkgPath := "", byteOffset := 23 }, { name := "Equal", type := 72, offset := 7, embedded := false, tag := "", pkgPath := "", byteOffset := 24 }, { name := "GCData", type := 73, offset := 8, embedded := false, tag := "", pkgPath := "", byteOffset := 32 }, { name := "Str", type := 74, offset := 9, embedded := false, tag := "", pkgPath := "", byteOffset := 40 }, { name := "PtrToThis", type := 75, offset := 10, embedded := false, tag := "", pkgPath := "", byteOffset := 44 }]) := rfl
theorem C1_fld77_0 : C1.fld 77 0 = some (0, ⟨Go.TypeDesc.int Go.IntKind.u64, 1, 8, Go.Value.int Go.IntKind.u64 0⟩) := rfl
theorem C1_fld77_1 : C1.fld 77 1 = some (1, ⟨Go.TypeDesc.int Go.IntKind.u64, 1, 8, Go.Value.int Go.IntKind.u64 0⟩) := rfl
theorem C1_fld77_2 : C1.fld 77 2 = some (2, ⟨Go.TypeDesc.int Go.IntKind.u32, 1, 4, Go.Value.int Go.IntKind.u32 0⟩) := rfl
theorem C1_fld77_3 : C1.fld 77 3 = some (3, ⟨Go.TypeDesc.int Go.IntKind.u8, 1, 1, Go.Value.int Go.IntKind.u8 0⟩) := rfl
theorem C1_fld77_4 : C1.fld 77 4 = some (4, ⟨Go.TypeDesc.int Go.IntKind.u8, 1, 1, Go.Value.int Go.IntKind.u8 0⟩) := rfl
theorem C1_fld77_5 : C1.fld 77 5 = some (5, ⟨Go.TypeDesc.int Go.IntKind.u8, 1, 1, Go.Value.int Go.IntKind.u8 0⟩) := rfl
theorem C1_fld77_6 : C1.fld 77 6 = some (6, ⟨Go.TypeDesc.int Go.IntKind.u8, 1, 1, Go.Value.int Go.IntKind.u8 0⟩) := rfl
theorem C1_fld77_7 : C1.fld 77 7 = some (7, ⟨Go.TypeDesc.func #[78, 78] #[4] false, 1, 8, Go.Value.nilFunc⟩) := rfl
theorem C1_fld77_8 : C1.fld 77 8 = some (8, ⟨Go.TypeDesc.pointer 5, 1, 8, Go.Value.pointer none⟩) := rfl
theorem C1_fld77_9 : C1.fld 77 9 = some (9, ⟨Go.TypeDesc.int Go.IntKind.i32, 1, 4, Go.Value.int Go.IntKind.i32 0⟩) := rfl
theorem C1_fld77_10 : C1.fld 77 10 = some (10, ⟨Go.TypeDesc.int Go.IntKind.i32, 1, 4, Go.Value.int Go.IntKind.i32 0⟩) := rfl
theorem C1_fit2 (a : Int) : fitsK C1 2 (.int .i64 a) = true := rfl
theorem C1_fit3 (a : Int) : fitsK C1 3 (.int .i64 a) = true := rfl
theorem C1_fit4 (a : Bool) : fitsK C1 4 (.bool a) = true := rfl
theorem C1_fit5 (a : Int) : fitsK C1 5 (.int .u8 a) = true := rfl
theorem C1_fit6 (a : Int) : fitsK C1 6 (.int .u8 a) = true := rfl
theorem C1_fit9 (a : ByteArray) : fitsK C1 9 (.string a) = true := rfl
theorem C1_fit10 (a : ByteArray) : fitsK C1 10 (.string a) = true := rfl
theorem C1_fit11 (a : ByteArray) : fitsK C1 11 (.string a) = true := rfl
theorem C1_fit12 (a : Int) : fitsK C1 12 (.int .u64 a) = true := rfl
theorem C1_fit21 (a : Int) : fitsK C1 21 (.int .i32 a) = true := rfl
theorem C1_fit57 (a : Int) : fitsK C1 57 (.int .u64 a) = true := rfl
theorem C1_fit69 (a : Int) : fitsK C1 69 (.int .u32 a) = true := rfl
theorem C1_fit70 (a : Int) : fitsK C1 70 (.int .u8 a) = true := rfl
theorem C1_fit71 (a : Int) : fitsK C1 71 (.int .u8 a) = true := rfl
theorem C1_fit74 (a : Int) : fitsK C1 74 (.int .i32 a) = true := rfl
theorem C1_fit75 (a : Int) : fitsK C1 75 (.int .i32 a) = true := rfl
end Go.AE
end
section
/- Characters and their bytes: plain laws and contracts. -/
namespace Go.AE
open Go.Proofs
set_option maxRecDepth 10000
set_option linter.unusedSimpArgs false
def right (r : Int) : Bool := decide (0 ≤ r) && decide (r ≤ 1114111) && !(decide (55296 ≤ r) && decide (r ≤ 57343))
def rlen (r : Int) : Int := if right r then (if r ≤ 127 then 1 else if r ≤ 2047 then 2 else if r ≤ 65535 then 3 else 4) else 0

theorem right_spec (r : Int) : Spec Try.prog 24 [I32 r] (Bv (right r)) := by
  refine spec_mk (z := false) (ts := [.tmp 2]) ok1 Try.func24 rfl rfl (by decide +kernel) (by simp [Try.ntmps24]) rfl ?_
  repeat' first | simp (maxSteps := 4000000) (disch := omega) only [base, baseX, Option.getD_some, ↓WG_true, ↓WG_false, labelOf, findLabel, Option.isSome_some, Option.isSome_none, dstOf, get, put, putD, List.getElem?_cons_zero, List.getElem?_cons_succ, Option.bind_some, Nat.reduceEqDiff, ↓reduceIte, importS, imp, imps, shift, shifts, List.map_nil, List.map_cons, List.nil_append, List.append_nil, List.cons_append, List.length_nil, List.length_cons, true_and, and_true, TI.agg, Option.map_some, Option.map_none, pushS, obj, setOb, killT, killM, killO, cond_true, cond_false, beq_self_eq_true, Nat.reduceBEq, killCs, hasId, hasIds, List.drop_zero, List.take_succ_cons, List.take_zero, List.take_nil, List.drop_succ_cons, Nat.mul_one, Nat.one_mul, Nat.add_zero, Nat.zero_add, Nat.zero_mul, Int.toNat_natCast, Int.toNat_zero, Int.toNat_one, List.length_map, List.length_drop, List.length_append, Nat.reduceAdd, Nat.reduceMul, Nat.reduceSub, Nat.reduceLeDiff, Nat.lt_add_one, Nat.zero_lt_succ, Nat.succ_pos, decide_true, decide_false, Bool.and_true, Bool.true_and, Bool.and_false, Bool.false_and, Bool.or_true, Bool.true_or, Bool.or_false, Bool.false_or, Bool.not_true, Bool.not_false, beq_iff_eq, List.contains_nil, initT, List.all_cons, List.all_nil, List.toList_toArray, Int.ofNat_zero, reduceCtorEq, Int.reduceNe, Int.reduceLE, Int.reduceEq, ne_eq, not_false_eq_true, Int.reducePow, Int.toNat_of_nonneg, Int.reduceAdd, Int.reduceSub, Int.reduceMul, I32, I64, Bv, U8, Sv, unown, unowns, names, namess, Bool.or_self, Bool.true_beq, Bool.false_beq, plainR, plainRs, Int.cast_ofNat_Int, Int.reduceBEq, Int.reduceLT, Int.reduceGT, Int.reduceGE, Int.reduceBNe, List.append_eq, below, belows, List.all_toArray, LR_eq, retQL_ret, retQL_normal, expL_none, expL_one, expL_many, wkM_nil, wkM_cons, noF, isF, nodupN, lendObs, lendOb, kindsOk, kindOk, rens, ren, renF, givL, killTs, killMs, updM, backO, renO, List.contains_cons, belowM, PR_done, PR_take, PR_one, PR_two, OO_some, TO_some, take_move, take_assign, take_binOp, take_pick, take_unOp, take_index, take_slice0, take_slice1, take_slice2, take_slice3, kpl_eq, plain1_v, false_or, or_true, true_or, or_false, C1_ti4, C1_td4, C1_fit4, C1_ti21, C1_td21, C1_fit21, Int.tdiv_eq_ediv_of_nonneg, Int.tmod_eq_emod_of_nonneg, Int.fdiv_eq_ediv_of_nonneg] | refine DR_q _ ?_ | ((first | refine WG_mk (fun hg => ?_) (fun hg => ?_) | refine CD_mk (fun hg => ?_) (fun hg => ?_) | refine GD_mk (fun hg => ?_) (fun hg => ?_) | refine GQ_mk (fun hg => ?_) (fun hg => ?_) | refine PK_mk (fun hg => ?_) (fun hg => ?_)) <;> (try simp only [hg]) <;> (try simp only [decide_eq_true_eq, decide_eq_false_iff_not, Bool.not_eq_true', Bool.not_eq_false', Bool.not_eq_true, Bool.not_eq_false, Bool.and_eq_true, Bool.or_eq_true, Bool.and_eq_false_iff, Bool.or_eq_false_iff, beq_iff_eq, bne_iff_ne, ne_eq, beq_eq_false_iff_ne, bne_eq_false_iff_eq] at hg) <;> first | (exfalso; omega) | (exfalso; exact Bool.noConfusion hg) | (exfalso; exact hg trivial) | skip) | refine And.intro (by omega) ?_ | omega
  all_goals (congr 2; first | rfl | (first | rw [Bool.eq_iff_iff] | skip); simp_all [right, rlen] <;> omega)
theorem rright_spec (r : Int) : Spec Try.prog 27 [I32 r] (Bv (right r)) := by
  refine spec_mk (z := false) (ts := [.tmp 2]) ok1 Try.func27 rfl rfl (by decide +kernel) (by simp [Try.ntmps27]) rfl ?_
  repeat' first | simp (maxSteps := 4000000) (disch := omega) only [base, baseX, Option.getD_some, ↓WG_true, ↓WG_false, labelOf, findLabel, Option.isSome_some, Option.isSome_none, dstOf, get, put, putD, List.getElem?_cons_zero, List.getElem?_cons_succ, Option.bind_some, Nat.reduceEqDiff, ↓reduceIte, importS, imp, imps, shift, shifts, List.map_nil, List.map_cons, List.nil_append, List.append_nil, List.cons_append, List.length_nil, List.length_cons, true_and, and_true, TI.agg, Option.map_some, Option.map_none, pushS, obj, setOb, killT, killM, killO, cond_true, cond_false, beq_self_eq_true, Nat.reduceBEq, killCs, hasId, hasIds, List.drop_zero, List.take_succ_cons, List.take_zero, List.take_nil, List.drop_succ_cons, Nat.mul_one, Nat.one_mul, Nat.add_zero, Nat.zero_add, Nat.zero_mul, Int.toNat_natCast, Int.toNat_zero, Int.toNat_one, List.length_map, List.length_drop, List.length_append, Nat.reduceAdd, Nat.reduceMul, Nat.reduceSub, Nat.reduceLeDiff, Nat.lt_add_one, Nat.zero_lt_succ, Nat.succ_pos, decide_true, decide_false, Bool.and_true, Bool.true_and, Bool.and_false, Bool.false_and, Bool.or_true, Bool.true_or, Bool.or_false, Bool.false_or, Bool.not_true, Bool.not_false, beq_iff_eq, List.contains_nil, initT, List.all_cons, List.all_nil, List.toList_toArray, Int.ofNat_zero, reduceCtorEq, Int.reduceNe, Int.reduceLE, Int.reduceEq, ne_eq, not_false_eq_true, Int.reducePow, Int.toNat_of_nonneg, Int.reduceAdd, Int.reduceSub, Int.reduceMul, I32, I64, Bv, U8, Sv, unown, unowns, names, namess, Bool.or_self, Bool.true_beq, Bool.false_beq, plainR, plainRs, Int.cast_ofNat_Int, Int.reduceBEq, Int.reduceLT, Int.reduceGT, Int.reduceGE, Int.reduceBNe, List.append_eq, below, belows, List.all_toArray, LR_eq, retQL_ret, retQL_normal, expL_none, expL_one, expL_many, wkM_nil, wkM_cons, noF, isF, nodupN, lendObs, lendOb, kindsOk, kindOk, rens, ren, renF, givL, killTs, killMs, updM, backO, renO, List.contains_cons, belowM, PR_done, PR_take, PR_one, PR_two, OO_some, TO_some, take_move, take_assign, take_binOp, take_pick, take_unOp, take_index, take_slice0, take_slice1, take_slice2, take_slice3, kpl_eq, plain1_v, false_or, or_true, true_or, or_false, C1_ti4, C1_td4, C1_fit4, C1_ti21, C1_td21, C1_fit21, Int.tdiv_eq_ediv_of_nonneg, Int.tmod_eq_emod_of_nonneg, Int.fdiv_eq_ediv_of_nonneg] | refine DR_q _ ?_ | ((first | refine WG_mk (fun hg => ?_) (fun hg => ?_) | refine CD_mk (fun hg => ?_) (fun hg => ?_) | refine GD_mk (fun hg => ?_) (fun hg => ?_) | refine GQ_mk (fun hg => ?_) (fun hg => ?_) | refine PK_mk (fun hg => ?_) (fun hg => ?_)) <;> (try simp only [hg]) <;> (try simp only [decide_eq_true_eq, decide_eq_false_iff_not, Bool.not_eq_true', Bool.not_eq_false', Bool.not_eq_true, Bool.not_eq_false, Bool.and_eq_true, Bool.or_eq_true, Bool.and_eq_false_iff, Bool.or_eq_false_iff, beq_iff_eq, bne_iff_ne, ne_eq, beq_eq_false_iff_ne, bne_eq_false_iff_eq] at hg) <;> first | (exfalso; omega) | (exfalso; exact Bool.noConfusion hg) | (exfalso; exact hg trivial) | skip) | refine And.intro (by omega) ?_ | omega
  all_goals (congr 2; first | rfl | (first | rw [Bool.eq_iff_iff] | skip); simp_all [right, rlen] <;> omega)
theorem len_spec (r : Int) : Spec Try.prog 36 [I32 r] (I64 (rlen r)) := by
  refine spec_mk (z := false) (ts := [.tmp 2]) ok1 Try.func36 rfl rfl (by decide +kernel) (by simp [Try.ntmps36]) rfl ?_
  repeat' first | refine WE_fit (right_spec _) ?_ ?_ | simp (maxSteps := 4000000) (disch := omega) only [base, baseX, Option.getD_some, ↓WG_true, ↓WG_false, labelOf, findLabel, Option.isSome_some, Option.isSome_none, dstOf, get, put, putD, List.getElem?_cons_zero, List.getElem?_cons_succ, Option.bind_some, Nat.reduceEqDiff, ↓reduceIte, importS, imp, imps, shift, shifts, List.map_nil, List.map_cons, List.nil_append, List.append_nil, List.cons_append, List.length_nil, List.length_cons, true_and, and_true, TI.agg, Option.map_some, Option.map_none, pushS, obj, setOb, killT, killM, killO, cond_true, cond_false, beq_self_eq_true, Nat.reduceBEq, killCs, hasId, hasIds, List.drop_zero, List.take_succ_cons, List.take_zero, List.take_nil, List.drop_succ_cons, Nat.mul_one, Nat.one_mul, Nat.add_zero, Nat.zero_add, Nat.zero_mul, Int.toNat_natCast, Int.toNat_zero, Int.toNat_one, List.length_map, List.length_drop, List.length_append, Nat.reduceAdd, Nat.reduceMul, Nat.reduceSub, Nat.reduceLeDiff, Nat.lt_add_one, Nat.zero_lt_succ, Nat.succ_pos, decide_true, decide_false, Bool.and_true, Bool.true_and, Bool.and_false, Bool.false_and, Bool.or_true, Bool.true_or, Bool.or_false, Bool.false_or, Bool.not_true, Bool.not_false, beq_iff_eq, List.contains_nil, initT, List.all_cons, List.all_nil, List.toList_toArray, Int.ofNat_zero, reduceCtorEq, Int.reduceNe, Int.reduceLE, Int.reduceEq, ne_eq, not_false_eq_true, Int.reducePow, Int.toNat_of_nonneg, Int.reduceAdd, Int.reduceSub, Int.reduceMul, I32, I64, Bv, U8, Sv, unown, unowns, names, namess, Bool.or_self, Bool.true_beq, Bool.false_beq, plainR, plainRs, Int.cast_ofNat_Int, Int.reduceBEq, Int.reduceLT, Int.reduceGT, Int.reduceGE, Int.reduceBNe, List.append_eq, below, belows, List.all_toArray, LR_eq, retQL_ret, retQL_normal, expL_none, expL_one, expL_many, wkM_nil, wkM_cons, noF, isF, nodupN, lendObs, lendOb, kindsOk, kindOk, rens, ren, renF, givL, killTs, killMs, updM, backO, renO, List.contains_cons, belowM, PR_done, PR_take, PR_one, PR_two, OO_some, TO_some, take_move, take_assign, take_binOp, take_pick, take_unOp, take_index, take_slice0, take_slice1, take_slice2, take_slice3, kpl_eq, plain1_v, false_or, or_true, true_or, or_false, C1_ti3, C1_td3, C1_fit3, C1_ti4, C1_td4, C1_fit4, C1_ti21, C1_td21, C1_fit21, Int.tdiv_eq_ediv_of_nonneg, Int.tmod_eq_emod_of_nonneg, Int.fdiv_eq_ediv_of_nonneg] | exact NK_no _ | refine NK_cl _ _ ?_ | exact clean_v _ | exact clean_u8 _ _ _ _ | exact clean_i32 _ _ _ _ | exact clean_str _ _ _ _ | refine clean_tup _ ?_ | refine clean_ag _ ?_ | exact cleans_nil | refine cleans_cons _ _ ?_ ?_ | refine DR_q _ ?_ | ((first | refine WG_mk (fun hg => ?_) (fun hg => ?_) | refine CD_mk (fun hg => ?_) (fun hg => ?_) | refine GD_mk (fun hg => ?_) (fun hg => ?_) | refine GQ_mk (fun hg => ?_) (fun hg => ?_) | refine PK_mk (fun hg => ?_) (fun hg => ?_)) <;> (try simp only [hg]) <;> (try simp only [decide_eq_true_eq, decide_eq_false_iff_not, Bool.not_eq_true', Bool.not_eq_false', Bool.not_eq_true, Bool.not_eq_false, Bool.and_eq_true, Bool.or_eq_true, Bool.and_eq_false_iff, Bool.or_eq_false_iff, beq_iff_eq, bne_iff_ne, ne_eq, beq_eq_false_iff_ne, bne_eq_false_iff_eq] at hg) <;> first | (exfalso; omega) | (exfalso; exact Bool.noConfusion hg) | (exfalso; exact hg trivial) | skip) | refine And.intro (by omega) ?_ | omega

  all_goals (congr 2; first | rfl | (first | rw [Bool.eq_iff_iff] | skip); simp_all [right, rlen] <;> omega)
end Go.AE
end
section
/- Characters and their bytes: plain laws and contracts. -/
namespace Go.AE
open Go.Proofs
set_option maxRecDepth 10000
set_option linter.unusedSimpArgs false

def ofI (n : Int) : UInt8 := UInt8.ofNat n.toNat
theorem ofI_toNat {n : Int} (h : 0 ≤ n) (k : n < 256) : ((ofI n).toNat : Int) = n := by
  unfold ofI; simp; omega

/-- What a first byte tells. -/
def lead (c : Int) : Int × Int :=
  if c < 128 then (0, c) else if 194 ≤ c ∧ c < 224 then (1, c % 32) else if 224 ≤ c ∧ c < 240 then (2, c % 16) else if 240 ≤ c ∧ c < 245 then (3, c % 8) else (-1, 0)

def enc (r : Int) : List UInt8 :=
  if right r then (if r ≤ 127 then [ofI r] else if r ≤ 2047 then [ofI (192 + r / 64), ofI (128 + r % 64)] else if r ≤ 65535 then [ofI (224 + r / 4096), ofI (128 + r / 64 % 64), ofI (128 + r % 64)]
    else [ofI (240 + r / 262144), ofI (128 + r / 4096 % 64), ofI (128 + r / 64 % 64), ofI (128 + r % 64)]) else []

theorem lead_spec (b : UInt8) : Spec Try.prog 35 [U8 b] (.tup [I64 (lead b.toNat).1, I32 (lead b.toNat).2]) := by
  refine spec_mk (z := false) (ts := [.tmp 2, .tmp 3]) ok1 Try.func35 rfl rfl (by decide +kernel) (by simp [Try.ntmps35]) rfl ?_
  have hb := u8_lt b
  repeat' first | simp (maxSteps := 4000000) (disch := omega) only [base, baseX, Option.getD_some, ↓WG_true, ↓WG_false, labelOf, findLabel, Option.isSome_some, Option.isSome_none, dstOf, get, put, putD, List.getElem?_cons_zero, List.getElem?_cons_succ, Option.bind_some, Nat.reduceEqDiff, ↓reduceIte, importS, imp, imps, shift, shifts, List.map_nil, List.map_cons, List.nil_append, List.append_nil, List.cons_append, List.length_nil, List.length_cons, true_and, and_true, TI.agg, Option.map_some, Option.map_none, pushS, obj, setOb, killT, killM, killO, cond_true, cond_false, beq_self_eq_true, Nat.reduceBEq, killCs, hasId, hasIds, List.drop_zero, List.take_succ_cons, List.take_zero, List.take_nil, List.drop_succ_cons, Nat.mul_one, Nat.one_mul, Nat.add_zero, Nat.zero_add, Nat.zero_mul, Int.toNat_natCast, Int.toNat_zero, Int.toNat_one, List.length_map, List.length_drop, List.length_append, Nat.reduceAdd, Nat.reduceMul, Nat.reduceSub, Nat.reduceLeDiff, Nat.lt_add_one, Nat.zero_lt_succ, Nat.succ_pos, decide_true, decide_false, Bool.and_true, Bool.true_and, Bool.and_false, Bool.false_and, Bool.or_true, Bool.true_or, Bool.or_false, Bool.false_or, Bool.not_true, Bool.not_false, beq_iff_eq, List.contains_nil, initT, List.all_cons, List.all_nil, List.toList_toArray, Int.ofNat_zero, reduceCtorEq, Int.reduceNe, Int.reduceLE, Int.reduceEq, ne_eq, not_false_eq_true, Int.reducePow, Int.toNat_of_nonneg, Int.reduceAdd, Int.reduceSub, Int.reduceMul, I32, I64, Bv, U8, Sv, unown, unowns, names, namess, Bool.or_self, Bool.true_beq, Bool.false_beq, plainR, plainRs, Int.cast_ofNat_Int, Int.reduceBEq, Int.reduceLT, Int.reduceGT, Int.reduceGE, Int.reduceBNe, List.append_eq, below, belows, List.all_toArray, LR_eq, retQL_ret, retQL_normal, expL_none, expL_one, expL_many, wkM_nil, wkM_cons, noF, isF, nodupN, lendObs, lendOb, kindsOk, kindOk, rens, ren, renF, givL, killTs, killMs, updM, backO, renO, List.contains_cons, belowM, PR_done, PR_take, PR_one, PR_two, OO_some, TO_some, take_move, take_assign, take_binOp, take_pick, take_unOp, take_index, take_slice0, take_slice1, take_slice2, take_slice3, kpl_eq, plain1_v, false_or, or_true, true_or, or_false, C1_ti3, C1_td3, C1_fit3, C1_ti4, C1_td4, C1_fit4, C1_ti5, C1_td5, C1_fit5, C1_ti21, C1_td21, C1_fit21, Int.tdiv_eq_ediv_of_nonneg, Int.tmod_eq_emod_of_nonneg, Int.fdiv_eq_ediv_of_nonneg, and63_32, and63_8, and31_8, and15_8, and7_8, min6_32, min12_32, min18_32, wrap8, wrap32, wrap64, Int.tdiv_eq_ediv_of_nonneg, Int.tmod_eq_emod_of_nonneg, Int.fdiv_eq_ediv_of_nonneg] | refine DR_q _ ?_ | ((first | refine WG_mk (fun hg => ?_) (fun hg => ?_) | refine CD_mk (fun hg => ?_) (fun hg => ?_) | refine GD_mk (fun hg => ?_) (fun hg => ?_) | refine GQ_mk (fun hg => ?_) (fun hg => ?_) | refine PK_mk (fun hg => ?_) (fun hg => ?_)) <;> (try simp only [hg]) <;> (try simp only [decide_eq_true_eq, decide_eq_false_iff_not, Bool.not_eq_true', Bool.not_eq_false', Bool.not_eq_true, Bool.not_eq_false, Bool.and_eq_true, Bool.or_eq_true, Bool.and_eq_false_iff, Bool.or_eq_false_iff, beq_iff_eq, bne_iff_ne, ne_eq, beq_eq_false_iff_ne, bne_eq_false_iff_eq] at hg) <;> first | (exfalso; omega) | (exfalso; exact Bool.noConfusion hg) | (exfalso; exact hg trivial) | skip) | refine And.intro (by omega) ?_ | omega
  all_goals
    congr 3 <;> first
    | rfl
    | (simp (disch := omega) only [lead, if_pos, if_neg]; first | done | (congr 2 <;> first | rfl | omega))


theorem right_iff (r : Int) : right r = true ↔ 0 ≤ r ∧ r ≤ 1114111 ∧ ¬ (55296 ≤ r ∧ r ≤ 57343) := by
  simp [right]; omega
theorem rlen_yes {r : Int} (h : right r = true) : rlen r = if r ≤ 127 then 1 else if r ≤ 2047 then 2 else if r ≤ 65535 then 3 else 4 := by simp [rlen, h]
theorem rlen_no {r : Int} (h : right r = false) : rlen r = 0 := by simp [rlen, h]
theorem rlen_all (r : Int) : (rlen r = 1 ↔ 0 ≤ r ∧ r ≤ 127) ∧ (rlen r = 2 ↔ 128 ≤ r ∧ r ≤ 2047) ∧ (rlen r = 3 ↔ 2048 ≤ r ∧ r ≤ 65535 ∧ ¬ (55296 ≤ r ∧ r ≤ 57343)) ∧ (rlen r = 4 ↔ 65536 ≤ r ∧ r ≤ 1114111) := by
  have h := right_iff r
  cases hr : right r with
  | true => rw [rlen_yes hr]; rw [hr] at h; simp only [true_iff] at h; repeat' split
            all_goals omega
  | false => rw [rlen_no hr]; rw [hr] at h; simp only [Bool.false_eq_true, false_iff] at h; omega
theorem rlen1 (r : Int) : rlen r = 1 ↔ 0 ≤ r ∧ r ≤ 127 := (rlen_all r).1
theorem rlen2 (r : Int) : rlen r = 2 ↔ 128 ≤ r ∧ r ≤ 2047 := (rlen_all r).2.1
theorem rlen3 (r : Int) : rlen r = 3 ↔ 2048 ≤ r ∧ r ≤ 65535 ∧ ¬ (55296 ≤ r ∧ r ≤ 57343) := (rlen_all r).2.2.1
theorem rlen4 (r : Int) : rlen r = 4 ↔ 65536 ≤ r ∧ r ≤ 1114111 := (rlen_all r).2.2.2
theorem rlen0 (r : Int) : rlen r = 0 ↔ right r = false := by
  cases hr : right r with
  | true => rw [rlen_yes hr]; simp; repeat' split
            all_goals omega
  | false => rw [rlen_no hr]; simp
theorem rlen_or (r : Int) : rlen r = 0 ∨ rlen r = 1 ∨ rlen r = 2 ∨ rlen r = 3 ∨ rlen r = 4 := by
  cases hr : right r with
  | true => rw [rlen_yes hr]; repeat' split
            all_goals simp
  | false => rw [rlen_no hr]; simp
theorem enc1 {r : Int} (h : 0 ≤ r ∧ r ≤ 127) : enc r = [ofI r] := by
  have hr : right r = true := by simp [right]; omega
  simp (disch := omega) only [enc, hr, if_true, if_pos, if_neg]
theorem enc2 {r : Int} (h : 128 ≤ r ∧ r ≤ 2047) : enc r = [ofI (192 + r / 64), ofI (128 + r % 64)] := by
  have hr : right r = true := by simp [right]; omega
  simp (disch := omega) only [enc, hr, if_true, if_pos, if_neg]
theorem enc3 {r : Int} (h : 2048 ≤ r ∧ r ≤ 65535 ∧ ¬ (55296 ≤ r ∧ r ≤ 57343)) : enc r = [ofI (224 + r / 4096), ofI (128 + r / 64 % 64), ofI (128 + r % 64)] := by
  have hr : right r = true := by simp [right]; omega
  simp (disch := omega) only [enc, hr, if_true, if_pos, if_neg]
theorem enc4 {r : Int} (h : 65536 ≤ r ∧ r ≤ 1114111) : enc r = [ofI (240 + r / 262144), ofI (128 + r / 4096 % 64), ofI (128 + r / 64 % 64), ofI (128 + r % 64)] := by
  have hr : right r = true := by simp [right]; omega
  simp (disch := omega) only [enc, hr, if_true, if_pos, if_neg]
theorem enc0 {r : Int} (h : right r = false) : enc r = [] := by simp [enc, h]
theorem enc_length (r : Int) : ((enc r).length : Int) = rlen r := by
  rcases rlen_or r with h | h | h | h | h
  · rw [enc0 ((rlen0 r).1 h), h]; rfl
  · rw [enc1 ((rlen1 r).1 h), h]; rfl
  · rw [enc2 ((rlen2 r).1 h), h]; rfl
  · rw [enc3 ((rlen3 r).1 h), h]; rfl
  · rw [enc4 ((rlen4 r).1 h), h]; rfl

theorem take_snocD {α : Type} (l : List α) (i : Nat) (d : α) (h : i < l.length) : l.take (i + 1) = l.take i ++ [l.getD i d] := by
  rw [List.take_add_one]
  simp [List.getD, h]

theorem same_spec (l m : List Int) (hl : l.length < 1000000000) : Spec Try.prog 20 [.sl l.length (l.map I32), .sl m.length (m.map I32)] (Bv (decide (l = m))) := by
  refine spec_mk (z := false) (ts := [.tmp 4]) ok1 Try.func20 rfl rfl (by decide +kernel) (by simp [Try.ntmps20]) rfl ?_
  repeat' first | simp (maxSteps := 4000000) (disch := omega) only [base, baseX, Option.getD_some, ↓WG_true, ↓WG_false, labelOf, findLabel, Option.isSome_some, Option.isSome_none, dstOf, get, put, putD, List.getElem?_cons_zero, List.getElem?_cons_succ, Option.bind_some, Nat.reduceEqDiff, ↓reduceIte, importS, imp, imps, shift, shifts, List.map_nil, List.map_cons, List.nil_append, List.append_nil, List.cons_append, List.length_nil, List.length_cons, true_and, and_true, TI.agg, Option.map_some, Option.map_none, pushS, obj, setOb, killT, killM, killO, cond_true, cond_false, beq_self_eq_true, Nat.reduceBEq, killCs, hasId, hasIds, List.drop_zero, List.take_succ_cons, List.take_zero, List.take_nil, List.drop_succ_cons, Nat.mul_one, Nat.one_mul, Nat.add_zero, Nat.zero_add, Nat.zero_mul, Int.toNat_natCast, Int.toNat_zero, Int.toNat_one, List.length_map, List.length_drop, List.length_append, Nat.reduceAdd, Nat.reduceMul, Nat.reduceSub, Nat.reduceLeDiff, Nat.lt_add_one, Nat.zero_lt_succ, Nat.succ_pos, decide_true, decide_false, Bool.and_true, Bool.true_and, Bool.and_false, Bool.false_and, Bool.or_true, Bool.true_or, Bool.or_false, Bool.false_or, Bool.not_true, Bool.not_false, beq_iff_eq, List.contains_nil, initT, List.all_cons, List.all_nil, List.toList_toArray, Int.ofNat_zero, reduceCtorEq, Int.reduceNe, Int.reduceLE, Int.reduceEq, ne_eq, not_false_eq_true, Int.reducePow, Int.toNat_of_nonneg, Int.reduceAdd, Int.reduceSub, Int.reduceMul, I32, I64, Bv, U8, Sv, unown, unowns, names, namess, Bool.or_self, Bool.true_beq, Bool.false_beq, plainR, plainRs, Int.cast_ofNat_Int, Int.reduceBEq, Int.reduceLT, Int.reduceGT, Int.reduceGE, Int.reduceBNe, List.append_eq, below, belows, List.all_toArray, LR_eq, retQL_ret, retQL_normal, expL_none, expL_one, expL_many, wkM_nil, wkM_cons, noF, isF, nodupN, lendObs, lendOb, kindsOk, kindOk, rens, ren, renF, givL, killTs, killMs, updM, backO, renO, List.contains_cons, belowM, PR_done, PR_take, PR_one, PR_two, OO_some, TO_some, take_move, take_assign, take_binOp, take_pick, take_unOp, take_index, take_slice0, take_slice1, take_slice2, take_slice3, kpl_eq, plain1_v, false_or, or_true, true_or, or_false, C1_ti3, C1_td3, C1_fit3, C1_ti4, C1_td4, C1_fit4, C1_ti21, C1_td21, C1_fit21, C1_ti29, C1_td29, Int.tdiv_eq_ediv_of_nonneg, Int.tmod_eq_emod_of_nonneg, Int.fdiv_eq_ediv_of_nonneg, and63_32, and63_8, and31_8, and15_8, and7_8, min6_32, min12_32, min18_32, wrap8, wrap32, wrap64, Int.tdiv_eq_ediv_of_nonneg, Int.tmod_eq_emod_of_nonneg, Int.fdiv_eq_ediv_of_nonneg] | refine DR_q _ ?_ | ((first | refine WG_mk (fun hg => ?_) (fun hg => ?_) | refine CD_mk (fun hg => ?_) (fun hg => ?_) | refine GD_mk (fun hg => ?_) (fun hg => ?_) | refine GQ_mk (fun hg => ?_) (fun hg => ?_) | refine PK_mk (fun hg => ?_) (fun hg => ?_)) <;> (try simp only [hg]) <;> (try simp only [decide_eq_true_eq, decide_eq_false_iff_not, Bool.not_eq_true', Bool.not_eq_false', Bool.not_eq_true, Bool.not_eq_false, Bool.and_eq_true, Bool.or_eq_true, Bool.and_eq_false_iff, Bool.or_eq_false_iff, beq_iff_eq, bne_iff_ne, ne_eq, beq_eq_false_iff_ne, bne_eq_false_iff_eq] at hg) <;> first | (exfalso; omega) | (exfalso; exact Bool.noConfusion hg) | (exfalso; exact hg trivial) | skip) | refine And.intro (by omega) ?_ | omega
  · have : l ≠ m := by intro h; subst h; omega
    simp [this]
  · refine LP_intro (fun i : Nat => ⟨[(0, .sl l.length (l.map I32)), (1, .sl m.length (m.map I32)), (5, I64 i)], []⟩) (fun i => i ≤ l.length ∧ l.take i = m.take i) (fun i => l.length - i) 0 (by simp) (by simp [wk, wkT, wkM, noF, isF, get, belowT, belowM, below, belows, I64, I32, Bv, U8, Sv] <;> try omega) ?_
    intro i ⟨hi, he⟩
    repeat' first | simp (maxSteps := 4000000) (disch := omega) only [base, baseX, Option.getD_some, ↓WG_true, ↓WG_false, labelOf, findLabel, Option.isSome_some, Option.isSome_none, dstOf, get, put, putD, List.getElem?_cons_zero, List.getElem?_cons_succ, Option.bind_some, Nat.reduceEqDiff, ↓reduceIte, importS, imp, imps, shift, shifts, List.map_nil, List.map_cons, List.nil_append, List.append_nil, List.cons_append, List.length_nil, List.length_cons, true_and, and_true, TI.agg, Option.map_some, Option.map_none, pushS, obj, setOb, killT, killM, killO, cond_true, cond_false, beq_self_eq_true, Nat.reduceBEq, killCs, hasId, hasIds, List.drop_zero, List.take_succ_cons, List.take_zero, List.take_nil, List.drop_succ_cons, Nat.mul_one, Nat.one_mul, Nat.add_zero, Nat.zero_add, Nat.zero_mul, Int.toNat_natCast, Int.toNat_zero, Int.toNat_one, List.length_map, List.length_drop, List.length_append, Nat.reduceAdd, Nat.reduceMul, Nat.reduceSub, Nat.reduceLeDiff, Nat.lt_add_one, Nat.zero_lt_succ, Nat.succ_pos, decide_true, decide_false, Bool.and_true, Bool.true_and, Bool.and_false, Bool.false_and, Bool.or_true, Bool.true_or, Bool.or_false, Bool.false_or, Bool.not_true, Bool.not_false, beq_iff_eq, List.contains_nil, initT, List.all_cons, List.all_nil, List.toList_toArray, Int.ofNat_zero, reduceCtorEq, Int.reduceNe, Int.reduceLE, Int.reduceEq, ne_eq, not_false_eq_true, Int.reducePow, Int.toNat_of_nonneg, Int.reduceAdd, Int.reduceSub, Int.reduceMul, I32, I64, Bv, U8, Sv, unown, unowns, names, namess, Bool.or_self, Bool.true_beq, Bool.false_beq, plainR, plainRs, Int.cast_ofNat_Int, Int.reduceBEq, Int.reduceLT, Int.reduceGT, Int.reduceGE, Int.reduceBNe, List.append_eq, below, belows, List.all_toArray, LR_eq, retQL_ret, retQL_normal, expL_none, expL_one, expL_many, wkM_nil, wkM_cons, noF, isF, nodupN, lendObs, lendOb, kindsOk, kindOk, rens, ren, renF, givL, killTs, killMs, updM, backO, renO, List.contains_cons, belowM, PR_done, PR_take, PR_one, PR_two, OO_some, TO_some, take_move, take_assign, take_binOp, take_pick, take_unOp, take_index, take_slice0, take_slice1, take_slice2, take_slice3, kpl_eq, plain1_v, false_or, or_true, true_or, or_false, C1_ti3, C1_td3, C1_fit3, C1_ti4, C1_td4, C1_fit4, C1_ti21, C1_td21, C1_fit21, C1_ti29, C1_td29, Int.tdiv_eq_ediv_of_nonneg, Int.tmod_eq_emod_of_nonneg, Int.fdiv_eq_ediv_of_nonneg, and63_32, and63_8, and31_8, and15_8, and7_8, min6_32, min12_32, min18_32, wrap8, wrap32, wrap64, Int.tdiv_eq_ediv_of_nonneg, Int.tmod_eq_emod_of_nonneg, Int.fdiv_eq_ediv_of_nonneg] | refine DR_q _ ?_ | ((first | refine WG_mk (fun hg => ?_) (fun hg => ?_) | refine CD_mk (fun hg => ?_) (fun hg => ?_) | refine GD_mk (fun hg => ?_) (fun hg => ?_) | refine GQ_mk (fun hg => ?_) (fun hg => ?_) | refine PK_mk (fun hg => ?_) (fun hg => ?_)) <;> (try simp only [hg]) <;> (try simp only [decide_eq_true_eq, decide_eq_false_iff_not, Bool.not_eq_true', Bool.not_eq_false', Bool.not_eq_true, Bool.not_eq_false, Bool.and_eq_true, Bool.or_eq_true, Bool.and_eq_false_iff, Bool.or_eq_false_iff, beq_iff_eq, bne_iff_ne, ne_eq, beq_eq_false_iff_ne, bne_eq_false_iff_eq] at hg) <;> first | (exfalso; omega) | (exfalso; exact Bool.noConfusion hg) | (exfalso; exact hg trivial) | skip) | refine And.intro (by omega) ?_ | omega
    · have : l ≠ m := by intro h; subst h; simp_all
      simp [this]
    ·
      refine ⟨i + 1, ⟨by omega, ?_⟩, by omega, (by simp [wk, wkT, wkM, noF, isF, get, belowT, belowM, below, belows, I64, I32, Bv, U8, Sv] <;> try omega)⟩
      rw [take_snocD _ _ 0 (by omega), take_snocD _ _ 0 (by omega), he]
      simp_all
    · have : l = m := by
        have e : i = l.length := by omega
        subst e
        rw [List.take_length] at he
        rw [he, List.take_of_length_le (by omega)]
      simp [this]
end Go.AE
end
section
/- Characters and their bytes: plain laws and contracts. -/
namespace Go.AE
open Go.Proofs
set_option maxRecDepth 10000
set_option linter.unusedSimpArgs false
theorem enc_le (r : Int) : (enc r).length ≤ 4 := by have := enc_length r; have := rlen_or r; omega

def strOk (l : List Int) : Bool := l.all right
def strS (l : List Int) : List UInt8 := if strOk l then l.flatMap enc else []

theorem strOk_bad {l : List Int} {i : Nat} (h : i < l.length) (hr : right (l.getD i 0) = false) : strOk l = false := by
  rw [strOk, List.all_eq_false]
  exact ⟨l.getD i 0, by simp [List.getD, h], by rw [hr]; simp⟩

theorem str_step {l : List Int} {i : Nat} {acc : List UInt8} (hi : i < l.length) (ha : acc = (l.take i).flatMap enc) (hn : acc.length ≤ 4 * i) (hr : (l.take i).all right = true) (hg : right (l.getD i 0) = true) :
    i + 1 ≤ l.length ∧ acc ++ enc (l.getD i 0) = (l.take (i + 1)).flatMap enc ∧ (acc ++ enc (l.getD i 0)).length ≤ 4 * (i + 1) ∧ (l.take (i + 1)).all right = true := by
  have hE := enc_le (l.getD i 0)
  refine ⟨by omega, ?_, by simp only [List.length_append]; omega, ?_⟩
  · rw [take_snocD _ _ 0 hi, List.flatMap_append, ha]; simp
  · rw [take_snocD _ _ 0 hi, List.all_append, hr]; simp only [List.all_cons, List.all_nil, hg]; rfl

end Go.AE
end
