/- Contracts of functions that the laws of this seat reach, and plain laws of what they compute. No condition beyond each statement's own. -/
import Derived.Test.YtpcfmiocndafcaaGreatAEBun
import Derived.Test.YtpcfmiocndafcaaGreatProg
import Derived.Test.YtpcfmiocndafcaaGreatU1
set_option linter.unusedVariables false
set_option linter.unusedSimpArgs false
section
namespace Go.AE
open Go.Proofs
set_option maxRecDepth 20000
def T3 : TI := ⟨TypeDesc.int IntKind.i64, 1, 8, Value.int IntKind.i64 0⟩
def T4 : TI := ⟨TypeDesc.bool, 1, 1, Value.bool false⟩
def T5 : TI := ⟨TypeDesc.int IntKind.u8, 1, 1, Value.int IntKind.u8 0⟩
def T9 : TI := ⟨TypeDesc.string, 1, 16, Value.string { data := #[] }⟩
def T21 : TI := ⟨TypeDesc.int IntKind.i32, 1, 4, Value.int IntKind.i32 0⟩
def T22 : TI := ⟨TypeDesc.func #[] #[4] false, 1, 8, Value.nilFunc⟩
def T23 : TI := ⟨TypeDesc.slice 77, 1, 24, Value.slice none 0 0⟩
def T24 : TI := ⟨TypeDesc.slice 74, 1, 24, Value.slice none 0 0⟩
def T25 : TI := ⟨TypeDesc.slice 82, 1, 24, Value.slice none 0 0⟩
def T26 : TI := ⟨TypeDesc.map 21 52, 1, 8, Value.map none⟩
def T27 : TI := ⟨TypeDesc.map 54 21, 1, 8, Value.map none⟩
def T29 : TI := ⟨TypeDesc.struct #[⟨"ranges", 23, 0, false, "", "pillarbox/ucd", 0⟩, ⟨"classes", 24, 1, false, "", "pillarbox/ucd", 24⟩, ⟨"lowers", 25, 2, false, "", "pillarbox/ucd", 48⟩, ⟨"splits", 26, 3, false, "", "pillarbox/ucd", 72⟩, ⟨"pairs", 27, 4, false, "", "pillarbox/ucd", 80⟩], 5, 88, Value.agg #[Value.slice none 0 0, Value.slice none 0 0, Value.slice none 0 0, Value.map none, Value.map none]⟩
def T31 : TI := ⟨TypeDesc.int IntKind.i64, 1, 8, Value.int IntKind.i64 0⟩
def T41 : TI := ⟨TypeDesc.slice 21, 1, 24, Value.slice none 0 0⟩
def T49 : TI := ⟨TypeDesc.slice 52, 1, 24, Value.slice none 0 0⟩
def T52 : TI := ⟨TypeDesc.struct #[⟨"Rune", 21, 0, false, "", "", 0⟩, ⟨"One", 21, 1, false, "", "", 4⟩, ⟨"Two", 21, 2, false, "", "", 8⟩, ⟨"Soft", 4, 3, false, "", "", 12⟩, ⟨"Out", 4, 4, false, "", "", 13⟩], 5, 16, Value.agg #[Value.int IntKind.i32 0, Value.int IntKind.i32 0, Value.int IntKind.i32 0, Value.bool false, Value.bool false]⟩
def T54 : TI := ⟨TypeDesc.struct #[⟨"one", 21, 0, false, "", "pillarbox/ucd", 0⟩, ⟨"two", 21, 1, false, "", "pillarbox/ucd", 4⟩], 2, 8, Value.agg #[Value.int IntKind.i32 0, Value.int IntKind.i32 0]⟩
def T61 : TI := ⟨TypeDesc.struct #[⟨"err", 31, 0, false, "", "pillarbox/label", 0⟩, ⟨"bad", 22, 1, false, "", "pillarbox/label", 8⟩], 2, 16, Value.agg #[Value.int IntKind.i64 0, Value.nilFunc]⟩
def T66 : TI := ⟨TypeDesc.func #[21] #[4] false, 1, 8, Value.nilFunc⟩
def T71 : TI := ⟨TypeDesc.int IntKind.u64, 1, 8, Value.int IntKind.u64 0⟩
def T74 : TI := ⟨TypeDesc.struct #[⟨"Lo", 21, 0, false, "", "", 0⟩, ⟨"Hi", 21, 1, false, "", "", 4⟩, ⟨"Class", 3, 2, false, "", "", 8⟩, ⟨"Step", 3, 3, false, "", "", 16⟩], 4, 24, Value.agg #[Value.int IntKind.i32 0, Value.int IntKind.i32 0, Value.int IntKind.i64 0, Value.int IntKind.i64 0]⟩
def T75 : TI := ⟨TypeDesc.func #[74] #[4] false, 1, 8, Value.nilFunc⟩
def T77 : TI := ⟨TypeDesc.struct #[⟨"Lo", 21, 0, false, "", "", 0⟩, ⟨"Hi", 21, 1, false, "", "", 4⟩, ⟨"Cat", 3, 2, false, "", "", 8⟩, ⟨"Bidi", 3, 3, false, "", "", 16⟩, ⟨"Join", 3, 4, false, "", "", 24⟩, ⟨"Script", 3, 5, false, "", "", 32⟩], 6, 40, Value.agg #[Value.int IntKind.i32 0, Value.int IntKind.i32 0, Value.int IntKind.i64 0, Value.int IntKind.i64 0, Value.int IntKind.i64 0, Value.int IntKind.i64 0]⟩
def T82 : TI := ⟨TypeDesc.struct #[⟨"Lo", 21, 0, false, "", "", 0⟩, ⟨"Hi", 21, 1, false, "", "", 4⟩, ⟨"By", 21, 2, false, "", "", 8⟩], 3, 12, Value.agg #[Value.int IntKind.i32 0, Value.int IntKind.i32 0, Value.int IntKind.i32 0]⟩
def T86 : TI := ⟨TypeDesc.slice 5, 1, 24, Value.slice none 0 0⟩
def T88 : TI := ⟨TypeDesc.func #[5] #[5] false, 1, 8, Value.nilFunc⟩
def T89 : TI := ⟨TypeDesc.slice 61, 1, 24, Value.slice none 0 0⟩
def T92 : TI := ⟨TypeDesc.array 8 3, 8, 64, Value.agg #[Value.int IntKind.i64 0, Value.int IntKind.i64 0, Value.int IntKind.i64 0, Value.int IntKind.i64 0, Value.int IntKind.i64 0, Value.int IntKind.i64 0, Value.int IntKind.i64 0, Value.int IntKind.i64 0]⟩
def T100 : TI := ⟨TypeDesc.func #[21] #[21] false, 1, 8, Value.nilFunc⟩
def T102 : TI := ⟨TypeDesc.struct #[⟨"Table", 29, 0, true, "", "", 0⟩], 5, 88, Value.agg #[Value.slice none 0 0, Value.slice none 0 0, Value.slice none 0 0, Value.map none, Value.map none]⟩
def T106 : TI := ⟨TypeDesc.func #[77, 21] #[3] false, 1, 8, Value.nilFunc⟩
def T111 : TI := ⟨TypeDesc.func #[114] #[4] false, 1, 8, Value.nilFunc⟩
def T114 : TI := ⟨TypeDesc.struct #[⟨"t", 29, 0, false, "", "pillarbox/context", 0⟩, ⟨"l", 41, 5, false, "", "pillarbox/context", 88⟩, ⟨"at", 3, 6, false, "", "pillarbox/context", 112⟩], 7, 120, Value.agg #[Value.slice none 0 0, Value.slice none 0 0, Value.slice none 0 0, Value.map none, Value.map none, Value.slice none 0 0, Value.int IntKind.i64 0]⟩
def T115 : TI := ⟨TypeDesc.func #[136] #[] false, 1, 8, Value.nilFunc⟩
def T116 : TI := ⟨TypeDesc.func #[136] #[] false, 1, 8, Value.nilFunc⟩
def T123 : TI := ⟨TypeDesc.func #[82] #[4] false, 1, 8, Value.nilFunc⟩
def T126 : TI := ⟨TypeDesc.func #[21, 21] #[3] false, 1, 8, Value.nilFunc⟩
def T134 : TI := ⟨TypeDesc.map 21 111, 1, 8, Value.map none⟩
def T136 : TI := ⟨TypeDesc.func #[3, 21] #[4] false, 1, 8, Value.nilFunc⟩
def T145 : TI := ⟨TypeDesc.slice 41, 1, 24, Value.slice none 0 0⟩
def C1 : Ctx := { flat := [52, 54, 74, 77, 82], ty := [(3, T3),
  (4, T4),
  (5, T5),
  (9, T9),
  (21, T21),
  (22, T22),
  (23, T23),
  (24, T24),
  (25, T25),
  (26, T26),
  (27, T27),
  (29, T29),
  (31, T31),
  (41, T41),
  (49, T49),
  (52, T52),
  (54, T54),
  (61, T61),
  (66, T66),
  (71, T71),
  (74, T74),
  (75, T75),
  (77, T77),
  (82, T82),
  (86, T86),
  (88, T88),
  (89, T89),
  (92, T92),
  (100, T100),
  (102, T102),
  (106, T106),
  (111, T111),
  (114, T114),
  (115, T115),
  (116, T116),
  (123, T123),
  (126, T126),
  (134, T134),
  (136, T136),
  (145, T145)] }
def Good (t : Nat) (i : TI) : Prop := Tryz.prog.underlying t = some i.d ∧ ∃ j, Tryz.prog.info? t = some j ∧ j.size = i.size ∧ j.bytes = i.bytes ∧ j.zero = some i.zero ∧ i.zero.cells.size = i.size
theorem ty1 (t : Nat) (d : TypeDesc) (sz b : Nat) (z : Value) (h0 : z.cells.size = sz) (h1 : Tryz.prog.underlying t = some d) (h2 : (Tryz.prog.info? t).map (fun j => (j.size, j.bytes, j.zero)) = some (sz, b, some z)) : Good t ⟨d, sz, b, z⟩ := by
  refine ⟨h1, ?_⟩
  cases e : Tryz.prog.info? t with
  | none => rw [e] at h2; simp at h2
  | some j => rw [e] at h2; simp at h2; exact ⟨j, rfl, h2.1, h2.2.1, h2.2.2, h0⟩
theorem zhw : ∀ (l : List (Nat × TI)) (t : Nat) (i : TI), zm9 l t = some i → (t, i) ∈ l
  | [], t, i, h => by simp [zm9] at h
  | (k, x) :: l, t, i, h => by
    simp only [zm9] at h
    split at h
    · rename_i e; subst e; simp at h; subst h; exact List.mem_cons_self ..
    · exact List.mem_cons_of_mem _ (zhw l t i h)
theorem good3 : Good 3 T3 := ty1 _ _ _ _ _ rfl (by kernel_rfl) (by kernel_rfl)
theorem good4 : Good 4 T4 := ty1 _ _ _ _ _ rfl (by kernel_rfl) (by kernel_rfl)
theorem good5 : Good 5 T5 := ty1 _ _ _ _ _ rfl (by kernel_rfl) (by kernel_rfl)
theorem good9 : Good 9 T9 := ty1 _ _ _ _ _ rfl (by kernel_rfl) (by kernel_rfl)
theorem good21 : Good 21 T21 := ty1 _ _ _ _ _ rfl (by kernel_rfl) (by kernel_rfl)
theorem good22 : Good 22 T22 := ty1 _ _ _ _ _ rfl (by kernel_rfl) (by kernel_rfl)
theorem good23 : Good 23 T23 := ty1 _ _ _ _ _ rfl (by kernel_rfl) (by kernel_rfl)
theorem good24 : Good 24 T24 := ty1 _ _ _ _ _ rfl (by kernel_rfl) (by kernel_rfl)
theorem good25 : Good 25 T25 := ty1 _ _ _ _ _ rfl (by kernel_rfl) (by kernel_rfl)
theorem good26 : Good 26 T26 := ty1 _ _ _ _ _ rfl (by kernel_rfl) (by kernel_rfl)
theorem good27 : Good 27 T27 := ty1 _ _ _ _ _ rfl (by kernel_rfl) (by kernel_rfl)
theorem good29 : Good 29 T29 := ty1 _ _ _ _ _ rfl (by kernel_rfl) (by kernel_rfl)
theorem good31 : Good 31 T31 := ty1 _ _ _ _ _ rfl (by kernel_rfl) (by kernel_rfl)
theorem good41 : Good 41 T41 := ty1 _ _ _ _ _ rfl (by kernel_rfl) (by kernel_rfl)
theorem good49 : Good 49 T49 := ty1 _ _ _ _ _ rfl (by kernel_rfl) (by kernel_rfl)
theorem good52 : Good 52 T52 := ty1 _ _ _ _ _ rfl (by kernel_rfl) (by kernel_rfl)
theorem good54 : Good 54 T54 := ty1 _ _ _ _ _ rfl (by kernel_rfl) (by kernel_rfl)
theorem good61 : Good 61 T61 := ty1 _ _ _ _ _ rfl (by kernel_rfl) (by kernel_rfl)
theorem good66 : Good 66 T66 := ty1 _ _ _ _ _ rfl (by kernel_rfl) (by kernel_rfl)
theorem good71 : Good 71 T71 := ty1 _ _ _ _ _ rfl (by kernel_rfl) (by kernel_rfl)
theorem good74 : Good 74 T74 := ty1 _ _ _ _ _ rfl (by kernel_rfl) (by kernel_rfl)
theorem good75 : Good 75 T75 := ty1 _ _ _ _ _ rfl (by kernel_rfl) (by kernel_rfl)
theorem good77 : Good 77 T77 := ty1 _ _ _ _ _ rfl (by kernel_rfl) (by kernel_rfl)
theorem good82 : Good 82 T82 := ty1 _ _ _ _ _ rfl (by kernel_rfl) (by kernel_rfl)
theorem good86 : Good 86 T86 := ty1 _ _ _ _ _ rfl (by kernel_rfl) (by kernel_rfl)
theorem good88 : Good 88 T88 := ty1 _ _ _ _ _ rfl (by kernel_rfl) (by kernel_rfl)
theorem good89 : Good 89 T89 := ty1 _ _ _ _ _ rfl (by kernel_rfl) (by kernel_rfl)
theorem good92 : Good 92 T92 := ty1 _ _ _ _ _ rfl (by kernel_rfl) (by kernel_rfl)
theorem good100 : Good 100 T100 := ty1 _ _ _ _ _ rfl (by kernel_rfl) (by kernel_rfl)
theorem good102 : Good 102 T102 := ty1 _ _ _ _ _ rfl (by kernel_rfl) (by kernel_rfl)
theorem good106 : Good 106 T106 := ty1 _ _ _ _ _ rfl (by kernel_rfl) (by kernel_rfl)
theorem good111 : Good 111 T111 := ty1 _ _ _ _ _ rfl (by kernel_rfl) (by kernel_rfl)
theorem good114 : Good 114 T114 := ty1 _ _ _ _ _ rfl (by kernel_rfl) (by kernel_rfl)
theorem good115 : Good 115 T115 := ty1 _ _ _ _ _ rfl (by kernel_rfl) (by kernel_rfl)
theorem good116 : Good 116 T116 := ty1 _ _ _ _ _ rfl (by kernel_rfl) (by kernel_rfl)
theorem good123 : Good 123 T123 := ty1 _ _ _ _ _ rfl (by kernel_rfl) (by kernel_rfl)
theorem good126 : Good 126 T126 := ty1 _ _ _ _ _ rfl (by kernel_rfl) (by kernel_rfl)
theorem good134 : Good 134 T134 := ty1 _ _ _ _ _ rfl (by kernel_rfl) (by kernel_rfl)
theorem good136 : Good 136 T136 := ty1 _ _ _ _ _ rfl (by kernel_rfl) (by kernel_rfl)
theorem good145 : Good 145 T145 := ty1 _ _ _ _ _ rfl (by kernel_rfl) (by kernel_rfl)
theorem goods : ∀ p ∈ C1.ty, Good p.1 p.2 := (List.forall_mem_cons.2 ⟨good3, (List.forall_mem_cons.2 ⟨good4, (List.forall_mem_cons.2 ⟨good5, (List.forall_mem_cons.2 ⟨good9, (List.forall_mem_cons.2 ⟨good21, (List.forall_mem_cons.2 ⟨good22, (List.forall_mem_cons.2 ⟨good23, (List.forall_mem_cons.2 ⟨good24, (List.forall_mem_cons.2 ⟨good25, (List.forall_mem_cons.2 ⟨good26, (List.forall_mem_cons.2 ⟨good27, (List.forall_mem_cons.2 ⟨good29, (List.forall_mem_cons.2 ⟨good31, (List.forall_mem_cons.2 ⟨good41, (List.forall_mem_cons.2 ⟨good49, (List.forall_mem_cons.2 ⟨good52, (List.forall_mem_cons.2 ⟨good54, (List.forall_mem_cons.2 ⟨good61, (List.forall_mem_cons.2 ⟨good66, (List.forall_mem_cons.2 ⟨good71, (List.forall_mem_cons.2 ⟨good74, (List.forall_mem_cons.2 ⟨good75, (List.forall_mem_cons.2 ⟨good77, (List.forall_mem_cons.2 ⟨good82, (List.forall_mem_cons.2 ⟨good86, (List.forall_mem_cons.2 ⟨good88, (List.forall_mem_cons.2 ⟨good89, (List.forall_mem_cons.2 ⟨good92, (List.forall_mem_cons.2 ⟨good100, (List.forall_mem_cons.2 ⟨good102, (List.forall_mem_cons.2 ⟨good106, (List.forall_mem_cons.2 ⟨good111, (List.forall_mem_cons.2 ⟨good114, (List.forall_mem_cons.2 ⟨good115, (List.forall_mem_cons.2 ⟨good116, (List.forall_mem_cons.2 ⟨good123, (List.forall_mem_cons.2 ⟨good126, (List.forall_mem_cons.2 ⟨good134, (List.forall_mem_cons.2 ⟨good136, (List.forall_mem_cons.2 ⟨good145, (List.forall_mem_nil _)⟩)⟩)⟩)⟩)⟩)⟩)⟩)⟩)⟩)⟩)⟩)⟩)⟩)⟩)⟩)⟩)⟩)⟩)⟩)⟩)⟩)⟩)⟩)⟩)⟩)⟩)⟩)⟩)⟩)⟩)⟩)⟩)⟩)⟩)⟩)⟩)⟩)⟩)⟩)⟩)
theorem flats : ∀ t ∈ C1.flat, Tryz.prog.stoodInHeld t = false ∧ Tryz.prog.eqGuardType Tryz.prog.depth t = false := (List.forall_mem_cons.2 ⟨⟨by decide +kernel, by decide +kernel⟩, (List.forall_mem_cons.2 ⟨⟨by decide +kernel, by decide +kernel⟩, (List.forall_mem_cons.2 ⟨⟨by decide +kernel, by decide +kernel⟩, (List.forall_mem_cons.2 ⟨⟨by decide +kernel, by decide +kernel⟩, (List.forall_mem_cons.2 ⟨⟨by decide +kernel, by decide +kernel⟩, (List.forall_mem_nil _)⟩)⟩)⟩)⟩)⟩)
theorem ok1 : C1.Ok Tryz.prog where
  mixed := by decide +kernel
  flat := flats
  ty := fun t i h => goods (t, i) (zhw _ _ _ h)
theorem zlg : C1.ti 3 = some ⟨TypeDesc.int IntKind.i64, 1, 8, Value.int IntKind.i64 0⟩ := rfl
theorem C1_td3 : C1.td 3 = some (TypeDesc.int IntKind.i64) := rfl
theorem C1_ti4 : C1.ti 4 = some ⟨TypeDesc.bool, 1, 1, Value.bool false⟩ := rfl
theorem C1_td4 : C1.td 4 = some (TypeDesc.bool) := rfl
theorem C1_ti5 : C1.ti 5 = some ⟨TypeDesc.int IntKind.u8, 1, 1, Value.int IntKind.u8 0⟩ := rfl
theorem C1_td5 : C1.td 5 = some (TypeDesc.int IntKind.u8) := rfl
theorem C1_ti9 : C1.ti 9 = some ⟨TypeDesc.string, 1, 16, Value.string { data := #[] }⟩ := rfl
theorem C1_td9 : C1.td 9 = some (TypeDesc.string) := rfl
theorem zyh : C1.ti 21 = some ⟨TypeDesc.int IntKind.i32, 1, 4, Value.int IntKind.i32 0⟩ := rfl
theorem zxt : C1.td 21 = some (TypeDesc.int IntKind.i32) := rfl
theorem zyi : C1.ti 22 = some ⟨TypeDesc.func #[] #[4] false, 1, 8, Value.nilFunc⟩ := rfl
theorem zxu : C1.td 22 = some (TypeDesc.func #[] #[4] false) := rfl
theorem zyj : C1.ti 23 = some ⟨TypeDesc.slice 77, 1, 24, Value.slice none 0 0⟩ := rfl
theorem zxv : C1.td 23 = some (TypeDesc.slice 77) := rfl
theorem zyk : C1.ti 24 = some ⟨TypeDesc.slice 74, 1, 24, Value.slice none 0 0⟩ := rfl
theorem zxw : C1.td 24 = some (TypeDesc.slice 74) := rfl
theorem zyl : C1.ti 25 = some ⟨TypeDesc.slice 82, 1, 24, Value.slice none 0 0⟩ := rfl
theorem zxx : C1.td 25 = some (TypeDesc.slice 82) := rfl
theorem zym : C1.ti 26 = some ⟨TypeDesc.map 21 52, 1, 8, Value.map none⟩ := rfl
theorem zxy : C1.td 26 = some (TypeDesc.map 21 52) := rfl
theorem zyn : C1.ti 27 = some ⟨TypeDesc.map 54 21, 1, 8, Value.map none⟩ := rfl
theorem zxz : C1.td 27 = some (TypeDesc.map 54 21) := rfl
theorem zyo : C1.ti 29 = some ⟨TypeDesc.struct #[⟨"ranges", 23, 0, false, "", "pillarbox/ucd", 0⟩, ⟨"classes", 24, 1, false, "", "pillarbox/ucd", 24⟩, ⟨"lowers", 25, 2, false, "", "pillarbox/ucd", 48⟩, ⟨"splits", 26, 3, false, "", "pillarbox/ucd", 72⟩, ⟨"pairs", 27, 4, false, "", "pillarbox/ucd", 80⟩], 5, 88, Value.agg #[Value.slice none 0 0, Value.slice none 0 0, Value.slice none 0 0, Value.map none, Value.map none]⟩ := rfl
theorem zy0 : C1.td 29 = some (TypeDesc.struct #[⟨"ranges", 23, 0, false, "", "pillarbox/ucd", 0⟩, ⟨"classes", 24, 1, false, "", "pillarbox/ucd", 24⟩, ⟨"lowers", 25, 2, false, "", "pillarbox/ucd", 48⟩, ⟨"splits", 26, 3, false, "", "pillarbox/ucd", 72⟩, ⟨"pairs", 27, 4, false, "", "pillarbox/ucd", 80⟩]) := rfl
theorem zgh : C1.fld 29 0 = some (0, ⟨TypeDesc.slice 77, 1, 24, Value.slice none 0 0⟩) := rfl
theorem zgi : C1.fld 29 1 = some (1, ⟨TypeDesc.slice 74, 1, 24, Value.slice none 0 0⟩) := rfl
theorem zgj : C1.fld 29 2 = some (2, ⟨TypeDesc.slice 82, 1, 24, Value.slice none 0 0⟩) := rfl
theorem zgk : C1.fld 29 3 = some (3, ⟨TypeDesc.map 21 52, 1, 8, Value.map none⟩) := rfl
theorem zgl : C1.fld 29 4 = some (4, ⟨TypeDesc.map 54 21, 1, 8, Value.map none⟩) := rfl
theorem zyp : C1.ti 31 = some ⟨TypeDesc.int IntKind.i64, 1, 8, Value.int IntKind.i64 0⟩ := rfl
theorem zy1 : C1.td 31 = some (TypeDesc.int IntKind.i64) := rfl
theorem zjw : C1.ti 41 = some ⟨TypeDesc.slice 21, 1, 24, Value.slice none 0 0⟩ := rfl
theorem zy2 : C1.td 41 = some (TypeDesc.slice 21) := rfl
theorem zyq : C1.ti 49 = some ⟨TypeDesc.slice 52, 1, 24, Value.slice none 0 0⟩ := rfl
theorem zy3 : C1.td 49 = some (TypeDesc.slice 52) := rfl
theorem zyr : C1.ti 52 = some ⟨TypeDesc.struct #[⟨"Rune", 21, 0, false, "", "", 0⟩, ⟨"One", 21, 1, false, "", "", 4⟩, ⟨"Two", 21, 2, false, "", "", 8⟩, ⟨"Soft", 4, 3, false, "", "", 12⟩, ⟨"Out", 4, 4, false, "", "", 13⟩], 5, 16, Value.agg #[Value.int IntKind.i32 0, Value.int IntKind.i32 0, Value.int IntKind.i32 0, Value.bool false, Value.bool false]⟩ := rfl
theorem zy4 : C1.td 52 = some (TypeDesc.struct #[⟨"Rune", 21, 0, false, "", "", 0⟩, ⟨"One", 21, 1, false, "", "", 4⟩, ⟨"Two", 21, 2, false, "", "", 8⟩, ⟨"Soft", 4, 3, false, "", "", 12⟩, ⟨"Out", 4, 4, false, "", "", 13⟩]) := rfl
theorem zgm : C1.fld 52 0 = some (0, ⟨TypeDesc.int IntKind.i32, 1, 4, Value.int IntKind.i32 0⟩) := rfl
theorem zgn : C1.fld 52 1 = some (1, ⟨TypeDesc.int IntKind.i32, 1, 4, Value.int IntKind.i32 0⟩) := rfl
theorem zgo : C1.fld 52 2 = some (2, ⟨TypeDesc.int IntKind.i32, 1, 4, Value.int IntKind.i32 0⟩) := rfl
theorem zgp : C1.fld 52 3 = some (3, ⟨TypeDesc.bool, 1, 1, Value.bool false⟩) := rfl
theorem zgq : C1.fld 52 4 = some (4, ⟨TypeDesc.bool, 1, 1, Value.bool false⟩) := rfl
theorem zys : C1.ti 54 = some ⟨TypeDesc.struct #[⟨"one", 21, 0, false, "", "pillarbox/ucd", 0⟩, ⟨"two", 21, 1, false, "", "pillarbox/ucd", 4⟩], 2, 8, Value.agg #[Value.int IntKind.i32 0, Value.int IntKind.i32 0]⟩ := rfl
theorem zy5 : C1.td 54 = some (TypeDesc.struct #[⟨"one", 21, 0, false, "", "pillarbox/ucd", 0⟩, ⟨"two", 21, 1, false, "", "pillarbox/ucd", 4⟩]) := rfl
theorem zgr : C1.fld 54 0 = some (0, ⟨TypeDesc.int IntKind.i32, 1, 4, Value.int IntKind.i32 0⟩) := rfl
theorem zgs : C1.fld 54 1 = some (1, ⟨TypeDesc.int IntKind.i32, 1, 4, Value.int IntKind.i32 0⟩) := rfl
theorem zyt : C1.ti 61 = some ⟨TypeDesc.struct #[⟨"err", 31, 0, false, "", "pillarbox/label", 0⟩, ⟨"bad", 22, 1, false, "", "pillarbox/label", 8⟩], 2, 16, Value.agg #[Value.int IntKind.i64 0, Value.nilFunc]⟩ := rfl
theorem zy6 : C1.td 61 = some (TypeDesc.struct #[⟨"err", 31, 0, false, "", "pillarbox/label", 0⟩, ⟨"bad", 22, 1, false, "", "pillarbox/label", 8⟩]) := rfl
theorem zgt : C1.fld 61 0 = some (0, ⟨TypeDesc.int IntKind.i64, 1, 8, Value.int IntKind.i64 0⟩) := rfl
theorem zgu : C1.fld 61 1 = some (1, ⟨TypeDesc.func #[] #[4] false, 1, 8, Value.nilFunc⟩) := rfl
theorem zyu : C1.ti 66 = some ⟨TypeDesc.func #[21] #[4] false, 1, 8, Value.nilFunc⟩ := rfl
theorem zy7 : C1.td 66 = some (TypeDesc.func #[21] #[4] false) := rfl
theorem zyv : C1.ti 71 = some ⟨TypeDesc.int IntKind.u64, 1, 8, Value.int IntKind.u64 0⟩ := rfl
theorem zy8 : C1.td 71 = some (TypeDesc.int IntKind.u64) := rfl
theorem zyw : C1.ti 74 = some ⟨TypeDesc.struct #[⟨"Lo", 21, 0, false, "", "", 0⟩, ⟨"Hi", 21, 1, false, "", "", 4⟩, ⟨"Class", 3, 2, false, "", "", 8⟩, ⟨"Step", 3, 3, false, "", "", 16⟩], 4, 24, Value.agg #[Value.int IntKind.i32 0, Value.int IntKind.i32 0, Value.int IntKind.i64 0, Value.int IntKind.i64 0]⟩ := rfl
theorem zy9 : C1.td 74 = some (TypeDesc.struct #[⟨"Lo", 21, 0, false, "", "", 0⟩, ⟨"Hi", 21, 1, false, "", "", 4⟩, ⟨"Class", 3, 2, false, "", "", 8⟩, ⟨"Step", 3, 3, false, "", "", 16⟩]) := rfl
theorem zgv : C1.fld 74 0 = some (0, ⟨TypeDesc.int IntKind.i32, 1, 4, Value.int IntKind.i32 0⟩) := rfl
theorem zgw : C1.fld 74 1 = some (1, ⟨TypeDesc.int IntKind.i32, 1, 4, Value.int IntKind.i32 0⟩) := rfl
theorem zgx : C1.fld 74 2 = some (2, ⟨TypeDesc.int IntKind.i64, 1, 8, Value.int IntKind.i64 0⟩) := rfl
theorem zgy : C1.fld 74 3 = some (3, ⟨TypeDesc.int IntKind.i64, 1, 8, Value.int IntKind.i64 0⟩) := rfl
theorem zyx : C1.ti 75 = some ⟨TypeDesc.func #[74] #[4] false, 1, 8, Value.nilFunc⟩ := rfl
theorem zya : C1.td 75 = some (TypeDesc.func #[74] #[4] false) := rfl
theorem zyy : C1.ti 77 = some ⟨TypeDesc.struct #[⟨"Lo", 21, 0, false, "", "", 0⟩, ⟨"Hi", 21, 1, false, "", "", 4⟩, ⟨"Cat", 3, 2, false, "", "", 8⟩, ⟨"Bidi", 3, 3, false, "", "", 16⟩, ⟨"Join", 3, 4, false, "", "", 24⟩, ⟨"Script", 3, 5, false, "", "", 32⟩], 6, 40, Value.agg #[Value.int IntKind.i32 0, Value.int IntKind.i32 0, Value.int IntKind.i64 0, Value.int IntKind.i64 0, Value.int IntKind.i64 0, Value.int IntKind.i64 0]⟩ := rfl
theorem zyb : C1.td 77 = some (TypeDesc.struct #[⟨"Lo", 21, 0, false, "", "", 0⟩, ⟨"Hi", 21, 1, false, "", "", 4⟩, ⟨"Cat", 3, 2, false, "", "", 8⟩, ⟨"Bidi", 3, 3, false, "", "", 16⟩, ⟨"Join", 3, 4, false, "", "", 24⟩, ⟨"Script", 3, 5, false, "", "", 32⟩]) := rfl
theorem zgz : C1.fld 77 0 = some (0, ⟨TypeDesc.int IntKind.i32, 1, 4, Value.int IntKind.i32 0⟩) := rfl
theorem zh0 : C1.fld 77 1 = some (1, ⟨TypeDesc.int IntKind.i32, 1, 4, Value.int IntKind.i32 0⟩) := rfl
theorem zh1 : C1.fld 77 2 = some (2, ⟨TypeDesc.int IntKind.i64, 1, 8, Value.int IntKind.i64 0⟩) := rfl
theorem zh2 : C1.fld 77 3 = some (3, ⟨TypeDesc.int IntKind.i64, 1, 8, Value.int IntKind.i64 0⟩) := rfl
theorem zh3 : C1.fld 77 4 = some (4, ⟨TypeDesc.int IntKind.i64, 1, 8, Value.int IntKind.i64 0⟩) := rfl
theorem zh4 : C1.fld 77 5 = some (5, ⟨TypeDesc.int IntKind.i64, 1, 8, Value.int IntKind.i64 0⟩) := rfl
theorem zyz : C1.ti 82 = some ⟨TypeDesc.struct #[⟨"Lo", 21, 0, false, "", "", 0⟩, ⟨"Hi", 21, 1, false, "", "", 4⟩, ⟨"By", 21, 2, false, "", "", 8⟩], 3, 12, Value.agg #[Value.int IntKind.i32 0, Value.int IntKind.i32 0, Value.int IntKind.i32 0]⟩ := rfl
theorem zyc : C1.td 82 = some (TypeDesc.struct #[⟨"Lo", 21, 0, false, "", "", 0⟩, ⟨"Hi", 21, 1, false, "", "", 4⟩, ⟨"By", 21, 2, false, "", "", 8⟩]) := rfl
theorem zh5 : C1.fld 82 0 = some (0, ⟨TypeDesc.int IntKind.i32, 1, 4, Value.int IntKind.i32 0⟩) := rfl
theorem zh6 : C1.fld 82 1 = some (1, ⟨TypeDesc.int IntKind.i32, 1, 4, Value.int IntKind.i32 0⟩) := rfl
theorem zh7 : C1.fld 82 2 = some (2, ⟨TypeDesc.int IntKind.i32, 1, 4, Value.int IntKind.i32 0⟩) := rfl
theorem zz0 : C1.ti 86 = some ⟨TypeDesc.slice 5, 1, 24, Value.slice none 0 0⟩ := rfl
theorem zyd : C1.td 86 = some (TypeDesc.slice 5) := rfl
theorem zz1 : C1.ti 88 = some ⟨TypeDesc.func #[5] #[5] false, 1, 8, Value.nilFunc⟩ := rfl
theorem zye : C1.td 88 = some (TypeDesc.func #[5] #[5] false) := rfl
theorem zz2 : C1.ti 89 = some ⟨TypeDesc.slice 61, 1, 24, Value.slice none 0 0⟩ := rfl
theorem zyf : C1.td 89 = some (TypeDesc.slice 61) := rfl
theorem zz3 : C1.ti 92 = some ⟨TypeDesc.array 8 3, 8, 64, Value.agg #[Value.int IntKind.i64 0, Value.int IntKind.i64 0, Value.int IntKind.i64 0, Value.int IntKind.i64 0, Value.int IntKind.i64 0, Value.int IntKind.i64 0, Value.int IntKind.i64 0, Value.int IntKind.i64 0]⟩ := rfl
theorem zyg : C1.td 92 = some (TypeDesc.array 8 3) := rfl
theorem zrj : C1.ti 100 = some ⟨TypeDesc.func #[21] #[21] false, 1, 8, Value.nilFunc⟩ := rfl
theorem zr7 : C1.td 100 = some (TypeDesc.func #[21] #[21] false) := rfl
theorem zrk : C1.ti 102 = some ⟨TypeDesc.struct #[⟨"Table", 29, 0, true, "", "", 0⟩], 5, 88, Value.agg #[Value.slice none 0 0, Value.slice none 0 0, Value.slice none 0 0, Value.map none, Value.map none]⟩ := rfl
theorem zr8 : C1.td 102 = some (TypeDesc.struct #[⟨"Table", 29, 0, true, "", "", 0⟩]) := rfl
theorem zdg : C1.fld 102 0 = some (0, ⟨TypeDesc.struct #[⟨"ranges", 23, 0, false, "", "pillarbox/ucd", 0⟩, ⟨"classes", 24, 1, false, "", "pillarbox/ucd", 24⟩, ⟨"lowers", 25, 2, false, "", "pillarbox/ucd", 48⟩, ⟨"splits", 26, 3, false, "", "pillarbox/ucd", 72⟩, ⟨"pairs", 27, 4, false, "", "pillarbox/ucd", 80⟩], 5, 88, Value.agg #[Value.slice none 0 0, Value.slice none 0 0, Value.slice none 0 0, Value.map none, Value.map none]⟩) := rfl
theorem zrl : C1.ti 106 = some ⟨TypeDesc.func #[77, 21] #[3] false, 1, 8, Value.nilFunc⟩ := rfl
theorem zr9 : C1.td 106 = some (TypeDesc.func #[77, 21] #[3] false) := rfl
theorem zrm : C1.ti 111 = some ⟨TypeDesc.func #[114] #[4] false, 1, 8, Value.nilFunc⟩ := rfl
theorem zra : C1.td 111 = some (TypeDesc.func #[114] #[4] false) := rfl
theorem zrn : C1.ti 114 = some ⟨TypeDesc.struct #[⟨"t", 29, 0, false, "", "pillarbox/context", 0⟩, ⟨"l", 41, 5, false, "", "pillarbox/context", 88⟩, ⟨"at", 3, 6, false, "", "pillarbox/context", 112⟩], 7, 120, Value.agg #[Value.slice none 0 0, Value.slice none 0 0, Value.slice none 0 0, Value.map none, Value.map none, Value.slice none 0 0, Value.int IntKind.i64 0]⟩ := rfl
theorem zrb : C1.td 114 = some (TypeDesc.struct #[⟨"t", 29, 0, false, "", "pillarbox/context", 0⟩, ⟨"l", 41, 5, false, "", "pillarbox/context", 88⟩, ⟨"at", 3, 6, false, "", "pillarbox/context", 112⟩]) := rfl
theorem zdh : C1.fld 114 0 = some (0, ⟨TypeDesc.struct #[⟨"ranges", 23, 0, false, "", "pillarbox/ucd", 0⟩, ⟨"classes", 24, 1, false, "", "pillarbox/ucd", 24⟩, ⟨"lowers", 25, 2, false, "", "pillarbox/ucd", 48⟩, ⟨"splits", 26, 3, false, "", "pillarbox/ucd", 72⟩, ⟨"pairs", 27, 4, false, "", "pillarbox/ucd", 80⟩], 5, 88, Value.agg #[Value.slice none 0 0, Value.slice none 0 0, Value.slice none 0 0, Value.map none, Value.map none]⟩) := rfl
theorem zdi : C1.fld 114 1 = some (5, ⟨TypeDesc.slice 21, 1, 24, Value.slice none 0 0⟩) := rfl
theorem zdj : C1.fld 114 2 = some (6, ⟨TypeDesc.int IntKind.i64, 1, 8, Value.int IntKind.i64 0⟩) := rfl
theorem zro : C1.ti 115 = some ⟨TypeDesc.func #[136] #[] false, 1, 8, Value.nilFunc⟩ := rfl
theorem zrc : C1.td 115 = some (TypeDesc.func #[136] #[] false) := rfl
theorem zrp : C1.ti 116 = some ⟨TypeDesc.func #[136] #[] false, 1, 8, Value.nilFunc⟩ := rfl
theorem zrd : C1.td 116 = some (TypeDesc.func #[136] #[] false) := rfl
theorem zrq : C1.ti 123 = some ⟨TypeDesc.func #[82] #[4] false, 1, 8, Value.nilFunc⟩ := rfl
theorem zre : C1.td 123 = some (TypeDesc.func #[82] #[4] false) := rfl
theorem zrr : C1.ti 126 = some ⟨TypeDesc.func #[21, 21] #[3] false, 1, 8, Value.nilFunc⟩ := rfl
theorem zrf : C1.td 126 = some (TypeDesc.func #[21, 21] #[3] false) := rfl
theorem zrs : C1.ti 134 = some ⟨TypeDesc.map 21 111, 1, 8, Value.map none⟩ := rfl
theorem zrg : C1.td 134 = some (TypeDesc.map 21 111) := rfl
theorem zrt : C1.ti 136 = some ⟨TypeDesc.func #[3, 21] #[4] false, 1, 8, Value.nilFunc⟩ := rfl
theorem zrh : C1.td 136 = some (TypeDesc.func #[3, 21] #[4] false) := rfl
theorem zru : C1.ti 145 = some ⟨TypeDesc.slice 41, 1, 24, Value.slice none 0 0⟩ := rfl
theorem zri : C1.td 145 = some (TypeDesc.slice 41) := rfl
theorem zxp (a : Int) : z1h C1 3 (.int .i64 a) = true := rfl
theorem zxq (a : Bool) : z1h C1 4 (.bool a) = true := rfl
theorem zxr (a : Int) : z1h C1 5 (.int .u8 a) = true := rfl
theorem zxs (a : ByteArray) : z1h C1 9 (.string a) = true := rfl
theorem zqz (a : Int) : z1h C1 21 (.int .i32 a) = true := rfl
theorem zr0 (a : Int) : z1h C1 31 (.int .i64 a) = true := rfl
theorem zr3 (a : Int) : z1h C1 71 (.int .u64 a) = true := rfl
theorem zr1 (x0 : Int) (x1 : Int) (x2 : Int) (x3 : Bool) (x4 : Bool) : z1h C1 52 (.agg #[.int .i32 x0, .int .i32 x1, .int .i32 x2, .bool x3, .bool x4]) = true := rfl
theorem zr2 (x0 : Int) (x1 : Int) : z1h C1 54 (.agg #[.int .i32 x0, .int .i32 x1]) = true := rfl
theorem zr4 (x0 : Int) (x1 : Int) (x2 : Int) (x3 : Int) : z1h C1 74 (.agg #[.int .i32 x0, .int .i32 x1, .int .i64 x2, .int .i64 x3]) = true := rfl
theorem zr5 (x0 : Int) (x1 : Int) (x2 : Int) (x3 : Int) (x4 : Int) (x5 : Int) : z1h C1 77 (.agg #[.int .i32 x0, .int .i32 x1, .int .i64 x2, .int .i64 x3, .int .i64 x4, .int .i64 x5]) = true := rfl
theorem zr6 (x0 : Int) (x1 : Int) (x2 : Int) : z1h C1 82 (.agg #[.int .i32 x0, .int .i32 x1, .int .i32 x2]) = true := rfl
theorem B3 : type_of% (And.intro @zlg (And.intro @C1_td3 @zxp)) := (And.intro @zlg (And.intro @C1_td3 @zxp))
theorem B4 : type_of% (And.intro @C1_ti4 (And.intro @C1_td4 @zxq)) := (And.intro @C1_ti4 (And.intro @C1_td4 @zxq))
theorem B5 : type_of% (And.intro @C1_ti5 (And.intro @C1_td5 @zxr)) := (And.intro @C1_ti5 (And.intro @C1_td5 @zxr))
theorem B9 : type_of% (And.intro @C1_ti9 (And.intro @C1_td9 @zxs)) := (And.intro @C1_ti9 (And.intro @C1_td9 @zxs))
theorem B21 : type_of% (And.intro @zyh (And.intro @zxt @zqz)) := (And.intro @zyh (And.intro @zxt @zqz))
theorem B22 : type_of% (And.intro @zyi @zxu) := (And.intro @zyi @zxu)
theorem B23 : type_of% (And.intro @zyj @zxv) := (And.intro @zyj @zxv)
theorem B24 : type_of% (And.intro @zyk @zxw) := (And.intro @zyk @zxw)
theorem B25 : type_of% (And.intro @zyl @zxx) := (And.intro @zyl @zxx)
theorem B26 : type_of% (And.intro @zym @zxy) := (And.intro @zym @zxy)
theorem B27 : type_of% (And.intro @zyn @zxz) := (And.intro @zyn @zxz)
theorem B29 : type_of% (And.intro @zyo (And.intro @zy0 (And.intro @zgh (And.intro @zgi (And.intro @zgj (And.intro @zgk @zgl)))))) := (And.intro @zyo (And.intro @zy0 (And.intro @zgh (And.intro @zgi (And.intro @zgj (And.intro @zgk @zgl))))))
theorem B31 : type_of% (And.intro @zyp (And.intro @zy1 @zr0)) := (And.intro @zyp (And.intro @zy1 @zr0))
theorem B41 : type_of% (And.intro @zjw @zy2) := (And.intro @zjw @zy2)
theorem B49 : type_of% (And.intro @zyq @zy3) := (And.intro @zyq @zy3)
theorem B52 : type_of% (And.intro @zyr (And.intro @zy4 (And.intro @zgm (And.intro @zgn (And.intro @zgo (And.intro @zgp (And.intro @zgq @zr1))))))) := (And.intro @zyr (And.intro @zy4 (And.intro @zgm (And.intro @zgn (And.intro @zgo (And.intro @zgp (And.intro @zgq @zr1)))))))
theorem B54 : type_of% (And.intro @zys (And.intro @zy5 (And.intro @zgr (And.intro @zgs @zr2)))) := (And.intro @zys (And.intro @zy5 (And.intro @zgr (And.intro @zgs @zr2))))
theorem B61 : type_of% (And.intro @zyt (And.intro @zy6 (And.intro @zgt @zgu))) := (And.intro @zyt (And.intro @zy6 (And.intro @zgt @zgu)))
theorem B66 : type_of% (And.intro @zyu @zy7) := (And.intro @zyu @zy7)
theorem B71 : type_of% (And.intro @zyv (And.intro @zy8 @zr3)) := (And.intro @zyv (And.intro @zy8 @zr3))
theorem B74 : type_of% (And.intro @zyw (And.intro @zy9 (And.intro @zgv (And.intro @zgw (And.intro @zgx (And.intro @zgy @zr4)))))) := (And.intro @zyw (And.intro @zy9 (And.intro @zgv (And.intro @zgw (And.intro @zgx (And.intro @zgy @zr4))))))
theorem B75 : type_of% (And.intro @zyx @zya) := (And.intro @zyx @zya)
theorem B77 : type_of% (And.intro @zyy (And.intro @zyb (And.intro @zgz (And.intro @zh0 (And.intro @zh1 (And.intro @zh2 (And.intro @zh3 (And.intro @zh4 @zr5)))))))) := (And.intro @zyy (And.intro @zyb (And.intro @zgz (And.intro @zh0 (And.intro @zh1 (And.intro @zh2 (And.intro @zh3 (And.intro @zh4 @zr5))))))))
theorem B82 : type_of% (And.intro @zyz (And.intro @zyc (And.intro @zh5 (And.intro @zh6 (And.intro @zh7 @zr6))))) := (And.intro @zyz (And.intro @zyc (And.intro @zh5 (And.intro @zh6 (And.intro @zh7 @zr6)))))
theorem B86 : type_of% (And.intro @zz0 @zyd) := (And.intro @zz0 @zyd)
theorem B88 : type_of% (And.intro @zz1 @zye) := (And.intro @zz1 @zye)
theorem B89 : type_of% (And.intro @zz2 @zyf) := (And.intro @zz2 @zyf)
theorem B92 : type_of% (And.intro @zz3 @zyg) := (And.intro @zz3 @zyg)
theorem B100 : type_of% (And.intro @zrj @zr7) := (And.intro @zrj @zr7)
theorem B102 : type_of% (And.intro @zrk (And.intro @zr8 @zdg)) := (And.intro @zrk (And.intro @zr8 @zdg))
theorem B106 : type_of% (And.intro @zrl @zr9) := (And.intro @zrl @zr9)
theorem B111 : type_of% (And.intro @zrm @zra) := (And.intro @zrm @zra)
theorem B114 : type_of% (And.intro @zrn (And.intro @zrb (And.intro @zdh (And.intro @zdi @zdj)))) := (And.intro @zrn (And.intro @zrb (And.intro @zdh (And.intro @zdi @zdj))))
theorem B115 : type_of% (And.intro @zro @zrc) := (And.intro @zro @zrc)
theorem B116 : type_of% (And.intro @zrp @zrd) := (And.intro @zrp @zrd)
theorem B123 : type_of% (And.intro @zrq @zre) := (And.intro @zrq @zre)
theorem B126 : type_of% (And.intro @zrr @zrf) := (And.intro @zrr @zrf)
theorem B134 : type_of% (And.intro @zrs @zrg) := (And.intro @zrs @zrg)
theorem B136 : type_of% (And.intro @zrt @zrh) := (And.intro @zrt @zrh)
theorem B145 : type_of% (And.intro @zru @zri) := (And.intro @zru @zri)
theorem D23 : type_of% (And.intro @B3 (And.intro @B21 (And.intro @B23 @B77))) := (And.intro @B3 (And.intro @B21 (And.intro @B23 @B77)))
theorem D24 : type_of% (And.intro @B3 (And.intro @B21 (And.intro @B24 @B74))) := (And.intro @B3 (And.intro @B21 (And.intro @B24 @B74)))
theorem D25 : type_of% (And.intro @B21 (And.intro @B25 @B82)) := (And.intro @B21 (And.intro @B25 @B82))
theorem D29 : type_of% (And.intro @B3 (And.intro @B4 (And.intro @B21 (And.intro @B23 (And.intro @B24 (And.intro @B25 (And.intro @B26 (And.intro @B27 (And.intro @B29 (And.intro @B52 (And.intro @B54 (And.intro @B74 (And.intro @B77 @B82))))))))))))) := (And.intro @B3 (And.intro @B4 (And.intro @B21 (And.intro @B23 (And.intro @B24 (And.intro @B25 (And.intro @B26 (And.intro @B27 (And.intro @B29 (And.intro @B52 (And.intro @B54 (And.intro @B74 (And.intro @B77 @B82)))))))))))))
theorem D49 : type_of% (And.intro @B4 (And.intro @B21 (And.intro @B49 @B52))) := (And.intro @B4 (And.intro @B21 (And.intro @B49 @B52)))
theorem D74 : type_of% (And.intro @B3 (And.intro @B21 @B74)) := (And.intro @B3 (And.intro @B21 @B74))
theorem D77 : type_of% (And.intro @B3 (And.intro @B21 @B77)) := (And.intro @B3 (And.intro @B21 @B77))
theorem D89 : type_of% (And.intro @B22 (And.intro @B31 (And.intro @B61 @B89))) := (And.intro @B22 (And.intro @B31 (And.intro @B61 @B89)))
theorem D102 : type_of% (And.intro @B3 (And.intro @B4 (And.intro @B21 (And.intro @B23 (And.intro @B24 (And.intro @B25 (And.intro @B26 (And.intro @B27 (And.intro @B29 (And.intro @B52 (And.intro @B54 (And.intro @B74 (And.intro @B77 (And.intro @B82 @B102)))))))))))))) := (And.intro @B3 (And.intro @B4 (And.intro @B21 (And.intro @B23 (And.intro @B24 (And.intro @B25 (And.intro @B26 (And.intro @B27 (And.intro @B29 (And.intro @B52 (And.intro @B54 (And.intro @B74 (And.intro @B77 (And.intro @B82 @B102))))))))))))))
theorem D114 : type_of% (And.intro @B3 (And.intro @B4 (And.intro @B21 (And.intro @B23 (And.intro @B24 (And.intro @B25 (And.intro @B26 (And.intro @B27 (And.intro @B29 (And.intro @B41 (And.intro @B52 (And.intro @B54 (And.intro @B74 (And.intro @B77 (And.intro @B82 @B114))))))))))))))) := (And.intro @B3 (And.intro @B4 (And.intro @B21 (And.intro @B23 (And.intro @B24 (And.intro @B25 (And.intro @B26 (And.intro @B27 (And.intro @B29 (And.intro @B41 (And.intro @B52 (And.intro @B54 (And.intro @B74 (And.intro @B77 (And.intro @B82 @B114)))))))))))))))
theorem D134 : type_of% (And.intro @B21 (And.intro @B111 @B134)) := (And.intro @B21 (And.intro @B111 @B134))
theorem D145 : type_of% (And.intro @B21 (And.intro @B41 @B145)) := (And.intro @B21 (And.intro @B41 @B145))
end Go.AE
end
section
namespace Go.AE
open Go.Proofs
set_option maxRecDepth 20000
set_option linter.unusedSimpArgs false
theorem zlp : Spec Tryz.prog 24 [] (.own 74 4 10 (classes.flatMap z1q)) := by
  refine z0g (z := false) (ts := [.tmp 0]) ok1 Tryz.func24 rfl rfl (by decide +kernel) (by simp [Tryz.ntmps24]) rfl ?_
  repeat' first | simp (maxSteps := 4000000) (disch := omega) only [bunL, bunD, bun, ↓z04, ↓z01, z02, findLabel, ↓reduceIte, imp, shift, z0b, z0a, unown, names, z07, below, noF, isF, z03, z09, z08, ren, givL, updM, z0c, renO, belowM, seval, -Int.reduceToNat, D24, bunN, z99, z5h, z5i] | refine DR_q _ ?_ | (refine Fk.fk ?_ ?_ <;> intro hg <;> (try simp only [hg]) <;> (try simp only [bunB] at hg) <;> try (exfalso; first | omega | exact Bool.noConfusion hg | exact hg trivial)) | refine And.intro (by omega) ?_ | omega
  all_goals rfl
theorem zpj : Spec Tryz.prog 25 [] (.own 82 3 11 (lowers.flatMap z1r)) := by
  refine z0g (z := false) (ts := [.tmp 0]) ok1 Tryz.func25 rfl rfl (by decide +kernel) (by simp [Tryz.ntmps25]) rfl ?_
  repeat' first | simp (maxSteps := 4000000) (disch := omega) only [bunL, bunD, bun, ↓z04, ↓z01, z02, findLabel, ↓reduceIte, imp, shift, z0b, z0a, unown, names, z07, below, noF, isF, z03, z09, z08, ren, givL, updM, z0c, renO, belowM, seval, -Int.reduceToNat, D25, bunN, z99, z5h, z5i] | refine DR_q _ ?_ | (refine Fk.fk ?_ ?_ <;> intro hg <;> (try simp only [hg]) <;> (try simp only [bunB] at hg) <;> try (exfalso; first | omega | exact Bool.noConfusion hg | exact hg trivial)) | refine And.intro (by omega) ?_ | omega
  all_goals rfl
theorem zq9 : Spec Tryz.prog 26 [] (.own 52 5 42 (splits.flatMap z0d)) := by
  refine z0g (z := false) (ts := [.tmp 0]) ok1 Tryz.func26 rfl rfl (by decide +kernel) (by simp [Tryz.ntmps26]) rfl ?_
  repeat' first | simp (maxSteps := 4000000) (disch := omega) only [bunL, bunD, bun, ↓z04, ↓z01, z02, findLabel, ↓reduceIte, imp, shift, z0b, z0a, unown, names, z07, below, noF, isF, z03, z09, z08, ren, givL, updM, z0c, renO, belowM, seval, -Int.reduceToNat, D49, bunN, z99, z5h, z5i] | refine DR_q _ ?_ | (refine Fk.fk ?_ ?_ <;> intro hg <;> (try simp only [hg]) <;> (try simp only [bunB] at hg) <;> try (exfalso; first | omega | exact Bool.noConfusion hg | exact hg trivial)) | refine And.intro (by omega) ?_ | omega
  all_goals rfl
theorem zpz : Spec Tryz.prog 23 [] (.own 77 6 74 (ranges.flatMap z1s)) := by
  refine z0g (z := false) (ts := [.tmp 0]) ok1 Tryz.func23 rfl rfl (by decide +kernel) (by simp [Tryz.ntmps23]) rfl ?_
  repeat' first | simp (maxSteps := 4000000) (disch := omega) only [bunL, bunD, bun, ↓z04, ↓z01, z02, findLabel, ↓reduceIte, imp, shift, z0b, z0a, unown, names, z07, below, noF, isF, z03, z09, z08, ren, givL, updM, z0c, renO, belowM, seval, -Int.reduceToNat, D23, bunN, z99, z5h, z5i] | refine DR_q _ ?_ | (refine Fk.fk ?_ ?_ <;> intro hg <;> (try simp only [hg]) <;> (try simp only [bunB] at hg) <;> try (exfalso; first | omega | exact Bool.noConfusion hg | exact hg trivial)) | refine And.intro (by omega) ?_ | omega
  all_goals rfl
end Go.AE
end
section
namespace Go.AE
open Go.Proofs
set_option maxRecDepth 20000
set_option linter.unusedSimpArgs false
def tabC (es ps : List (Value × AV)) : List AV := [.sl 74 (ranges.flatMap z1s), .sl 10 (classes.flatMap z1q), .sl 11 (lowers.flatMap z1r), .mp es, .mp ps]
def sM (i : Nat) : List (Value × AV) := (splits.take i).foldl (fun m s => mput (.int .i32 s.1) (.ag (z0d s)) m) []
def pM (i : Nat) : List (Value × AV) := (splits.take i).foldl (fun m s => match s.2.2.2.1 || s.2.2.2.2 with | true => m | false => mput (.agg #[.int .i32 s.2.1, .int .i32 s.2.2.1]) (.v (.int .i32 s.1)) m) []
theorem zq7 {i : Nat} (h : i < 42) : sM (i + 1) = mput (.int .i32 (splits.getD i z2b).1) (.ag (z0d (splits.getD i z2b))) (sM i) := by
  unfold sM
  rw [z9o _ i z2b (by rw [z8l]; exact h), List.foldl_append]; rfl
theorem zpq {i : Nat} (h : i < 42) : pM (i + 1) = match (splits.getD i z2b).2.2.2.1 || (splits.getD i z2b).2.2.2.2 with | true => pM i | false => mput (.agg #[.int .i32 (splits.getD i z2b).2.1, .int .i32 (splits.getD i z2b).2.2.1]) (.v (.int .i32 (splits.getD i z2b).1)) (pM i) := by
  unfold pM
  rw [z9o _ i z2b (by rw [z8l]; exact h), List.foldl_append]; rfl
theorem zex {Q : Value → Prop} {k : Value} {x : AV} (hk : Q k) : ∀ {es : List (Value × AV)}, (∀ e ∈ es, Q e.1) → ∀ e ∈ mput k x es, Q e.1
  | [], _, e, he => by simp only [mput, List.mem_singleton] at he; subst he; exact hk
  | (k', y) :: l, h, e, he => by
    simp only [mput] at he
    split at he
    · rcases List.mem_cons.1 he with rfl | he
      · exact hk
      · exact h e (by simp [he])
    · rcases List.mem_cons.1 he with rfl | he
      · exact h _ (by simp)
      · exact zex hk (fun e he => h e (by simp [he])) e he
theorem z3k (i : Nat) : (∀ e ∈ sM i, z1h C1 21 e.1 = true) = True := by
  refine eq_true ?_
  unfold sM
  have : ∀ (l : List SplitT) (m : List (Value × AV)), (∀ e ∈ m, z1h C1 21 e.1 = true) → ∀ e ∈ l.foldl (fun m s => mput (.int .i32 s.1) (.ag (z0d s)) m) m, z1h C1 21 e.1 = true := by
    intro l
    induction l with
    | nil => intro m h; exact h
    | cons a l ih => intro m h; exact ih _ (zex (Q := fun v => z1h C1 21 v = true) rfl h)
  exact this _ _ (by simp)
theorem z3h (i : Nat) : (∀ e ∈ pM i, z1h C1 54 e.1 = true) = True := by
  refine eq_true ?_
  unfold pM
  have : ∀ (l : List SplitT) (m : List (Value × AV)), (∀ e ∈ m, z1h C1 54 e.1 = true) → ∀ e ∈ l.foldl (fun m s => match s.2.2.2.1 || s.2.2.2.2 with | true => m | false => mput (.agg #[.int .i32 s.2.1, .int .i32 s.2.2.1]) (.v (.int .i32 s.1)) m) m, z1h C1 54 e.1 = true := by
    intro l
    induction l with
    | nil => intro m h; exact h
    | cons a l ih =>
      intro m h
      refine ih _ ?_
      show ∀ e ∈ (match a.2.2.2.1 || a.2.2.2.2 with | true => m | false => mput (.agg #[.int .i32 a.2.1, .int .i32 a.2.2.1]) (.v (.int .i32 a.1)) m), _
      split
      · exact h
      · exact zex (Q := fun v => z1h C1 54 v = true) rfl h
  exact this _ _ (by simp)
def newS (i : Nat) : St := ⟨[(0, .ptr 0 0), (1, .ptr 6 0), (10, .ref 7 0 42), (11, I64 42), (12, I64 i)],
  [.row true 1 [.v (.slice none 0 0), .v (.slice none 0 0), .v (.slice none 0 0), .v (.map none), .v (.map none)], .arr 77 6 (ranges.flatMap z1s), .arr 74 4 (classes.flatMap z1q), .arr 82 3 (lowers.flatMap z1r),
   .mp (sM i), .mp (pM i), .row true 1 [.ref 1 0 74, .ref 2 0 10, .ref 3 0 11, .mr 4, .mr 5], .arr 52 5 (splits.flatMap z0d)]⟩
theorem new_spec : Spec Tryz.prog 9 [] (.ag (tabC (sM 42) (pM 42))) := by
  refine z0g (z := true) (ts := [.cell 0 29]) ok1 Tryz.func9 rfl rfl (by decide +kernel) (by simp [Tryz.ntmps9]) rfl ?_
  repeat' first | refine z06 (zpz) ?_ ?_ | refine z06 (zlp) ?_ ?_ | refine z06 (zpj) ?_ ?_ | refine z06 (zq9) ?_ ?_ | simp (maxSteps := 4000000) (disch := omega) only [bunL, bunD, bun, ↓z04, ↓z01, z02, findLabel, ↓reduceIte, imp, shift, z0b, z0a, unown, names, z07, below, noF, isF, z03, z09, z08, ren, givL, updM, z0c, renO, belowM, seval, -Int.reduceToNat, D29, D49, bunN, z99, z5h, z5i, z0d, z13, z3k, z3h, Bool.not_true, Bool.not_false] | exact z0f _ | refine z0e _ _ ?_ | exact Cln.cl | refine z05 _ ?_ | refine z00 _ _ ?_ ?_ | refine DR_q _ ?_ | (refine Fk.fk ?_ ?_ <;> intro hg <;> (try simp only [hg]) <;> (try simp only [bunB] at hg) <;> try (exfalso; first | omega | exact Bool.noConfusion hg | exact hg trivial)) | refine And.intro (by omega) ?_ | omega
  refine z0m newS (fun i => i ≤ 42) (fun i => 42 - i) 0 (by omega) ?_ ?_
  · (simp (disch := omega) [wk, wkT, wkM, noF, isF, get, z0h, belowM, below, belows, I64, I32, Bv, U8, Sv, newS, sM, pM, splits] <;> try omega)
  intro i hi
  unfold newS
  repeat' first | simp (maxSteps := 4000000) (disch := omega) only [bunL, bunD, bun, ↓z04, ↓z01, z02, findLabel, ↓reduceIte, imp, shift, z0b, z0a, unown, names, z07, below, noF, isF, z03, z09, z08, ren, givL, updM, z0c, renO, belowM, seval, -Int.reduceToNat, z15, D29, D49, bunN, z99, z5h, z5i, z0d, z13, z3k, z3h, Bool.not_true, Bool.not_false] | refine DR_q _ ?_ | (refine Fk.fk ?_ ?_ <;> intro hg <;> (try simp only [hg]) <;> (try simp only [bunB] at hg) <;> try (exfalso; first | omega | exact Bool.noConfusion hg | exact hg trivial)) | refine And.intro (by omega) ?_ | omega
  · refine ⟨i + 1, by omega, by omega, ?_⟩
    have h5 : (splits.getD i z2b).2.2.2.1 = false := by assumption
    have h6 : (splits.getD i z2b).2.2.2.2 = false := by assumption
    have e1 := zq7 (i := i) (by omega)
    have e2 := zpq (i := i) (by omega)
    rw [h5, h6] at e2
    generalize splits.getD i z2b = x at *
    (simp (disch := omega) [wk, wkT, wkM, noF, isF, get, z0h, belowM, below, belows, I64, I32, Bv, U8, Sv, newS, e1, e2, z0d] <;> try omega)
  · refine ⟨i + 1, by omega, by omega, ?_⟩
    have h5 : (splits.getD i z2b).2.2.2.1 = false := by assumption
    have h6 : (splits.getD i z2b).2.2.2.2 = true := by assumption
    have e1 := zq7 (i := i) (by omega)
    have e2 := zpq (i := i) (by omega)
    rw [h5, h6] at e2
    generalize splits.getD i z2b = x at *
    (simp (disch := omega) [wk, wkT, wkM, noF, isF, get, z0h, belowM, below, belows, I64, I32, Bv, U8, Sv, newS, e1, e2, z0d] <;> try omega)
  · refine ⟨i + 1, by omega, by omega, ?_⟩
    have h5 : (splits.getD i z2b).2.2.2.1 = true := by assumption
    have e1 := zq7 (i := i) (by omega)
    have e2 := zpq (i := i) (by omega)
    rw [h5] at e2
    generalize splits.getD i z2b = x at *
    (simp (disch := omega) [wk, wkT, wkM, noF, isF, get, z0h, belowM, below, belows, I64, I32, Bv, U8, Sv, newS, e1, e2, z0d] <;> try omega)
  · have : i = 42 := by omega
    subst this
    rw [List.take_of_length_le (by rw [zkx (k := 6) _ (fun _ => rfl)]; decide), List.take_of_length_le (by rw [zkx (k := 4) _ (fun _ => rfl)]; decide), List.take_of_length_le (by rw [zkx (k := 3) _ (fun _ => rfl)]; decide)]
    rfl
end Go.AE
end
section
namespace Go.AE
open Go.Proofs
set_option maxRecDepth 20000
set_option linter.unusedSimpArgs false
def tab : AV := .ag (tabC (sM 42) (pM 42))
def cmpR (x : RangeT) (r : Int) : Int := if x.2.1 < r then -1 else if r < x.1 then 1 else 0
theorem z1y (x : RangeT) (r : Int) : (cmpR x r < 0) = (x.2.1 < r) := by
  unfold cmpR
  apply propext
  split
  · rename_i h; simp [h]
  · rename_i h
    split <;> simp [h] <;> omega
theorem cmpR_eq {x : RangeT} {r : Int} (h : ¬ x.2.1 < r) : (cmpR x r == 0) = decide (x.1 ≤ r) := by
  unfold cmpR; rw [if_neg h]
  split
  · rename_i h1; have : ¬ x.1 ≤ r := by omega
    simp [this]
  · rename_i h1; have : x.1 ≤ r := by omega
    simp [this]
theorem zsr (x : RangeT) (r : Int) : Spec Tryz.prog 84 [.ag (z1s x), I32 r] (I64 (cmpR x r)) := by
  refine z0g (z := false) (ts := [.tmp 4]) ok1 Tryz.func84 rfl rfl (by decide +kernel) (by simp [Tryz.ntmps84]) rfl ?_
  repeat' first | simp (maxSteps := 4000000) (disch := omega) only [bunL, bunD, bun, ↓z04, ↓z01, z02, findLabel, ↓reduceIte, imp, shift, z0b, z0a, unown, names, z07, below, noF, isF, z03, z09, z08, ren, givL, updM, z0c, renO, belowM, seval, -Int.reduceToNat, B4, D77, bunN, tabC, z1d, z19, z1b, z15, z1e, z1a, z1c, z13, z33, z34, z2w, z2x, z2y, z2z, z30, z31, z32, z36, z37, z38, z39, z3a, z1s, z1q, z1r, z0d] | refine DR_q _ ?_ | (refine Fk.fk ?_ ?_ <;> intro hg <;> (try simp only [hg]) <;> (try simp only [bunB, z1j, z14, z18, z1z, z3o, z1y] at hg) <;> try (exfalso; first | omega | exact Bool.noConfusion hg | exact hg trivial)) | refine And.intro (by omega) ?_ | omega
  all_goals (simp only [cmpR]; congr 2; repeat' split) <;> first | rfl | omega
theorem zft (r : Int) : Spec Tryz.prog 83 [.sl 74 (ranges.flatMap z1s), I32 r, .fn 84 [] []] (.tup [I64 (lb r ranges), Bv (inR r)]) := by
  refine z0g (z := false) (ts := [.tmp 6, .tmp 7]) ok1 Tryz.func83 rfl rfl (by decide +kernel) (by simp [Tryz.ntmps83]) rfl ?_
  have hlb := lb_le r ranges
  rw [z7f] at hlb
  repeat' first | refine z06 (zsr _ _) ?_ ?_ | simp (maxSteps := 4000000) (disch := omega) only [bunL, bunD, bun, ↓z04, ↓z01, z02, findLabel, ↓reduceIte, imp, shift, z0b, z0a, unown, names, z07, below, noF, isF, z03, z09, z08, ren, givL, updM, z0c, renO, belowM, seval, -Int.reduceToNat, B4, D23, B71, B106, bunN, tabC, z1d, z19, z1b, z15, z1e, z1a, z1c, z13, z33, z34, z2w, z2x, z2y, z2z, z30, z31, z32, z36, z37, z38, z39, z3a, z1s, z1q, z1r, z0d] | exact z0f _ | refine z0e _ _ ?_ | exact Cln.cl | refine z05 _ ?_ | refine z00 _ _ ?_ ?_ | refine DR_q _ ?_ | (refine Fk.fk ?_ ?_ <;> intro hg <;> (try simp only [hg]) <;> (try simp only [bunB, z1j, z14, z18, z1z, z3o, z1y] at hg) <;> try (exfalso; first | omega | exact Bool.noConfusion hg | exact hg trivial)) | refine And.intro (by omega) ?_ | omega
  refine z0m (fun p : Nat × Nat => ⟨[(0, .sl 74 (ranges.flatMap z1s)), (1, I32 r), (2, .fn 84 [] []), (8, I64 74), (9, I64 p.1), (10, I64 p.2)], []⟩) (fun p => p.1 ≤ lb r ranges ∧ lb r ranges ≤ p.2 ∧ p.2 ≤ 74) (fun p => p.2 - p.1) (0, 74) (by simp; omega) (by simp [wk, wkT, wkM, noF, isF, get, z0h, belowM, below, belows, I64, I32, Bv, U8, Sv] <;> try omega) ?_
  rintro ⟨i, j⟩ ⟨h1, h2, h3⟩
  simp only at h1 h2 h3
  repeat' first | refine z06 (zsr _ _) ?_ ?_ | simp (maxSteps := 4000000) (disch := omega) only [bunL, bunD, bun, ↓z04, ↓z01, z02, findLabel, ↓reduceIte, imp, shift, z0b, z0a, unown, names, z07, below, noF, isF, z03, z09, z08, ren, givL, updM, z0c, renO, belowM, seval, -Int.reduceToNat, B4, D23, B71, B106, bunN, tabC, z1d, z19, z1b, z15, z1e, z1a, z1c, z13, z33, z34, z2w, z2x, z2y, z2z, z30, z31, z32, z36, z37, z38, z39, z3a, z1s, z1q, z1r, z0d] | exact z0f _ | refine z0e _ _ ?_ | exact Cln.cl | refine z05 _ ?_ | refine z00 _ _ ?_ ?_ | refine DR_q _ ?_ | (refine Fk.fk ?_ ?_ <;> intro hg <;> (try simp only [hg]) <;> (try simp only [bunB, z1j, z14, z18, z1z, z3o, z1y] at hg) <;> try (exfalso; first | omega | exact Bool.noConfusion hg | exact hg trivial)) | refine And.intro (by omega) ?_ | omega
  · have := zke r z4i ((↑i + ↑j : Int) / 2).toNat (by rw [z7f]; omega)
    refine ⟨(((↑i + ↑j : Int) / 2).toNat + 1, j), ⟨by simp only; omega, by simp only; omega, h3⟩, by simp only; omega, (by simp [wk, wkT, wkM, noF, isF, get, z0h, belowM, below, belows, I64, I32, Bv, U8, Sv] <;> try omega)⟩
  · have := zke r z4i ((↑i + ↑j : Int) / 2).toNat (by rw [z7f]; omega)
    refine ⟨(i, ((↑i + ↑j : Int) / 2).toNat), ⟨h1, by simp only; omega, by simp only; omega⟩, by simp only; omega, (by simp [wk, wkT, wkM, noF, isF, get, z0h, belowM, below, belows, I64, I32, Bv, U8, Sv] <;> try omega)⟩
  · have e : i = lb r ranges := by omega
    have h5 := zke r z4i i (by rw [z7f]; omega)
    rw [inR_lb, ← e, cmpR_eq (by omega), decide_eq_true (show i < 74 by omega)]; rfl
  · have e : i = lb r ranges := by omega
    rw [inR_lb, ← e, decide_eq_false (show ¬ i < 74 by omega)]; rfl
end Go.AE
end
section
namespace Go.AE
open Go.Proofs
set_option maxRecDepth 20000
set_option linter.unusedSimpArgs false
theorem zkm (r : Int) : Spec Tryz.prog 60 [tab, I32 r] (.ag (z1s (ofR r))) := by
  refine z0g (z := false) (ts := [.cell 4 77]) ok1 Tryz.func60 rfl rfl (by decide +kernel) (by simp [Tryz.ntmps60]) rfl ?_
  cases hin : inR r with
  | false =>
    have h0 := inR_no hin
    repeat' first | refine z06 (zft _) ?_ ?_ | simp (maxSteps := 4000000) (disch := omega) only [bunL, bunD, bun, ↓z04, ↓z01, z02, findLabel, ↓reduceIte, imp, shift, z0b, z0a, unown, names, z07, below, noF, isF, z03, z09, z08, ren, givL, updM, z0c, renO, belowM, seval, -Int.reduceToNat, hin, h0, D29, B106, bunN, tab, tabC, z1d, z19, z1b, z15, z1e, z1a, z1c, z13, z33, z34, z2w, z2x, z2y, z2z, z30, z31, z32, z36, z37, z38, z39, z3a, z1s, z1q, z1r, z0d, z3k, z3h] | exact z0f _ | refine z0e _ _ ?_ | exact Cln.cl | refine z05 _ ?_ | refine z00 _ _ ?_ ?_ | refine DR_q _ ?_ | (refine Fk.fk ?_ ?_ <;> intro hg <;> (try simp only [hg]) <;> (try simp only [bunB, z1j, z14, z18, z1z, z3o, z1y] at hg) <;> try (exfalso; first | omega | exact Bool.noConfusion hg | exact hg trivial)) | refine And.intro (by omega) ?_ | omega
    rfl
  | true =>
    obtain ⟨h1, h2⟩ := inR_yes hin
    repeat' first | refine z06 (zft _) ?_ ?_ | simp (maxSteps := 4000000) (disch := omega) only [bunL, bunD, bun, ↓z04, ↓z01, z02, findLabel, ↓reduceIte, imp, shift, z0b, z0a, unown, names, z07, below, noF, isF, z03, z09, z08, ren, givL, updM, z0c, renO, belowM, seval, -Int.reduceToNat, hin, D29, B106, bunN, tab, tabC, z1d, z19, z1b, z15, z1e, z1a, z1c, z13, z33, z34, z2w, z2x, z2y, z2z, z30, z31, z32, z36, z37, z38, z39, z3a, z1s, z1q, z1r, z0d, z3k, z3h] | exact z0f _ | refine z0e _ _ ?_ | exact Cln.cl | refine z05 _ ?_ | refine z00 _ _ ?_ ?_ | refine DR_q _ ?_ | (refine Fk.fk ?_ ?_ <;> intro hg <;> (try simp only [hg]) <;> (try simp only [bunB, z1j, z14, z18, z1z, z3o, z1y] at hg) <;> try (exfalso; first | omega | exact Bool.noConfusion hg | exact hg trivial)) | refine And.intro (by omega) ?_ | omega
    rw [h2]
theorem zk0 (r : Int) : Spec Tryz.prog 21 [tab, I32 r] (I64 (cat r)) := by
  refine z0g (z := false) (ts := [.tmp 4]) ok1 Tryz.func21 rfl rfl (by decide +kernel) (by simp [Tryz.ntmps21]) rfl ?_
  repeat' first | refine z06 (zkm _) ?_ ?_ | simp (maxSteps := 4000000) (disch := omega) only [bunL, bunD, bun, ↓z04, ↓z01, z02, findLabel, ↓reduceIte, imp, shift, z0b, z0a, unown, names, z07, below, noF, isF, z03, z09, z08, ren, givL, updM, z0c, renO, belowM, seval, -Int.reduceToNat, D29, bunN, tab, tabC, z1d, z19, z1b, z15, z1e, z1a, z1c, z13, z33, z34, z2w, z2x, z2y, z2z, z30, z31, z32, z36, z37, z38, z39, z3a, z1s, z1q, z1r, z0d, z3k, z3h] | exact z0f _ | refine z0e _ _ ?_ | exact Cln.cl | refine z05 _ ?_ | refine z00 _ _ ?_ ?_ | refine DR_q _ ?_ | (refine Fk.fk ?_ ?_ <;> intro hg <;> (try simp only [hg]) <;> (try simp only [bunB, z1j, z14, z18, z1z, z3o, z1y] at hg) <;> try (exfalso; first | omega | exact Bool.noConfusion hg | exact hg trivial)) | refine And.intro (by omega) ?_ | omega
  rfl
theorem z80 (r : Int) : Spec Tryz.prog 91 [tab, I32 r] (I64 (bidi r)) := by
  refine z0g (z := false) (ts := [.tmp 4]) ok1 Tryz.func91 rfl rfl (by decide +kernel) (by simp [Tryz.ntmps91]) rfl ?_
  repeat' first | refine z06 (zkm _) ?_ ?_ | simp (maxSteps := 4000000) (disch := omega) only [bunL, bunD, bun, ↓z04, ↓z01, z02, findLabel, ↓reduceIte, imp, shift, z0b, z0a, unown, names, z07, below, noF, isF, z03, z09, z08, ren, givL, updM, z0c, renO, belowM, seval, -Int.reduceToNat, D29, bunN, tab, tabC, z1d, z19, z1b, z15, z1e, z1a, z1c, z13, z33, z34, z2w, z2x, z2y, z2z, z30, z31, z32, z36, z37, z38, z39, z3a, z1s, z1q, z1r, z0d, z3k, z3h] | exact z0f _ | refine z0e _ _ ?_ | exact Cln.cl | refine z05 _ ?_ | refine z00 _ _ ?_ ?_ | refine DR_q _ ?_ | (refine Fk.fk ?_ ?_ <;> intro hg <;> (try simp only [hg]) <;> (try simp only [bunB, z1j, z14, z18, z1z, z3o, z1y] at hg) <;> try (exfalso; first | omega | exact Bool.noConfusion hg | exact hg trivial)) | refine And.intro (by omega) ?_ | omega
  rfl
theorem zai (r : Int) : Spec Tryz.prog 136 [tab, I32 r] (I64 (join r)) := by
  refine z0g (z := false) (ts := [.tmp 4]) ok1 Tryz.func136 rfl rfl (by decide +kernel) (by simp [Tryz.ntmps136]) rfl ?_
  repeat' first | refine z06 (zkm _) ?_ ?_ | simp (maxSteps := 4000000) (disch := omega) only [bunL, bunD, bun, ↓z04, ↓z01, z02, findLabel, ↓reduceIte, imp, shift, z0b, z0a, unown, names, z07, below, noF, isF, z03, z09, z08, ren, givL, updM, z0c, renO, belowM, seval, -Int.reduceToNat, D29, bunN, tab, tabC, z1d, z19, z1b, z15, z1e, z1a, z1c, z13, z33, z34, z2w, z2x, z2y, z2z, z30, z31, z32, z36, z37, z38, z39, z3a, z1s, z1q, z1r, z0d, z3k, z3h] | exact z0f _ | refine z0e _ _ ?_ | exact Cln.cl | refine z05 _ ?_ | refine z00 _ _ ?_ ?_ | refine DR_q _ ?_ | (refine Fk.fk ?_ ?_ <;> intro hg <;> (try simp only [hg]) <;> (try simp only [bunB, z1j, z14, z18, z1z, z3o, z1y] at hg) <;> try (exfalso; first | omega | exact Bool.noConfusion hg | exact hg trivial)) | refine And.intro (by omega) ?_ | omega
  rfl
theorem za1 (r : Int) : Spec Tryz.prog 133 [tab, I32 r] (I64 (script r)) := by
  refine z0g (z := false) (ts := [.tmp 4]) ok1 Tryz.func133 rfl rfl (by decide +kernel) (by simp [Tryz.ntmps133]) rfl ?_
  repeat' first | refine z06 (zkm _) ?_ ?_ | simp (maxSteps := 4000000) (disch := omega) only [bunL, bunD, bun, ↓z04, ↓z01, z02, findLabel, ↓reduceIte, imp, shift, z0b, z0a, unown, names, z07, below, noF, isF, z03, z09, z08, ren, givL, updM, z0c, renO, belowM, seval, -Int.reduceToNat, D29, bunN, tab, tabC, z1d, z19, z1b, z15, z1e, z1a, z1c, z13, z33, z34, z2w, z2x, z2y, z2z, z30, z31, z32, z36, z37, z38, z39, z3a, z1s, z1q, z1r, z0d, z3k, z3h] | exact z0f _ | refine z0e _ _ ?_ | exact Cln.cl | refine z05 _ ?_ | refine z00 _ _ ?_ ?_ | refine DR_q _ ?_ | (refine Fk.fk ?_ ?_ <;> intro hg <;> (try simp only [hg]) <;> (try simp only [bunB, z1j, z14, z18, z1z, z3o, z1y] at hg) <;> try (exfalso; first | omega | exact Bool.noConfusion hg | exact hg trivial)) | refine And.intro (by omega) ?_ | omega
  rfl
theorem clsF_spec (x : ClassT) (r : Int) : Spec Tryz.prog 59 [.ag (z1q x), .cp [I32 r]] (Bv (z14 r x)) := by
  refine z0g (z := false) (ts := [.tmp 3]) ok1 Tryz.func59 rfl rfl (by decide +kernel) (by simp [Tryz.ntmps59]) rfl ?_
  repeat' first | simp (maxSteps := 4000000) (disch := omega) only [bunL, bunD, bun, ↓z04, ↓z01, z02, findLabel, ↓reduceIte, imp, shift, z0b, z0a, unown, names, z07, below, noF, isF, z03, z09, z08, ren, givL, updM, z0c, renO, belowM, seval, -Int.reduceToNat, B4, D74, bunN, tab, tabC, z1d, z19, z1b, z15, z1e, z1a, z1c, z13, z33, z34, z2w, z2x, z2y, z2z, z30, z31, z32, z36, z37, z38, z39, z3a, z1s, z1q, z1r, z0d, z3k, z3h] | refine DR_q _ ?_ | (refine Fk.fk ?_ ?_ <;> intro hg <;> (try simp only [hg]) <;> (try simp only [bunB, z1j, z14, z18, z1z, z3o, z1y] at hg) <;> try (exfalso; first | omega | exact Bool.noConfusion hg | exact hg trivial)) | refine And.intro (by omega) ?_ | omega
  all_goals (congr 2; first | rfl | (first | rw [Bool.eq_iff_iff] | skip); simp_all [z14, z18] <;> omega)
theorem zdt (r : Int) : Spec Tryz.prog 58 [.sl 10 (classes.flatMap z1q), .fn 59 [] [.cp [I32 r]]] (I64 (idx 10 (classes.findIdx (z14 r)))) := by
  refine z0g (z := false) (ts := [.tmp 4]) ok1 Tryz.func58 rfl rfl (by decide +kernel) (by simp [Tryz.ntmps58]) rfl ?_
  repeat' first | simp (maxSteps := 4000000) (disch := omega) only [bunL, bunD, bun, ↓z04, ↓z01, z02, findLabel, ↓reduceIte, imp, shift, z0b, z0a, unown, names, z07, below, noF, isF, z03, z09, z08, ren, givL, updM, z0c, renO, belowM, seval, -Int.reduceToNat, B4, D24, B75, bunN, tab, tabC, z1d, z19, z1b, z15, z1e, z1a, z1c, z13, z33, z34, z2w, z2x, z2y, z2z, z30, z31, z32, z36, z37, z38, z39, z3a, z1s, z1q, z1r, z0d, z3k, z3h] | refine DR_q _ ?_ | (refine Fk.fk ?_ ?_ <;> intro hg <;> (try simp only [hg]) <;> (try simp only [bunB, z1j, z14, z18, z1z, z3o, z1y] at hg) <;> try (exfalso; first | omega | exact Bool.noConfusion hg | exact hg trivial)) | refine And.intro (by omega) ?_ | omega
  refine z0m (fun i : Nat => ⟨[(0, .sl 10 (classes.flatMap z1q)), (1, .fn 59 [] [.cp [I32 r]]), (7, I64 10), (8, I64 i)], []⟩) (fun i => i ≤ 10 ∧ ∀ j, j < i → z14 r (classes.getD j z3e) = false) (fun i => 10 - i) 0 (by simp) (by simp [wk, wkT, wkM, noF, isF, get, z0h, belowM, below, belows, I64, I32, Bv, U8, Sv] <;> try omega) ?_
  intro i ⟨hi, hno⟩
  repeat' first | refine z06 (clsF_spec _ _) ?_ ?_ | simp (maxSteps := 4000000) (disch := omega) only [bunL, bunD, bun, ↓z04, ↓z01, z02, findLabel, ↓reduceIte, imp, shift, z0b, z0a, unown, names, z07, below, noF, isF, z03, z09, z08, ren, givL, updM, z0c, renO, belowM, seval, -Int.reduceToNat, B4, D24, B75, bunN, tab, tabC, z1d, z19, z1b, z15, z1e, z1a, z1c, z13, z33, z34, z2w, z2x, z2y, z2z, z30, z31, z32, z36, z37, z38, z39, z3a, z1s, z1q, z1r, z0d, z3k, z3h] | exact z0f _ | refine z0e _ _ ?_ | exact Cln.cl | refine z05 _ ?_ | refine z00 _ _ ?_ ?_ | refine DR_q _ ?_ | (refine Fk.fk ?_ ?_ <;> intro hg <;> (try simp only [hg]) <;> (try simp only [bunB, z1j, z14, z18, z1z, z3o, z1y] at hg) <;> try (exfalso; first | omega | exact Bool.noConfusion hg | exact hg trivial)) | refine And.intro (by omega) ?_ | omega
  · rw [zeg z6f hno (by omega) (by simp only [z14, Bool.and_eq_true, decide_eq_true_eq]; assumption)]
  · refine ⟨i + 1, ⟨by omega, z8p hno ?_⟩, by omega, (by simp [wk, wkT, wkM, noF, isF, get, z0h, belowM, below, belows, I64, I32, Bv, U8, Sv] <;> try omega)⟩
    simp only [z14, Bool.and_eq_false_iff, decide_eq_false_iff_not]; assumption
  · rw [zag z6f hno (by omega)]
theorem z4q (r : Int) (h0 : -2147483648 ≤ r) (h1 : r ≤ 2147483647) : Spec Tryz.prog 20 [tab, I32 r] (I64 (cls r)) := by
  refine z0g (z := false) (ts := [.tmp 4]) ok1 Tryz.func20 rfl rfl (by decide +kernel) (by simp [Tryz.ntmps20]) rfl ?_
  by_cases hin : classes.findIdx (z14 r) < 10
  · obtain ⟨h2, h3, h4⟩ := cls_in hin
    have h5 := cla_ok hin
    have h6 := ztb hin
    rcases h5.2.2.2.2 with h7 | h7
    · rw [h7] at h2
      repeat' first | refine z06 (zdt _) ?_ ?_ | simp (maxSteps := 4000000) (disch := omega) only [bunL, bunD, bun, ↓z04, ↓z01, z02, findLabel, ↓reduceIte, imp, shift, z0b, z0a, unown, names, z07, below, noF, isF, z03, z09, z08, ren, givL, updM, z0c, renO, belowM, seval, -Int.reduceToNat, h6, h7, Int.zero_mul, D29, B75, bunN, tab, tabC, z1d, z19, z1b, z15, z1e, z1a, z1c, z13, z33, z34, z2w, z2x, z2y, z2z, z30, z31, z32, z36, z37, z38, z39, z3a, z1s, z1q, z1r, z0d, z3k, z3h] | exact z0f _ | refine z0e _ _ ?_ | exact Cln.cl | refine z05 _ ?_ | refine z00 _ _ ?_ ?_ | refine DR_q _ ?_ | (refine Fk.fk ?_ ?_ <;> intro hg <;> (try simp only [hg]) <;> (try simp only [bunB, z1j, z14, z18, z1z, z3o, z1y] at hg) <;> try (exfalso; first | omega | exact Bool.noConfusion hg | exact hg trivial)) | refine And.intro (by omega) ?_ | omega
      all_goals (rw [h2, Int.zero_mul])
    · rw [h7] at h2
      repeat' first | refine z06 (zdt _) ?_ ?_ | simp (maxSteps := 4000000) (disch := omega) only [bunL, bunD, bun, ↓z04, ↓z01, z02, findLabel, ↓reduceIte, imp, shift, z0b, z0a, unown, names, z07, below, noF, isF, z03, z09, z08, ren, givL, updM, z0c, renO, belowM, seval, -Int.reduceToNat, h6, h7, Int.one_mul, D29, B75, bunN, tab, tabC, z1d, z19, z1b, z15, z1e, z1a, z1c, z13, z33, z34, z2w, z2x, z2y, z2z, z30, z31, z32, z36, z37, z38, z39, z3a, z1s, z1q, z1r, z0d, z3k, z3h] | exact z0f _ | refine z0e _ _ ?_ | exact Cln.cl | refine z05 _ ?_ | refine z00 _ _ ?_ ?_ | refine DR_q _ ?_ | (refine Fk.fk ?_ ?_ <;> intro hg <;> (try simp only [hg]) <;> (try simp only [bunB, z1j, z14, z18, z1z, z3o, z1y] at hg) <;> try (exfalso; first | omega | exact Bool.noConfusion hg | exact hg trivial)) | refine And.intro (by omega) ?_ | omega
      all_goals (rw [h2, Int.one_mul])
  · have h6 := zkb hin
    repeat' first | refine z06 (zdt _) ?_ ?_ | simp (maxSteps := 4000000) (disch := omega) only [bunL, bunD, bun, ↓z04, ↓z01, z02, findLabel, ↓reduceIte, imp, shift, z0b, z0a, unown, names, z07, below, noF, isF, z03, z09, z08, ren, givL, updM, z0c, renO, belowM, seval, -Int.reduceToNat, h6, D29, B75, bunN, tab, tabC, z1d, z19, z1b, z15, z1e, z1a, z1c, z13, z33, z34, z2w, z2x, z2y, z2z, z30, z31, z32, z36, z37, z38, z39, z3a, z1s, z1q, z1r, z0d, z3k, z3h] | exact z0f _ | refine z0e _ _ ?_ | exact Cln.cl | refine z05 _ ?_ | refine z00 _ _ ?_ ?_ | refine DR_q _ ?_ | (refine Fk.fk ?_ ?_ <;> intro hg <;> (try simp only [hg]) <;> (try simp only [bunB, z1j, z14, z18, z1z, z3o, z1y] at hg) <;> try (exfalso; first | omega | exact Bool.noConfusion hg | exact hg trivial)) | refine And.intro (by omega) ?_ | omega
    rw [cls_out hin]
theorem lowF_spec (x : LowerT) (r : Int) : Spec Tryz.prog 97 [.ag (z1r x), .cp [I32 r]] (Bv (z18 r x)) := by
  refine z0g (z := false) (ts := [.tmp 3]) ok1 Tryz.func97 rfl rfl (by decide +kernel) (by simp [Tryz.ntmps97]) rfl ?_
  repeat' first | simp (maxSteps := 4000000) (disch := omega) only [bunL, bunD, bun, ↓z04, ↓z01, z02, findLabel, ↓reduceIte, imp, shift, z0b, z0a, unown, names, z07, below, noF, isF, z03, z09, z08, ren, givL, updM, z0c, renO, belowM, seval, -Int.reduceToNat, B4, B21, B82, bunN, tab, tabC, z1d, z19, z1b, z15, z1e, z1a, z1c, z13, z33, z34, z2w, z2x, z2y, z2z, z30, z31, z32, z36, z37, z38, z39, z3a, z1s, z1q, z1r, z0d, z3k, z3h] | refine DR_q _ ?_ | (refine Fk.fk ?_ ?_ <;> intro hg <;> (try simp only [hg]) <;> (try simp only [bunB, z1j, z14, z18, z1z, z3o, z1y] at hg) <;> try (exfalso; first | omega | exact Bool.noConfusion hg | exact hg trivial)) | refine And.intro (by omega) ?_ | omega
  all_goals (congr 2; first | rfl | (first | rw [Bool.eq_iff_iff] | skip); simp_all [z14, z18] <;> omega)
theorem zmy (r : Int) : Spec Tryz.prog 96 [.sl 11 (lowers.flatMap z1r), .fn 97 [] [.cp [I32 r]]] (I64 (idx 11 (lowers.findIdx (z18 r)))) := by
  refine z0g (z := false) (ts := [.tmp 4]) ok1 Tryz.func96 rfl rfl (by decide +kernel) (by simp [Tryz.ntmps96]) rfl ?_
  repeat' first | simp (maxSteps := 4000000) (disch := omega) only [bunL, bunD, bun, ↓z04, ↓z01, z02, findLabel, ↓reduceIte, imp, shift, z0b, z0a, unown, names, z07, below, noF, isF, z03, z09, z08, ren, givL, updM, z0c, renO, belowM, seval, -Int.reduceToNat, B3, B4, D25, B123, bunN, tab, tabC, z1d, z19, z1b, z15, z1e, z1a, z1c, z13, z33, z34, z2w, z2x, z2y, z2z, z30, z31, z32, z36, z37, z38, z39, z3a, z1s, z1q, z1r, z0d, z3k, z3h] | refine DR_q _ ?_ | (refine Fk.fk ?_ ?_ <;> intro hg <;> (try simp only [hg]) <;> (try simp only [bunB, z1j, z14, z18, z1z, z3o, z1y] at hg) <;> try (exfalso; first | omega | exact Bool.noConfusion hg | exact hg trivial)) | refine And.intro (by omega) ?_ | omega
  refine z0m (fun i : Nat => ⟨[(0, .sl 11 (lowers.flatMap z1r)), (1, .fn 97 [] [.cp [I32 r]]), (7, I64 11), (8, I64 i)], []⟩) (fun i => i ≤ 11 ∧ ∀ j, j < i → z18 r (lowers.getD j z57) = false) (fun i => 11 - i) 0 (by simp) (by simp [wk, wkT, wkM, noF, isF, get, z0h, belowM, below, belows, I64, I32, Bv, U8, Sv] <;> try omega) ?_
  intro i ⟨hi, hno⟩
  repeat' first | refine z06 (lowF_spec _ _) ?_ ?_ | simp (maxSteps := 4000000) (disch := omega) only [bunL, bunD, bun, ↓z04, ↓z01, z02, findLabel, ↓reduceIte, imp, shift, z0b, z0a, unown, names, z07, below, noF, isF, z03, z09, z08, ren, givL, updM, z0c, renO, belowM, seval, -Int.reduceToNat, B3, B4, D25, B123, bunN, tab, tabC, z1d, z19, z1b, z15, z1e, z1a, z1c, z13, z33, z34, z2w, z2x, z2y, z2z, z30, z31, z32, z36, z37, z38, z39, z3a, z1s, z1q, z1r, z0d, z3k, z3h] | exact z0f _ | refine z0e _ _ ?_ | exact Cln.cl | refine z05 _ ?_ | refine z00 _ _ ?_ ?_ | refine DR_q _ ?_ | (refine Fk.fk ?_ ?_ <;> intro hg <;> (try simp only [hg]) <;> (try simp only [bunB, z1j, z14, z18, z1z, z3o, z1y] at hg) <;> try (exfalso; first | omega | exact Bool.noConfusion hg | exact hg trivial)) | refine And.intro (by omega) ?_ | omega
  · rw [zeg z7b hno (by omega) (by simp only [z18, Bool.and_eq_true, decide_eq_true_eq]; assumption)]
  · refine ⟨i + 1, ⟨by omega, z8p hno ?_⟩, by omega, (by simp [wk, wkT, wkM, noF, isF, get, z0h, belowM, below, belows, I64, I32, Bv, U8, Sv] <;> try omega)⟩
    simp only [z18, Bool.and_eq_false_iff, decide_eq_false_iff_not]; assumption
  · rw [zag z7b hno (by omega)]
theorem zw7 (r : Int) : Spec Tryz.prog 78 [tab, I32 r] (I32 (low r)) := by
  refine z0g (z := false) (ts := [.tmp 4]) ok1 Tryz.func78 rfl rfl (by decide +kernel) (by simp [Tryz.ntmps78]) rfl ?_
  by_cases hin : lowers.findIdx (z18 r) < 11
  · obtain ⟨h2, h3, h4⟩ := low_in hin
    have h5 := low_ok hin
    have h6 := ztb hin
    repeat' first | refine z06 (zmy _) ?_ ?_ | simp (maxSteps := 4000000) (disch := omega) only [bunL, bunD, bun, ↓z04, ↓z01, z02, findLabel, ↓reduceIte, imp, shift, z0b, z0a, unown, names, z07, below, noF, isF, z03, z09, z08, ren, givL, updM, z0c, renO, belowM, seval, -Int.reduceToNat, h6, D29, B123, bunN, tab, tabC, z1d, z19, z1b, z15, z1e, z1a, z1c, z13, z33, z34, z2w, z2x, z2y, z2z, z30, z31, z32, z36, z37, z38, z39, z3a, z1s, z1q, z1r, z0d, z3k, z3h] | exact z0f _ | refine z0e _ _ ?_ | exact Cln.cl | refine z05 _ ?_ | refine z00 _ _ ?_ ?_ | refine DR_q _ ?_ | (refine Fk.fk ?_ ?_ <;> intro hg <;> (try simp only [hg]) <;> (try simp only [bunB, z1j, z14, z18, z1z, z3o, z1y] at hg) <;> try (exfalso; first | omega | exact Bool.noConfusion hg | exact hg trivial)) | refine And.intro (by omega) ?_ | omega
    rw [h2]
  · have h6 := zkb hin
    repeat' first | refine z06 (zmy _) ?_ ?_ | simp (maxSteps := 4000000) (disch := omega) only [bunL, bunD, bun, ↓z04, ↓z01, z02, findLabel, ↓reduceIte, imp, shift, z0b, z0a, unown, names, z07, below, noF, isF, z03, z09, z08, ren, givL, updM, z0c, renO, belowM, seval, -Int.reduceToNat, h6, D29, B123, bunN, tab, tabC, z1d, z19, z1b, z15, z1e, z1a, z1c, z13, z33, z34, z2w, z2x, z2y, z2z, z30, z31, z32, z36, z37, z38, z39, z3a, z1s, z1q, z1r, z0d, z3k, z3h] | exact z0f _ | refine z0e _ _ ?_ | exact Cln.cl | refine z05 _ ?_ | refine z00 _ _ ?_ ?_ | refine DR_q _ ?_ | (refine Fk.fk ?_ ?_ <;> intro hg <;> (try simp only [hg]) <;> (try simp only [bunB, z1j, z14, z18, z1z, z3o, z1y] at hg) <;> try (exfalso; first | omega | exact Bool.noConfusion hg | exact hg trivial)) | refine And.intro (by omega) ?_ | omega
    rw [low_out hin]
theorem sM_all : sM 42 = splits.map fun s => (.int .i32 s.1, .ag (z0d s)) := rfl
theorem pM_all : pM 42 = (splits.filter fun s => !s.2.2.2.1 && !s.2.2.2.2).map fun s => (.agg #[.int .i32 s.2.1, .int .i32 s.2.2.1], .v (.int .i32 s.1)) := rfl
theorem sM_get (r : Int) : mget (.int .i32 r) (sM 42) = (splits.find? (z1z r)).map fun s => .ag (z0d s) := by
  rw [sM_all, zkk (fun s => .int .i32 s.1) (fun s => .ag (z0d s))]
  congr 2
  funext s
  simp only [eqK, eq1, z1z, Bool.beq_eq_decide_eq]
  rw [Bool.eq_iff_iff]; simp only [beq_iff_eq, decide_eq_true_eq]; exact eq_comm
theorem pM_get (a b : Int) : mget (.agg #[.int .i32 a, .int .i32 b]) (pM 42) = (splits.find? (z3o a b)).map fun s => .v (.int .i32 s.1) := by
  rw [pM_all, zkk (fun s : SplitT => .agg #[.int .i32 s.2.1, .int .i32 s.2.2.1]) (fun s => .v (.int .i32 s.1)), List.find?_filter]
  congr 2
  funext s
  simp only [eqK, eqs, eq1, z3o, Bool.and_true]
  rw [Bool.eq_iff_iff]; simp only [Bool.and_eq_true, beq_iff_eq, Bool.not_eq_true', decide_eq_true_eq]
  constructor
  · rintro ⟨⟨h1, h2⟩, h3, h4⟩; exact ⟨⟨⟨h1, h2⟩, h3.symm⟩, h4.symm⟩
  · rintro ⟨⟨⟨h1, h2⟩, h3⟩, h4⟩; exact ⟨⟨h1, h2⟩, h3.symm, h4.symm⟩
theorem z95 (r : Int) : Spec Tryz.prog 61 [tab, I32 r] (.tup [.ag (z0d (spl r).1), Bv (spl r).2]) := by
  refine z0g (z := false) (ts := [.cell 4 52, .tmp 5]) ok1 Tryz.func61 rfl rfl (by decide +kernel) (by simp [Tryz.ntmps61]) rfl ?_
  cases hf : splits.find? (z1z r) with
  | none =>
    repeat' first | simp (maxSteps := 4000000) (disch := omega) only [bunL, bunD, bun, ↓z04, ↓z01, z02, findLabel, ↓reduceIte, imp, shift, z0b, z0a, unown, names, z07, below, noF, isF, z03, z09, z08, ren, givL, updM, z0c, renO, belowM, seval, -Int.reduceToNat, sM_get, hf, Option.map_none, D29, bunN, tab, tabC, z1d, z19, z1b, z15, z1e, z1a, z1c, z13, z33, z34, z2w, z2x, z2y, z2z, z30, z31, z32, z36, z37, z38, z39, z3a, z1s, z1q, z1r, z0d, z3k, z3h] | refine DR_q _ ?_ | (refine Fk.fk ?_ ?_ <;> intro hg <;> (try simp only [hg]) <;> (try simp only [bunB, z1j, z14, z18, z1z, z3o, z1y] at hg) <;> try (exfalso; first | omega | exact Bool.noConfusion hg | exact hg trivial)) | refine And.intro (by omega) ?_ | omega
    · have : wide r = true := by simp only [wide, Bool.and_eq_true, decide_eq_true_eq]; omega
      simp only [spl, this]; try rfl
    all_goals
      have : wide r = false := by simp only [wide, Bool.and_eq_false_iff, decide_eq_false_iff_not]; omega
      simp only [spl, this, hf]; try rfl
  | some x =>
    repeat' first | simp (maxSteps := 4000000) (disch := omega) only [bunL, bunD, bun, ↓z04, ↓z01, z02, findLabel, ↓reduceIte, imp, shift, z0b, z0a, unown, names, z07, below, noF, isF, z03, z09, z08, ren, givL, updM, z0c, renO, belowM, seval, -Int.reduceToNat, sM_get, hf, Option.map_some, D29, bunN, tab, tabC, z1d, z19, z1b, z15, z1e, z1a, z1c, z13, z33, z34, z2w, z2x, z2y, z2z, z30, z31, z32, z36, z37, z38, z39, z3a, z1s, z1q, z1r, z0d, z3k, z3h] | refine DR_q _ ?_ | (refine Fk.fk ?_ ?_ <;> intro hg <;> (try simp only [hg]) <;> (try simp only [bunB, z1j, z14, z18, z1z, z3o, z1y] at hg) <;> try (exfalso; first | omega | exact Bool.noConfusion hg | exact hg trivial)) | refine And.intro (by omega) ?_ | omega
    · have : wide r = true := by simp only [wide, Bool.and_eq_true, decide_eq_true_eq]; omega
      simp only [spl, this]; try rfl
    all_goals
      have : wide r = false := by simp only [wide, Bool.and_eq_false_iff, decide_eq_false_iff_not]; omega
      simp only [spl, this, hf]; try rfl
theorem pair_spec (a b : Int) : Spec Tryz.prog 118 [tab, I32 a, I32 b] (.tup [I32 (pr a b).1, Bv (pr a b).2]) := by
  refine z0g (z := false) (ts := [.tmp 6, .tmp 7]) ok1 Tryz.func118 rfl rfl (by decide +kernel) (by simp [Tryz.ntmps118]) rfl ?_
  cases hf : splits.find? (z3o a b) with
  | none =>
    repeat' first | simp (maxSteps := 4000000) (disch := omega) only [bunL, bunD, bun, ↓z04, ↓z01, z02, findLabel, ↓reduceIte, imp, shift, z0b, z0a, unown, names, z07, below, noF, isF, z03, z09, z08, ren, givL, updM, z0c, renO, belowM, seval, -Int.reduceToNat, pM_get, hf, Option.map_none, D29, bunN, tab, tabC, z1d, z19, z1b, z15, z1e, z1a, z1c, z13, z33, z34, z2w, z2x, z2y, z2z, z30, z31, z32, z36, z37, z38, z39, z3a, z1s, z1q, z1r, z0d, z3k, z3h] | refine DR_q _ ?_ | (refine Fk.fk ?_ ?_ <;> intro hg <;> (try simp only [hg]) <;> (try simp only [bunB, z1j, z14, z18, z1z, z3o, z1y] at hg) <;> try (exfalso; first | omega | exact Bool.noConfusion hg | exact hg trivial)) | refine And.intro (by omega) ?_ | omega
    all_goals (simp only [pr, hf]; try rfl)
  | some x =>
    repeat' first | simp (maxSteps := 4000000) (disch := omega) only [bunL, bunD, bun, ↓z04, ↓z01, z02, findLabel, ↓reduceIte, imp, shift, z0b, z0a, unown, names, z07, below, noF, isF, z03, z09, z08, ren, givL, updM, z0c, renO, belowM, seval, -Int.reduceToNat, pM_get, hf, Option.map_some, D29, bunN, tab, tabC, z1d, z19, z1b, z15, z1e, z1a, z1c, z13, z33, z34, z2w, z2x, z2y, z2z, z30, z31, z32, z36, z37, z38, z39, z3a, z1s, z1q, z1r, z0d, z3k, z3h] | refine DR_q _ ?_ | (refine Fk.fk ?_ ?_ <;> intro hg <;> (try simp only [hg]) <;> (try simp only [bunB, z1j, z14, z18, z1z, z3o, z1y] at hg) <;> try (exfalso; first | omega | exact Bool.noConfusion hg | exact hg trivial)) | refine And.intro (by omega) ?_ | omega
    all_goals (simp only [pr, hf]; try rfl)
end Go.AE
end
section
namespace Go.AE
open Go.Proofs
set_option maxRecDepth 20000
set_option linter.unusedSimpArgs false
theorem pair_zero (a : Int) : splits.find? (z3o a 0) = none := by
  rw [List.find?_eq_none]
  intro x hx
  have : (splits.all fun x => !(!x.2.2.2.1 && !x.2.2.2.2 && (x.2.2.1 == 0))) = true := by decide +kernel
  have := List.all_eq_true.1 this x hx
  simp only [Bool.not_eq_true', Bool.and_eq_false_iff] at this
  simp only [z3o, Bool.and_eq_true]
  rintro ⟨⟨h1, _⟩, h2⟩
  rcases this with h | h
  · rcases h with h | h <;> simp_all
  · rw [h] at h2; simp at h2
end Go.AE
end
