/- Contracts of functions that the laws of this seat reach, and plain laws of what they compute. No condition beyond each statement's own. -/
import Derived.Test.YtekgeapohenheaaGreatAEBun
import Derived.Test.YtekgeapohenheaaGreatProg
import Derived.Test.YtekgeapohenheaaGreatU1
set_option linter.unusedVariables false
set_option linter.unusedSimpArgs false
section
/- What is known of the types of this seat's program. -/
namespace Go.AE
open Go.Proofs
set_option maxRecDepth 20000
def T3 : TI := ⟨TypeDesc.int IntKind.i64, 1, 8, Value.int IntKind.i64 0⟩
def T4 : TI := ⟨TypeDesc.bool, 1, 1, Value.bool false⟩
def T5 : TI := ⟨TypeDesc.int IntKind.u8, 1, 1, Value.int IntKind.u8 0⟩
def T9 : TI := ⟨TypeDesc.string, 1, 16, Value.string { data := #[] }⟩
def T21 : TI := ⟨TypeDesc.int IntKind.i32, 1, 4, Value.int IntKind.i32 0⟩
def T23 : TI := ⟨TypeDesc.slice 72, 1, 24, Value.slice none 0 0⟩
def T24 : TI := ⟨TypeDesc.slice 74, 1, 24, Value.slice none 0 0⟩
def T25 : TI := ⟨TypeDesc.slice 76, 1, 24, Value.slice none 0 0⟩
def T26 : TI := ⟨TypeDesc.map 21 48, 1, 8, Value.map none⟩
def T27 : TI := ⟨TypeDesc.map 50 21, 1, 8, Value.map none⟩
def T29 : TI := ⟨TypeDesc.struct #[⟨"ranges", 23, 0, false, "", "pillarbox/ucd", 0⟩, ⟨"classes", 24, 1, false, "", "pillarbox/ucd", 24⟩, ⟨"lowers", 25, 2, false, "", "pillarbox/ucd", 48⟩, ⟨"splits", 26, 3, false, "", "pillarbox/ucd", 72⟩, ⟨"pairs", 27, 4, false, "", "pillarbox/ucd", 80⟩], 5, 88, Value.agg #[Value.slice none 0 0, Value.slice none 0 0, Value.slice none 0 0, Value.map none, Value.map none]⟩
def T31 : TI := ⟨TypeDesc.int IntKind.i64, 1, 8, Value.int IntKind.i64 0⟩
def T38 : TI := ⟨TypeDesc.func #[21] #[4] false, 1, 8, Value.nilFunc⟩
def T45 : TI := ⟨TypeDesc.slice 48, 1, 24, Value.slice none 0 0⟩
def T48 : TI := ⟨TypeDesc.struct #[⟨"Rune", 21, 0, false, "", "", 0⟩, ⟨"One", 21, 1, false, "", "", 4⟩, ⟨"Two", 21, 2, false, "", "", 8⟩, ⟨"Soft", 4, 3, false, "", "", 12⟩, ⟨"Out", 4, 4, false, "", "", 13⟩], 5, 16, Value.agg #[Value.int IntKind.i32 0, Value.int IntKind.i32 0, Value.int IntKind.i32 0, Value.bool false, Value.bool false]⟩
def T50 : TI := ⟨TypeDesc.struct #[⟨"one", 21, 0, false, "", "pillarbox/ucd", 0⟩, ⟨"two", 21, 1, false, "", "pillarbox/ucd", 4⟩], 2, 8, Value.agg #[Value.int IntKind.i32 0, Value.int IntKind.i32 0]⟩
def T53 : TI := ⟨TypeDesc.slice 21, 1, 24, Value.slice none 0 0⟩
def T60 : TI := ⟨TypeDesc.func #[3] #[4] false, 1, 8, Value.nilFunc⟩
def T72 : TI := ⟨TypeDesc.struct #[⟨"Lo", 21, 0, false, "", "", 0⟩, ⟨"Hi", 21, 1, false, "", "", 4⟩, ⟨"Cat", 3, 2, false, "", "", 8⟩, ⟨"Bidi", 3, 3, false, "", "", 16⟩, ⟨"Join", 3, 4, false, "", "", 24⟩, ⟨"Script", 3, 5, false, "", "", 32⟩], 6, 40, Value.agg #[Value.int IntKind.i32 0, Value.int IntKind.i32 0, Value.int IntKind.i64 0, Value.int IntKind.i64 0, Value.int IntKind.i64 0, Value.int IntKind.i64 0]⟩
def T74 : TI := ⟨TypeDesc.struct #[⟨"Lo", 21, 0, false, "", "", 0⟩, ⟨"Hi", 21, 1, false, "", "", 4⟩, ⟨"Class", 3, 2, false, "", "", 8⟩, ⟨"Step", 3, 3, false, "", "", 16⟩], 4, 24, Value.agg #[Value.int IntKind.i32 0, Value.int IntKind.i32 0, Value.int IntKind.i64 0, Value.int IntKind.i64 0]⟩
def T76 : TI := ⟨TypeDesc.struct #[⟨"Lo", 21, 0, false, "", "", 0⟩, ⟨"Hi", 21, 1, false, "", "", 4⟩, ⟨"By", 21, 2, false, "", "", 8⟩], 3, 12, Value.agg #[Value.int IntKind.i32 0, Value.int IntKind.i32 0, Value.int IntKind.i32 0]⟩
def T80 : TI := ⟨TypeDesc.int IntKind.u64, 1, 8, Value.int IntKind.u64 0⟩
def T82 : TI := ⟨TypeDesc.array 8 3, 8, 64, Value.agg #[Value.int IntKind.i64 0, Value.int IntKind.i64 0, Value.int IntKind.i64 0, Value.int IntKind.i64 0, Value.int IntKind.i64 0, Value.int IntKind.i64 0, Value.int IntKind.i64 0, Value.int IntKind.i64 0]⟩
def T90 : TI := ⟨TypeDesc.func #[93] #[4] false, 1, 8, Value.nilFunc⟩
def T93 : TI := ⟨TypeDesc.struct #[⟨"t", 29, 0, false, "", "pillarbox/context", 0⟩, ⟨"l", 53, 5, false, "", "pillarbox/context", 88⟩, ⟨"at", 3, 6, false, "", "pillarbox/context", 112⟩], 7, 120, Value.agg #[Value.slice none 0 0, Value.slice none 0 0, Value.slice none 0 0, Value.map none, Value.map none, Value.slice none 0 0, Value.int IntKind.i64 0]⟩
def T100 : TI := ⟨TypeDesc.slice 5, 1, 24, Value.slice none 0 0⟩
def T105 : TI := ⟨TypeDesc.func #[21] #[21] false, 1, 8, Value.nilFunc⟩
def T107 : TI := ⟨TypeDesc.struct #[⟨"Table", 29, 0, true, "", "", 0⟩], 5, 88, Value.agg #[Value.slice none 0 0, Value.slice none 0 0, Value.slice none 0 0, Value.map none, Value.map none]⟩
def T109 : TI := ⟨TypeDesc.func #[128] #[] false, 1, 8, Value.nilFunc⟩
def T110 : TI := ⟨TypeDesc.func #[128] #[] false, 1, 8, Value.nilFunc⟩
def T115 : TI := ⟨TypeDesc.map 21 90, 1, 8, Value.map none⟩
def T121 : TI := ⟨TypeDesc.func #[72, 21] #[3] false, 1, 8, Value.nilFunc⟩
def T126 : TI := ⟨TypeDesc.func #[76] #[4] false, 1, 8, Value.nilFunc⟩
def T128 : TI := ⟨TypeDesc.func #[3, 21] #[4] false, 1, 8, Value.nilFunc⟩
def T134 : TI := ⟨TypeDesc.func #[21, 21] #[3] false, 1, 8, Value.nilFunc⟩
def T140 : TI := ⟨TypeDesc.func #[74] #[4] false, 1, 8, Value.nilFunc⟩
def T147 : TI := ⟨TypeDesc.slice 53, 1, 24, Value.slice none 0 0⟩
def C1 : Ctx := { flat := [48, 50, 72, 74, 76], ty := [(3, T3),
  (4, T4),
  (5, T5),
  (9, T9),
  (21, T21),
  (23, T23),
  (24, T24),
  (25, T25),
  (26, T26),
  (27, T27),
  (29, T29),
  (31, T31),
  (38, T38),
  (45, T45),
  (48, T48),
  (50, T50),
  (53, T53),
  (60, T60),
  (72, T72),
  (74, T74),
  (76, T76),
  (80, T80),
  (82, T82),
  (90, T90),
  (93, T93),
  (100, T100),
  (105, T105),
  (107, T107),
  (109, T109),
  (110, T110),
  (115, T115),
  (121, T121),
  (126, T126),
  (128, T128),
  (134, T134),
  (140, T140),
  (147, T147)] }
def Good (t : Nat) (i : TI) : Prop := Tryz.prog.underlying t = some i.d ∧ ∃ j, Tryz.prog.info? t = some j ∧ j.size = i.size ∧ j.bytes = i.bytes ∧ j.zero = some i.zero ∧ i.zero.cells.size = i.size
theorem ty1 (t : Nat) (d : TypeDesc) (sz b : Nat) (z : Value) (h0 : z.cells.size = sz) (h1 : Tryz.prog.underlying t = some d) (h2 : (Tryz.prog.info? t).map (fun j => (j.size, j.bytes, j.zero)) = some (sz, b, some z)) : Good t ⟨d, sz, b, z⟩ := by
  refine ⟨h1, ?_⟩
  cases e : Tryz.prog.info? t with
  | none => rw [e] at h2; simp at h2
  | some j => rw [e] at h2; simp at h2; exact ⟨j, rfl, h2.1, h2.2.1, h2.2.2, h0⟩
theorem findTy_mem : ∀ (l : List (Nat × TI)) (t : Nat) (i : TI), findTy l t = some i → (t, i) ∈ l
  | [], t, i, h => by simp [findTy] at h
  | (k, x) :: l, t, i, h => by
    simp only [findTy] at h
    split at h
    · rename_i e; subst e; simp at h; subst h; exact List.mem_cons_self ..
    · exact List.mem_cons_of_mem _ (findTy_mem l t i h)
theorem good3 : Good 3 T3 := ty1 _ _ _ _ _ rfl (by kernel_rfl) (by kernel_rfl)
theorem good4 : Good 4 T4 := ty1 _ _ _ _ _ rfl (by kernel_rfl) (by kernel_rfl)
theorem good5 : Good 5 T5 := ty1 _ _ _ _ _ rfl (by kernel_rfl) (by kernel_rfl)
theorem good9 : Good 9 T9 := ty1 _ _ _ _ _ rfl (by kernel_rfl) (by kernel_rfl)
theorem good21 : Good 21 T21 := ty1 _ _ _ _ _ rfl (by kernel_rfl) (by kernel_rfl)
theorem good23 : Good 23 T23 := ty1 _ _ _ _ _ rfl (by kernel_rfl) (by kernel_rfl)
theorem good24 : Good 24 T24 := ty1 _ _ _ _ _ rfl (by kernel_rfl) (by kernel_rfl)
theorem good25 : Good 25 T25 := ty1 _ _ _ _ _ rfl (by kernel_rfl) (by kernel_rfl)
theorem good26 : Good 26 T26 := ty1 _ _ _ _ _ rfl (by kernel_rfl) (by kernel_rfl)
theorem good27 : Good 27 T27 := ty1 _ _ _ _ _ rfl (by kernel_rfl) (by kernel_rfl)
theorem good29 : Good 29 T29 := ty1 _ _ _ _ _ rfl (by kernel_rfl) (by kernel_rfl)
theorem good31 : Good 31 T31 := ty1 _ _ _ _ _ rfl (by kernel_rfl) (by kernel_rfl)
theorem good38 : Good 38 T38 := ty1 _ _ _ _ _ rfl (by kernel_rfl) (by kernel_rfl)
theorem good45 : Good 45 T45 := ty1 _ _ _ _ _ rfl (by kernel_rfl) (by kernel_rfl)
theorem good48 : Good 48 T48 := ty1 _ _ _ _ _ rfl (by kernel_rfl) (by kernel_rfl)
theorem good50 : Good 50 T50 := ty1 _ _ _ _ _ rfl (by kernel_rfl) (by kernel_rfl)
theorem good53 : Good 53 T53 := ty1 _ _ _ _ _ rfl (by kernel_rfl) (by kernel_rfl)
theorem good60 : Good 60 T60 := ty1 _ _ _ _ _ rfl (by kernel_rfl) (by kernel_rfl)
theorem good72 : Good 72 T72 := ty1 _ _ _ _ _ rfl (by kernel_rfl) (by kernel_rfl)
theorem good74 : Good 74 T74 := ty1 _ _ _ _ _ rfl (by kernel_rfl) (by kernel_rfl)
theorem good76 : Good 76 T76 := ty1 _ _ _ _ _ rfl (by kernel_rfl) (by kernel_rfl)
theorem good80 : Good 80 T80 := ty1 _ _ _ _ _ rfl (by kernel_rfl) (by kernel_rfl)
theorem good82 : Good 82 T82 := ty1 _ _ _ _ _ rfl (by kernel_rfl) (by kernel_rfl)
theorem good90 : Good 90 T90 := ty1 _ _ _ _ _ rfl (by kernel_rfl) (by kernel_rfl)
theorem good93 : Good 93 T93 := ty1 _ _ _ _ _ rfl (by kernel_rfl) (by kernel_rfl)
theorem good100 : Good 100 T100 := ty1 _ _ _ _ _ rfl (by kernel_rfl) (by kernel_rfl)
theorem good105 : Good 105 T105 := ty1 _ _ _ _ _ rfl (by kernel_rfl) (by kernel_rfl)
theorem good107 : Good 107 T107 := ty1 _ _ _ _ _ rfl (by kernel_rfl) (by kernel_rfl)
theorem good109 : Good 109 T109 := ty1 _ _ _ _ _ rfl (by kernel_rfl) (by kernel_rfl)
theorem good110 : Good 110 T110 := ty1 _ _ _ _ _ rfl (by kernel_rfl) (by kernel_rfl)
theorem good115 : Good 115 T115 := ty1 _ _ _ _ _ rfl (by kernel_rfl) (by kernel_rfl)
theorem good121 : Good 121 T121 := ty1 _ _ _ _ _ rfl (by kernel_rfl) (by kernel_rfl)
theorem good126 : Good 126 T126 := ty1 _ _ _ _ _ rfl (by kernel_rfl) (by kernel_rfl)
theorem good128 : Good 128 T128 := ty1 _ _ _ _ _ rfl (by kernel_rfl) (by kernel_rfl)
theorem good134 : Good 134 T134 := ty1 _ _ _ _ _ rfl (by kernel_rfl) (by kernel_rfl)
theorem good140 : Good 140 T140 := ty1 _ _ _ _ _ rfl (by kernel_rfl) (by kernel_rfl)
theorem good147 : Good 147 T147 := ty1 _ _ _ _ _ rfl (by kernel_rfl) (by kernel_rfl)
theorem goods : ∀ p ∈ C1.ty, Good p.1 p.2 := (List.forall_mem_cons.2 ⟨good3, (List.forall_mem_cons.2 ⟨good4, (List.forall_mem_cons.2 ⟨good5, (List.forall_mem_cons.2 ⟨good9, (List.forall_mem_cons.2 ⟨good21, (List.forall_mem_cons.2 ⟨good23, (List.forall_mem_cons.2 ⟨good24, (List.forall_mem_cons.2 ⟨good25, (List.forall_mem_cons.2 ⟨good26, (List.forall_mem_cons.2 ⟨good27, (List.forall_mem_cons.2 ⟨good29, (List.forall_mem_cons.2 ⟨good31, (List.forall_mem_cons.2 ⟨good38, (List.forall_mem_cons.2 ⟨good45, (List.forall_mem_cons.2 ⟨good48, (List.forall_mem_cons.2 ⟨good50, (List.forall_mem_cons.2 ⟨good53, (List.forall_mem_cons.2 ⟨good60, (List.forall_mem_cons.2 ⟨good72, (List.forall_mem_cons.2 ⟨good74, (List.forall_mem_cons.2 ⟨good76, (List.forall_mem_cons.2 ⟨good80, (List.forall_mem_cons.2 ⟨good82, (List.forall_mem_cons.2 ⟨good90, (List.forall_mem_cons.2 ⟨good93, (List.forall_mem_cons.2 ⟨good100, (List.forall_mem_cons.2 ⟨good105, (List.forall_mem_cons.2 ⟨good107, (List.forall_mem_cons.2 ⟨good109, (List.forall_mem_cons.2 ⟨good110, (List.forall_mem_cons.2 ⟨good115, (List.forall_mem_cons.2 ⟨good121, (List.forall_mem_cons.2 ⟨good126, (List.forall_mem_cons.2 ⟨good128, (List.forall_mem_cons.2 ⟨good134, (List.forall_mem_cons.2 ⟨good140, (List.forall_mem_cons.2 ⟨good147, (List.forall_mem_nil _)⟩)⟩)⟩)⟩)⟩)⟩)⟩)⟩)⟩)⟩)⟩)⟩)⟩)⟩)⟩)⟩)⟩)⟩)⟩)⟩)⟩)⟩)⟩)⟩)⟩)⟩)⟩)⟩)⟩)⟩)⟩)⟩)⟩)⟩)⟩)⟩)⟩)
theorem flats : ∀ t ∈ C1.flat, Tryz.prog.stoodInHeld t = false ∧ Tryz.prog.eqGuardType Tryz.prog.depth t = false := (List.forall_mem_cons.2 ⟨⟨by decide +kernel, by decide +kernel⟩, (List.forall_mem_cons.2 ⟨⟨by decide +kernel, by decide +kernel⟩, (List.forall_mem_cons.2 ⟨⟨by decide +kernel, by decide +kernel⟩, (List.forall_mem_cons.2 ⟨⟨by decide +kernel, by decide +kernel⟩, (List.forall_mem_cons.2 ⟨⟨by decide +kernel, by decide +kernel⟩, (List.forall_mem_nil _)⟩)⟩)⟩)⟩)⟩)
theorem ok1 : C1.Ok Tryz.prog where
  mixed := by decide +kernel
  flat := flats
  ty := fun t i h => goods (t, i) (findTy_mem _ _ _ h)
theorem C1_ti3 : C1.ti 3 = some ⟨TypeDesc.int IntKind.i64, 1, 8, Value.int IntKind.i64 0⟩ := rfl
theorem C1_td3 : C1.td 3 = some (TypeDesc.int IntKind.i64) := rfl
theorem C1_ti4 : C1.ti 4 = some ⟨TypeDesc.bool, 1, 1, Value.bool false⟩ := rfl
theorem C1_td4 : C1.td 4 = some (TypeDesc.bool) := rfl
theorem C1_ti5 : C1.ti 5 = some ⟨TypeDesc.int IntKind.u8, 1, 1, Value.int IntKind.u8 0⟩ := rfl
theorem C1_td5 : C1.td 5 = some (TypeDesc.int IntKind.u8) := rfl
theorem C1_ti9 : C1.ti 9 = some ⟨TypeDesc.string, 1, 16, Value.string { data := #[] }⟩ := rfl
theorem C1_td9 : C1.td 9 = some (TypeDesc.string) := rfl
theorem C1_ti21 : C1.ti 21 = some ⟨TypeDesc.int IntKind.i32, 1, 4, Value.int IntKind.i32 0⟩ := rfl
theorem C1_td21 : C1.td 21 = some (TypeDesc.int IntKind.i32) := rfl
theorem C1_ti23 : C1.ti 23 = some ⟨TypeDesc.slice 72, 1, 24, Value.slice none 0 0⟩ := rfl
theorem C1_td23 : C1.td 23 = some (TypeDesc.slice 72) := rfl
theorem C1_ti24 : C1.ti 24 = some ⟨TypeDesc.slice 74, 1, 24, Value.slice none 0 0⟩ := rfl
theorem C1_td24 : C1.td 24 = some (TypeDesc.slice 74) := rfl
theorem C1_ti25 : C1.ti 25 = some ⟨TypeDesc.slice 76, 1, 24, Value.slice none 0 0⟩ := rfl
theorem C1_td25 : C1.td 25 = some (TypeDesc.slice 76) := rfl
theorem C1_ti26 : C1.ti 26 = some ⟨TypeDesc.map 21 48, 1, 8, Value.map none⟩ := rfl
theorem C1_td26 : C1.td 26 = some (TypeDesc.map 21 48) := rfl
theorem C1_ti27 : C1.ti 27 = some ⟨TypeDesc.map 50 21, 1, 8, Value.map none⟩ := rfl
theorem C1_td27 : C1.td 27 = some (TypeDesc.map 50 21) := rfl
theorem C1_ti29 : C1.ti 29 = some ⟨TypeDesc.struct #[⟨"ranges", 23, 0, false, "", "pillarbox/ucd", 0⟩, ⟨"classes", 24, 1, false, "", "pillarbox/ucd", 24⟩, ⟨"lowers", 25, 2, false, "", "pillarbox/ucd", 48⟩, ⟨"splits", 26, 3, false, "", "pillarbox/ucd", 72⟩, ⟨"pairs", 27, 4, false, "", "pillarbox/ucd", 80⟩], 5, 88, Value.agg #[Value.slice none 0 0, Value.slice none 0 0, Value.slice none 0 0, Value.map none, Value.map none]⟩ := rfl
theorem C1_td29 : C1.td 29 = some (TypeDesc.struct #[⟨"ranges", 23, 0, false, "", "pillarbox/ucd", 0⟩, ⟨"classes", 24, 1, false, "", "pillarbox/ucd", 24⟩, ⟨"lowers", 25, 2, false, "", "pillarbox/ucd", 48⟩, ⟨"splits", 26, 3, false, "", "pillarbox/ucd", 72⟩, ⟨"pairs", 27, 4, false, "", "pillarbox/ucd", 80⟩]) := rfl
theorem C1_fld29_0 : C1.fld 29 0 = some (0, ⟨TypeDesc.slice 72, 1, 24, Value.slice none 0 0⟩) := rfl
theorem C1_fld29_1 : C1.fld 29 1 = some (1, ⟨TypeDesc.slice 74, 1, 24, Value.slice none 0 0⟩) := rfl
theorem C1_fld29_2 : C1.fld 29 2 = some (2, ⟨TypeDesc.slice 76, 1, 24, Value.slice none 0 0⟩) := rfl
theorem C1_fld29_3 : C1.fld 29 3 = some (3, ⟨TypeDesc.map 21 48, 1, 8, Value.map none⟩) := rfl
theorem C1_fld29_4 : C1.fld 29 4 = some (4, ⟨TypeDesc.map 50 21, 1, 8, Value.map none⟩) := rfl
theorem C1_ti31 : C1.ti 31 = some ⟨TypeDesc.int IntKind.i64, 1, 8, Value.int IntKind.i64 0⟩ := rfl
theorem C1_td31 : C1.td 31 = some (TypeDesc.int IntKind.i64) := rfl
theorem C1_ti38 : C1.ti 38 = some ⟨TypeDesc.func #[21] #[4] false, 1, 8, Value.nilFunc⟩ := rfl
theorem C1_td38 : C1.td 38 = some (TypeDesc.func #[21] #[4] false) := rfl
theorem C1_ti45 : C1.ti 45 = some ⟨TypeDesc.slice 48, 1, 24, Value.slice none 0 0⟩ := rfl
theorem C1_td45 : C1.td 45 = some (TypeDesc.slice 48) := rfl
theorem C1_ti48 : C1.ti 48 = some ⟨TypeDesc.struct #[⟨"Rune", 21, 0, false, "", "", 0⟩, ⟨"One", 21, 1, false, "", "", 4⟩, ⟨"Two", 21, 2, false, "", "", 8⟩, ⟨"Soft", 4, 3, false, "", "", 12⟩, ⟨"Out", 4, 4, false, "", "", 13⟩], 5, 16, Value.agg #[Value.int IntKind.i32 0, Value.int IntKind.i32 0, Value.int IntKind.i32 0, Value.bool false, Value.bool false]⟩ := rfl
theorem C1_td48 : C1.td 48 = some (TypeDesc.struct #[⟨"Rune", 21, 0, false, "", "", 0⟩, ⟨"One", 21, 1, false, "", "", 4⟩, ⟨"Two", 21, 2, false, "", "", 8⟩, ⟨"Soft", 4, 3, false, "", "", 12⟩, ⟨"Out", 4, 4, false, "", "", 13⟩]) := rfl
theorem C1_fld48_0 : C1.fld 48 0 = some (0, ⟨TypeDesc.int IntKind.i32, 1, 4, Value.int IntKind.i32 0⟩) := rfl
theorem C1_fld48_1 : C1.fld 48 1 = some (1, ⟨TypeDesc.int IntKind.i32, 1, 4, Value.int IntKind.i32 0⟩) := rfl
theorem C1_fld48_2 : C1.fld 48 2 = some (2, ⟨TypeDesc.int IntKind.i32, 1, 4, Value.int IntKind.i32 0⟩) := rfl
theorem C1_fld48_3 : C1.fld 48 3 = some (3, ⟨TypeDesc.bool, 1, 1, Value.bool false⟩) := rfl
theorem C1_fld48_4 : C1.fld 48 4 = some (4, ⟨TypeDesc.bool, 1, 1, Value.bool false⟩) := rfl
theorem C1_ti50 : C1.ti 50 = some ⟨TypeDesc.struct #[⟨"one", 21, 0, false, "", "pillarbox/ucd", 0⟩, ⟨"two", 21, 1, false, "", "pillarbox/ucd", 4⟩], 2, 8, Value.agg #[Value.int IntKind.i32 0, Value.int IntKind.i32 0]⟩ := rfl
theorem C1_td50 : C1.td 50 = some (TypeDesc.struct #[⟨"one", 21, 0, false, "", "pillarbox/ucd", 0⟩, ⟨"two", 21, 1, false, "", "pillarbox/ucd", 4⟩]) := rfl
theorem C1_fld50_0 : C1.fld 50 0 = some (0, ⟨TypeDesc.int IntKind.i32, 1, 4, Value.int IntKind.i32 0⟩) := rfl
theorem C1_fld50_1 : C1.fld 50 1 = some (1, ⟨TypeDesc.int IntKind.i32, 1, 4, Value.int IntKind.i32 0⟩) := rfl
theorem C1_ti53 : C1.ti 53 = some ⟨TypeDesc.slice 21, 1, 24, Value.slice none 0 0⟩ := rfl
theorem C1_td53 : C1.td 53 = some (TypeDesc.slice 21) := rfl
theorem C1_ti60 : C1.ti 60 = some ⟨TypeDesc.func #[3] #[4] false, 1, 8, Value.nilFunc⟩ := rfl
theorem C1_td60 : C1.td 60 = some (TypeDesc.func #[3] #[4] false) := rfl
theorem C1_ti72 : C1.ti 72 = some ⟨TypeDesc.struct #[⟨"Lo", 21, 0, false, "", "", 0⟩, ⟨"Hi", 21, 1, false, "", "", 4⟩, ⟨"Cat", 3, 2, false, "", "", 8⟩, ⟨"Bidi", 3, 3, false, "", "", 16⟩, ⟨"Join", 3, 4, false, "", "", 24⟩, ⟨"Script", 3, 5, false, "", "", 32⟩], 6, 40, Value.agg #[Value.int IntKind.i32 0, Value.int IntKind.i32 0, Value.int IntKind.i64 0, Value.int IntKind.i64 0, Value.int IntKind.i64 0, Value.int IntKind.i64 0]⟩ := rfl
theorem C1_td72 : C1.td 72 = some (TypeDesc.struct #[⟨"Lo", 21, 0, false, "", "", 0⟩, ⟨"Hi", 21, 1, false, "", "", 4⟩, ⟨"Cat", 3, 2, false, "", "", 8⟩, ⟨"Bidi", 3, 3, false, "", "", 16⟩, ⟨"Join", 3, 4, false, "", "", 24⟩, ⟨"Script", 3, 5, false, "", "", 32⟩]) := rfl
theorem C1_fld72_0 : C1.fld 72 0 = some (0, ⟨TypeDesc.int IntKind.i32, 1, 4, Value.int IntKind.i32 0⟩) := rfl
theorem C1_fld72_1 : C1.fld 72 1 = some (1, ⟨TypeDesc.int IntKind.i32, 1, 4, Value.int IntKind.i32 0⟩) := rfl
theorem C1_fld72_2 : C1.fld 72 2 = some (2, ⟨TypeDesc.int IntKind.i64, 1, 8, Value.int IntKind.i64 0⟩) := rfl
theorem C1_fld72_3 : C1.fld 72 3 = some (3, ⟨TypeDesc.int IntKind.i64, 1, 8, Value.int IntKind.i64 0⟩) := rfl
theorem C1_fld72_4 : C1.fld 72 4 = some (4, ⟨TypeDesc.int IntKind.i64, 1, 8, Value.int IntKind.i64 0⟩) := rfl
theorem C1_fld72_5 : C1.fld 72 5 = some (5, ⟨TypeDesc.int IntKind.i64, 1, 8, Value.int IntKind.i64 0⟩) := rfl
theorem C1_ti74 : C1.ti 74 = some ⟨TypeDesc.struct #[⟨"Lo", 21, 0, false, "", "", 0⟩, ⟨"Hi", 21, 1, false, "", "", 4⟩, ⟨"Class", 3, 2, false, "", "", 8⟩, ⟨"Step", 3, 3, false, "", "", 16⟩], 4, 24, Value.agg #[Value.int IntKind.i32 0, Value.int IntKind.i32 0, Value.int IntKind.i64 0, Value.int IntKind.i64 0]⟩ := rfl
theorem C1_td74 : C1.td 74 = some (TypeDesc.struct #[⟨"Lo", 21, 0, false, "", "", 0⟩, ⟨"Hi", 21, 1, false, "", "", 4⟩, ⟨"Class", 3, 2, false, "", "", 8⟩, ⟨"Step", 3, 3, false, "", "", 16⟩]) := rfl
theorem C1_fld74_0 : C1.fld 74 0 = some (0, ⟨TypeDesc.int IntKind.i32, 1, 4, Value.int IntKind.i32 0⟩) := rfl
theorem C1_fld74_1 : C1.fld 74 1 = some (1, ⟨TypeDesc.int IntKind.i32, 1, 4, Value.int IntKind.i32 0⟩) := rfl
theorem C1_fld74_2 : C1.fld 74 2 = some (2, ⟨TypeDesc.int IntKind.i64, 1, 8, Value.int IntKind.i64 0⟩) := rfl
theorem C1_fld74_3 : C1.fld 74 3 = some (3, ⟨TypeDesc.int IntKind.i64, 1, 8, Value.int IntKind.i64 0⟩) := rfl
theorem C1_ti76 : C1.ti 76 = some ⟨TypeDesc.struct #[⟨"Lo", 21, 0, false, "", "", 0⟩, ⟨"Hi", 21, 1, false, "", "", 4⟩, ⟨"By", 21, 2, false, "", "", 8⟩], 3, 12, Value.agg #[Value.int IntKind.i32 0, Value.int IntKind.i32 0, Value.int IntKind.i32 0]⟩ := rfl
theorem C1_td76 : C1.td 76 = some (TypeDesc.struct #[⟨"Lo", 21, 0, false, "", "", 0⟩, ⟨"Hi", 21, 1, false, "", "", 4⟩, ⟨"By", 21, 2, false, "", "", 8⟩]) := rfl
theorem C1_fld76_0 : C1.fld 76 0 = some (0, ⟨TypeDesc.int IntKind.i32, 1, 4, Value.int IntKind.i32 0⟩) := rfl
theorem C1_fld76_1 : C1.fld 76 1 = some (1, ⟨TypeDesc.int IntKind.i32, 1, 4, Value.int IntKind.i32 0⟩) := rfl
theorem C1_fld76_2 : C1.fld 76 2 = some (2, ⟨TypeDesc.int IntKind.i32, 1, 4, Value.int IntKind.i32 0⟩) := rfl
theorem C1_ti80 : C1.ti 80 = some ⟨TypeDesc.int IntKind.u64, 1, 8, Value.int IntKind.u64 0⟩ := rfl
theorem C1_td80 : C1.td 80 = some (TypeDesc.int IntKind.u64) := rfl
theorem C1_ti82 : C1.ti 82 = some ⟨TypeDesc.array 8 3, 8, 64, Value.agg #[Value.int IntKind.i64 0, Value.int IntKind.i64 0, Value.int IntKind.i64 0, Value.int IntKind.i64 0, Value.int IntKind.i64 0, Value.int IntKind.i64 0, Value.int IntKind.i64 0, Value.int IntKind.i64 0]⟩ := rfl
theorem C1_td82 : C1.td 82 = some (TypeDesc.array 8 3) := rfl
theorem C1_ti90 : C1.ti 90 = some ⟨TypeDesc.func #[93] #[4] false, 1, 8, Value.nilFunc⟩ := rfl
theorem C1_td90 : C1.td 90 = some (TypeDesc.func #[93] #[4] false) := rfl
theorem C1_ti93 : C1.ti 93 = some ⟨TypeDesc.struct #[⟨"t", 29, 0, false, "", "pillarbox/context", 0⟩, ⟨"l", 53, 5, false, "", "pillarbox/context", 88⟩, ⟨"at", 3, 6, false, "", "pillarbox/context", 112⟩], 7, 120, Value.agg #[Value.slice none 0 0, Value.slice none 0 0, Value.slice none 0 0, Value.map none, Value.map none, Value.slice none 0 0, Value.int IntKind.i64 0]⟩ := rfl
theorem C1_td93 : C1.td 93 = some (TypeDesc.struct #[⟨"t", 29, 0, false, "", "pillarbox/context", 0⟩, ⟨"l", 53, 5, false, "", "pillarbox/context", 88⟩, ⟨"at", 3, 6, false, "", "pillarbox/context", 112⟩]) := rfl
theorem C1_fld93_0 : C1.fld 93 0 = some (0, ⟨TypeDesc.struct #[⟨"ranges", 23, 0, false, "", "pillarbox/ucd", 0⟩, ⟨"classes", 24, 1, false, "", "pillarbox/ucd", 24⟩, ⟨"lowers", 25, 2, false, "", "pillarbox/ucd", 48⟩, ⟨"splits", 26, 3, false, "", "pillarbox/ucd", 72⟩, ⟨"pairs", 27, 4, false, "", "pillarbox/ucd", 80⟩], 5, 88, Value.agg #[Value.slice none 0 0, Value.slice none 0 0, Value.slice none 0 0, Value.map none, Value.map none]⟩) := rfl
theorem C1_fld93_1 : C1.fld 93 1 = some (5, ⟨TypeDesc.slice 21, 1, 24, Value.slice none 0 0⟩) := rfl
theorem C1_fld93_2 : C1.fld 93 2 = some (6, ⟨TypeDesc.int IntKind.i64, 1, 8, Value.int IntKind.i64 0⟩) := rfl
theorem C1_ti100 : C1.ti 100 = some ⟨TypeDesc.slice 5, 1, 24, Value.slice none 0 0⟩ := rfl
theorem C1_td100 : C1.td 100 = some (TypeDesc.slice 5) := rfl
theorem C1_ti105 : C1.ti 105 = some ⟨TypeDesc.func #[21] #[21] false, 1, 8, Value.nilFunc⟩ := rfl
theorem C1_td105 : C1.td 105 = some (TypeDesc.func #[21] #[21] false) := rfl
theorem C1_ti107 : C1.ti 107 = some ⟨TypeDesc.struct #[⟨"Table", 29, 0, true, "", "", 0⟩], 5, 88, Value.agg #[Value.slice none 0 0, Value.slice none 0 0, Value.slice none 0 0, Value.map none, Value.map none]⟩ := rfl
theorem C1_td107 : C1.td 107 = some (TypeDesc.struct #[⟨"Table", 29, 0, true, "", "", 0⟩]) := rfl
theorem C1_fld107_0 : C1.fld 107 0 = some (0, ⟨TypeDesc.struct #[⟨"ranges", 23, 0, false, "", "pillarbox/ucd", 0⟩, ⟨"classes", 24, 1, false, "", "pillarbox/ucd", 24⟩, ⟨"lowers", 25, 2, false, "", "pillarbox/ucd", 48⟩, ⟨"splits", 26, 3, false, "", "pillarbox/ucd", 72⟩, ⟨"pairs", 27, 4, false, "", "pillarbox/ucd", 80⟩], 5, 88, Value.agg #[Value.slice none 0 0, Value.slice none 0 0, Value.slice none 0 0, Value.map none, Value.map none]⟩) := rfl
theorem C1_ti109 : C1.ti 109 = some ⟨TypeDesc.func #[128] #[] false, 1, 8, Value.nilFunc⟩ := rfl
theorem C1_td109 : C1.td 109 = some (TypeDesc.func #[128] #[] false) := rfl
theorem C1_ti110 : C1.ti 110 = some ⟨TypeDesc.func #[128] #[] false, 1, 8, Value.nilFunc⟩ := rfl
theorem C1_td110 : C1.td 110 = some (TypeDesc.func #[128] #[] false) := rfl
theorem C1_ti115 : C1.ti 115 = some ⟨TypeDesc.map 21 90, 1, 8, Value.map none⟩ := rfl
theorem C1_td115 : C1.td 115 = some (TypeDesc.map 21 90) := rfl
theorem C1_ti121 : C1.ti 121 = some ⟨TypeDesc.func #[72, 21] #[3] false, 1, 8, Value.nilFunc⟩ := rfl
theorem C1_td121 : C1.td 121 = some (TypeDesc.func #[72, 21] #[3] false) := rfl
theorem C1_ti126 : C1.ti 126 = some ⟨TypeDesc.func #[76] #[4] false, 1, 8, Value.nilFunc⟩ := rfl
theorem C1_td126 : C1.td 126 = some (TypeDesc.func #[76] #[4] false) := rfl
theorem C1_ti128 : C1.ti 128 = some ⟨TypeDesc.func #[3, 21] #[4] false, 1, 8, Value.nilFunc⟩ := rfl
theorem C1_td128 : C1.td 128 = some (TypeDesc.func #[3, 21] #[4] false) := rfl
theorem C1_ti134 : C1.ti 134 = some ⟨TypeDesc.func #[21, 21] #[3] false, 1, 8, Value.nilFunc⟩ := rfl
theorem C1_td134 : C1.td 134 = some (TypeDesc.func #[21, 21] #[3] false) := rfl
theorem C1_ti140 : C1.ti 140 = some ⟨TypeDesc.func #[74] #[4] false, 1, 8, Value.nilFunc⟩ := rfl
theorem C1_td140 : C1.td 140 = some (TypeDesc.func #[74] #[4] false) := rfl
theorem C1_ti147 : C1.ti 147 = some ⟨TypeDesc.slice 53, 1, 24, Value.slice none 0 0⟩ := rfl
theorem C1_td147 : C1.td 147 = some (TypeDesc.slice 53) := rfl
theorem C1_fit3 (a : Int) : fitsK C1 3 (.int .i64 a) = true := rfl
theorem C1_fit4 (a : Bool) : fitsK C1 4 (.bool a) = true := rfl
theorem C1_fit5 (a : Int) : fitsK C1 5 (.int .u8 a) = true := rfl
theorem C1_fit9 (a : ByteArray) : fitsK C1 9 (.string a) = true := rfl
theorem C1_fit21 (a : Int) : fitsK C1 21 (.int .i32 a) = true := rfl
theorem C1_fit31 (a : Int) : fitsK C1 31 (.int .i64 a) = true := rfl
theorem C1_fit80 (a : Int) : fitsK C1 80 (.int .u64 a) = true := rfl
theorem C1_fit48 (x0 : Int) (x1 : Int) (x2 : Int) (x3 : Bool) (x4 : Bool) : fitsK C1 48 (.agg #[.int .i32 x0, .int .i32 x1, .int .i32 x2, .bool x3, .bool x4]) = true := rfl
theorem C1_fit50 (x0 : Int) (x1 : Int) : fitsK C1 50 (.agg #[.int .i32 x0, .int .i32 x1]) = true := rfl
theorem C1_fit72 (x0 : Int) (x1 : Int) (x2 : Int) (x3 : Int) (x4 : Int) (x5 : Int) : fitsK C1 72 (.agg #[.int .i32 x0, .int .i32 x1, .int .i64 x2, .int .i64 x3, .int .i64 x4, .int .i64 x5]) = true := rfl
theorem C1_fit74 (x0 : Int) (x1 : Int) (x2 : Int) (x3 : Int) : fitsK C1 74 (.agg #[.int .i32 x0, .int .i32 x1, .int .i64 x2, .int .i64 x3]) = true := rfl
theorem C1_fit76 (x0 : Int) (x1 : Int) (x2 : Int) : fitsK C1 76 (.agg #[.int .i32 x0, .int .i32 x1, .int .i32 x2]) = true := rfl
theorem B3 : type_of% (And.intro @C1_ti3 (And.intro @C1_td3 @C1_fit3)) := (And.intro @C1_ti3 (And.intro @C1_td3 @C1_fit3))
theorem B4 : type_of% (And.intro @C1_ti4 (And.intro @C1_td4 @C1_fit4)) := (And.intro @C1_ti4 (And.intro @C1_td4 @C1_fit4))
theorem B5 : type_of% (And.intro @C1_ti5 (And.intro @C1_td5 @C1_fit5)) := (And.intro @C1_ti5 (And.intro @C1_td5 @C1_fit5))
theorem B9 : type_of% (And.intro @C1_ti9 (And.intro @C1_td9 @C1_fit9)) := (And.intro @C1_ti9 (And.intro @C1_td9 @C1_fit9))
theorem B21 : type_of% (And.intro @C1_ti21 (And.intro @C1_td21 @C1_fit21)) := (And.intro @C1_ti21 (And.intro @C1_td21 @C1_fit21))
theorem B23 : type_of% (And.intro @C1_ti23 @C1_td23) := (And.intro @C1_ti23 @C1_td23)
theorem B24 : type_of% (And.intro @C1_ti24 @C1_td24) := (And.intro @C1_ti24 @C1_td24)
theorem B25 : type_of% (And.intro @C1_ti25 @C1_td25) := (And.intro @C1_ti25 @C1_td25)
theorem B26 : type_of% (And.intro @C1_ti26 @C1_td26) := (And.intro @C1_ti26 @C1_td26)
theorem B27 : type_of% (And.intro @C1_ti27 @C1_td27) := (And.intro @C1_ti27 @C1_td27)
theorem B29 : type_of% (And.intro @C1_ti29 (And.intro @C1_td29 (And.intro @C1_fld29_0 (And.intro @C1_fld29_1 (And.intro @C1_fld29_2 (And.intro @C1_fld29_3 @C1_fld29_4)))))) := (And.intro @C1_ti29 (And.intro @C1_td29 (And.intro @C1_fld29_0 (And.intro @C1_fld29_1 (And.intro @C1_fld29_2 (And.intro @C1_fld29_3 @C1_fld29_4))))))
theorem B31 : type_of% (And.intro @C1_ti31 (And.intro @C1_td31 @C1_fit31)) := (And.intro @C1_ti31 (And.intro @C1_td31 @C1_fit31))
theorem B38 : type_of% (And.intro @C1_ti38 @C1_td38) := (And.intro @C1_ti38 @C1_td38)
theorem B45 : type_of% (And.intro @C1_ti45 @C1_td45) := (And.intro @C1_ti45 @C1_td45)
theorem B48 : type_of% (And.intro @C1_ti48 (And.intro @C1_td48 (And.intro @C1_fld48_0 (And.intro @C1_fld48_1 (And.intro @C1_fld48_2 (And.intro @C1_fld48_3 (And.intro @C1_fld48_4 @C1_fit48))))))) := (And.intro @C1_ti48 (And.intro @C1_td48 (And.intro @C1_fld48_0 (And.intro @C1_fld48_1 (And.intro @C1_fld48_2 (And.intro @C1_fld48_3 (And.intro @C1_fld48_4 @C1_fit48)))))))
theorem B50 : type_of% (And.intro @C1_ti50 (And.intro @C1_td50 (And.intro @C1_fld50_0 (And.intro @C1_fld50_1 @C1_fit50)))) := (And.intro @C1_ti50 (And.intro @C1_td50 (And.intro @C1_fld50_0 (And.intro @C1_fld50_1 @C1_fit50))))
theorem B53 : type_of% (And.intro @C1_ti53 @C1_td53) := (And.intro @C1_ti53 @C1_td53)
theorem B60 : type_of% (And.intro @C1_ti60 @C1_td60) := (And.intro @C1_ti60 @C1_td60)
theorem B72 : type_of% (And.intro @C1_ti72 (And.intro @C1_td72 (And.intro @C1_fld72_0 (And.intro @C1_fld72_1 (And.intro @C1_fld72_2 (And.intro @C1_fld72_3 (And.intro @C1_fld72_4 (And.intro @C1_fld72_5 @C1_fit72)))))))) := (And.intro @C1_ti72 (And.intro @C1_td72 (And.intro @C1_fld72_0 (And.intro @C1_fld72_1 (And.intro @C1_fld72_2 (And.intro @C1_fld72_3 (And.intro @C1_fld72_4 (And.intro @C1_fld72_5 @C1_fit72))))))))
theorem B74 : type_of% (And.intro @C1_ti74 (And.intro @C1_td74 (And.intro @C1_fld74_0 (And.intro @C1_fld74_1 (And.intro @C1_fld74_2 (And.intro @C1_fld74_3 @C1_fit74)))))) := (And.intro @C1_ti74 (And.intro @C1_td74 (And.intro @C1_fld74_0 (And.intro @C1_fld74_1 (And.intro @C1_fld74_2 (And.intro @C1_fld74_3 @C1_fit74))))))
theorem B76 : type_of% (And.intro @C1_ti76 (And.intro @C1_td76 (And.intro @C1_fld76_0 (And.intro @C1_fld76_1 (And.intro @C1_fld76_2 @C1_fit76))))) := (And.intro @C1_ti76 (And.intro @C1_td76 (And.intro @C1_fld76_0 (And.intro @C1_fld76_1 (And.intro @C1_fld76_2 @C1_fit76)))))
theorem B80 : type_of% (And.intro @C1_ti80 (And.intro @C1_td80 @C1_fit80)) := (And.intro @C1_ti80 (And.intro @C1_td80 @C1_fit80))
theorem B82 : type_of% (And.intro @C1_ti82 @C1_td82) := (And.intro @C1_ti82 @C1_td82)
theorem B90 : type_of% (And.intro @C1_ti90 @C1_td90) := (And.intro @C1_ti90 @C1_td90)
theorem B93 : type_of% (And.intro @C1_ti93 (And.intro @C1_td93 (And.intro @C1_fld93_0 (And.intro @C1_fld93_1 @C1_fld93_2)))) := (And.intro @C1_ti93 (And.intro @C1_td93 (And.intro @C1_fld93_0 (And.intro @C1_fld93_1 @C1_fld93_2))))
theorem B100 : type_of% (And.intro @C1_ti100 @C1_td100) := (And.intro @C1_ti100 @C1_td100)
theorem B105 : type_of% (And.intro @C1_ti105 @C1_td105) := (And.intro @C1_ti105 @C1_td105)
theorem B107 : type_of% (And.intro @C1_ti107 (And.intro @C1_td107 @C1_fld107_0)) := (And.intro @C1_ti107 (And.intro @C1_td107 @C1_fld107_0))
theorem B109 : type_of% (And.intro @C1_ti109 @C1_td109) := (And.intro @C1_ti109 @C1_td109)
theorem B110 : type_of% (And.intro @C1_ti110 @C1_td110) := (And.intro @C1_ti110 @C1_td110)
theorem B115 : type_of% (And.intro @C1_ti115 @C1_td115) := (And.intro @C1_ti115 @C1_td115)
theorem B121 : type_of% (And.intro @C1_ti121 @C1_td121) := (And.intro @C1_ti121 @C1_td121)
theorem B126 : type_of% (And.intro @C1_ti126 @C1_td126) := (And.intro @C1_ti126 @C1_td126)
theorem B128 : type_of% (And.intro @C1_ti128 @C1_td128) := (And.intro @C1_ti128 @C1_td128)
theorem B134 : type_of% (And.intro @C1_ti134 @C1_td134) := (And.intro @C1_ti134 @C1_td134)
theorem B140 : type_of% (And.intro @C1_ti140 @C1_td140) := (And.intro @C1_ti140 @C1_td140)
theorem B147 : type_of% (And.intro @C1_ti147 @C1_td147) := (And.intro @C1_ti147 @C1_td147)
theorem D23 : type_of% (And.intro @B3 (And.intro @B21 (And.intro @B23 @B72))) := (And.intro @B3 (And.intro @B21 (And.intro @B23 @B72)))
theorem D24 : type_of% (And.intro @B3 (And.intro @B21 (And.intro @B24 @B74))) := (And.intro @B3 (And.intro @B21 (And.intro @B24 @B74)))
theorem D25 : type_of% (And.intro @B21 (And.intro @B25 @B76)) := (And.intro @B21 (And.intro @B25 @B76))
theorem D26 : type_of% (And.intro @B4 (And.intro @B21 (And.intro @B26 @B48))) := (And.intro @B4 (And.intro @B21 (And.intro @B26 @B48)))
theorem D27 : type_of% (And.intro @B21 (And.intro @B27 @B50)) := (And.intro @B21 (And.intro @B27 @B50))
theorem D29 : type_of% (And.intro @B3 (And.intro @B4 (And.intro @B21 (And.intro @B23 (And.intro @B24 (And.intro @B25 (And.intro @B26 (And.intro @B27 (And.intro @B29 (And.intro @B48 (And.intro @B50 (And.intro @B72 (And.intro @B74 @B76))))))))))))) := (And.intro @B3 (And.intro @B4 (And.intro @B21 (And.intro @B23 (And.intro @B24 (And.intro @B25 (And.intro @B26 (And.intro @B27 (And.intro @B29 (And.intro @B48 (And.intro @B50 (And.intro @B72 (And.intro @B74 @B76)))))))))))))
theorem D45 : type_of% (And.intro @B4 (And.intro @B21 (And.intro @B45 @B48))) := (And.intro @B4 (And.intro @B21 (And.intro @B45 @B48)))
theorem D48 : type_of% (And.intro @B4 (And.intro @B21 @B48)) := (And.intro @B4 (And.intro @B21 @B48))
theorem D72 : type_of% (And.intro @B3 (And.intro @B21 @B72)) := (And.intro @B3 (And.intro @B21 @B72))
theorem D74 : type_of% (And.intro @B3 (And.intro @B21 @B74)) := (And.intro @B3 (And.intro @B21 @B74))
theorem D93 : type_of% (And.intro @B3 (And.intro @B4 (And.intro @B21 (And.intro @B23 (And.intro @B24 (And.intro @B25 (And.intro @B26 (And.intro @B27 (And.intro @B29 (And.intro @B48 (And.intro @B50 (And.intro @B53 (And.intro @B72 (And.intro @B74 (And.intro @B76 @B93))))))))))))))) := (And.intro @B3 (And.intro @B4 (And.intro @B21 (And.intro @B23 (And.intro @B24 (And.intro @B25 (And.intro @B26 (And.intro @B27 (And.intro @B29 (And.intro @B48 (And.intro @B50 (And.intro @B53 (And.intro @B72 (And.intro @B74 (And.intro @B76 @B93)))))))))))))))
theorem D107 : type_of% (And.intro @B3 (And.intro @B4 (And.intro @B21 (And.intro @B23 (And.intro @B24 (And.intro @B25 (And.intro @B26 (And.intro @B27 (And.intro @B29 (And.intro @B48 (And.intro @B50 (And.intro @B72 (And.intro @B74 (And.intro @B76 @B107)))))))))))))) := (And.intro @B3 (And.intro @B4 (And.intro @B21 (And.intro @B23 (And.intro @B24 (And.intro @B25 (And.intro @B26 (And.intro @B27 (And.intro @B29 (And.intro @B48 (And.intro @B50 (And.intro @B72 (And.intro @B74 (And.intro @B76 @B107))))))))))))))
theorem D115 : type_of% (And.intro @B21 (And.intro @B90 @B115)) := (And.intro @B21 (And.intro @B90 @B115))
theorem D147 : type_of% (And.intro @B21 (And.intro @B53 @B147)) := (And.intro @B21 (And.intro @B53 @B147))
end Go.AE
end
section
/- The tables' contracts. -/
namespace Go.AE
open Go.Proofs
set_option maxRecDepth 20000
set_option linter.unusedSimpArgs false
theorem classes_spec : Spec Tryz.prog 16 [] (.own 74 4 10 (classes.flatMap classC)) := by
  refine spec_mk (z := false) (ts := [.tmp 0]) ok1 Tryz.func16 rfl rfl (by decide +kernel) (by simp [Tryz.ntmps16]) rfl ?_
  repeat' first | simp (maxSteps := 4000000) (disch := omega) only [bunL, bunD, bun, ↓WG_true, ↓WG_false, labelOf, findLabel, ↓reduceIte, imp, shift, killO, cond_true, cond_false, hasId, ne_eq, unown, names, plainR, below, noF, isF, lendObs, lendOb, kindOk, ren, givL, updM, backO, renO, belowM, seval, -Int.reduceToNat, D24, bunN, wrap8, wrap32, wrap64] | refine DR_q _ ?_ | (refine Fk.fk ?_ ?_ <;> intro hg <;> (try simp only [hg]) <;> (try simp only [bunB, ne_eq] at hg) <;> try (exfalso; first | omega | exact Bool.noConfusion hg | exact hg trivial)) | refine And.intro (by omega) ?_ | omega
  all_goals rfl
theorem lowers_spec : Spec Tryz.prog 17 [] (.own 76 3 11 (lowers.flatMap lowerC)) := by
  refine spec_mk (z := false) (ts := [.tmp 0]) ok1 Tryz.func17 rfl rfl (by decide +kernel) (by simp [Tryz.ntmps17]) rfl ?_
  repeat' first | simp (maxSteps := 4000000) (disch := omega) only [bunL, bunD, bun, ↓WG_true, ↓WG_false, labelOf, findLabel, ↓reduceIte, imp, shift, killO, cond_true, cond_false, hasId, ne_eq, unown, names, plainR, below, noF, isF, lendObs, lendOb, kindOk, ren, givL, updM, backO, renO, belowM, seval, -Int.reduceToNat, D25, bunN, wrap8, wrap32, wrap64] | refine DR_q _ ?_ | (refine Fk.fk ?_ ?_ <;> intro hg <;> (try simp only [hg]) <;> (try simp only [bunB, ne_eq] at hg) <;> try (exfalso; first | omega | exact Bool.noConfusion hg | exact hg trivial)) | refine And.intro (by omega) ?_ | omega
  all_goals rfl
theorem splits_spec : Spec Tryz.prog 18 [] (.own 48 5 42 (splits.flatMap splitC)) := by
  refine spec_mk (z := false) (ts := [.tmp 0]) ok1 Tryz.func18 rfl rfl (by decide +kernel) (by simp [Tryz.ntmps18]) rfl ?_
  repeat' first | simp (maxSteps := 4000000) (disch := omega) only [bunL, bunD, bun, ↓WG_true, ↓WG_false, labelOf, findLabel, ↓reduceIte, imp, shift, killO, cond_true, cond_false, hasId, ne_eq, unown, names, plainR, below, noF, isF, lendObs, lendOb, kindOk, ren, givL, updM, backO, renO, belowM, seval, -Int.reduceToNat, D45, bunN, wrap8, wrap32, wrap64] | refine DR_q _ ?_ | (refine Fk.fk ?_ ?_ <;> intro hg <;> (try simp only [hg]) <;> (try simp only [bunB, ne_eq] at hg) <;> try (exfalso; first | omega | exact Bool.noConfusion hg | exact hg trivial)) | refine And.intro (by omega) ?_ | omega
  all_goals rfl
theorem ranges_spec : Spec Tryz.prog 15 [] (.own 72 6 74 (ranges.flatMap rangeC)) := by
  refine spec_mk (z := false) (ts := [.tmp 0]) ok1 Tryz.func15 rfl rfl (by decide +kernel) (by simp [Tryz.ntmps15]) rfl ?_
  repeat' first | simp (maxSteps := 4000000) (disch := omega) only [bunL, bunD, bun, ↓WG_true, ↓WG_false, labelOf, findLabel, ↓reduceIte, imp, shift, killO, cond_true, cond_false, hasId, ne_eq, unown, names, plainR, below, noF, isF, lendObs, lendOb, kindOk, ren, givL, updM, backO, renO, belowM, seval, -Int.reduceToNat, D23, bunN, wrap8, wrap32, wrap64] | refine DR_q _ ?_ | (refine Fk.fk ?_ ?_ <;> intro hg <;> (try simp only [hg]) <;> (try simp only [bunB, ne_eq] at hg) <;> try (exfalso; first | omega | exact Bool.noConfusion hg | exact hg trivial)) | refine And.intro (by omega) ?_ | omega
  all_goals rfl
end Go.AE
end
section
/- The table. -/
namespace Go.AE
open Go.Proofs
set_option maxRecDepth 20000
set_option linter.unusedSimpArgs false
def tabC (es ps : List (Value × AV)) : List AV := [.sl 74 (ranges.flatMap rangeC), .sl 10 (classes.flatMap classC), .sl 11 (lowers.flatMap lowerC), .mp es, .mp ps]
def sM (i : Nat) : List (Value × AV) := (splits.take i).foldl (fun m s => mput (.int .i32 s.1) (.ag (splitC s)) m) []
def pM (i : Nat) : List (Value × AV) := (splits.take i).foldl (fun m s => match s.2.2.2.1 || s.2.2.2.2 with | true => m | false => mput (.agg #[.int .i32 s.2.1, .int .i32 s.2.2.1]) (.v (.int .i32 s.1)) m) []
theorem sM_succ {i : Nat} (h : i < 42) : sM (i + 1) = mput (.int .i32 (splits.getD i split0).1) (.ag (splitC (splits.getD i split0))) (sM i) := by
  unfold sM
  rw [take_succ_getD _ i split0 (by rw [spl_len]; exact h), List.foldl_append]; rfl
theorem pM_succ {i : Nat} (h : i < 42) : pM (i + 1) = match (splits.getD i split0).2.2.2.1 || (splits.getD i split0).2.2.2.2 with | true => pM i | false => mput (.agg #[.int .i32 (splits.getD i split0).2.1, .int .i32 (splits.getD i split0).2.2.1]) (.v (.int .i32 (splits.getD i split0).1)) (pM i) := by
  unfold pM
  rw [take_succ_getD _ i split0 (by rw [spl_len]; exact h), List.foldl_append]; rfl
theorem mput_keys {Q : Value → Prop} {k : Value} {x : AV} (hk : Q k) : ∀ {es : List (Value × AV)}, (∀ e ∈ es, Q e.1) → ∀ e ∈ mput k x es, Q e.1
  | [], _, e, he => by simp only [mput, List.mem_singleton] at he; subst he; exact hk
  | (k', y) :: l, h, e, he => by
    simp only [mput] at he
    split at he
    · rcases List.mem_cons.1 he with rfl | he
      · exact hk
      · exact h e (by simp [he])
    · rcases List.mem_cons.1 he with rfl | he
      · exact h _ (by simp)
      · exact mput_keys hk (fun e he => h e (by simp [he])) e he
theorem sM_fit (i : Nat) : (∀ e ∈ sM i, fitsK C1 21 e.1 = true) = True := by
  refine eq_true ?_
  unfold sM
  have : ∀ (l : List SplitT) (m : List (Value × AV)), (∀ e ∈ m, fitsK C1 21 e.1 = true) → ∀ e ∈ l.foldl (fun m s => mput (.int .i32 s.1) (.ag (splitC s)) m) m, fitsK C1 21 e.1 = true := by
    intro l
    induction l with
    | nil => intro m h; exact h
    | cons a l ih => intro m h; exact ih _ (mput_keys (Q := fun v => fitsK C1 21 v = true) rfl h)
  exact this _ _ (by simp)
theorem pM_fit (i : Nat) : (∀ e ∈ pM i, fitsK C1 50 e.1 = true) = True := by
  refine eq_true ?_
  unfold pM
  have : ∀ (l : List SplitT) (m : List (Value × AV)), (∀ e ∈ m, fitsK C1 50 e.1 = true) → ∀ e ∈ l.foldl (fun m s => match s.2.2.2.1 || s.2.2.2.2 with | true => m | false => mput (.agg #[.int .i32 s.2.1, .int .i32 s.2.2.1]) (.v (.int .i32 s.1)) m) m, fitsK C1 50 e.1 = true := by
    intro l
    induction l with
    | nil => intro m h; exact h
    | cons a l ih =>
      intro m h
      refine ih _ ?_
      show ∀ e ∈ (match a.2.2.2.1 || a.2.2.2.2 with | true => m | false => mput (.agg #[.int .i32 a.2.1, .int .i32 a.2.2.1]) (.v (.int .i32 a.1)) m), _
      split
      · exact h
      · exact mput_keys (Q := fun v => fitsK C1 50 v = true) rfl h
  exact this _ _ (by simp)
def newS (i : Nat) : St := ⟨[(0, .ptr 0 0), (1, .ptr 6 0), (10, .ref 7 0 42), (11, I64 42), (12, I64 i)],
  [.row true 1 [.v (.slice none 0 0), .v (.slice none 0 0), .v (.slice none 0 0), .v (.map none), .v (.map none)], .arr 72 6 (ranges.flatMap rangeC), .arr 74 4 (classes.flatMap classC), .arr 76 3 (lowers.flatMap lowerC),
   .mp (sM i), .mp (pM i), .row true 1 [.ref 1 0 74, .ref 2 0 10, .ref 3 0 11, .mr 4, .mr 5], .arr 48 5 (splits.flatMap splitC)]⟩
theorem new_spec : Spec Tryz.prog 6 [] (.ag (tabC (sM 42) (pM 42))) := by
  refine spec_mk (z := true) (ts := [.cell 0 29]) ok1 Tryz.func6 rfl rfl (by decide +kernel) (by simp [Tryz.ntmps6]) rfl ?_
  repeat' first | refine WE_fit (ranges_spec) ?_ ?_ | refine WE_fit (classes_spec) ?_ ?_ | refine WE_fit (lowers_spec) ?_ ?_ | refine WE_fit (splits_spec) ?_ ?_ | simp (maxSteps := 4000000) (disch := omega) only [bunL, bunD, bun, ↓WG_true, ↓WG_false, labelOf, findLabel, ↓reduceIte, imp, shift, killO, cond_true, cond_false, hasId, ne_eq, unown, names, plainR, below, noF, isF, lendObs, lendOb, kindOk, ren, givL, updM, backO, renO, belowM, seval, -Int.reduceToNat, D29, D45, bunN, wrap8, wrap32, wrap64, splitC, spl_take, sM_fit, pM_fit, Bool.not_true, Bool.not_false] | exact NK_no _ | refine NK_cl _ _ ?_ | exact Cln.cl | refine clean_tup _ ?_ | refine cleans_cons _ _ ?_ ?_ | refine DR_q _ ?_ | (refine Fk.fk ?_ ?_ <;> intro hg <;> (try simp only [hg]) <;> (try simp only [bunB, ne_eq] at hg) <;> try (exfalso; first | omega | exact Bool.noConfusion hg | exact hg trivial)) | refine And.intro (by omega) ?_ | omega
  refine LP_intro newS (fun i => i ≤ 42) (fun i => 42 - i) 0 (by omega) ?_ ?_
  · (simp (disch := omega) [wk, wkT, wkM, noF, isF, get, belowT, belowM, below, belows, I64, I32, Bv, U8, Sv, newS, sM, pM, splits] <;> try omega)
  intro i hi
  unfold newS
  repeat' first | simp (maxSteps := 4000000) (disch := omega) only [bunL, bunD, bun, ↓WG_true, ↓WG_false, labelOf, findLabel, ↓reduceIte, imp, shift, killO, cond_true, cond_false, hasId, ne_eq, unown, names, plainR, below, noF, isF, lendObs, lendOb, kindOk, ren, givL, updM, backO, renO, belowM, seval, -Int.reduceToNat, spl_flen, D29, D45, bunN, wrap8, wrap32, wrap64, splitC, spl_take, sM_fit, pM_fit, Bool.not_true, Bool.not_false] | refine DR_q _ ?_ | (refine Fk.fk ?_ ?_ <;> intro hg <;> (try simp only [hg]) <;> (try simp only [bunB, ne_eq] at hg) <;> try (exfalso; first | omega | exact Bool.noConfusion hg | exact hg trivial)) | refine And.intro (by omega) ?_ | omega
  · refine ⟨i + 1, by omega, by omega, ?_⟩
    have h5 : (splits.getD i split0).2.2.2.1 = false := by assumption
    have h6 : (splits.getD i split0).2.2.2.2 = false := by assumption
    have e1 := sM_succ (i := i) (by omega)
    have e2 := pM_succ (i := i) (by omega)
    rw [h5, h6] at e2
    generalize splits.getD i split0 = x at *
    (simp (disch := omega) [wk, wkT, wkM, noF, isF, get, belowT, belowM, below, belows, I64, I32, Bv, U8, Sv, newS, e1, e2, splitC] <;> try omega)
  · refine ⟨i + 1, by omega, by omega, ?_⟩
    have h5 : (splits.getD i split0).2.2.2.1 = false := by assumption
    have h6 : (splits.getD i split0).2.2.2.2 = true := by assumption
    have e1 := sM_succ (i := i) (by omega)
    have e2 := pM_succ (i := i) (by omega)
    rw [h5, h6] at e2
    generalize splits.getD i split0 = x at *
    (simp (disch := omega) [wk, wkT, wkM, noF, isF, get, belowT, belowM, below, belows, I64, I32, Bv, U8, Sv, newS, e1, e2, splitC] <;> try omega)
  · refine ⟨i + 1, by omega, by omega, ?_⟩
    have h5 : (splits.getD i split0).2.2.2.1 = true := by assumption
    have e1 := sM_succ (i := i) (by omega)
    have e2 := pM_succ (i := i) (by omega)
    rw [h5] at e2
    generalize splits.getD i split0 = x at *
    (simp (disch := omega) [wk, wkT, wkM, noF, isF, get, belowT, belowM, below, belows, I64, I32, Bv, U8, Sv, newS, e1, e2, splitC] <;> try omega)
  · have : i = 42 := by omega
    subst this
    rw [List.take_of_length_le (by rw [rows_len (k := 6) _ (fun _ => rfl)]; decide), List.take_of_length_le (by rw [rows_len (k := 4) _ (fun _ => rfl)]; decide), List.take_of_length_le (by rw [rows_len (k := 3) _ (fun _ => rfl)]; decide)]
    rfl
end Go.AE
end
section
/- What is read of the table: the program's functions. -/
namespace Go.AE
open Go.Proofs
set_option maxRecDepth 20000
set_option linter.unusedSimpArgs false
def tab : AV := .ag (tabC (sM 42) (pM 42))
/-- How a range stands to a character. -/
def cmpR (x : RangeT) (r : Int) : Int := if x.2.1 < r then -1 else if r < x.1 then 1 else 0
theorem cmpR_lt (x : RangeT) (r : Int) : (cmpR x r < 0) = (x.2.1 < r) := by
  unfold cmpR
  apply propext
  split
  · rename_i h; simp [h]
  · rename_i h
    split <;> simp [h] <;> omega
theorem cmpR_eq {x : RangeT} {r : Int} (h : ¬ x.2.1 < r) : (cmpR x r == 0) = decide (x.1 ≤ r) := by
  unfold cmpR; rw [if_neg h]
  split
  · rename_i h1; have : ¬ x.1 ≤ r := by omega
    simp [this]
  · rename_i h1; have : x.1 ≤ r := by omega
    simp [this]
theorem cmp_spec (x : RangeT) (r : Int) : Spec Tryz.prog 105 [.ag (rangeC x), I32 r] (I64 (cmpR x r)) := by
  refine spec_mk (z := false) (ts := [.tmp 4]) ok1 Tryz.func105 rfl rfl (by decide +kernel) (by simp [Tryz.ntmps105]) rfl ?_
  repeat' first | simp (maxSteps := 4000000) (disch := omega) only [bunL, bunD, bun, ↓WG_true, ↓WG_false, labelOf, findLabel, ↓reduceIte, imp, shift, killO, cond_true, cond_false, hasId, ne_eq, unown, names, plainR, below, noF, isF, lendObs, lendOb, kindOk, ren, givL, updM, backO, renO, belowM, seval, -Int.reduceToNat, B4, D72, bunN, tabC, ran_flen, cla_flen, low_flen, spl_flen, ran_take, cla_take, low_take, spl_take, ran_n0, ran_n1, cla_n0, cla_n1, cla_n2, cla_n3, low_n0, low_n1, low_n2, spl_n0, spl_n1, spl_n2, spl_n3, spl_n4, rangeC, classC, lowerC, splitC] | refine DR_q _ ?_ | (refine Fk.fk ?_ ?_ <;> intro hg <;> (try simp only [hg]) <;> (try simp only [bunB, ne_eq, rangeP, classP, lowerP, splitP, pairP, cmpR_lt] at hg) <;> try (exfalso; first | omega | exact Bool.noConfusion hg | exact hg trivial)) | refine And.intro (by omega) ?_ | omega
  all_goals (simp only [cmpR]; congr 2; repeat' split) <;> first | rfl | omega
theorem search_spec (r : Int) : Spec Tryz.prog 104 [.sl 74 (ranges.flatMap rangeC), I32 r, .fn 105 [] []] (.tup [I64 (lb r ranges), Bv (inR r)]) := by
  refine spec_mk (z := false) (ts := [.tmp 6, .tmp 7]) ok1 Tryz.func104 rfl rfl (by decide +kernel) (by simp [Tryz.ntmps104]) rfl ?_
  have hlb := lb_le r ranges
  rw [ran_len] at hlb
  repeat' first | refine WE_fit (cmp_spec _ _) ?_ ?_ | simp (maxSteps := 4000000) (disch := omega) only [bunL, bunD, bun, ↓WG_true, ↓WG_false, labelOf, findLabel, ↓reduceIte, imp, shift, killO, cond_true, cond_false, hasId, ne_eq, unown, names, plainR, below, noF, isF, lendObs, lendOb, kindOk, ren, givL, updM, backO, renO, belowM, seval, -Int.reduceToNat, B4, D23, B80, B121, bunN, tabC, ran_flen, cla_flen, low_flen, spl_flen, ran_take, cla_take, low_take, spl_take, ran_n0, ran_n1, cla_n0, cla_n1, cla_n2, cla_n3, low_n0, low_n1, low_n2, spl_n0, spl_n1, spl_n2, spl_n3, spl_n4, rangeC, classC, lowerC, splitC] | exact NK_no _ | refine NK_cl _ _ ?_ | exact Cln.cl | refine clean_tup _ ?_ | refine cleans_cons _ _ ?_ ?_ | refine DR_q _ ?_ | (refine Fk.fk ?_ ?_ <;> intro hg <;> (try simp only [hg]) <;> (try simp only [bunB, ne_eq, rangeP, classP, lowerP, splitP, pairP, cmpR_lt] at hg) <;> try (exfalso; first | omega | exact Bool.noConfusion hg | exact hg trivial)) | refine And.intro (by omega) ?_ | omega
  refine LP_intro (fun p : Nat × Nat => ⟨[(0, .sl 74 (ranges.flatMap rangeC)), (1, I32 r), (2, .fn 105 [] []), (8, I64 74), (9, I64 p.1), (10, I64 p.2)], []⟩) (fun p => p.1 ≤ lb r ranges ∧ lb r ranges ≤ p.2 ∧ p.2 ≤ 74) (fun p => p.2 - p.1) (0, 74) (by simp; omega) (by simp [wk, wkT, wkM, noF, isF, get, belowT, belowM, below, belows, I64, I32, Bv, U8, Sv] <;> try omega) ?_
  rintro ⟨i, j⟩ ⟨h1, h2, h3⟩
  simp only at h1 h2 h3
  repeat' first | refine WE_fit (cmp_spec _ _) ?_ ?_ | simp (maxSteps := 4000000) (disch := omega) only [bunL, bunD, bun, ↓WG_true, ↓WG_false, labelOf, findLabel, ↓reduceIte, imp, shift, killO, cond_true, cond_false, hasId, ne_eq, unown, names, plainR, below, noF, isF, lendObs, lendOb, kindOk, ren, givL, updM, backO, renO, belowM, seval, -Int.reduceToNat, B4, D23, B80, B121, bunN, tabC, ran_flen, cla_flen, low_flen, spl_flen, ran_take, cla_take, low_take, spl_take, ran_n0, ran_n1, cla_n0, cla_n1, cla_n2, cla_n3, low_n0, low_n1, low_n2, spl_n0, spl_n1, spl_n2, spl_n3, spl_n4, rangeC, classC, lowerC, splitC] | exact NK_no _ | refine NK_cl _ _ ?_ | exact Cln.cl | refine clean_tup _ ?_ | refine cleans_cons _ _ ?_ ?_ | refine DR_q _ ?_ | (refine Fk.fk ?_ ?_ <;> intro hg <;> (try simp only [hg]) <;> (try simp only [bunB, ne_eq, rangeP, classP, lowerP, splitP, pairP, cmpR_lt] at hg) <;> try (exfalso; first | omega | exact Bool.noConfusion hg | exact hg trivial)) | refine And.intro (by omega) ?_ | omega
  · have := lb_spec r ranges_rising ((↑i + ↑j : Int) / 2).toNat (by rw [ran_len]; omega)
    refine ⟨(((↑i + ↑j : Int) / 2).toNat + 1, j), ⟨by simp only; omega, by simp only; omega, h3⟩, by simp only; omega, (by simp [wk, wkT, wkM, noF, isF, get, belowT, belowM, below, belows, I64, I32, Bv, U8, Sv] <;> try omega)⟩
  · have := lb_spec r ranges_rising ((↑i + ↑j : Int) / 2).toNat (by rw [ran_len]; omega)
    refine ⟨(i, ((↑i + ↑j : Int) / 2).toNat), ⟨h1, by simp only; omega, by simp only; omega⟩, by simp only; omega, (by simp [wk, wkT, wkM, noF, isF, get, belowT, belowM, below, belows, I64, I32, Bv, U8, Sv] <;> try omega)⟩
  · have e : i = lb r ranges := by omega
    have h5 := lb_spec r ranges_rising i (by rw [ran_len]; omega)
    rw [inR_lb, ← e, cmpR_eq (by omega), decide_eq_true (show i < 74 by omega)]; rfl
  · have e : i = lb r ranges := by omega
    rw [inR_lb, ← e, decide_eq_false (show ¬ i < 74 by omega)]; rfl
end Go.AE
end
section
/- What is read of the table: the program's functions. -/
namespace Go.AE
open Go.Proofs
set_option maxRecDepth 20000
set_option linter.unusedSimpArgs false
theorem of_spec (r : Int) : Spec Tryz.prog 70 [tab, I32 r] (.ag (rangeC (ofR r))) := by
  refine spec_mk (z := false) (ts := [.cell 4 72]) ok1 Tryz.func70 rfl rfl (by decide +kernel) (by simp [Tryz.ntmps70]) rfl ?_
  cases hin : inR r with
  | false =>
    have h0 := inR_no hin
    repeat' first | refine WE_fit (search_spec _) ?_ ?_ | simp (maxSteps := 4000000) (disch := omega) only [bunL, bunD, bun, ↓WG_true, ↓WG_false, labelOf, findLabel, ↓reduceIte, imp, shift, killO, cond_true, cond_false, hasId, ne_eq, unown, names, plainR, below, noF, isF, lendObs, lendOb, kindOk, ren, givL, updM, backO, renO, belowM, seval, -Int.reduceToNat, hin, h0, D29, B121, bunN, tab, tabC, ran_flen, cla_flen, low_flen, spl_flen, ran_take, cla_take, low_take, spl_take, ran_n0, ran_n1, cla_n0, cla_n1, cla_n2, cla_n3, low_n0, low_n1, low_n2, spl_n0, spl_n1, spl_n2, spl_n3, spl_n4, rangeC, classC, lowerC, splitC, sM_fit, pM_fit] | exact NK_no _ | refine NK_cl _ _ ?_ | exact Cln.cl | refine clean_tup _ ?_ | refine cleans_cons _ _ ?_ ?_ | refine DR_q _ ?_ | (refine Fk.fk ?_ ?_ <;> intro hg <;> (try simp only [hg]) <;> (try simp only [bunB, ne_eq, rangeP, classP, lowerP, splitP, pairP, cmpR_lt] at hg) <;> try (exfalso; first | omega | exact Bool.noConfusion hg | exact hg trivial)) | refine And.intro (by omega) ?_ | omega
    rfl
  | true =>
    obtain ⟨h1, h2⟩ := inR_yes hin
    repeat' first | refine WE_fit (search_spec _) ?_ ?_ | simp (maxSteps := 4000000) (disch := omega) only [bunL, bunD, bun, ↓WG_true, ↓WG_false, labelOf, findLabel, ↓reduceIte, imp, shift, killO, cond_true, cond_false, hasId, ne_eq, unown, names, plainR, below, noF, isF, lendObs, lendOb, kindOk, ren, givL, updM, backO, renO, belowM, seval, -Int.reduceToNat, hin, D29, B121, bunN, tab, tabC, ran_flen, cla_flen, low_flen, spl_flen, ran_take, cla_take, low_take, spl_take, ran_n0, ran_n1, cla_n0, cla_n1, cla_n2, cla_n3, low_n0, low_n1, low_n2, spl_n0, spl_n1, spl_n2, spl_n3, spl_n4, rangeC, classC, lowerC, splitC, sM_fit, pM_fit] | exact NK_no _ | refine NK_cl _ _ ?_ | exact Cln.cl | refine clean_tup _ ?_ | refine cleans_cons _ _ ?_ ?_ | refine DR_q _ ?_ | (refine Fk.fk ?_ ?_ <;> intro hg <;> (try simp only [hg]) <;> (try simp only [bunB, ne_eq, rangeP, classP, lowerP, splitP, pairP, cmpR_lt] at hg) <;> try (exfalso; first | omega | exact Bool.noConfusion hg | exact hg trivial)) | refine And.intro (by omega) ?_ | omega
    rw [h2]
theorem cat_spec (r : Int) : Spec Tryz.prog 30 [tab, I32 r] (I64 (cat r)) := by
  refine spec_mk (z := false) (ts := [.tmp 4]) ok1 Tryz.func30 rfl rfl (by decide +kernel) (by simp [Tryz.ntmps30]) rfl ?_
  repeat' first | refine WE_fit (of_spec _) ?_ ?_ | simp (maxSteps := 4000000) (disch := omega) only [bunL, bunD, bun, ↓WG_true, ↓WG_false, labelOf, findLabel, ↓reduceIte, imp, shift, killO, cond_true, cond_false, hasId, ne_eq, unown, names, plainR, below, noF, isF, lendObs, lendOb, kindOk, ren, givL, updM, backO, renO, belowM, seval, -Int.reduceToNat, D29, bunN, tab, tabC, ran_flen, cla_flen, low_flen, spl_flen, ran_take, cla_take, low_take, spl_take, ran_n0, ran_n1, cla_n0, cla_n1, cla_n2, cla_n3, low_n0, low_n1, low_n2, spl_n0, spl_n1, spl_n2, spl_n3, spl_n4, rangeC, classC, lowerC, splitC, sM_fit, pM_fit] | exact NK_no _ | refine NK_cl _ _ ?_ | exact Cln.cl | refine clean_tup _ ?_ | refine cleans_cons _ _ ?_ ?_ | refine DR_q _ ?_ | (refine Fk.fk ?_ ?_ <;> intro hg <;> (try simp only [hg]) <;> (try simp only [bunB, ne_eq, rangeP, classP, lowerP, splitP, pairP, cmpR_lt] at hg) <;> try (exfalso; first | omega | exact Bool.noConfusion hg | exact hg trivial)) | refine And.intro (by omega) ?_ | omega
  rfl
theorem bidi_spec (r : Int) : Spec Tryz.prog 83 [tab, I32 r] (I64 (bidi r)) := by
  refine spec_mk (z := false) (ts := [.tmp 4]) ok1 Tryz.func83 rfl rfl (by decide +kernel) (by simp [Tryz.ntmps83]) rfl ?_
  repeat' first | refine WE_fit (of_spec _) ?_ ?_ | simp (maxSteps := 4000000) (disch := omega) only [bunL, bunD, bun, ↓WG_true, ↓WG_false, labelOf, findLabel, ↓reduceIte, imp, shift, killO, cond_true, cond_false, hasId, ne_eq, unown, names, plainR, below, noF, isF, lendObs, lendOb, kindOk, ren, givL, updM, backO, renO, belowM, seval, -Int.reduceToNat, D29, bunN, tab, tabC, ran_flen, cla_flen, low_flen, spl_flen, ran_take, cla_take, low_take, spl_take, ran_n0, ran_n1, cla_n0, cla_n1, cla_n2, cla_n3, low_n0, low_n1, low_n2, spl_n0, spl_n1, spl_n2, spl_n3, spl_n4, rangeC, classC, lowerC, splitC, sM_fit, pM_fit] | exact NK_no _ | refine NK_cl _ _ ?_ | exact Cln.cl | refine clean_tup _ ?_ | refine cleans_cons _ _ ?_ ?_ | refine DR_q _ ?_ | (refine Fk.fk ?_ ?_ <;> intro hg <;> (try simp only [hg]) <;> (try simp only [bunB, ne_eq, rangeP, classP, lowerP, splitP, pairP, cmpR_lt] at hg) <;> try (exfalso; first | omega | exact Bool.noConfusion hg | exact hg trivial)) | refine And.intro (by omega) ?_ | omega
  rfl
theorem join_spec (r : Int) : Spec Tryz.prog 145 [tab, I32 r] (I64 (join r)) := by
  refine spec_mk (z := false) (ts := [.tmp 4]) ok1 Tryz.func145 rfl rfl (by decide +kernel) (by simp [Tryz.ntmps145]) rfl ?_
  repeat' first | refine WE_fit (of_spec _) ?_ ?_ | simp (maxSteps := 4000000) (disch := omega) only [bunL, bunD, bun, ↓WG_true, ↓WG_false, labelOf, findLabel, ↓reduceIte, imp, shift, killO, cond_true, cond_false, hasId, ne_eq, unown, names, plainR, below, noF, isF, lendObs, lendOb, kindOk, ren, givL, updM, backO, renO, belowM, seval, -Int.reduceToNat, D29, bunN, tab, tabC, ran_flen, cla_flen, low_flen, spl_flen, ran_take, cla_take, low_take, spl_take, ran_n0, ran_n1, cla_n0, cla_n1, cla_n2, cla_n3, low_n0, low_n1, low_n2, spl_n0, spl_n1, spl_n2, spl_n3, spl_n4, rangeC, classC, lowerC, splitC, sM_fit, pM_fit] | exact NK_no _ | refine NK_cl _ _ ?_ | exact Cln.cl | refine clean_tup _ ?_ | refine cleans_cons _ _ ?_ ?_ | refine DR_q _ ?_ | (refine Fk.fk ?_ ?_ <;> intro hg <;> (try simp only [hg]) <;> (try simp only [bunB, ne_eq, rangeP, classP, lowerP, splitP, pairP, cmpR_lt] at hg) <;> try (exfalso; first | omega | exact Bool.noConfusion hg | exact hg trivial)) | refine And.intro (by omega) ?_ | omega
  rfl
theorem script_spec (r : Int) : Spec Tryz.prog 136 [tab, I32 r] (I64 (script r)) := by
  refine spec_mk (z := false) (ts := [.tmp 4]) ok1 Tryz.func136 rfl rfl (by decide +kernel) (by simp [Tryz.ntmps136]) rfl ?_
  repeat' first | refine WE_fit (of_spec _) ?_ ?_ | simp (maxSteps := 4000000) (disch := omega) only [bunL, bunD, bun, ↓WG_true, ↓WG_false, labelOf, findLabel, ↓reduceIte, imp, shift, killO, cond_true, cond_false, hasId, ne_eq, unown, names, plainR, below, noF, isF, lendObs, lendOb, kindOk, ren, givL, updM, backO, renO, belowM, seval, -Int.reduceToNat, D29, bunN, tab, tabC, ran_flen, cla_flen, low_flen, spl_flen, ran_take, cla_take, low_take, spl_take, ran_n0, ran_n1, cla_n0, cla_n1, cla_n2, cla_n3, low_n0, low_n1, low_n2, spl_n0, spl_n1, spl_n2, spl_n3, spl_n4, rangeC, classC, lowerC, splitC, sM_fit, pM_fit] | exact NK_no _ | refine NK_cl _ _ ?_ | exact Cln.cl | refine clean_tup _ ?_ | refine cleans_cons _ _ ?_ ?_ | refine DR_q _ ?_ | (refine Fk.fk ?_ ?_ <;> intro hg <;> (try simp only [hg]) <;> (try simp only [bunB, ne_eq, rangeP, classP, lowerP, splitP, pairP, cmpR_lt] at hg) <;> try (exfalso; first | omega | exact Bool.noConfusion hg | exact hg trivial)) | refine And.intro (by omega) ?_ | omega
  rfl
theorem clsF_spec (x : ClassT) (r : Int) : Spec Tryz.prog 139 [.ag (classC x), .cp [I32 r]] (Bv (classP r x)) := by
  refine spec_mk (z := false) (ts := [.tmp 3]) ok1 Tryz.func139 rfl rfl (by decide +kernel) (by simp [Tryz.ntmps139]) rfl ?_
  repeat' first | simp (maxSteps := 4000000) (disch := omega) only [bunL, bunD, bun, ↓WG_true, ↓WG_false, labelOf, findLabel, ↓reduceIte, imp, shift, killO, cond_true, cond_false, hasId, ne_eq, unown, names, plainR, below, noF, isF, lendObs, lendOb, kindOk, ren, givL, updM, backO, renO, belowM, seval, -Int.reduceToNat, B4, D74, bunN, tab, tabC, ran_flen, cla_flen, low_flen, spl_flen, ran_take, cla_take, low_take, spl_take, ran_n0, ran_n1, cla_n0, cla_n1, cla_n2, cla_n3, low_n0, low_n1, low_n2, spl_n0, spl_n1, spl_n2, spl_n3, spl_n4, rangeC, classC, lowerC, splitC, sM_fit, pM_fit] | refine DR_q _ ?_ | (refine Fk.fk ?_ ?_ <;> intro hg <;> (try simp only [hg]) <;> (try simp only [bunB, ne_eq, rangeP, classP, lowerP, splitP, pairP, cmpR_lt] at hg) <;> try (exfalso; first | omega | exact Bool.noConfusion hg | exact hg trivial)) | refine And.intro (by omega) ?_ | omega
  all_goals (congr 2; first | rfl | (first | rw [Bool.eq_iff_iff] | skip); simp_all [classP, lowerP] <;> omega)
theorem clsI_spec (r : Int) : Spec Tryz.prog 138 [.sl 10 (classes.flatMap classC), .fn 139 [] [.cp [I32 r]]] (I64 (idx 10 (classes.findIdx (classP r)))) := by
  refine spec_mk (z := false) (ts := [.tmp 4]) ok1 Tryz.func138 rfl rfl (by decide +kernel) (by simp [Tryz.ntmps138]) rfl ?_
  repeat' first | simp (maxSteps := 4000000) (disch := omega) only [bunL, bunD, bun, ↓WG_true, ↓WG_false, labelOf, findLabel, ↓reduceIte, imp, shift, killO, cond_true, cond_false, hasId, ne_eq, unown, names, plainR, below, noF, isF, lendObs, lendOb, kindOk, ren, givL, updM, backO, renO, belowM, seval, -Int.reduceToNat, B4, D24, B140, bunN, tab, tabC, ran_flen, cla_flen, low_flen, spl_flen, ran_take, cla_take, low_take, spl_take, ran_n0, ran_n1, cla_n0, cla_n1, cla_n2, cla_n3, low_n0, low_n1, low_n2, spl_n0, spl_n1, spl_n2, spl_n3, spl_n4, rangeC, classC, lowerC, splitC, sM_fit, pM_fit] | refine DR_q _ ?_ | (refine Fk.fk ?_ ?_ <;> intro hg <;> (try simp only [hg]) <;> (try simp only [bunB, ne_eq, rangeP, classP, lowerP, splitP, pairP, cmpR_lt] at hg) <;> try (exfalso; first | omega | exact Bool.noConfusion hg | exact hg trivial)) | refine And.intro (by omega) ?_ | omega
  refine LP_intro (fun i : Nat => ⟨[(0, .sl 10 (classes.flatMap classC)), (1, .fn 139 [] [.cp [I32 r]]), (7, I64 10), (8, I64 i)], []⟩) (fun i => i ≤ 10 ∧ ∀ j, j < i → classP r (classes.getD j class0) = false) (fun i => 10 - i) 0 (by simp) (by simp [wk, wkT, wkM, noF, isF, get, belowT, belowM, below, belows, I64, I32, Bv, U8, Sv] <;> try omega) ?_
  intro i ⟨hi, hno⟩
  repeat' first | refine WE_fit (clsF_spec _ _) ?_ ?_ | simp (maxSteps := 4000000) (disch := omega) only [bunL, bunD, bun, ↓WG_true, ↓WG_false, labelOf, findLabel, ↓reduceIte, imp, shift, killO, cond_true, cond_false, hasId, ne_eq, unown, names, plainR, below, noF, isF, lendObs, lendOb, kindOk, ren, givL, updM, backO, renO, belowM, seval, -Int.reduceToNat, B4, D24, B140, bunN, tab, tabC, ran_flen, cla_flen, low_flen, spl_flen, ran_take, cla_take, low_take, spl_take, ran_n0, ran_n1, cla_n0, cla_n1, cla_n2, cla_n3, low_n0, low_n1, low_n2, spl_n0, spl_n1, spl_n2, spl_n3, spl_n4, rangeC, classC, lowerC, splitC, sM_fit, pM_fit] | exact NK_no _ | refine NK_cl _ _ ?_ | exact Cln.cl | refine clean_tup _ ?_ | refine cleans_cons _ _ ?_ ?_ | refine DR_q _ ?_ | (refine Fk.fk ?_ ?_ <;> intro hg <;> (try simp only [hg]) <;> (try simp only [bunB, ne_eq, rangeP, classP, lowerP, splitP, pairP, cmpR_lt] at hg) <;> try (exfalso; first | omega | exact Bool.noConfusion hg | exact hg trivial)) | refine And.intro (by omega) ?_ | omega
  · rw [idx_hit cla_len hno (by omega) (by simp only [classP, Bool.and_eq_true, decide_eq_true_eq]; assumption)]
  · refine ⟨i + 1, ⟨by omega, upto_succ hno ?_⟩, by omega, (by simp [wk, wkT, wkM, noF, isF, get, belowT, belowM, below, belows, I64, I32, Bv, U8, Sv] <;> try omega)⟩
    simp only [classP, Bool.and_eq_false_iff, decide_eq_false_iff_not]; assumption
  · rw [idx_miss cla_len hno (by omega)]
theorem class_spec (r : Int) (h0 : -2147483648 ≤ r) (h1 : r ≤ 2147483647) : Spec Tryz.prog 127 [tab, I32 r] (I64 (cls r)) := by
  refine spec_mk (z := false) (ts := [.tmp 4]) ok1 Tryz.func127 rfl rfl (by decide +kernel) (by simp [Tryz.ntmps127]) rfl ?_
  by_cases hin : classes.findIdx (classP r) < 10
  · obtain ⟨h2, h3, h4⟩ := cls_in hin
    have h5 := cla_ok hin
    have h6 := idx_in hin
    rcases h5.2.2.2.2 with h7 | h7
    · rw [h7] at h2
      repeat' first | refine WE_fit (clsI_spec _) ?_ ?_ | simp (maxSteps := 4000000) (disch := omega) only [bunL, bunD, bun, ↓WG_true, ↓WG_false, labelOf, findLabel, ↓reduceIte, imp, shift, killO, cond_true, cond_false, hasId, ne_eq, unown, names, plainR, below, noF, isF, lendObs, lendOb, kindOk, ren, givL, updM, backO, renO, belowM, seval, -Int.reduceToNat, h6, h7, Int.zero_mul, D29, B140, bunN, tab, tabC, ran_flen, cla_flen, low_flen, spl_flen, ran_take, cla_take, low_take, spl_take, ran_n0, ran_n1, cla_n0, cla_n1, cla_n2, cla_n3, low_n0, low_n1, low_n2, spl_n0, spl_n1, spl_n2, spl_n3, spl_n4, rangeC, classC, lowerC, splitC, sM_fit, pM_fit] | exact NK_no _ | refine NK_cl _ _ ?_ | exact Cln.cl | refine clean_tup _ ?_ | refine cleans_cons _ _ ?_ ?_ | refine DR_q _ ?_ | (refine Fk.fk ?_ ?_ <;> intro hg <;> (try simp only [hg]) <;> (try simp only [bunB, ne_eq, rangeP, classP, lowerP, splitP, pairP, cmpR_lt] at hg) <;> try (exfalso; first | omega | exact Bool.noConfusion hg | exact hg trivial)) | refine And.intro (by omega) ?_ | omega
      all_goals (rw [h2, Int.zero_mul])
    · rw [h7] at h2
      repeat' first | refine WE_fit (clsI_spec _) ?_ ?_ | simp (maxSteps := 4000000) (disch := omega) only [bunL, bunD, bun, ↓WG_true, ↓WG_false, labelOf, findLabel, ↓reduceIte, imp, shift, killO, cond_true, cond_false, hasId, ne_eq, unown, names, plainR, below, noF, isF, lendObs, lendOb, kindOk, ren, givL, updM, backO, renO, belowM, seval, -Int.reduceToNat, h6, h7, Int.one_mul, D29, B140, bunN, tab, tabC, ran_flen, cla_flen, low_flen, spl_flen, ran_take, cla_take, low_take, spl_take, ran_n0, ran_n1, cla_n0, cla_n1, cla_n2, cla_n3, low_n0, low_n1, low_n2, spl_n0, spl_n1, spl_n2, spl_n3, spl_n4, rangeC, classC, lowerC, splitC, sM_fit, pM_fit] | exact NK_no _ | refine NK_cl _ _ ?_ | exact Cln.cl | refine clean_tup _ ?_ | refine cleans_cons _ _ ?_ ?_ | refine DR_q _ ?_ | (refine Fk.fk ?_ ?_ <;> intro hg <;> (try simp only [hg]) <;> (try simp only [bunB, ne_eq, rangeP, classP, lowerP, splitP, pairP, cmpR_lt] at hg) <;> try (exfalso; first | omega | exact Bool.noConfusion hg | exact hg trivial)) | refine And.intro (by omega) ?_ | omega
      all_goals (rw [h2, Int.one_mul])
  · have h6 := idx_out hin
    repeat' first | refine WE_fit (clsI_spec _) ?_ ?_ | simp (maxSteps := 4000000) (disch := omega) only [bunL, bunD, bun, ↓WG_true, ↓WG_false, labelOf, findLabel, ↓reduceIte, imp, shift, killO, cond_true, cond_false, hasId, ne_eq, unown, names, plainR, below, noF, isF, lendObs, lendOb, kindOk, ren, givL, updM, backO, renO, belowM, seval, -Int.reduceToNat, h6, D29, B140, bunN, tab, tabC, ran_flen, cla_flen, low_flen, spl_flen, ran_take, cla_take, low_take, spl_take, ran_n0, ran_n1, cla_n0, cla_n1, cla_n2, cla_n3, low_n0, low_n1, low_n2, spl_n0, spl_n1, spl_n2, spl_n3, spl_n4, rangeC, classC, lowerC, splitC, sM_fit, pM_fit] | exact NK_no _ | refine NK_cl _ _ ?_ | exact Cln.cl | refine clean_tup _ ?_ | refine cleans_cons _ _ ?_ ?_ | refine DR_q _ ?_ | (refine Fk.fk ?_ ?_ <;> intro hg <;> (try simp only [hg]) <;> (try simp only [bunB, ne_eq, rangeP, classP, lowerP, splitP, pairP, cmpR_lt] at hg) <;> try (exfalso; first | omega | exact Bool.noConfusion hg | exact hg trivial)) | refine And.intro (by omega) ?_ | omega
    rw [cls_out hin]
theorem lowF_spec (x : LowerT) (r : Int) : Spec Tryz.prog 111 [.ag (lowerC x), .cp [I32 r]] (Bv (lowerP r x)) := by
  refine spec_mk (z := false) (ts := [.tmp 3]) ok1 Tryz.func111 rfl rfl (by decide +kernel) (by simp [Tryz.ntmps111]) rfl ?_
  repeat' first | simp (maxSteps := 4000000) (disch := omega) only [bunL, bunD, bun, ↓WG_true, ↓WG_false, labelOf, findLabel, ↓reduceIte, imp, shift, killO, cond_true, cond_false, hasId, ne_eq, unown, names, plainR, below, noF, isF, lendObs, lendOb, kindOk, ren, givL, updM, backO, renO, belowM, seval, -Int.reduceToNat, B4, B21, B76, bunN, tab, tabC, ran_flen, cla_flen, low_flen, spl_flen, ran_take, cla_take, low_take, spl_take, ran_n0, ran_n1, cla_n0, cla_n1, cla_n2, cla_n3, low_n0, low_n1, low_n2, spl_n0, spl_n1, spl_n2, spl_n3, spl_n4, rangeC, classC, lowerC, splitC, sM_fit, pM_fit] | refine DR_q _ ?_ | (refine Fk.fk ?_ ?_ <;> intro hg <;> (try simp only [hg]) <;> (try simp only [bunB, ne_eq, rangeP, classP, lowerP, splitP, pairP, cmpR_lt] at hg) <;> try (exfalso; first | omega | exact Bool.noConfusion hg | exact hg trivial)) | refine And.intro (by omega) ?_ | omega
  all_goals (congr 2; first | rfl | (first | rw [Bool.eq_iff_iff] | skip); simp_all [classP, lowerP] <;> omega)
theorem lowI_spec (r : Int) : Spec Tryz.prog 110 [.sl 11 (lowers.flatMap lowerC), .fn 111 [] [.cp [I32 r]]] (I64 (idx 11 (lowers.findIdx (lowerP r)))) := by
  refine spec_mk (z := false) (ts := [.tmp 4]) ok1 Tryz.func110 rfl rfl (by decide +kernel) (by simp [Tryz.ntmps110]) rfl ?_
  repeat' first | simp (maxSteps := 4000000) (disch := omega) only [bunL, bunD, bun, ↓WG_true, ↓WG_false, labelOf, findLabel, ↓reduceIte, imp, shift, killO, cond_true, cond_false, hasId, ne_eq, unown, names, plainR, below, noF, isF, lendObs, lendOb, kindOk, ren, givL, updM, backO, renO, belowM, seval, -Int.reduceToNat, B3, B4, D25, B126, bunN, tab, tabC, ran_flen, cla_flen, low_flen, spl_flen, ran_take, cla_take, low_take, spl_take, ran_n0, ran_n1, cla_n0, cla_n1, cla_n2, cla_n3, low_n0, low_n1, low_n2, spl_n0, spl_n1, spl_n2, spl_n3, spl_n4, rangeC, classC, lowerC, splitC, sM_fit, pM_fit] | refine DR_q _ ?_ | (refine Fk.fk ?_ ?_ <;> intro hg <;> (try simp only [hg]) <;> (try simp only [bunB, ne_eq, rangeP, classP, lowerP, splitP, pairP, cmpR_lt] at hg) <;> try (exfalso; first | omega | exact Bool.noConfusion hg | exact hg trivial)) | refine And.intro (by omega) ?_ | omega
  refine LP_intro (fun i : Nat => ⟨[(0, .sl 11 (lowers.flatMap lowerC)), (1, .fn 111 [] [.cp [I32 r]]), (7, I64 11), (8, I64 i)], []⟩) (fun i => i ≤ 11 ∧ ∀ j, j < i → lowerP r (lowers.getD j lower0) = false) (fun i => 11 - i) 0 (by simp) (by simp [wk, wkT, wkM, noF, isF, get, belowT, belowM, below, belows, I64, I32, Bv, U8, Sv] <;> try omega) ?_
  intro i ⟨hi, hno⟩
  repeat' first | refine WE_fit (lowF_spec _ _) ?_ ?_ | simp (maxSteps := 4000000) (disch := omega) only [bunL, bunD, bun, ↓WG_true, ↓WG_false, labelOf, findLabel, ↓reduceIte, imp, shift, killO, cond_true, cond_false, hasId, ne_eq, unown, names, plainR, below, noF, isF, lendObs, lendOb, kindOk, ren, givL, updM, backO, renO, belowM, seval, -Int.reduceToNat, B3, B4, D25, B126, bunN, tab, tabC, ran_flen, cla_flen, low_flen, spl_flen, ran_take, cla_take, low_take, spl_take, ran_n0, ran_n1, cla_n0, cla_n1, cla_n2, cla_n3, low_n0, low_n1, low_n2, spl_n0, spl_n1, spl_n2, spl_n3, spl_n4, rangeC, classC, lowerC, splitC, sM_fit, pM_fit] | exact NK_no _ | refine NK_cl _ _ ?_ | exact Cln.cl | refine clean_tup _ ?_ | refine cleans_cons _ _ ?_ ?_ | refine DR_q _ ?_ | (refine Fk.fk ?_ ?_ <;> intro hg <;> (try simp only [hg]) <;> (try simp only [bunB, ne_eq, rangeP, classP, lowerP, splitP, pairP, cmpR_lt] at hg) <;> try (exfalso; first | omega | exact Bool.noConfusion hg | exact hg trivial)) | refine And.intro (by omega) ?_ | omega
  · rw [idx_hit low_len hno (by omega) (by simp only [lowerP, Bool.and_eq_true, decide_eq_true_eq]; assumption)]
  · refine ⟨i + 1, ⟨by omega, upto_succ hno ?_⟩, by omega, (by simp [wk, wkT, wkM, noF, isF, get, belowT, belowM, below, belows, I64, I32, Bv, U8, Sv] <;> try omega)⟩
    simp only [lowerP, Bool.and_eq_false_iff, decide_eq_false_iff_not]; assumption
  · rw [idx_miss low_len hno (by omega)]
theorem lower_spec (r : Int) : Spec Tryz.prog 80 [tab, I32 r] (I32 (low r)) := by
  refine spec_mk (z := false) (ts := [.tmp 4]) ok1 Tryz.func80 rfl rfl (by decide +kernel) (by simp [Tryz.ntmps80]) rfl ?_
  by_cases hin : lowers.findIdx (lowerP r) < 11
  · obtain ⟨h2, h3, h4⟩ := low_in hin
    have h5 := low_ok hin
    have h6 := idx_in hin
    repeat' first | refine WE_fit (lowI_spec _) ?_ ?_ | simp (maxSteps := 4000000) (disch := omega) only [bunL, bunD, bun, ↓WG_true, ↓WG_false, labelOf, findLabel, ↓reduceIte, imp, shift, killO, cond_true, cond_false, hasId, ne_eq, unown, names, plainR, below, noF, isF, lendObs, lendOb, kindOk, ren, givL, updM, backO, renO, belowM, seval, -Int.reduceToNat, h6, D29, B126, bunN, tab, tabC, ran_flen, cla_flen, low_flen, spl_flen, ran_take, cla_take, low_take, spl_take, ran_n0, ran_n1, cla_n0, cla_n1, cla_n2, cla_n3, low_n0, low_n1, low_n2, spl_n0, spl_n1, spl_n2, spl_n3, spl_n4, rangeC, classC, lowerC, splitC, sM_fit, pM_fit] | exact NK_no _ | refine NK_cl _ _ ?_ | exact Cln.cl | refine clean_tup _ ?_ | refine cleans_cons _ _ ?_ ?_ | refine DR_q _ ?_ | (refine Fk.fk ?_ ?_ <;> intro hg <;> (try simp only [hg]) <;> (try simp only [bunB, ne_eq, rangeP, classP, lowerP, splitP, pairP, cmpR_lt] at hg) <;> try (exfalso; first | omega | exact Bool.noConfusion hg | exact hg trivial)) | refine And.intro (by omega) ?_ | omega
    rw [h2]
  · have h6 := idx_out hin
    repeat' first | refine WE_fit (lowI_spec _) ?_ ?_ | simp (maxSteps := 4000000) (disch := omega) only [bunL, bunD, bun, ↓WG_true, ↓WG_false, labelOf, findLabel, ↓reduceIte, imp, shift, killO, cond_true, cond_false, hasId, ne_eq, unown, names, plainR, below, noF, isF, lendObs, lendOb, kindOk, ren, givL, updM, backO, renO, belowM, seval, -Int.reduceToNat, h6, D29, B126, bunN, tab, tabC, ran_flen, cla_flen, low_flen, spl_flen, ran_take, cla_take, low_take, spl_take, ran_n0, ran_n1, cla_n0, cla_n1, cla_n2, cla_n3, low_n0, low_n1, low_n2, spl_n0, spl_n1, spl_n2, spl_n3, spl_n4, rangeC, classC, lowerC, splitC, sM_fit, pM_fit] | exact NK_no _ | refine NK_cl _ _ ?_ | exact Cln.cl | refine clean_tup _ ?_ | refine cleans_cons _ _ ?_ ?_ | refine DR_q _ ?_ | (refine Fk.fk ?_ ?_ <;> intro hg <;> (try simp only [hg]) <;> (try simp only [bunB, ne_eq, rangeP, classP, lowerP, splitP, pairP, cmpR_lt] at hg) <;> try (exfalso; first | omega | exact Bool.noConfusion hg | exact hg trivial)) | refine And.intro (by omega) ?_ | omega
    rw [low_out hin]
theorem sM_all : sM 42 = splits.map fun s => (.int .i32 s.1, .ag (splitC s)) := rfl
theorem pM_all : pM 42 = (splits.filter fun s => !s.2.2.2.1 && !s.2.2.2.2).map fun s => (.agg #[.int .i32 s.2.1, .int .i32 s.2.2.1], .v (.int .i32 s.1)) := rfl
theorem sM_get (r : Int) : mget (.int .i32 r) (sM 42) = (splits.find? (splitP r)).map fun s => .ag (splitC s) := by
  rw [sM_all, mget_map (fun s => .int .i32 s.1) (fun s => .ag (splitC s))]
  congr 2
  funext s
  simp only [eqK, eq1, splitP, Bool.beq_eq_decide_eq]
  rw [Bool.eq_iff_iff]; simp only [beq_iff_eq, decide_eq_true_eq]; exact eq_comm
theorem pM_get (a b : Int) : mget (.agg #[.int .i32 a, .int .i32 b]) (pM 42) = (splits.find? (pairP a b)).map fun s => .v (.int .i32 s.1) := by
  rw [pM_all, mget_map (fun s : SplitT => .agg #[.int .i32 s.2.1, .int .i32 s.2.2.1]) (fun s => .v (.int .i32 s.1)), List.find?_filter]
  congr 2
  funext s
  simp only [eqK, eqs, eq1, pairP, Bool.and_true]
  rw [Bool.eq_iff_iff]; simp only [Bool.and_eq_true, beq_iff_eq, Bool.not_eq_true', decide_eq_true_eq]
  constructor
  · rintro ⟨⟨h1, h2⟩, h3, h4⟩; exact ⟨⟨⟨h1, h2⟩, h3.symm⟩, h4.symm⟩
  · rintro ⟨⟨⟨h1, h2⟩, h3⟩, h4⟩; exact ⟨⟨h1, h2⟩, h3.symm, h4.symm⟩
theorem split_spec (r : Int) : Spec Tryz.prog 31 [tab, I32 r] (.tup [.ag (splitC (spl r).1), Bv (spl r).2]) := by
  refine spec_mk (z := false) (ts := [.cell 4 48, .tmp 5]) ok1 Tryz.func31 rfl rfl (by decide +kernel) (by simp [Tryz.ntmps31]) rfl ?_
  cases hf : splits.find? (splitP r) with
  | none =>
    repeat' first | simp (maxSteps := 4000000) (disch := omega) only [bunL, bunD, bun, ↓WG_true, ↓WG_false, labelOf, findLabel, ↓reduceIte, imp, shift, killO, cond_true, cond_false, hasId, ne_eq, unown, names, plainR, below, noF, isF, lendObs, lendOb, kindOk, ren, givL, updM, backO, renO, belowM, seval, -Int.reduceToNat, sM_get, hf, Option.map_none, D29, bunN, tab, tabC, ran_flen, cla_flen, low_flen, spl_flen, ran_take, cla_take, low_take, spl_take, ran_n0, ran_n1, cla_n0, cla_n1, cla_n2, cla_n3, low_n0, low_n1, low_n2, spl_n0, spl_n1, spl_n2, spl_n3, spl_n4, rangeC, classC, lowerC, splitC, sM_fit, pM_fit] | refine DR_q _ ?_ | (refine Fk.fk ?_ ?_ <;> intro hg <;> (try simp only [hg]) <;> (try simp only [bunB, ne_eq, rangeP, classP, lowerP, splitP, pairP, cmpR_lt] at hg) <;> try (exfalso; first | omega | exact Bool.noConfusion hg | exact hg trivial)) | refine And.intro (by omega) ?_ | omega
    · have : wide r = true := by simp only [wide, Bool.and_eq_true, decide_eq_true_eq]; omega
      simp only [spl, this]; try rfl
    all_goals
      have : wide r = false := by simp only [wide, Bool.and_eq_false_iff, decide_eq_false_iff_not]; omega
      simp only [spl, this, hf]; try rfl
  | some x =>
    repeat' first | simp (maxSteps := 4000000) (disch := omega) only [bunL, bunD, bun, ↓WG_true, ↓WG_false, labelOf, findLabel, ↓reduceIte, imp, shift, killO, cond_true, cond_false, hasId, ne_eq, unown, names, plainR, below, noF, isF, lendObs, lendOb, kindOk, ren, givL, updM, backO, renO, belowM, seval, -Int.reduceToNat, sM_get, hf, Option.map_some, D29, bunN, tab, tabC, ran_flen, cla_flen, low_flen, spl_flen, ran_take, cla_take, low_take, spl_take, ran_n0, ran_n1, cla_n0, cla_n1, cla_n2, cla_n3, low_n0, low_n1, low_n2, spl_n0, spl_n1, spl_n2, spl_n3, spl_n4, rangeC, classC, lowerC, splitC, sM_fit, pM_fit] | refine DR_q _ ?_ | (refine Fk.fk ?_ ?_ <;> intro hg <;> (try simp only [hg]) <;> (try simp only [bunB, ne_eq, rangeP, classP, lowerP, splitP, pairP, cmpR_lt] at hg) <;> try (exfalso; first | omega | exact Bool.noConfusion hg | exact hg trivial)) | refine And.intro (by omega) ?_ | omega
    · have : wide r = true := by simp only [wide, Bool.and_eq_true, decide_eq_true_eq]; omega
      simp only [spl, this]; try rfl
    all_goals
      have : wide r = false := by simp only [wide, Bool.and_eq_false_iff, decide_eq_false_iff_not]; omega
      simp only [spl, this, hf]; try rfl
theorem pair_spec (a b : Int) : Spec Tryz.prog 144 [tab, I32 a, I32 b] (.tup [I32 (pr a b).1, Bv (pr a b).2]) := by
  refine spec_mk (z := false) (ts := [.tmp 6, .tmp 7]) ok1 Tryz.func144 rfl rfl (by decide +kernel) (by simp [Tryz.ntmps144]) rfl ?_
  cases hf : splits.find? (pairP a b) with
  | none =>
    repeat' first | simp (maxSteps := 4000000) (disch := omega) only [bunL, bunD, bun, ↓WG_true, ↓WG_false, labelOf, findLabel, ↓reduceIte, imp, shift, killO, cond_true, cond_false, hasId, ne_eq, unown, names, plainR, below, noF, isF, lendObs, lendOb, kindOk, ren, givL, updM, backO, renO, belowM, seval, -Int.reduceToNat, pM_get, hf, Option.map_none, D29, bunN, tab, tabC, ran_flen, cla_flen, low_flen, spl_flen, ran_take, cla_take, low_take, spl_take, ran_n0, ran_n1, cla_n0, cla_n1, cla_n2, cla_n3, low_n0, low_n1, low_n2, spl_n0, spl_n1, spl_n2, spl_n3, spl_n4, rangeC, classC, lowerC, splitC, sM_fit, pM_fit] | refine DR_q _ ?_ | (refine Fk.fk ?_ ?_ <;> intro hg <;> (try simp only [hg]) <;> (try simp only [bunB, ne_eq, rangeP, classP, lowerP, splitP, pairP, cmpR_lt] at hg) <;> try (exfalso; first | omega | exact Bool.noConfusion hg | exact hg trivial)) | refine And.intro (by omega) ?_ | omega
    all_goals (simp only [pr, hf]; try rfl)
  | some x =>
    repeat' first | simp (maxSteps := 4000000) (disch := omega) only [bunL, bunD, bun, ↓WG_true, ↓WG_false, labelOf, findLabel, ↓reduceIte, imp, shift, killO, cond_true, cond_false, hasId, ne_eq, unown, names, plainR, below, noF, isF, lendObs, lendOb, kindOk, ren, givL, updM, backO, renO, belowM, seval, -Int.reduceToNat, pM_get, hf, Option.map_some, D29, bunN, tab, tabC, ran_flen, cla_flen, low_flen, spl_flen, ran_take, cla_take, low_take, spl_take, ran_n0, ran_n1, cla_n0, cla_n1, cla_n2, cla_n3, low_n0, low_n1, low_n2, spl_n0, spl_n1, spl_n2, spl_n3, spl_n4, rangeC, classC, lowerC, splitC, sM_fit, pM_fit] | refine DR_q _ ?_ | (refine Fk.fk ?_ ?_ <;> intro hg <;> (try simp only [hg]) <;> (try simp only [bunB, ne_eq, rangeP, classP, lowerP, splitP, pairP, cmpR_lt] at hg) <;> try (exfalso; first | omega | exact Bool.noConfusion hg | exact hg trivial)) | refine And.intro (by omega) ?_ | omega
    all_goals (simp only [pr, hf]; try rfl)
end Go.AE
end
section
/- What is read of the table: the document's answer. -/
namespace Go.AE
open Go.Proofs
set_option maxRecDepth 20000
set_option linter.unusedSimpArgs false
theorem find_yes {r : Int} {i : Nat} (hno : ∀ j, j < i → rangeP r (ranges.getD j range0) = false) (hi : i < 74) (hp : rangeP r (ranges.getD i range0) = true) : ofR r = ranges.getD i range0 ∧ inR r = true := by
  have := (first_at (l := ranges) (d := range0) hno (by rw [ran_len]; exact hi) hp).2
  exact ⟨by rw [ofR, this]; rfl, by rw [inR, this]; rfl⟩
theorem find_no {r : Int} {i : Nat} (hno : ∀ j, j < i → rangeP r (ranges.getD j range0) = false) (hi : ¬ i < 74) : ofR r = range0 ∧ inR r = false := by
  have := (first_none (l := ranges) (d := range0) (p := rangeP r) (fun j hj => hno j (by rw [ran_len] at hj; omega))).2
  exact ⟨by rw [ofR, this]; rfl, by rw [inR, this]; rfl⟩
theorem rfind_spec (r : Int) : Spec Tryz.prog 72 [I32 r] (.tup [.ag (rangeC (ofR r)), Bv (inR r)]) := by
  refine spec_mk (z := false) (ts := [.cell 2 72, .tmp 3]) ok1 Tryz.func72 rfl rfl (by decide +kernel) (by simp [Tryz.ntmps72]) rfl ?_
  repeat' first | refine WE_fit (ranges_spec) ?_ ?_ | simp (maxSteps := 4000000) (disch := omega) only [bunL, bunD, bun, ↓WG_true, ↓WG_false, labelOf, findLabel, ↓reduceIte, imp, shift, killO, cond_true, cond_false, hasId, ne_eq, unown, names, plainR, below, noF, isF, lendObs, lendOb, kindOk, ren, givL, updM, backO, renO, belowM, seval, -Int.reduceToNat, B4, D23, bunN, tab, tabC, ran_flen, cla_flen, low_flen, spl_flen, ran_take, cla_take, low_take, spl_take, ran_n0, ran_n1, cla_n0, cla_n1, cla_n2, cla_n3, low_n0, low_n1, low_n2, spl_n0, spl_n1, spl_n2, spl_n3, spl_n4, rangeC, classC, lowerC, splitC] | exact NK_no _ | refine NK_cl _ _ ?_ | exact Cln.cl | refine clean_tup _ ?_ | refine cleans_cons _ _ ?_ ?_ | refine DR_q _ ?_ | (refine Fk.fk ?_ ?_ <;> intro hg <;> (try simp only [hg]) <;> (try simp only [bunB, ne_eq] at hg) <;> try (exfalso; first | omega | exact Bool.noConfusion hg | exact hg trivial)) | refine And.intro (by omega) ?_ | omega
  refine LP_intro (fun i : Nat => ⟨[(0, I32 r), (2, .ptr 0 0), (3, Bv false), (4, .ref 1 0 74), (5, I64 i)], [.row true 1 (rangeC range0), .arr 72 6 (ranges.flatMap rangeC)]⟩) (fun i => i ≤ 74 ∧ ∀ j, j < i → rangeP r (ranges.getD j range0) = false) (fun i => 74 - i) 0 (by simp) (by (simp (disch := omega) [wk, wkT, wkM, noF, isF, get, belowT, belowM, below, belows, I64, I32, Bv, U8, Sv, rangeC, range0] <;> try omega)) ?_
  intro i ⟨hi, hno⟩
  repeat' first | simp (maxSteps := 4000000) (disch := omega) only [bunL, bunD, bun, ↓WG_true, ↓WG_false, labelOf, findLabel, ↓reduceIte, imp, shift, killO, cond_true, cond_false, hasId, ne_eq, unown, names, plainR, below, noF, isF, lendObs, lendOb, kindOk, ren, givL, updM, backO, renO, belowM, seval, -Int.reduceToNat, B4, D23, bunN, tab, tabC, ran_flen, cla_flen, low_flen, spl_flen, ran_take, cla_take, low_take, spl_take, ran_n0, ran_n1, cla_n0, cla_n1, cla_n2, cla_n3, low_n0, low_n1, low_n2, spl_n0, spl_n1, spl_n2, spl_n3, spl_n4, rangeC, classC, lowerC, splitC] | refine DR_q _ ?_ | (refine Fk.fk ?_ ?_ <;> intro hg <;> (try simp only [hg]) <;> (try simp only [bunB, ne_eq] at hg) <;> try (exfalso; first | omega | exact Bool.noConfusion hg | exact hg trivial)) | refine And.intro (by omega) ?_ | omega
  · obtain ⟨h1, h2⟩ := find_yes hno (by omega) (by simp only [rangeP, Bool.and_eq_true, decide_eq_true_eq]; omega)
    rw [h1, h2]
  · refine ⟨i + 1, ⟨by omega, upto_succ hno ?_⟩, by omega, by (simp (disch := omega) [wk, wkT, wkM, noF, isF, get, belowT, belowM, below, belows, I64, I32, Bv, U8, Sv, rangeC, range0] <;> try omega)⟩
    simp only [rangeP, Bool.and_eq_false_iff, decide_eq_false_iff_not]; omega
  · refine ⟨i + 1, ⟨by omega, upto_succ hno ?_⟩, by omega, by (simp (disch := omega) [wk, wkT, wkM, noF, isF, get, belowT, belowM, below, belows, I64, I32, Bv, U8, Sv, rangeC, range0] <;> try omega)⟩
    simp only [rangeP, Bool.and_eq_false_iff, decide_eq_false_iff_not]; omega
  · obtain ⟨h1, h2⟩ := find_no hno (by omega)
    rw [h1, h2]; rfl
theorem rcat_spec (r : Int) : Spec Tryz.prog 34 [I32 r] (I64 (cat r)) := by
  refine spec_mk (z := false) (ts := [.tmp 2]) ok1 Tryz.func34 rfl rfl (by decide +kernel) (by simp [Tryz.ntmps34]) rfl ?_
  repeat' first | refine WE_fit (rfind_spec _) ?_ ?_ | simp (maxSteps := 4000000) (disch := omega) only [bunL, bunD, bun, ↓WG_true, ↓WG_false, labelOf, findLabel, ↓reduceIte, imp, shift, killO, cond_true, cond_false, hasId, ne_eq, unown, names, plainR, below, noF, isF, lendObs, lendOb, kindOk, ren, givL, updM, backO, renO, belowM, seval, -Int.reduceToNat, B4, D72, bunN, tab, tabC, ran_flen, cla_flen, low_flen, spl_flen, ran_take, cla_take, low_take, spl_take, ran_n0, ran_n1, cla_n0, cla_n1, cla_n2, cla_n3, low_n0, low_n1, low_n2, spl_n0, spl_n1, spl_n2, spl_n3, spl_n4, rangeC, classC, lowerC, splitC] | exact NK_no _ | refine NK_cl _ _ ?_ | exact Cln.cl | refine clean_tup _ ?_ | refine cleans_cons _ _ ?_ ?_ | refine DR_q _ ?_ | (refine Fk.fk ?_ ?_ <;> intro hg <;> (try simp only [hg]) <;> (try simp only [bunB, ne_eq] at hg) <;> try (exfalso; first | omega | exact Bool.noConfusion hg | exact hg trivial)) | refine And.intro (by omega) ?_ | omega
  rfl
theorem rbidi_spec (r : Int) : Spec Tryz.prog 64 [I32 r] (I64 (bidi r)) := by
  refine spec_mk (z := false) (ts := [.tmp 2]) ok1 Tryz.func64 rfl rfl (by decide +kernel) (by simp [Tryz.ntmps64]) rfl ?_
  repeat' first | refine WE_fit (rfind_spec _) ?_ ?_ | simp (maxSteps := 4000000) (disch := omega) only [bunL, bunD, bun, ↓WG_true, ↓WG_false, labelOf, findLabel, ↓reduceIte, imp, shift, killO, cond_true, cond_false, hasId, ne_eq, unown, names, plainR, below, noF, isF, lendObs, lendOb, kindOk, ren, givL, updM, backO, renO, belowM, seval, -Int.reduceToNat, B4, D72, bunN, tab, tabC, ran_flen, cla_flen, low_flen, spl_flen, ran_take, cla_take, low_take, spl_take, ran_n0, ran_n1, cla_n0, cla_n1, cla_n2, cla_n3, low_n0, low_n1, low_n2, spl_n0, spl_n1, spl_n2, spl_n3, spl_n4, rangeC, classC, lowerC, splitC] | exact NK_no _ | refine NK_cl _ _ ?_ | exact Cln.cl | refine clean_tup _ ?_ | refine cleans_cons _ _ ?_ ?_ | refine DR_q _ ?_ | (refine Fk.fk ?_ ?_ <;> intro hg <;> (try simp only [hg]) <;> (try simp only [bunB, ne_eq] at hg) <;> try (exfalso; first | omega | exact Bool.noConfusion hg | exact hg trivial)) | refine And.intro (by omega) ?_ | omega
  rfl
theorem rjoin1_spec (r : Int) : Spec Tryz.prog 125 [I32 r] (I64 (join r)) := by
  refine spec_mk (z := false) (ts := [.tmp 2]) ok1 Tryz.func125 rfl rfl (by decide +kernel) (by simp [Tryz.ntmps125]) rfl ?_
  repeat' first | refine WE_fit (rfind_spec _) ?_ ?_ | simp (maxSteps := 4000000) (disch := omega) only [bunL, bunD, bun, ↓WG_true, ↓WG_false, labelOf, findLabel, ↓reduceIte, imp, shift, killO, cond_true, cond_false, hasId, ne_eq, unown, names, plainR, below, noF, isF, lendObs, lendOb, kindOk, ren, givL, updM, backO, renO, belowM, seval, -Int.reduceToNat, B4, D72, bunN, tab, tabC, ran_flen, cla_flen, low_flen, spl_flen, ran_take, cla_take, low_take, spl_take, ran_n0, ran_n1, cla_n0, cla_n1, cla_n2, cla_n3, low_n0, low_n1, low_n2, spl_n0, spl_n1, spl_n2, spl_n3, spl_n4, rangeC, classC, lowerC, splitC] | exact NK_no _ | refine NK_cl _ _ ?_ | exact Cln.cl | refine clean_tup _ ?_ | refine cleans_cons _ _ ?_ ?_ | refine DR_q _ ?_ | (refine Fk.fk ?_ ?_ <;> intro hg <;> (try simp only [hg]) <;> (try simp only [bunB, ne_eq] at hg) <;> try (exfalso; first | omega | exact Bool.noConfusion hg | exact hg trivial)) | refine And.intro (by omega) ?_ | omega
  rfl
theorem rscript_spec (r : Int) : Spec Tryz.prog 101 [I32 r] (I64 (script r)) := by
  refine spec_mk (z := false) (ts := [.tmp 2]) ok1 Tryz.func101 rfl rfl (by decide +kernel) (by simp [Tryz.ntmps101]) rfl ?_
  repeat' first | refine WE_fit (rfind_spec _) ?_ ?_ | simp (maxSteps := 4000000) (disch := omega) only [bunL, bunD, bun, ↓WG_true, ↓WG_false, labelOf, findLabel, ↓reduceIte, imp, shift, killO, cond_true, cond_false, hasId, ne_eq, unown, names, plainR, below, noF, isF, lendObs, lendOb, kindOk, ren, givL, updM, backO, renO, belowM, seval, -Int.reduceToNat, B4, D72, bunN, tab, tabC, ran_flen, cla_flen, low_flen, spl_flen, ran_take, cla_take, low_take, spl_take, ran_n0, ran_n1, cla_n0, cla_n1, cla_n2, cla_n3, low_n0, low_n1, low_n2, spl_n0, spl_n1, spl_n2, spl_n3, spl_n4, rangeC, classC, lowerC, splitC] | exact NK_no _ | refine NK_cl _ _ ?_ | exact Cln.cl | refine clean_tup _ ?_ | refine cleans_cons _ _ ?_ ?_ | refine DR_q _ ?_ | (refine Fk.fk ?_ ?_ <;> intro hg <;> (try simp only [hg]) <;> (try simp only [bunB, ne_eq] at hg) <;> try (exfalso; first | omega | exact Bool.noConfusion hg | exact hg trivial)) | refine And.intro (by omega) ?_ | omega
  rfl
theorem cls_yes {r : Int} {i : Nat} (hno : ∀ j, j < i → classP r (classes.getD j class0) = false) (hi : i < 10) (hp : classP r (classes.getD i class0) = true) : cls r = (classes.getD i class0).2.2.1 + (classes.getD i class0).2.2.2 * (r - (classes.getD i class0).1) := by
  rw [cls, (first_at (l := classes) (d := class0) hno (by rw [cla_len]; exact hi) hp).2]; rfl
theorem cls_no {r : Int} {i : Nat} (hno : ∀ j, j < i → classP r (classes.getD j class0) = false) (hi : ¬ i < 10) : cls r = 0 := by
  rw [cls, (first_none (l := classes) (d := class0) (p := classP r) (fun j hj => hno j (by rw [cla_len] at hj; omega))).2]; rfl
theorem rclass_spec (r : Int) (h0 : -2147483648 ≤ r) (h1 : r ≤ 2147483647) : Spec Tryz.prog 98 [I32 r] (I64 (cls r)) := by
  refine spec_mk (z := false) (ts := [.tmp 2]) ok1 Tryz.func98 rfl rfl (by decide +kernel) (by simp [Tryz.ntmps98]) rfl ?_
  repeat' first | refine WE_fit (classes_spec) ?_ ?_ | simp (maxSteps := 4000000) (disch := omega) only [bunL, bunD, bun, ↓WG_true, ↓WG_false, labelOf, findLabel, ↓reduceIte, imp, shift, killO, cond_true, cond_false, hasId, ne_eq, unown, names, plainR, below, noF, isF, lendObs, lendOb, kindOk, ren, givL, updM, backO, renO, belowM, seval, -Int.reduceToNat, B4, D24, bunN, tab, tabC, ran_flen, cla_flen, low_flen, spl_flen, ran_take, cla_take, low_take, spl_take, ran_n0, ran_n1, cla_n0, cla_n1, cla_n2, cla_n3, low_n0, low_n1, low_n2, spl_n0, spl_n1, spl_n2, spl_n3, spl_n4, rangeC, classC, lowerC, splitC] | exact NK_no _ | refine NK_cl _ _ ?_ | exact Cln.cl | refine clean_tup _ ?_ | refine cleans_cons _ _ ?_ ?_ | refine DR_q _ ?_ | (refine Fk.fk ?_ ?_ <;> intro hg <;> (try simp only [hg]) <;> (try simp only [bunB, ne_eq] at hg) <;> try (exfalso; first | omega | exact Bool.noConfusion hg | exact hg trivial)) | refine And.intro (by omega) ?_ | omega
  refine LP_intro (fun i : Nat => ⟨[(0, I32 r), (3, .ref 0 0 10), (4, I64 i)], [.arr 74 4 (classes.flatMap classC)]⟩) (fun i => i ≤ 10 ∧ ∀ j, j < i → classP r (classes.getD j class0) = false) (fun i => 10 - i) 0 (by simp) (by (simp (disch := omega) [wk, wkT, wkM, noF, isF, get, belowT, belowM, below, belows, I64, I32, Bv, U8, Sv, classC, class0] <;> try omega)) ?_
  intro i ⟨hi, hno⟩
  by_cases hlt : i < 10
  · have h5 := cla_ok hlt
    rcases h5.2.2.2.2 with h7 | h7
    · repeat' first | simp (maxSteps := 4000000) (disch := omega) only [bunL, bunD, bun, ↓WG_true, ↓WG_false, labelOf, findLabel, ↓reduceIte, imp, shift, killO, cond_true, cond_false, hasId, ne_eq, unown, names, plainR, below, noF, isF, lendObs, lendOb, kindOk, ren, givL, updM, backO, renO, belowM, seval, -Int.reduceToNat, h7, Int.zero_mul, B4, D24, bunN, tab, tabC, ran_flen, cla_flen, low_flen, spl_flen, ran_take, cla_take, low_take, spl_take, ran_n0, ran_n1, cla_n0, cla_n1, cla_n2, cla_n3, low_n0, low_n1, low_n2, spl_n0, spl_n1, spl_n2, spl_n3, spl_n4, rangeC, classC, lowerC, splitC] | refine DR_q _ ?_ | (refine Fk.fk ?_ ?_ <;> intro hg <;> (try simp only [hg]) <;> (try simp only [bunB, ne_eq] at hg) <;> try (exfalso; first | omega | exact Bool.noConfusion hg | exact hg trivial)) | refine And.intro (by omega) ?_ | omega
      · rw [cls_yes hno (by omega) (by simp only [classP, Bool.and_eq_true, decide_eq_true_eq]; omega), h7, Int.zero_mul]
      all_goals
        refine ⟨i + 1, ⟨by omega, upto_succ hno ?_⟩, by omega, by (simp (disch := omega) [wk, wkT, wkM, noF, isF, get, belowT, belowM, below, belows, I64, I32, Bv, U8, Sv, classC, class0] <;> try omega)⟩
        simp only [classP, Bool.and_eq_false_iff, decide_eq_false_iff_not]; omega
    · repeat' first | simp (maxSteps := 4000000) (disch := omega) only [bunL, bunD, bun, ↓WG_true, ↓WG_false, labelOf, findLabel, ↓reduceIte, imp, shift, killO, cond_true, cond_false, hasId, ne_eq, unown, names, plainR, below, noF, isF, lendObs, lendOb, kindOk, ren, givL, updM, backO, renO, belowM, seval, -Int.reduceToNat, h7, Int.one_mul, B4, D24, bunN, tab, tabC, ran_flen, cla_flen, low_flen, spl_flen, ran_take, cla_take, low_take, spl_take, ran_n0, ran_n1, cla_n0, cla_n1, cla_n2, cla_n3, low_n0, low_n1, low_n2, spl_n0, spl_n1, spl_n2, spl_n3, spl_n4, rangeC, classC, lowerC, splitC] | refine DR_q _ ?_ | (refine Fk.fk ?_ ?_ <;> intro hg <;> (try simp only [hg]) <;> (try simp only [bunB, ne_eq] at hg) <;> try (exfalso; first | omega | exact Bool.noConfusion hg | exact hg trivial)) | refine And.intro (by omega) ?_ | omega
      · rw [cls_yes hno (by omega) (by simp only [classP, Bool.and_eq_true, decide_eq_true_eq]; omega), h7, Int.one_mul]
      all_goals
        refine ⟨i + 1, ⟨by omega, upto_succ hno ?_⟩, by omega, by (simp (disch := omega) [wk, wkT, wkM, noF, isF, get, belowT, belowM, below, belows, I64, I32, Bv, U8, Sv, classC, class0] <;> try omega)⟩
        simp only [classP, Bool.and_eq_false_iff, decide_eq_false_iff_not]; omega
  · repeat' first | simp (maxSteps := 4000000) (disch := omega) only [bunL, bunD, bun, ↓WG_true, ↓WG_false, labelOf, findLabel, ↓reduceIte, imp, shift, killO, cond_true, cond_false, hasId, ne_eq, unown, names, plainR, below, noF, isF, lendObs, lendOb, kindOk, ren, givL, updM, backO, renO, belowM, seval, -Int.reduceToNat, B4, D24, bunN, tab, tabC, ran_flen, cla_flen, low_flen, spl_flen, ran_take, cla_take, low_take, spl_take, ran_n0, ran_n1, cla_n0, cla_n1, cla_n2, cla_n3, low_n0, low_n1, low_n2, spl_n0, spl_n1, spl_n2, spl_n3, spl_n4, rangeC, classC, lowerC, splitC] | refine DR_q _ ?_ | (refine Fk.fk ?_ ?_ <;> intro hg <;> (try simp only [hg]) <;> (try simp only [bunB, ne_eq] at hg) <;> try (exfalso; first | omega | exact Bool.noConfusion hg | exact hg trivial)) | refine And.intro (by omega) ?_ | omega
    rw [cls_no hno hlt]
theorem low_yes {r : Int} {i : Nat} (hno : ∀ j, j < i → lowerP r (lowers.getD j lower0) = false) (hi : i < 11) (hp : lowerP r (lowers.getD i lower0) = true) : low r = r + (lowers.getD i lower0).2.2 := by
  rw [low, (first_at (l := lowers) (d := lower0) hno (by rw [low_len]; exact hi) hp).2]; rfl
theorem low_no {r : Int} {i : Nat} (hno : ∀ j, j < i → lowerP r (lowers.getD j lower0) = false) (hi : ¬ i < 11) : low r = r := by
  rw [low, (first_none (l := lowers) (d := lower0) (p := lowerP r) (fun j hj => hno j (by rw [low_len] at hj; omega))).2]; rfl
theorem rlower_spec (r : Int) : Spec Tryz.prog 87 [I32 r] (I32 (low r)) := by
  refine spec_mk (z := false) (ts := [.tmp 2]) ok1 Tryz.func87 rfl rfl (by decide +kernel) (by simp [Tryz.ntmps87]) rfl ?_
  repeat' first | refine WE_fit (lowers_spec) ?_ ?_ | simp (maxSteps := 4000000) (disch := omega) only [bunL, bunD, bun, ↓WG_true, ↓WG_false, labelOf, findLabel, ↓reduceIte, imp, shift, killO, cond_true, cond_false, hasId, ne_eq, unown, names, plainR, below, noF, isF, lendObs, lendOb, kindOk, ren, givL, updM, backO, renO, belowM, seval, -Int.reduceToNat, B3, B4, D25, bunN, tab, tabC, ran_flen, cla_flen, low_flen, spl_flen, ran_take, cla_take, low_take, spl_take, ran_n0, ran_n1, cla_n0, cla_n1, cla_n2, cla_n3, low_n0, low_n1, low_n2, spl_n0, spl_n1, spl_n2, spl_n3, spl_n4, rangeC, classC, lowerC, splitC] | exact NK_no _ | refine NK_cl _ _ ?_ | exact Cln.cl | refine clean_tup _ ?_ | refine cleans_cons _ _ ?_ ?_ | refine DR_q _ ?_ | (refine Fk.fk ?_ ?_ <;> intro hg <;> (try simp only [hg]) <;> (try simp only [bunB, ne_eq] at hg) <;> try (exfalso; first | omega | exact Bool.noConfusion hg | exact hg trivial)) | refine And.intro (by omega) ?_ | omega
  refine LP_intro (fun i : Nat => ⟨[(0, I32 r), (3, .ref 0 0 11), (4, I64 i)], [.arr 76 3 (lowers.flatMap lowerC)]⟩) (fun i => i ≤ 11 ∧ ∀ j, j < i → lowerP r (lowers.getD j lower0) = false) (fun i => 11 - i) 0 (by simp) (by (simp (disch := omega) [wk, wkT, wkM, noF, isF, get, belowT, belowM, below, belows, I64, I32, Bv, U8, Sv, lowerC, lower0] <;> try omega)) ?_
  intro i ⟨hi, hno⟩
  by_cases hlt : i < 11
  · have h5 := low_ok hlt
    repeat' first | simp (maxSteps := 4000000) (disch := omega) only [bunL, bunD, bun, ↓WG_true, ↓WG_false, labelOf, findLabel, ↓reduceIte, imp, shift, killO, cond_true, cond_false, hasId, ne_eq, unown, names, plainR, below, noF, isF, lendObs, lendOb, kindOk, ren, givL, updM, backO, renO, belowM, seval, -Int.reduceToNat, B3, B4, D25, bunN, tab, tabC, ran_flen, cla_flen, low_flen, spl_flen, ran_take, cla_take, low_take, spl_take, ran_n0, ran_n1, cla_n0, cla_n1, cla_n2, cla_n3, low_n0, low_n1, low_n2, spl_n0, spl_n1, spl_n2, spl_n3, spl_n4, rangeC, classC, lowerC, splitC] | refine DR_q _ ?_ | (refine Fk.fk ?_ ?_ <;> intro hg <;> (try simp only [hg]) <;> (try simp only [bunB, ne_eq] at hg) <;> try (exfalso; first | omega | exact Bool.noConfusion hg | exact hg trivial)) | refine And.intro (by omega) ?_ | omega
    · rw [low_yes hno (by omega) (by simp only [lowerP, Bool.and_eq_true, decide_eq_true_eq]; omega)]
    all_goals
      refine ⟨i + 1, ⟨by omega, upto_succ hno ?_⟩, by omega, by (simp (disch := omega) [wk, wkT, wkM, noF, isF, get, belowT, belowM, below, belows, I64, I32, Bv, U8, Sv, lowerC, lower0] <;> try omega)⟩
      simp only [lowerP, Bool.and_eq_false_iff, decide_eq_false_iff_not]; omega
  · repeat' first | simp (maxSteps := 4000000) (disch := omega) only [bunL, bunD, bun, ↓WG_true, ↓WG_false, labelOf, findLabel, ↓reduceIte, imp, shift, killO, cond_true, cond_false, hasId, ne_eq, unown, names, plainR, below, noF, isF, lendObs, lendOb, kindOk, ren, givL, updM, backO, renO, belowM, seval, -Int.reduceToNat, B3, B4, D25, bunN, tab, tabC, ran_flen, cla_flen, low_flen, spl_flen, ran_take, cla_take, low_take, spl_take, ran_n0, ran_n1, cla_n0, cla_n1, cla_n2, cla_n3, low_n0, low_n1, low_n2, spl_n0, spl_n1, spl_n2, spl_n3, spl_n4, rangeC, classC, lowerC, splitC] | refine DR_q _ ?_ | (refine Fk.fk ?_ ?_ <;> intro hg <;> (try simp only [hg]) <;> (try simp only [bunB, ne_eq] at hg) <;> try (exfalso; first | omega | exact Bool.noConfusion hg | exact hg trivial)) | refine And.intro (by omega) ?_ | omega
    rw [low_no hno hlt]
theorem rwide_spec (r : Int) : Spec Tryz.prog 71 [I32 r] (Bv (wide r)) := by
  refine spec_mk (z := false) (ts := [.tmp 2]) ok1 Tryz.func71 rfl rfl (by decide +kernel) (by simp [Tryz.ntmps71]) rfl ?_
  repeat' first | simp (maxSteps := 4000000) (disch := omega) only [bunL, bunD, bun, ↓WG_true, ↓WG_false, labelOf, findLabel, ↓reduceIte, imp, shift, killO, cond_true, cond_false, hasId, ne_eq, unown, names, plainR, below, noF, isF, lendObs, lendOb, kindOk, ren, givL, updM, backO, renO, belowM, seval, -Int.reduceToNat, B4, B21, bunN, tab, tabC, ran_flen, cla_flen, low_flen, spl_flen, ran_take, cla_take, low_take, spl_take, ran_n0, ran_n1, cla_n0, cla_n1, cla_n2, cla_n3, low_n0, low_n1, low_n2, spl_n0, spl_n1, spl_n2, spl_n3, spl_n4, rangeC, classC, lowerC, splitC] | refine DR_q _ ?_ | (refine Fk.fk ?_ ?_ <;> intro hg <;> (try simp only [hg]) <;> (try simp only [bunB, ne_eq] at hg) <;> try (exfalso; first | omega | exact Bool.noConfusion hg | exact hg trivial)) | refine And.intro (by omega) ?_ | omega
  all_goals (congr 2; first | rfl | (first | rw [Bool.eq_iff_iff] | skip); simp_all [wide] <;> omega)
theorem rsplit_spec (r : Int) : Spec Tryz.prog 33 [I32 r] (.tup [.ag (splitC (spl r).1), Bv (spl r).2]) := by
  refine spec_mk (z := false) (ts := [.cell 2 48, .tmp 3]) ok1 Tryz.func33 rfl rfl (by decide +kernel) (by simp [Tryz.ntmps33]) rfl ?_
  cases hw : wide r with
  | true =>
    have hb : 65281 ≤ r ∧ r ≤ 65374 := by simpa [wide] using hw
    repeat' first | refine WE_fit (rwide_spec _) ?_ ?_ | simp (maxSteps := 4000000) (disch := omega) only [bunL, bunD, bun, ↓WG_true, ↓WG_false, labelOf, findLabel, ↓reduceIte, imp, shift, killO, cond_true, cond_false, hasId, ne_eq, unown, names, plainR, below, noF, isF, lendObs, lendOb, kindOk, ren, givL, updM, backO, renO, belowM, seval, -Int.reduceToNat, hw, B3, D45, bunN, tab, tabC, ran_flen, cla_flen, low_flen, spl_flen, ran_take, cla_take, low_take, spl_take, ran_n0, ran_n1, cla_n0, cla_n1, cla_n2, cla_n3, low_n0, low_n1, low_n2, spl_n0, spl_n1, spl_n2, spl_n3, spl_n4, rangeC, classC, lowerC, splitC] | exact NK_no _ | refine NK_cl _ _ ?_ | exact Cln.cl | refine clean_tup _ ?_ | refine cleans_cons _ _ ?_ ?_ | refine DR_q _ ?_ | (refine Fk.fk ?_ ?_ <;> intro hg <;> (try simp only [hg]) <;> (try simp only [bunB, ne_eq] at hg) <;> try (exfalso; first | omega | exact Bool.noConfusion hg | exact hg trivial)) | refine And.intro (by omega) ?_ | omega
    simp only [spl, hw]
  | false =>
    repeat' first | refine WE_fit (rwide_spec _) ?_ ?_ | refine WE_fit (splits_spec) ?_ ?_ | simp (maxSteps := 4000000) (disch := omega) only [bunL, bunD, bun, ↓WG_true, ↓WG_false, labelOf, findLabel, ↓reduceIte, imp, shift, killO, cond_true, cond_false, hasId, ne_eq, unown, names, plainR, below, noF, isF, lendObs, lendOb, kindOk, ren, givL, updM, backO, renO, belowM, seval, -Int.reduceToNat, hw, B3, D45, bunN, tab, tabC, ran_flen, cla_flen, low_flen, spl_flen, ran_take, cla_take, low_take, spl_take, ran_n0, ran_n1, cla_n0, cla_n1, cla_n2, cla_n3, low_n0, low_n1, low_n2, spl_n0, spl_n1, spl_n2, spl_n3, spl_n4, rangeC, classC, lowerC, splitC] | exact NK_no _ | refine NK_cl _ _ ?_ | exact Cln.cl | refine clean_tup _ ?_ | refine cleans_cons _ _ ?_ ?_ | refine DR_q _ ?_ | (refine Fk.fk ?_ ?_ <;> intro hg <;> (try simp only [hg]) <;> (try simp only [bunB, ne_eq] at hg) <;> try (exfalso; first | omega | exact Bool.noConfusion hg | exact hg trivial)) | refine And.intro (by omega) ?_ | omega
    refine LP_intro (fun i : Nat => ⟨[(0, I32 r), (2, .ptr 0 0), (3, Bv false), (4, .ref 1 0 42), (5, I64 i)], [.row true 1 (splitC split0), .arr 48 5 (splits.flatMap splitC)]⟩) (fun i => i ≤ 42 ∧ ∀ j, j < i → splitP r (splits.getD j split0) = false) (fun i => 42 - i) 0 (by simp) (by (simp (disch := omega) [wk, wkT, wkM, noF, isF, get, belowT, belowM, below, belows, I64, I32, Bv, U8, Sv, splitC, split0] <;> try omega)) ?_
    intro i ⟨hi, hno⟩
    repeat' first | simp (maxSteps := 4000000) (disch := omega) only [bunL, bunD, bun, ↓WG_true, ↓WG_false, labelOf, findLabel, ↓reduceIte, imp, shift, killO, cond_true, cond_false, hasId, ne_eq, unown, names, plainR, below, noF, isF, lendObs, lendOb, kindOk, ren, givL, updM, backO, renO, belowM, seval, -Int.reduceToNat, B3, D45, bunN, tab, tabC, ran_flen, cla_flen, low_flen, spl_flen, ran_take, cla_take, low_take, spl_take, ran_n0, ran_n1, cla_n0, cla_n1, cla_n2, cla_n3, low_n0, low_n1, low_n2, spl_n0, spl_n1, spl_n2, spl_n3, spl_n4, rangeC, classC, lowerC, splitC] | refine DR_q _ ?_ | (refine Fk.fk ?_ ?_ <;> intro hg <;> (try simp only [hg]) <;> (try simp only [bunB, ne_eq] at hg) <;> try (exfalso; first | omega | exact Bool.noConfusion hg | exact hg trivial)) | refine And.intro (by omega) ?_ | omega
    · have hg : (splits.getD i split0).1 = r := by assumption
      have := (first_at (l := splits) (d := split0) hno (by rw [spl_len]; omega) (by simp only [splitP, beq_iff_eq]; exact hg)).2
      simp only [spl, hw, this, splV]
    · refine ⟨i + 1, ⟨by omega, upto_succ hno ?_⟩, by omega, by (simp (disch := omega) [wk, wkT, wkM, noF, isF, get, belowT, belowM, below, belows, I64, I32, Bv, U8, Sv, splitC, split0] <;> try omega)⟩
      simp only [splitP, beq_eq_false_iff_ne, ne_eq]; assumption
    · have := (first_none (l := splits) (d := split0) (p := splitP r) (fun j hj => hno j (by rw [spl_len] at hj; omega))).2
      simp only [spl, hw, this, splV]; rfl
theorem pair_zero (a : Int) : splits.find? (pairP a 0) = none := by
  rw [List.find?_eq_none]
  intro x hx
  have : (splits.all fun x => !(!x.2.2.2.1 && !x.2.2.2.2 && (x.2.2.1 == 0))) = true := by decide +kernel
  have := List.all_eq_true.1 this x hx
  simp only [Bool.not_eq_true', Bool.and_eq_false_iff] at this
  simp only [pairP, Bool.and_eq_true]
  rintro ⟨⟨h1, _⟩, h2⟩
  rcases this with h | h
  · rcases h with h | h <;> simp_all
  · rw [h] at h2; simp at h2
theorem rpair_spec (a b : Int) : Spec Tryz.prog 133 [I32 a, I32 b] (.tup [I32 (pr a b).1, Bv (pr a b).2]) := by
  refine spec_mk (z := false) (ts := [.tmp 4, .tmp 5]) ok1 Tryz.func133 rfl rfl (by decide +kernel) (by simp [Tryz.ntmps133]) rfl ?_
  repeat' first | refine WE_fit (splits_spec) ?_ ?_ | simp (maxSteps := 4000000) (disch := omega) only [bunL, bunD, bun, ↓WG_true, ↓WG_false, labelOf, findLabel, ↓reduceIte, imp, shift, killO, cond_true, cond_false, hasId, ne_eq, unown, names, plainR, below, noF, isF, lendObs, lendOb, kindOk, ren, givL, updM, backO, renO, belowM, seval, -Int.reduceToNat, B3, D45, bunN, tab, tabC, ran_flen, cla_flen, low_flen, spl_flen, ran_take, cla_take, low_take, spl_take, ran_n0, ran_n1, cla_n0, cla_n1, cla_n2, cla_n3, low_n0, low_n1, low_n2, spl_n0, spl_n1, spl_n2, spl_n3, spl_n4, rangeC, classC, lowerC, splitC] | exact NK_no _ | refine NK_cl _ _ ?_ | exact Cln.cl | refine clean_tup _ ?_ | refine cleans_cons _ _ ?_ ?_ | refine DR_q _ ?_ | (refine Fk.fk ?_ ?_ <;> intro hg <;> (try simp only [hg]) <;> (try simp only [bunB, ne_eq] at hg) <;> try (exfalso; first | omega | exact Bool.noConfusion hg | exact hg trivial)) | refine And.intro (by omega) ?_ | omega
  refine LP_intro (fun i : Nat => ⟨[(0, I32 a), (1, I32 b), (6, .ref 0 0 42), (7, I64 i)], [.arr 48 5 (splits.flatMap splitC)]⟩) (fun i => i ≤ 42 ∧ ∀ j, j < i → pairP a b (splits.getD j split0) = false) (fun i => 42 - i) 0 (by simp) (by (simp (disch := omega) [wk, wkT, wkM, noF, isF, get, belowT, belowM, below, belows, I64, I32, Bv, U8, Sv, splitC, split0] <;> try omega)) ?_
  intro i ⟨hi, hno⟩
  repeat' first | simp (maxSteps := 4000000) (disch := omega) only [bunL, bunD, bun, ↓WG_true, ↓WG_false, labelOf, findLabel, ↓reduceIte, imp, shift, killO, cond_true, cond_false, hasId, ne_eq, unown, names, plainR, below, noF, isF, lendObs, lendOb, kindOk, ren, givL, updM, backO, renO, belowM, seval, -Int.reduceToNat, B3, D45, bunN, tab, tabC, ran_flen, cla_flen, low_flen, spl_flen, ran_take, cla_take, low_take, spl_take, ran_n0, ran_n1, cla_n0, cla_n1, cla_n2, cla_n3, low_n0, low_n1, low_n2, spl_n0, spl_n1, spl_n2, spl_n3, spl_n4, rangeC, classC, lowerC, splitC] | refine DR_q _ ?_ | (refine Fk.fk ?_ ?_ <;> intro hg <;> (try simp only [hg]) <;> (try simp only [bunB, ne_eq] at hg) <;> try (exfalso; first | omega | exact Bool.noConfusion hg | exact hg trivial)) | refine And.intro (by omega) ?_ | omega
  · have := (first_at (l := splits) (d := split0) (p := pairP a b) hno (by rw [spl_len]; omega) (by simp only [pairP]; simp_all)).2
    simp only [pr, this, prV]
  all_goals try
    refine ⟨i + 1, ⟨by omega, upto_succ hno ?_⟩, by omega, by (simp (disch := omega) [wk, wkT, wkM, noF, isF, get, belowT, belowM, below, belows, I64, I32, Bv, U8, Sv, splitC, split0] <;> try omega)⟩
    simp only [pairP]; simp_all; done
  · have hb : b = 0 := by assumption
    rw [hb, pr, pair_zero]; rfl
  · have := (first_none (l := splits) (d := split0) (p := pairP a b) (fun j hj => hno j (by rw [spl_len] at hj; omega))).2
    simp only [pr, this, prV]
end Go.AE
end
