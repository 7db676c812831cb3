/- Contracts of functions that the laws of this seat reach, and plain laws of what they compute. No condition beyond each statement's own. -/
import Derived.Test.YtekgeapohenheaaGreatAEBun
import Derived.Test.YtekgeapohenheaaGreatProg
import Derived.Test.YtekgeapohenheaaGreatU1
set_option linter.unusedVariables false
set_option linter.unusedSimpArgs false
section
namespace Go.AE
open Go.Proofs
set_option maxRecDepth 20000
def T3 : TI := ⟨TypeDesc.int IntKind.i64, 1, 8, Value.int IntKind.i64 0⟩
def T4 : TI := ⟨TypeDesc.bool, 1, 1, Value.bool false⟩
def T5 : TI := ⟨TypeDesc.int IntKind.u8, 1, 1, Value.int IntKind.u8 0⟩
def T9 : TI := ⟨TypeDesc.string, 1, 16, Value.string { data := #[] }⟩
def T21 : TI := ⟨TypeDesc.int IntKind.i32, 1, 4, Value.int IntKind.i32 0⟩
def T22 : TI := ⟨TypeDesc.func #[] #[4] false, 1, 8, Value.nilFunc⟩
def T23 : TI := ⟨TypeDesc.slice 72, 1, 24, Value.slice none 0 0⟩
def T24 : TI := ⟨TypeDesc.slice 74, 1, 24, Value.slice none 0 0⟩
def T25 : TI := ⟨TypeDesc.slice 76, 1, 24, Value.slice none 0 0⟩
def T26 : TI := ⟨TypeDesc.map 21 48, 1, 8, Value.map none⟩
def T27 : TI := ⟨TypeDesc.map 50 21, 1, 8, Value.map none⟩
def T29 : TI := ⟨TypeDesc.struct #[⟨"ranges", 23, 0, false, "", "pillarbox/ucd", 0⟩, ⟨"classes", 24, 1, false, "", "pillarbox/ucd", 24⟩, ⟨"lowers", 25, 2, false, "", "pillarbox/ucd", 48⟩, ⟨"splits", 26, 3, false, "", "pillarbox/ucd", 72⟩, ⟨"pairs", 27, 4, false, "", "pillarbox/ucd", 80⟩], 5, 88, Value.agg #[Value.slice none 0 0, Value.slice none 0 0, Value.slice none 0 0, Value.map none, Value.map none]⟩
def T31 : TI := ⟨TypeDesc.int IntKind.i64, 1, 8, Value.int IntKind.i64 0⟩
def T38 : TI := ⟨TypeDesc.func #[21] #[4] false, 1, 8, Value.nilFunc⟩
def T45 : TI := ⟨TypeDesc.slice 48, 1, 24, Value.slice none 0 0⟩
def T48 : TI := ⟨TypeDesc.struct #[⟨"Rune", 21, 0, false, "", "", 0⟩, ⟨"One", 21, 1, false, "", "", 4⟩, ⟨"Two", 21, 2, false, "", "", 8⟩, ⟨"Soft", 4, 3, false, "", "", 12⟩, ⟨"Out", 4, 4, false, "", "", 13⟩], 5, 16, Value.agg #[Value.int IntKind.i32 0, Value.int IntKind.i32 0, Value.int IntKind.i32 0, Value.bool false, Value.bool false]⟩
def T50 : TI := ⟨TypeDesc.struct #[⟨"one", 21, 0, false, "", "pillarbox/ucd", 0⟩, ⟨"two", 21, 1, false, "", "pillarbox/ucd", 4⟩], 2, 8, Value.agg #[Value.int IntKind.i32 0, Value.int IntKind.i32 0]⟩
def T53 : TI := ⟨TypeDesc.slice 21, 1, 24, Value.slice none 0 0⟩
def T60 : TI := ⟨TypeDesc.func #[3] #[4] false, 1, 8, Value.nilFunc⟩
def T67 : TI := ⟨TypeDesc.struct #[⟨"err", 31, 0, false, "", "pillarbox/label", 0⟩, ⟨"bad", 22, 1, false, "", "pillarbox/label", 8⟩], 2, 16, Value.agg #[Value.int IntKind.i64 0, Value.nilFunc]⟩
def T72 : TI := ⟨TypeDesc.struct #[⟨"Lo", 21, 0, false, "", "", 0⟩, ⟨"Hi", 21, 1, false, "", "", 4⟩, ⟨"Cat", 3, 2, false, "", "", 8⟩, ⟨"Bidi", 3, 3, false, "", "", 16⟩, ⟨"Join", 3, 4, false, "", "", 24⟩, ⟨"Script", 3, 5, false, "", "", 32⟩], 6, 40, Value.agg #[Value.int IntKind.i32 0, Value.int IntKind.i32 0, Value.int IntKind.i64 0, Value.int IntKind.i64 0, Value.int IntKind.i64 0, Value.int IntKind.i64 0]⟩
def T74 : TI := ⟨TypeDesc.struct #[⟨"Lo", 21, 0, false, "", "", 0⟩, ⟨"Hi", 21, 1, false, "", "", 4⟩, ⟨"Class", 3, 2, false, "", "", 8⟩, ⟨"Step", 3, 3, false, "", "", 16⟩], 4, 24, Value.agg #[Value.int IntKind.i32 0, Value.int IntKind.i32 0, Value.int IntKind.i64 0, Value.int IntKind.i64 0]⟩
def T76 : TI := ⟨TypeDesc.struct #[⟨"Lo", 21, 0, false, "", "", 0⟩, ⟨"Hi", 21, 1, false, "", "", 4⟩, ⟨"By", 21, 2, false, "", "", 8⟩], 3, 12, Value.agg #[Value.int IntKind.i32 0, Value.int IntKind.i32 0, Value.int IntKind.i32 0]⟩
def T80 : TI := ⟨TypeDesc.int IntKind.u64, 1, 8, Value.int IntKind.u64 0⟩
def T82 : TI := ⟨TypeDesc.array 8 3, 8, 64, Value.agg #[Value.int IntKind.i64 0, Value.int IntKind.i64 0, Value.int IntKind.i64 0, Value.int IntKind.i64 0, Value.int IntKind.i64 0, Value.int IntKind.i64 0, Value.int IntKind.i64 0, Value.int IntKind.i64 0]⟩
def T90 : TI := ⟨TypeDesc.func #[93] #[4] false, 1, 8, Value.nilFunc⟩
def T93 : TI := ⟨TypeDesc.struct #[⟨"t", 29, 0, false, "", "pillarbox/context", 0⟩, ⟨"l", 53, 5, false, "", "pillarbox/context", 88⟩, ⟨"at", 3, 6, false, "", "pillarbox/context", 112⟩], 7, 120, Value.agg #[Value.slice none 0 0, Value.slice none 0 0, Value.slice none 0 0, Value.map none, Value.map none, Value.slice none 0 0, Value.int IntKind.i64 0]⟩
def T98 : TI := ⟨TypeDesc.slice 67, 1, 24, Value.slice none 0 0⟩
def T100 : TI := ⟨TypeDesc.slice 5, 1, 24, Value.slice none 0 0⟩
def T105 : TI := ⟨TypeDesc.func #[21] #[21] false, 1, 8, Value.nilFunc⟩
def T107 : TI := ⟨TypeDesc.struct #[⟨"Table", 29, 0, true, "", "", 0⟩], 5, 88, Value.agg #[Value.slice none 0 0, Value.slice none 0 0, Value.slice none 0 0, Value.map none, Value.map none]⟩
def T109 : TI := ⟨TypeDesc.func #[128] #[] false, 1, 8, Value.nilFunc⟩
def T110 : TI := ⟨TypeDesc.func #[128] #[] false, 1, 8, Value.nilFunc⟩
def T115 : TI := ⟨TypeDesc.map 21 90, 1, 8, Value.map none⟩
def T121 : TI := ⟨TypeDesc.func #[72, 21] #[3] false, 1, 8, Value.nilFunc⟩
def T126 : TI := ⟨TypeDesc.func #[76] #[4] false, 1, 8, Value.nilFunc⟩
def T128 : TI := ⟨TypeDesc.func #[3, 21] #[4] false, 1, 8, Value.nilFunc⟩
def T134 : TI := ⟨TypeDesc.func #[21, 21] #[3] false, 1, 8, Value.nilFunc⟩
def T140 : TI := ⟨TypeDesc.func #[74] #[4] false, 1, 8, Value.nilFunc⟩
def T147 : TI := ⟨TypeDesc.slice 53, 1, 24, Value.slice none 0 0⟩
def C1 : Ctx := { flat := [48, 50, 72, 74, 76], ty := [(3, T3),
  (4, T4),
  (5, T5),
  (9, T9),
  (21, T21),
  (22, T22),
  (23, T23),
  (24, T24),
  (25, T25),
  (26, T26),
  (27, T27),
  (29, T29),
  (31, T31),
  (38, T38),
  (45, T45),
  (48, T48),
  (50, T50),
  (53, T53),
  (60, T60),
  (67, T67),
  (72, T72),
  (74, T74),
  (76, T76),
  (80, T80),
  (82, T82),
  (90, T90),
  (93, T93),
  (98, T98),
  (100, T100),
  (105, T105),
  (107, T107),
  (109, T109),
  (110, T110),
  (115, T115),
  (121, T121),
  (126, T126),
  (128, T128),
  (134, T134),
  (140, T140),
  (147, T147)] }
def Good (t : Nat) (i : TI) : Prop := Tryz.prog.underlying t = some i.d ∧ ∃ j, Tryz.prog.info? t = some j ∧ j.size = i.size ∧ j.bytes = i.bytes ∧ j.zero = some i.zero ∧ i.zero.cells.size = i.size
theorem ty1 (t : Nat) (d : TypeDesc) (sz b : Nat) (z : Value) (h0 : z.cells.size = sz) (h1 : Tryz.prog.underlying t = some d) (h2 : (Tryz.prog.info? t).map (fun j => (j.size, j.bytes, j.zero)) = some (sz, b, some z)) : Good t ⟨d, sz, b, z⟩ := by
  refine ⟨h1, ?_⟩
  cases e : Tryz.prog.info? t with
  | none => rw [e] at h2; simp at h2
  | some j => rw [e] at h2; simp at h2; exact ⟨j, rfl, h2.1, h2.2.1, h2.2.2, h0⟩
theorem zfi : ∀ (l : List (Nat × TI)) (t : Nat) (i : TI), zjj l t = some i → (t, i) ∈ l
  | [], t, i, h => by simp [zjj] at h
  | (k, x) :: l, t, i, h => by
    simp only [zjj] at h
    split at h
    · rename_i e; subst e; simp at h; subst h; exact List.mem_cons_self ..
    · exact List.mem_cons_of_mem _ (zfi l t i h)
theorem good3 : Good 3 T3 := ty1 _ _ _ _ _ rfl (by kernel_rfl) (by kernel_rfl)
theorem good4 : Good 4 T4 := ty1 _ _ _ _ _ rfl (by kernel_rfl) (by kernel_rfl)
theorem good5 : Good 5 T5 := ty1 _ _ _ _ _ rfl (by kernel_rfl) (by kernel_rfl)
theorem good9 : Good 9 T9 := ty1 _ _ _ _ _ rfl (by kernel_rfl) (by kernel_rfl)
theorem good21 : Good 21 T21 := ty1 _ _ _ _ _ rfl (by kernel_rfl) (by kernel_rfl)
theorem good22 : Good 22 T22 := ty1 _ _ _ _ _ rfl (by kernel_rfl) (by kernel_rfl)
theorem good23 : Good 23 T23 := ty1 _ _ _ _ _ rfl (by kernel_rfl) (by kernel_rfl)
theorem good24 : Good 24 T24 := ty1 _ _ _ _ _ rfl (by kernel_rfl) (by kernel_rfl)
theorem good25 : Good 25 T25 := ty1 _ _ _ _ _ rfl (by kernel_rfl) (by kernel_rfl)
theorem good26 : Good 26 T26 := ty1 _ _ _ _ _ rfl (by kernel_rfl) (by kernel_rfl)
theorem good27 : Good 27 T27 := ty1 _ _ _ _ _ rfl (by kernel_rfl) (by kernel_rfl)
theorem good29 : Good 29 T29 := ty1 _ _ _ _ _ rfl (by kernel_rfl) (by kernel_rfl)
theorem good31 : Good 31 T31 := ty1 _ _ _ _ _ rfl (by kernel_rfl) (by kernel_rfl)
theorem good38 : Good 38 T38 := ty1 _ _ _ _ _ rfl (by kernel_rfl) (by kernel_rfl)
theorem good45 : Good 45 T45 := ty1 _ _ _ _ _ rfl (by kernel_rfl) (by kernel_rfl)
theorem good48 : Good 48 T48 := ty1 _ _ _ _ _ rfl (by kernel_rfl) (by kernel_rfl)
theorem good50 : Good 50 T50 := ty1 _ _ _ _ _ rfl (by kernel_rfl) (by kernel_rfl)
theorem good53 : Good 53 T53 := ty1 _ _ _ _ _ rfl (by kernel_rfl) (by kernel_rfl)
theorem good60 : Good 60 T60 := ty1 _ _ _ _ _ rfl (by kernel_rfl) (by kernel_rfl)
theorem good67 : Good 67 T67 := ty1 _ _ _ _ _ rfl (by kernel_rfl) (by kernel_rfl)
theorem good72 : Good 72 T72 := ty1 _ _ _ _ _ rfl (by kernel_rfl) (by kernel_rfl)
theorem good74 : Good 74 T74 := ty1 _ _ _ _ _ rfl (by kernel_rfl) (by kernel_rfl)
theorem good76 : Good 76 T76 := ty1 _ _ _ _ _ rfl (by kernel_rfl) (by kernel_rfl)
theorem good80 : Good 80 T80 := ty1 _ _ _ _ _ rfl (by kernel_rfl) (by kernel_rfl)
theorem good82 : Good 82 T82 := ty1 _ _ _ _ _ rfl (by kernel_rfl) (by kernel_rfl)
theorem good90 : Good 90 T90 := ty1 _ _ _ _ _ rfl (by kernel_rfl) (by kernel_rfl)
theorem good93 : Good 93 T93 := ty1 _ _ _ _ _ rfl (by kernel_rfl) (by kernel_rfl)
theorem good98 : Good 98 T98 := ty1 _ _ _ _ _ rfl (by kernel_rfl) (by kernel_rfl)
theorem good100 : Good 100 T100 := ty1 _ _ _ _ _ rfl (by kernel_rfl) (by kernel_rfl)
theorem good105 : Good 105 T105 := ty1 _ _ _ _ _ rfl (by kernel_rfl) (by kernel_rfl)
theorem good107 : Good 107 T107 := ty1 _ _ _ _ _ rfl (by kernel_rfl) (by kernel_rfl)
theorem good109 : Good 109 T109 := ty1 _ _ _ _ _ rfl (by kernel_rfl) (by kernel_rfl)
theorem good110 : Good 110 T110 := ty1 _ _ _ _ _ rfl (by kernel_rfl) (by kernel_rfl)
theorem good115 : Good 115 T115 := ty1 _ _ _ _ _ rfl (by kernel_rfl) (by kernel_rfl)
theorem good121 : Good 121 T121 := ty1 _ _ _ _ _ rfl (by kernel_rfl) (by kernel_rfl)
theorem good126 : Good 126 T126 := ty1 _ _ _ _ _ rfl (by kernel_rfl) (by kernel_rfl)
theorem good128 : Good 128 T128 := ty1 _ _ _ _ _ rfl (by kernel_rfl) (by kernel_rfl)
theorem good134 : Good 134 T134 := ty1 _ _ _ _ _ rfl (by kernel_rfl) (by kernel_rfl)
theorem good140 : Good 140 T140 := ty1 _ _ _ _ _ rfl (by kernel_rfl) (by kernel_rfl)
theorem good147 : Good 147 T147 := ty1 _ _ _ _ _ rfl (by kernel_rfl) (by kernel_rfl)
theorem goods : ∀ p ∈ C1.ty, Good p.1 p.2 := (List.forall_mem_cons.2 ⟨good3, (List.forall_mem_cons.2 ⟨good4, (List.forall_mem_cons.2 ⟨good5, (List.forall_mem_cons.2 ⟨good9, (List.forall_mem_cons.2 ⟨good21, (List.forall_mem_cons.2 ⟨good22, (List.forall_mem_cons.2 ⟨good23, (List.forall_mem_cons.2 ⟨good24, (List.forall_mem_cons.2 ⟨good25, (List.forall_mem_cons.2 ⟨good26, (List.forall_mem_cons.2 ⟨good27, (List.forall_mem_cons.2 ⟨good29, (List.forall_mem_cons.2 ⟨good31, (List.forall_mem_cons.2 ⟨good38, (List.forall_mem_cons.2 ⟨good45, (List.forall_mem_cons.2 ⟨good48, (List.forall_mem_cons.2 ⟨good50, (List.forall_mem_cons.2 ⟨good53, (List.forall_mem_cons.2 ⟨good60, (List.forall_mem_cons.2 ⟨good67, (List.forall_mem_cons.2 ⟨good72, (List.forall_mem_cons.2 ⟨good74, (List.forall_mem_cons.2 ⟨good76, (List.forall_mem_cons.2 ⟨good80, (List.forall_mem_cons.2 ⟨good82, (List.forall_mem_cons.2 ⟨good90, (List.forall_mem_cons.2 ⟨good93, (List.forall_mem_cons.2 ⟨good98, (List.forall_mem_cons.2 ⟨good100, (List.forall_mem_cons.2 ⟨good105, (List.forall_mem_cons.2 ⟨good107, (List.forall_mem_cons.2 ⟨good109, (List.forall_mem_cons.2 ⟨good110, (List.forall_mem_cons.2 ⟨good115, (List.forall_mem_cons.2 ⟨good121, (List.forall_mem_cons.2 ⟨good126, (List.forall_mem_cons.2 ⟨good128, (List.forall_mem_cons.2 ⟨good134, (List.forall_mem_cons.2 ⟨good140, (List.forall_mem_cons.2 ⟨good147, (List.forall_mem_nil _)⟩)⟩)⟩)⟩)⟩)⟩)⟩)⟩)⟩)⟩)⟩)⟩)⟩)⟩)⟩)⟩)⟩)⟩)⟩)⟩)⟩)⟩)⟩)⟩)⟩)⟩)⟩)⟩)⟩)⟩)⟩)⟩)⟩)⟩)⟩)⟩)⟩)⟩)⟩)⟩)
theorem flats : ∀ t ∈ C1.flat, Tryz.prog.stoodInHeld t = false ∧ Tryz.prog.eqGuardType Tryz.prog.depth t = false := (List.forall_mem_cons.2 ⟨⟨by decide +kernel, by decide +kernel⟩, (List.forall_mem_cons.2 ⟨⟨by decide +kernel, by decide +kernel⟩, (List.forall_mem_cons.2 ⟨⟨by decide +kernel, by decide +kernel⟩, (List.forall_mem_cons.2 ⟨⟨by decide +kernel, by decide +kernel⟩, (List.forall_mem_cons.2 ⟨⟨by decide +kernel, by decide +kernel⟩, (List.forall_mem_nil _)⟩)⟩)⟩)⟩)⟩)
theorem ok1 : C1.Ok Tryz.prog where
  mixed := by decide +kernel
  flat := flats
  ty := fun t i h => goods (t, i) (zfi _ _ _ h)
theorem zit : C1.ti 3 = some ⟨TypeDesc.int IntKind.i64, 1, 8, Value.int IntKind.i64 0⟩ := rfl
theorem C1_td3 : C1.td 3 = some (TypeDesc.int IntKind.i64) := rfl
theorem C1_ti4 : C1.ti 4 = some ⟨TypeDesc.bool, 1, 1, Value.bool false⟩ := rfl
theorem C1_td4 : C1.td 4 = some (TypeDesc.bool) := rfl
theorem C1_ti5 : C1.ti 5 = some ⟨TypeDesc.int IntKind.u8, 1, 1, Value.int IntKind.u8 0⟩ := rfl
theorem C1_td5 : C1.td 5 = some (TypeDesc.int IntKind.u8) := rfl
theorem C1_ti9 : C1.ti 9 = some ⟨TypeDesc.string, 1, 16, Value.string { data := #[] }⟩ := rfl
theorem C1_td9 : C1.td 9 = some (TypeDesc.string) := rfl
theorem zuz : C1.ti 21 = some ⟨TypeDesc.int IntKind.i32, 1, 4, Value.int IntKind.i32 0⟩ := rfl
theorem zub : C1.td 21 = some (TypeDesc.int IntKind.i32) := rfl
theorem zv0 : C1.ti 22 = some ⟨TypeDesc.func #[] #[4] false, 1, 8, Value.nilFunc⟩ := rfl
theorem zuc : C1.td 22 = some (TypeDesc.func #[] #[4] false) := rfl
theorem zv1 : C1.ti 23 = some ⟨TypeDesc.slice 72, 1, 24, Value.slice none 0 0⟩ := rfl
theorem zud : C1.td 23 = some (TypeDesc.slice 72) := rfl
theorem zv2 : C1.ti 24 = some ⟨TypeDesc.slice 74, 1, 24, Value.slice none 0 0⟩ := rfl
theorem zue : C1.td 24 = some (TypeDesc.slice 74) := rfl
theorem zv3 : C1.ti 25 = some ⟨TypeDesc.slice 76, 1, 24, Value.slice none 0 0⟩ := rfl
theorem zuf : C1.td 25 = some (TypeDesc.slice 76) := rfl
theorem zv4 : C1.ti 26 = some ⟨TypeDesc.map 21 48, 1, 8, Value.map none⟩ := rfl
theorem zug : C1.td 26 = some (TypeDesc.map 21 48) := rfl
theorem zv5 : C1.ti 27 = some ⟨TypeDesc.map 50 21, 1, 8, Value.map none⟩ := rfl
theorem zuh : C1.td 27 = some (TypeDesc.map 50 21) := rfl
theorem zv6 : C1.ti 29 = some ⟨TypeDesc.struct #[⟨"ranges", 23, 0, false, "", "pillarbox/ucd", 0⟩, ⟨"classes", 24, 1, false, "", "pillarbox/ucd", 24⟩, ⟨"lowers", 25, 2, false, "", "pillarbox/ucd", 48⟩, ⟨"splits", 26, 3, false, "", "pillarbox/ucd", 72⟩, ⟨"pairs", 27, 4, false, "", "pillarbox/ucd", 80⟩], 5, 88, Value.agg #[Value.slice none 0 0, Value.slice none 0 0, Value.slice none 0 0, Value.map none, Value.map none]⟩ := rfl
theorem zui : C1.td 29 = some (TypeDesc.struct #[⟨"ranges", 23, 0, false, "", "pillarbox/ucd", 0⟩, ⟨"classes", 24, 1, false, "", "pillarbox/ucd", 24⟩, ⟨"lowers", 25, 2, false, "", "pillarbox/ucd", 48⟩, ⟨"splits", 26, 3, false, "", "pillarbox/ucd", 72⟩, ⟨"pairs", 27, 4, false, "", "pillarbox/ucd", 80⟩]) := rfl
theorem ze2 : C1.fld 29 0 = some (0, ⟨TypeDesc.slice 72, 1, 24, Value.slice none 0 0⟩) := rfl
theorem ze3 : C1.fld 29 1 = some (1, ⟨TypeDesc.slice 74, 1, 24, Value.slice none 0 0⟩) := rfl
theorem ze4 : C1.fld 29 2 = some (2, ⟨TypeDesc.slice 76, 1, 24, Value.slice none 0 0⟩) := rfl
theorem ze5 : C1.fld 29 3 = some (3, ⟨TypeDesc.map 21 48, 1, 8, Value.map none⟩) := rfl
theorem ze6 : C1.fld 29 4 = some (4, ⟨TypeDesc.map 50 21, 1, 8, Value.map none⟩) := rfl
theorem zv7 : C1.ti 31 = some ⟨TypeDesc.int IntKind.i64, 1, 8, Value.int IntKind.i64 0⟩ := rfl
theorem zuj : C1.td 31 = some (TypeDesc.int IntKind.i64) := rfl
theorem zv8 : C1.ti 38 = some ⟨TypeDesc.func #[21] #[4] false, 1, 8, Value.nilFunc⟩ := rfl
theorem zuk : C1.td 38 = some (TypeDesc.func #[21] #[4] false) := rfl
theorem zv9 : C1.ti 45 = some ⟨TypeDesc.slice 48, 1, 24, Value.slice none 0 0⟩ := rfl
theorem zul : C1.td 45 = some (TypeDesc.slice 48) := rfl
theorem zva : C1.ti 48 = some ⟨TypeDesc.struct #[⟨"Rune", 21, 0, false, "", "", 0⟩, ⟨"One", 21, 1, false, "", "", 4⟩, ⟨"Two", 21, 2, false, "", "", 8⟩, ⟨"Soft", 4, 3, false, "", "", 12⟩, ⟨"Out", 4, 4, false, "", "", 13⟩], 5, 16, Value.agg #[Value.int IntKind.i32 0, Value.int IntKind.i32 0, Value.int IntKind.i32 0, Value.bool false, Value.bool false]⟩ := rfl
theorem zum : C1.td 48 = some (TypeDesc.struct #[⟨"Rune", 21, 0, false, "", "", 0⟩, ⟨"One", 21, 1, false, "", "", 4⟩, ⟨"Two", 21, 2, false, "", "", 8⟩, ⟨"Soft", 4, 3, false, "", "", 12⟩, ⟨"Out", 4, 4, false, "", "", 13⟩]) := rfl
theorem ze7 : C1.fld 48 0 = some (0, ⟨TypeDesc.int IntKind.i32, 1, 4, Value.int IntKind.i32 0⟩) := rfl
theorem ze8 : C1.fld 48 1 = some (1, ⟨TypeDesc.int IntKind.i32, 1, 4, Value.int IntKind.i32 0⟩) := rfl
theorem ze9 : C1.fld 48 2 = some (2, ⟨TypeDesc.int IntKind.i32, 1, 4, Value.int IntKind.i32 0⟩) := rfl
theorem zea : C1.fld 48 3 = some (3, ⟨TypeDesc.bool, 1, 1, Value.bool false⟩) := rfl
theorem zeb : C1.fld 48 4 = some (4, ⟨TypeDesc.bool, 1, 1, Value.bool false⟩) := rfl
theorem zvb : C1.ti 50 = some ⟨TypeDesc.struct #[⟨"one", 21, 0, false, "", "pillarbox/ucd", 0⟩, ⟨"two", 21, 1, false, "", "pillarbox/ucd", 4⟩], 2, 8, Value.agg #[Value.int IntKind.i32 0, Value.int IntKind.i32 0]⟩ := rfl
theorem zun : C1.td 50 = some (TypeDesc.struct #[⟨"one", 21, 0, false, "", "pillarbox/ucd", 0⟩, ⟨"two", 21, 1, false, "", "pillarbox/ucd", 4⟩]) := rfl
theorem zec : C1.fld 50 0 = some (0, ⟨TypeDesc.int IntKind.i32, 1, 4, Value.int IntKind.i32 0⟩) := rfl
theorem zed : C1.fld 50 1 = some (1, ⟨TypeDesc.int IntKind.i32, 1, 4, Value.int IntKind.i32 0⟩) := rfl
theorem zhe : C1.ti 53 = some ⟨TypeDesc.slice 21, 1, 24, Value.slice none 0 0⟩ := rfl
theorem zuo : C1.td 53 = some (TypeDesc.slice 21) := rfl
theorem zvc : C1.ti 60 = some ⟨TypeDesc.func #[3] #[4] false, 1, 8, Value.nilFunc⟩ := rfl
theorem zup : C1.td 60 = some (TypeDesc.func #[3] #[4] false) := rfl
theorem zvd : C1.ti 67 = some ⟨TypeDesc.struct #[⟨"err", 31, 0, false, "", "pillarbox/label", 0⟩, ⟨"bad", 22, 1, false, "", "pillarbox/label", 8⟩], 2, 16, Value.agg #[Value.int IntKind.i64 0, Value.nilFunc]⟩ := rfl
theorem zuq : C1.td 67 = some (TypeDesc.struct #[⟨"err", 31, 0, false, "", "pillarbox/label", 0⟩, ⟨"bad", 22, 1, false, "", "pillarbox/label", 8⟩]) := rfl
theorem zee : C1.fld 67 0 = some (0, ⟨TypeDesc.int IntKind.i64, 1, 8, Value.int IntKind.i64 0⟩) := rfl
theorem zef : C1.fld 67 1 = some (1, ⟨TypeDesc.func #[] #[4] false, 1, 8, Value.nilFunc⟩) := rfl
theorem zve : C1.ti 72 = some ⟨TypeDesc.struct #[⟨"Lo", 21, 0, false, "", "", 0⟩, ⟨"Hi", 21, 1, false, "", "", 4⟩, ⟨"Cat", 3, 2, false, "", "", 8⟩, ⟨"Bidi", 3, 3, false, "", "", 16⟩, ⟨"Join", 3, 4, false, "", "", 24⟩, ⟨"Script", 3, 5, false, "", "", 32⟩], 6, 40, Value.agg #[Value.int IntKind.i32 0, Value.int IntKind.i32 0, Value.int IntKind.i64 0, Value.int IntKind.i64 0, Value.int IntKind.i64 0, Value.int IntKind.i64 0]⟩ := rfl
theorem zur : C1.td 72 = some (TypeDesc.struct #[⟨"Lo", 21, 0, false, "", "", 0⟩, ⟨"Hi", 21, 1, false, "", "", 4⟩, ⟨"Cat", 3, 2, false, "", "", 8⟩, ⟨"Bidi", 3, 3, false, "", "", 16⟩, ⟨"Join", 3, 4, false, "", "", 24⟩, ⟨"Script", 3, 5, false, "", "", 32⟩]) := rfl
theorem zeg : C1.fld 72 0 = some (0, ⟨TypeDesc.int IntKind.i32, 1, 4, Value.int IntKind.i32 0⟩) := rfl
theorem zeh : C1.fld 72 1 = some (1, ⟨TypeDesc.int IntKind.i32, 1, 4, Value.int IntKind.i32 0⟩) := rfl
theorem zei : C1.fld 72 2 = some (2, ⟨TypeDesc.int IntKind.i64, 1, 8, Value.int IntKind.i64 0⟩) := rfl
theorem zej : C1.fld 72 3 = some (3, ⟨TypeDesc.int IntKind.i64, 1, 8, Value.int IntKind.i64 0⟩) := rfl
theorem zek : C1.fld 72 4 = some (4, ⟨TypeDesc.int IntKind.i64, 1, 8, Value.int IntKind.i64 0⟩) := rfl
theorem zel : C1.fld 72 5 = some (5, ⟨TypeDesc.int IntKind.i64, 1, 8, Value.int IntKind.i64 0⟩) := rfl
theorem zvf : C1.ti 74 = some ⟨TypeDesc.struct #[⟨"Lo", 21, 0, false, "", "", 0⟩, ⟨"Hi", 21, 1, false, "", "", 4⟩, ⟨"Class", 3, 2, false, "", "", 8⟩, ⟨"Step", 3, 3, false, "", "", 16⟩], 4, 24, Value.agg #[Value.int IntKind.i32 0, Value.int IntKind.i32 0, Value.int IntKind.i64 0, Value.int IntKind.i64 0]⟩ := rfl
theorem zus : C1.td 74 = some (TypeDesc.struct #[⟨"Lo", 21, 0, false, "", "", 0⟩, ⟨"Hi", 21, 1, false, "", "", 4⟩, ⟨"Class", 3, 2, false, "", "", 8⟩, ⟨"Step", 3, 3, false, "", "", 16⟩]) := rfl
theorem zem : C1.fld 74 0 = some (0, ⟨TypeDesc.int IntKind.i32, 1, 4, Value.int IntKind.i32 0⟩) := rfl
theorem zen : C1.fld 74 1 = some (1, ⟨TypeDesc.int IntKind.i32, 1, 4, Value.int IntKind.i32 0⟩) := rfl
theorem zeo : C1.fld 74 2 = some (2, ⟨TypeDesc.int IntKind.i64, 1, 8, Value.int IntKind.i64 0⟩) := rfl
theorem zep : C1.fld 74 3 = some (3, ⟨TypeDesc.int IntKind.i64, 1, 8, Value.int IntKind.i64 0⟩) := rfl
theorem zvg : C1.ti 76 = some ⟨TypeDesc.struct #[⟨"Lo", 21, 0, false, "", "", 0⟩, ⟨"Hi", 21, 1, false, "", "", 4⟩, ⟨"By", 21, 2, false, "", "", 8⟩], 3, 12, Value.agg #[Value.int IntKind.i32 0, Value.int IntKind.i32 0, Value.int IntKind.i32 0]⟩ := rfl
theorem zut : C1.td 76 = some (TypeDesc.struct #[⟨"Lo", 21, 0, false, "", "", 0⟩, ⟨"Hi", 21, 1, false, "", "", 4⟩, ⟨"By", 21, 2, false, "", "", 8⟩]) := rfl
theorem zeq : C1.fld 76 0 = some (0, ⟨TypeDesc.int IntKind.i32, 1, 4, Value.int IntKind.i32 0⟩) := rfl
theorem zer : C1.fld 76 1 = some (1, ⟨TypeDesc.int IntKind.i32, 1, 4, Value.int IntKind.i32 0⟩) := rfl
theorem zes : C1.fld 76 2 = some (2, ⟨TypeDesc.int IntKind.i32, 1, 4, Value.int IntKind.i32 0⟩) := rfl
theorem zvh : C1.ti 80 = some ⟨TypeDesc.int IntKind.u64, 1, 8, Value.int IntKind.u64 0⟩ := rfl
theorem zuu : C1.td 80 = some (TypeDesc.int IntKind.u64) := rfl
theorem zvi : C1.ti 82 = some ⟨TypeDesc.array 8 3, 8, 64, Value.agg #[Value.int IntKind.i64 0, Value.int IntKind.i64 0, Value.int IntKind.i64 0, Value.int IntKind.i64 0, Value.int IntKind.i64 0, Value.int IntKind.i64 0, Value.int IntKind.i64 0, Value.int IntKind.i64 0]⟩ := rfl
theorem zuv : C1.td 82 = some (TypeDesc.array 8 3) := rfl
theorem zvj : C1.ti 90 = some ⟨TypeDesc.func #[93] #[4] false, 1, 8, Value.nilFunc⟩ := rfl
theorem zuw : C1.td 90 = some (TypeDesc.func #[93] #[4] false) := rfl
theorem zvk : C1.ti 93 = some ⟨TypeDesc.struct #[⟨"t", 29, 0, false, "", "pillarbox/context", 0⟩, ⟨"l", 53, 5, false, "", "pillarbox/context", 88⟩, ⟨"at", 3, 6, false, "", "pillarbox/context", 112⟩], 7, 120, Value.agg #[Value.slice none 0 0, Value.slice none 0 0, Value.slice none 0 0, Value.map none, Value.map none, Value.slice none 0 0, Value.int IntKind.i64 0]⟩ := rfl
theorem zux : C1.td 93 = some (TypeDesc.struct #[⟨"t", 29, 0, false, "", "pillarbox/context", 0⟩, ⟨"l", 53, 5, false, "", "pillarbox/context", 88⟩, ⟨"at", 3, 6, false, "", "pillarbox/context", 112⟩]) := rfl
theorem zet : C1.fld 93 0 = some (0, ⟨TypeDesc.struct #[⟨"ranges", 23, 0, false, "", "pillarbox/ucd", 0⟩, ⟨"classes", 24, 1, false, "", "pillarbox/ucd", 24⟩, ⟨"lowers", 25, 2, false, "", "pillarbox/ucd", 48⟩, ⟨"splits", 26, 3, false, "", "pillarbox/ucd", 72⟩, ⟨"pairs", 27, 4, false, "", "pillarbox/ucd", 80⟩], 5, 88, Value.agg #[Value.slice none 0 0, Value.slice none 0 0, Value.slice none 0 0, Value.map none, Value.map none]⟩) := rfl
theorem zeu : C1.fld 93 1 = some (5, ⟨TypeDesc.slice 21, 1, 24, Value.slice none 0 0⟩) := rfl
theorem zev : C1.fld 93 2 = some (6, ⟨TypeDesc.int IntKind.i64, 1, 8, Value.int IntKind.i64 0⟩) := rfl
theorem zvl : C1.ti 98 = some ⟨TypeDesc.slice 67, 1, 24, Value.slice none 0 0⟩ := rfl
theorem zuy : C1.td 98 = some (TypeDesc.slice 67) := rfl
theorem zoc : C1.ti 100 = some ⟨TypeDesc.slice 5, 1, 24, Value.slice none 0 0⟩ := rfl
theorem zo0 : C1.td 100 = some (TypeDesc.slice 5) := rfl
theorem zod : C1.ti 105 = some ⟨TypeDesc.func #[21] #[21] false, 1, 8, Value.nilFunc⟩ := rfl
theorem zo1 : C1.td 105 = some (TypeDesc.func #[21] #[21] false) := rfl
theorem zoe : C1.ti 107 = some ⟨TypeDesc.struct #[⟨"Table", 29, 0, true, "", "", 0⟩], 5, 88, Value.agg #[Value.slice none 0 0, Value.slice none 0 0, Value.slice none 0 0, Value.map none, Value.map none]⟩ := rfl
theorem zo2 : C1.td 107 = some (TypeDesc.struct #[⟨"Table", 29, 0, true, "", "", 0⟩]) := rfl
theorem zbt : C1.fld 107 0 = some (0, ⟨TypeDesc.struct #[⟨"ranges", 23, 0, false, "", "pillarbox/ucd", 0⟩, ⟨"classes", 24, 1, false, "", "pillarbox/ucd", 24⟩, ⟨"lowers", 25, 2, false, "", "pillarbox/ucd", 48⟩, ⟨"splits", 26, 3, false, "", "pillarbox/ucd", 72⟩, ⟨"pairs", 27, 4, false, "", "pillarbox/ucd", 80⟩], 5, 88, Value.agg #[Value.slice none 0 0, Value.slice none 0 0, Value.slice none 0 0, Value.map none, Value.map none]⟩) := rfl
theorem zof : C1.ti 109 = some ⟨TypeDesc.func #[128] #[] false, 1, 8, Value.nilFunc⟩ := rfl
theorem zo3 : C1.td 109 = some (TypeDesc.func #[128] #[] false) := rfl
theorem zog : C1.ti 110 = some ⟨TypeDesc.func #[128] #[] false, 1, 8, Value.nilFunc⟩ := rfl
theorem zo4 : C1.td 110 = some (TypeDesc.func #[128] #[] false) := rfl
theorem zoh : C1.ti 115 = some ⟨TypeDesc.map 21 90, 1, 8, Value.map none⟩ := rfl
theorem zo5 : C1.td 115 = some (TypeDesc.map 21 90) := rfl
theorem zoi : C1.ti 121 = some ⟨TypeDesc.func #[72, 21] #[3] false, 1, 8, Value.nilFunc⟩ := rfl
theorem zo6 : C1.td 121 = some (TypeDesc.func #[72, 21] #[3] false) := rfl
theorem zoj : C1.ti 126 = some ⟨TypeDesc.func #[76] #[4] false, 1, 8, Value.nilFunc⟩ := rfl
theorem zo7 : C1.td 126 = some (TypeDesc.func #[76] #[4] false) := rfl
theorem zok : C1.ti 128 = some ⟨TypeDesc.func #[3, 21] #[4] false, 1, 8, Value.nilFunc⟩ := rfl
theorem zo8 : C1.td 128 = some (TypeDesc.func #[3, 21] #[4] false) := rfl
theorem zol : C1.ti 134 = some ⟨TypeDesc.func #[21, 21] #[3] false, 1, 8, Value.nilFunc⟩ := rfl
theorem zo9 : C1.td 134 = some (TypeDesc.func #[21, 21] #[3] false) := rfl
theorem zom : C1.ti 140 = some ⟨TypeDesc.func #[74] #[4] false, 1, 8, Value.nilFunc⟩ := rfl
theorem zoa : C1.td 140 = some (TypeDesc.func #[74] #[4] false) := rfl
theorem zon : C1.ti 147 = some ⟨TypeDesc.slice 53, 1, 24, Value.slice none 0 0⟩ := rfl
theorem zob : C1.td 147 = some (TypeDesc.slice 53) := rfl
theorem zu7 (a : Int) : z1e C1 3 (.int .i64 a) = true := rfl
theorem zu8 (a : Bool) : z1e C1 4 (.bool a) = true := rfl
theorem zu9 (a : Int) : z1e C1 5 (.int .u8 a) = true := rfl
theorem zua (a : ByteArray) : z1e C1 9 (.string a) = true := rfl
theorem zns (a : Int) : z1e C1 21 (.int .i32 a) = true := rfl
theorem znt (a : Int) : z1e C1 31 (.int .i64 a) = true := rfl
theorem znz (a : Int) : z1e C1 80 (.int .u64 a) = true := rfl
theorem znu (x0 : Int) (x1 : Int) (x2 : Int) (x3 : Bool) (x4 : Bool) : z1e C1 48 (.agg #[.int .i32 x0, .int .i32 x1, .int .i32 x2, .bool x3, .bool x4]) = true := rfl
theorem znv (x0 : Int) (x1 : Int) : z1e C1 50 (.agg #[.int .i32 x0, .int .i32 x1]) = true := rfl
theorem znw (x0 : Int) (x1 : Int) (x2 : Int) (x3 : Int) (x4 : Int) (x5 : Int) : z1e C1 72 (.agg #[.int .i32 x0, .int .i32 x1, .int .i64 x2, .int .i64 x3, .int .i64 x4, .int .i64 x5]) = true := rfl
theorem znx (x0 : Int) (x1 : Int) (x2 : Int) (x3 : Int) : z1e C1 74 (.agg #[.int .i32 x0, .int .i32 x1, .int .i64 x2, .int .i64 x3]) = true := rfl
theorem zny (x0 : Int) (x1 : Int) (x2 : Int) : z1e C1 76 (.agg #[.int .i32 x0, .int .i32 x1, .int .i32 x2]) = true := rfl
theorem B3 : type_of% (And.intro @zit (And.intro @C1_td3 @zu7)) := (And.intro @zit (And.intro @C1_td3 @zu7))
theorem B4 : type_of% (And.intro @C1_ti4 (And.intro @C1_td4 @zu8)) := (And.intro @C1_ti4 (And.intro @C1_td4 @zu8))
theorem B5 : type_of% (And.intro @C1_ti5 (And.intro @C1_td5 @zu9)) := (And.intro @C1_ti5 (And.intro @C1_td5 @zu9))
theorem B9 : type_of% (And.intro @C1_ti9 (And.intro @C1_td9 @zua)) := (And.intro @C1_ti9 (And.intro @C1_td9 @zua))
theorem B21 : type_of% (And.intro @zuz (And.intro @zub @zns)) := (And.intro @zuz (And.intro @zub @zns))
theorem B22 : type_of% (And.intro @zv0 @zuc) := (And.intro @zv0 @zuc)
theorem B23 : type_of% (And.intro @zv1 @zud) := (And.intro @zv1 @zud)
theorem B24 : type_of% (And.intro @zv2 @zue) := (And.intro @zv2 @zue)
theorem B25 : type_of% (And.intro @zv3 @zuf) := (And.intro @zv3 @zuf)
theorem B26 : type_of% (And.intro @zv4 @zug) := (And.intro @zv4 @zug)
theorem B27 : type_of% (And.intro @zv5 @zuh) := (And.intro @zv5 @zuh)
theorem B29 : type_of% (And.intro @zv6 (And.intro @zui (And.intro @ze2 (And.intro @ze3 (And.intro @ze4 (And.intro @ze5 @ze6)))))) := (And.intro @zv6 (And.intro @zui (And.intro @ze2 (And.intro @ze3 (And.intro @ze4 (And.intro @ze5 @ze6))))))
theorem B31 : type_of% (And.intro @zv7 (And.intro @zuj @znt)) := (And.intro @zv7 (And.intro @zuj @znt))
theorem B38 : type_of% (And.intro @zv8 @zuk) := (And.intro @zv8 @zuk)
theorem B45 : type_of% (And.intro @zv9 @zul) := (And.intro @zv9 @zul)
theorem B48 : type_of% (And.intro @zva (And.intro @zum (And.intro @ze7 (And.intro @ze8 (And.intro @ze9 (And.intro @zea (And.intro @zeb @znu))))))) := (And.intro @zva (And.intro @zum (And.intro @ze7 (And.intro @ze8 (And.intro @ze9 (And.intro @zea (And.intro @zeb @znu)))))))
theorem B50 : type_of% (And.intro @zvb (And.intro @zun (And.intro @zec (And.intro @zed @znv)))) := (And.intro @zvb (And.intro @zun (And.intro @zec (And.intro @zed @znv))))
theorem B53 : type_of% (And.intro @zhe @zuo) := (And.intro @zhe @zuo)
theorem B60 : type_of% (And.intro @zvc @zup) := (And.intro @zvc @zup)
theorem B67 : type_of% (And.intro @zvd (And.intro @zuq (And.intro @zee @zef))) := (And.intro @zvd (And.intro @zuq (And.intro @zee @zef)))
theorem B72 : type_of% (And.intro @zve (And.intro @zur (And.intro @zeg (And.intro @zeh (And.intro @zei (And.intro @zej (And.intro @zek (And.intro @zel @znw)))))))) := (And.intro @zve (And.intro @zur (And.intro @zeg (And.intro @zeh (And.intro @zei (And.intro @zej (And.intro @zek (And.intro @zel @znw))))))))
theorem B74 : type_of% (And.intro @zvf (And.intro @zus (And.intro @zem (And.intro @zen (And.intro @zeo (And.intro @zep @znx)))))) := (And.intro @zvf (And.intro @zus (And.intro @zem (And.intro @zen (And.intro @zeo (And.intro @zep @znx))))))
theorem B76 : type_of% (And.intro @zvg (And.intro @zut (And.intro @zeq (And.intro @zer (And.intro @zes @zny))))) := (And.intro @zvg (And.intro @zut (And.intro @zeq (And.intro @zer (And.intro @zes @zny)))))
theorem B80 : type_of% (And.intro @zvh (And.intro @zuu @znz)) := (And.intro @zvh (And.intro @zuu @znz))
theorem B82 : type_of% (And.intro @zvi @zuv) := (And.intro @zvi @zuv)
theorem B90 : type_of% (And.intro @zvj @zuw) := (And.intro @zvj @zuw)
theorem B93 : type_of% (And.intro @zvk (And.intro @zux (And.intro @zet (And.intro @zeu @zev)))) := (And.intro @zvk (And.intro @zux (And.intro @zet (And.intro @zeu @zev))))
theorem B98 : type_of% (And.intro @zvl @zuy) := (And.intro @zvl @zuy)
theorem B100 : type_of% (And.intro @zoc @zo0) := (And.intro @zoc @zo0)
theorem B105 : type_of% (And.intro @zod @zo1) := (And.intro @zod @zo1)
theorem B107 : type_of% (And.intro @zoe (And.intro @zo2 @zbt)) := (And.intro @zoe (And.intro @zo2 @zbt))
theorem B109 : type_of% (And.intro @zof @zo3) := (And.intro @zof @zo3)
theorem B110 : type_of% (And.intro @zog @zo4) := (And.intro @zog @zo4)
theorem B115 : type_of% (And.intro @zoh @zo5) := (And.intro @zoh @zo5)
theorem B121 : type_of% (And.intro @zoi @zo6) := (And.intro @zoi @zo6)
theorem B126 : type_of% (And.intro @zoj @zo7) := (And.intro @zoj @zo7)
theorem B128 : type_of% (And.intro @zok @zo8) := (And.intro @zok @zo8)
theorem B134 : type_of% (And.intro @zol @zo9) := (And.intro @zol @zo9)
theorem B140 : type_of% (And.intro @zom @zoa) := (And.intro @zom @zoa)
theorem B147 : type_of% (And.intro @zon @zob) := (And.intro @zon @zob)
theorem D23 : type_of% (And.intro @B3 (And.intro @B21 (And.intro @B23 @B72))) := (And.intro @B3 (And.intro @B21 (And.intro @B23 @B72)))
theorem D24 : type_of% (And.intro @B3 (And.intro @B21 (And.intro @B24 @B74))) := (And.intro @B3 (And.intro @B21 (And.intro @B24 @B74)))
theorem D25 : type_of% (And.intro @B21 (And.intro @B25 @B76)) := (And.intro @B21 (And.intro @B25 @B76))
theorem D29 : type_of% (And.intro @B3 (And.intro @B4 (And.intro @B21 (And.intro @B23 (And.intro @B24 (And.intro @B25 (And.intro @B26 (And.intro @B27 (And.intro @B29 (And.intro @B48 (And.intro @B50 (And.intro @B72 (And.intro @B74 @B76))))))))))))) := (And.intro @B3 (And.intro @B4 (And.intro @B21 (And.intro @B23 (And.intro @B24 (And.intro @B25 (And.intro @B26 (And.intro @B27 (And.intro @B29 (And.intro @B48 (And.intro @B50 (And.intro @B72 (And.intro @B74 @B76)))))))))))))
theorem D45 : type_of% (And.intro @B4 (And.intro @B21 (And.intro @B45 @B48))) := (And.intro @B4 (And.intro @B21 (And.intro @B45 @B48)))
theorem D72 : type_of% (And.intro @B3 (And.intro @B21 @B72)) := (And.intro @B3 (And.intro @B21 @B72))
theorem D74 : type_of% (And.intro @B3 (And.intro @B21 @B74)) := (And.intro @B3 (And.intro @B21 @B74))
theorem D93 : type_of% (And.intro @B3 (And.intro @B4 (And.intro @B21 (And.intro @B23 (And.intro @B24 (And.intro @B25 (And.intro @B26 (And.intro @B27 (And.intro @B29 (And.intro @B48 (And.intro @B50 (And.intro @B53 (And.intro @B72 (And.intro @B74 (And.intro @B76 @B93))))))))))))))) := (And.intro @B3 (And.intro @B4 (And.intro @B21 (And.intro @B23 (And.intro @B24 (And.intro @B25 (And.intro @B26 (And.intro @B27 (And.intro @B29 (And.intro @B48 (And.intro @B50 (And.intro @B53 (And.intro @B72 (And.intro @B74 (And.intro @B76 @B93)))))))))))))))
theorem D98 : type_of% (And.intro @B22 (And.intro @B31 (And.intro @B67 @B98))) := (And.intro @B22 (And.intro @B31 (And.intro @B67 @B98)))
theorem D107 : type_of% (And.intro @B3 (And.intro @B4 (And.intro @B21 (And.intro @B23 (And.intro @B24 (And.intro @B25 (And.intro @B26 (And.intro @B27 (And.intro @B29 (And.intro @B48 (And.intro @B50 (And.intro @B72 (And.intro @B74 (And.intro @B76 @B107)))))))))))))) := (And.intro @B3 (And.intro @B4 (And.intro @B21 (And.intro @B23 (And.intro @B24 (And.intro @B25 (And.intro @B26 (And.intro @B27 (And.intro @B29 (And.intro @B48 (And.intro @B50 (And.intro @B72 (And.intro @B74 (And.intro @B76 @B107))))))))))))))
theorem D115 : type_of% (And.intro @B21 (And.intro @B90 @B115)) := (And.intro @B21 (And.intro @B90 @B115))
theorem D147 : type_of% (And.intro @B21 (And.intro @B53 @B147)) := (And.intro @B21 (And.intro @B53 @B147))
end Go.AE
end
section
namespace Go.AE
open Go.Proofs
set_option maxRecDepth 20000
set_option linter.unusedSimpArgs false
theorem zj1 : Spec Tryz.prog 16 [] (.own 74 4 10 (classes.flatMap z1k)) := by
  refine z0g (z := false) (ts := [.tmp 0]) ok1 Tryz.func16 rfl rfl (by decide +kernel) (by simp [Tryz.ntmps16]) rfl ?_
  repeat' first | simp (maxSteps := 4000000) (disch := omega) only [bunL, bunD, bun, ↓z04, ↓z00, z02, findLabel, ↓reduceIte, imp, shift, z0b, z0a, unown, names, z06, below, noF, isF, z03, z08, z07, ren, givL, updM, z0c, renO, belowM, seval, -Int.reduceToNat, D24, bunN, z81, z4k, z4l] | refine DR_q _ ?_ | (refine Fk.fk ?_ ?_ <;> intro hg <;> (try simp only [hg]) <;> (try simp only [bunB] at hg) <;> try (exfalso; first | omega | exact Bool.noConfusion hg | exact hg trivial)) | refine And.intro (by omega) ?_ | omega
  all_goals rfl
theorem zmh : Spec Tryz.prog 17 [] (.own 76 3 11 (lowers.flatMap z1l)) := by
  refine z0g (z := false) (ts := [.tmp 0]) ok1 Tryz.func17 rfl rfl (by decide +kernel) (by simp [Tryz.ntmps17]) rfl ?_
  repeat' first | simp (maxSteps := 4000000) (disch := omega) only [bunL, bunD, bun, ↓z04, ↓z00, z02, findLabel, ↓reduceIte, imp, shift, z0b, z0a, unown, names, z06, below, noF, isF, z03, z08, z07, ren, givL, updM, z0c, renO, belowM, seval, -Int.reduceToNat, D25, bunN, z81, z4k, z4l] | refine DR_q _ ?_ | (refine Fk.fk ?_ ?_ <;> intro hg <;> (try simp only [hg]) <;> (try simp only [bunB] at hg) <;> try (exfalso; first | omega | exact Bool.noConfusion hg | exact hg trivial)) | refine And.intro (by omega) ?_ | omega
  all_goals rfl
theorem zn3 : Spec Tryz.prog 18 [] (.own 48 5 42 (splits.flatMap z0j)) := by
  refine z0g (z := false) (ts := [.tmp 0]) ok1 Tryz.func18 rfl rfl (by decide +kernel) (by simp [Tryz.ntmps18]) rfl ?_
  repeat' first | simp (maxSteps := 4000000) (disch := omega) only [bunL, bunD, bun, ↓z04, ↓z00, z02, findLabel, ↓reduceIte, imp, shift, z0b, z0a, unown, names, z06, below, noF, isF, z03, z08, z07, ren, givL, updM, z0c, renO, belowM, seval, -Int.reduceToNat, D45, bunN, z81, z4k, z4l] | refine DR_q _ ?_ | (refine Fk.fk ?_ ?_ <;> intro hg <;> (try simp only [hg]) <;> (try simp only [bunB] at hg) <;> try (exfalso; first | omega | exact Bool.noConfusion hg | exact hg trivial)) | refine And.intro (by omega) ?_ | omega
  all_goals rfl
theorem zmv : Spec Tryz.prog 15 [] (.own 72 6 74 (ranges.flatMap z1m)) := by
  refine z0g (z := false) (ts := [.tmp 0]) ok1 Tryz.func15 rfl rfl (by decide +kernel) (by simp [Tryz.ntmps15]) rfl ?_
  repeat' first | simp (maxSteps := 4000000) (disch := omega) only [bunL, bunD, bun, ↓z04, ↓z00, z02, findLabel, ↓reduceIte, imp, shift, z0b, z0a, unown, names, z06, below, noF, isF, z03, z08, z07, ren, givL, updM, z0c, renO, belowM, seval, -Int.reduceToNat, D23, bunN, z81, z4k, z4l] | refine DR_q _ ?_ | (refine Fk.fk ?_ ?_ <;> intro hg <;> (try simp only [hg]) <;> (try simp only [bunB] at hg) <;> try (exfalso; first | omega | exact Bool.noConfusion hg | exact hg trivial)) | refine And.intro (by omega) ?_ | omega
  all_goals rfl
end Go.AE
end
section
namespace Go.AE
open Go.Proofs
set_option maxRecDepth 20000
set_option linter.unusedSimpArgs false
def tabC (es ps : List (Value × AV)) : List AV := [.sl 74 (ranges.flatMap z1m), .sl 10 (classes.flatMap z1k), .sl 11 (lowers.flatMap z1l), .mp es, .mp ps]
def sM (i : Nat) : List (Value × AV) := (splits.take i).foldl (fun m s => mput (.int .i32 s.1) (.ag (z0j s)) m) []
def pM (i : Nat) : List (Value × AV) := (splits.take i).foldl (fun m s => match s.2.2.2.1 || s.2.2.2.2 with | true => m | false => mput (.agg #[.int .i32 s.2.1, .int .i32 s.2.2.1]) (.v (.int .i32 s.1)) m) []
theorem zn1 {i : Nat} (h : i < 42) : sM (i + 1) = mput (.int .i32 (splits.getD i z27).1) (.ag (z0j (splits.getD i z27))) (sM i) := by
  unfold sM
  rw [z8g _ i z27 (by rw [z7h]; exact h), List.foldl_append]; rfl
theorem zmp {i : Nat} (h : i < 42) : pM (i + 1) = match (splits.getD i z27).2.2.2.1 || (splits.getD i z27).2.2.2.2 with | true => pM i | false => mput (.agg #[.int .i32 (splits.getD i z27).2.1, .int .i32 (splits.getD i z27).2.2.1]) (.v (.int .i32 (splits.getD i z27).1)) (pM i) := by
  unfold pM
  rw [z8g _ i z27 (by rw [z7h]; exact h), List.foldl_append]; rfl
theorem zcp {Q : Value → Prop} {k : Value} {x : AV} (hk : Q k) : ∀ {es : List (Value × AV)}, (∀ e ∈ es, Q e.1) → ∀ e ∈ mput k x es, Q e.1
  | [], _, e, he => by simp only [mput, List.mem_singleton] at he; subst he; exact hk
  | (k', y) :: l, h, e, he => by
    simp only [mput] at he
    split at he
    · rcases List.mem_cons.1 he with rfl | he
      · exact hk
      · exact h e (by simp [he])
    · rcases List.mem_cons.1 he with rfl | he
      · exact h _ (by simp)
      · exact zcp hk (fun e he => h e (by simp [he])) e he
theorem z37 (i : Nat) : (∀ e ∈ sM i, z1e C1 21 e.1 = true) = True := by
  refine eq_true ?_
  unfold sM
  have : ∀ (l : List SplitT) (m : List (Value × AV)), (∀ e ∈ m, z1e C1 21 e.1 = true) → ∀ e ∈ l.foldl (fun m s => mput (.int .i32 s.1) (.ag (z0j s)) m) m, z1e C1 21 e.1 = true := by
    intro l
    induction l with
    | nil => intro m h; exact h
    | cons a l ih => intro m h; exact ih _ (zcp (Q := fun v => z1e C1 21 v = true) rfl h)
  exact this _ _ (by simp)
theorem z34 (i : Nat) : (∀ e ∈ pM i, z1e C1 50 e.1 = true) = True := by
  refine eq_true ?_
  unfold pM
  have : ∀ (l : List SplitT) (m : List (Value × AV)), (∀ e ∈ m, z1e C1 50 e.1 = true) → ∀ e ∈ l.foldl (fun m s => match s.2.2.2.1 || s.2.2.2.2 with | true => m | false => mput (.agg #[.int .i32 s.2.1, .int .i32 s.2.2.1]) (.v (.int .i32 s.1)) m) m, z1e C1 50 e.1 = true := by
    intro l
    induction l with
    | nil => intro m h; exact h
    | cons a l ih =>
      intro m h
      refine ih _ ?_
      show ∀ e ∈ (match a.2.2.2.1 || a.2.2.2.2 with | true => m | false => mput (.agg #[.int .i32 a.2.1, .int .i32 a.2.2.1]) (.v (.int .i32 a.1)) m), _
      split
      · exact h
      · exact zcp (Q := fun v => z1e C1 50 v = true) rfl h
  exact this _ _ (by simp)
def newS (i : Nat) : St := ⟨[(0, .ptr 0 0), (1, .ptr 6 0), (10, .ref 7 0 42), (11, I64 42), (12, I64 i)],
  [.row true 1 [.v (.slice none 0 0), .v (.slice none 0 0), .v (.slice none 0 0), .v (.map none), .v (.map none)], .arr 72 6 (ranges.flatMap z1m), .arr 74 4 (classes.flatMap z1k), .arr 76 3 (lowers.flatMap z1l),
   .mp (sM i), .mp (pM i), .row true 1 [.ref 1 0 74, .ref 2 0 10, .ref 3 0 11, .mr 4, .mr 5], .arr 48 5 (splits.flatMap z0j)]⟩
theorem new_spec : Spec Tryz.prog 6 [] (.ag (tabC (sM 42) (pM 42))) := by
  refine z0g (z := true) (ts := [.cell 0 29]) ok1 Tryz.func6 rfl rfl (by decide +kernel) (by simp [Tryz.ntmps6]) rfl ?_
  repeat' first | refine z09 (zmv) ?_ ?_ | refine z09 (zj1) ?_ ?_ | refine z09 (zmh) ?_ ?_ | refine z09 (zn3) ?_ ?_ | simp (maxSteps := 4000000) (disch := omega) only [bunL, bunD, bun, ↓z04, ↓z00, z02, findLabel, ↓reduceIte, imp, shift, z0b, z0a, unown, names, z06, below, noF, isF, z03, z08, z07, ren, givL, updM, z0c, renO, belowM, seval, -Int.reduceToNat, D29, D45, bunN, z81, z4k, z4l, z0j, z11, z37, z34, Bool.not_true, Bool.not_false] | exact z0i _ | refine z0h _ _ ?_ | exact Cln.cl | refine z05 _ ?_ | refine z01 _ _ ?_ ?_ | refine DR_q _ ?_ | (refine Fk.fk ?_ ?_ <;> intro hg <;> (try simp only [hg]) <;> (try simp only [bunB] at hg) <;> try (exfalso; first | omega | exact Bool.noConfusion hg | exact hg trivial)) | refine And.intro (by omega) ?_ | omega
  refine z0p newS (fun i => i ≤ 42) (fun i => 42 - i) 0 (by omega) ?_ ?_
  · (simp (disch := omega) [wk, wkT, wkM, noF, isF, get, z0e, belowM, below, belows, I64, I32, Bv, U8, Sv, newS, sM, pM, splits] <;> try omega)
  intro i hi
  unfold newS
  repeat' first | simp (maxSteps := 4000000) (disch := omega) only [bunL, bunD, bun, ↓z04, ↓z00, z02, findLabel, ↓reduceIte, imp, shift, z0b, z0a, unown, names, z06, below, noF, isF, z03, z08, z07, ren, givL, updM, z0c, renO, belowM, seval, -Int.reduceToNat, z14, D29, D45, bunN, z81, z4k, z4l, z0j, z11, z37, z34, Bool.not_true, Bool.not_false] | refine DR_q _ ?_ | (refine Fk.fk ?_ ?_ <;> intro hg <;> (try simp only [hg]) <;> (try simp only [bunB] at hg) <;> try (exfalso; first | omega | exact Bool.noConfusion hg | exact hg trivial)) | refine And.intro (by omega) ?_ | omega
  · refine ⟨i + 1, by omega, by omega, ?_⟩
    have h5 : (splits.getD i z27).2.2.2.1 = false := by assumption
    have h6 : (splits.getD i z27).2.2.2.2 = false := by assumption
    have e1 := zn1 (i := i) (by omega)
    have e2 := zmp (i := i) (by omega)
    rw [h5, h6] at e2
    generalize splits.getD i z27 = x at *
    (simp (disch := omega) [wk, wkT, wkM, noF, isF, get, z0e, belowM, below, belows, I64, I32, Bv, U8, Sv, newS, e1, e2, z0j] <;> try omega)
  · refine ⟨i + 1, by omega, by omega, ?_⟩
    have h5 : (splits.getD i z27).2.2.2.1 = false := by assumption
    have h6 : (splits.getD i z27).2.2.2.2 = true := by assumption
    have e1 := zn1 (i := i) (by omega)
    have e2 := zmp (i := i) (by omega)
    rw [h5, h6] at e2
    generalize splits.getD i z27 = x at *
    (simp (disch := omega) [wk, wkT, wkM, noF, isF, get, z0e, belowM, below, belows, I64, I32, Bv, U8, Sv, newS, e1, e2, z0j] <;> try omega)
  · refine ⟨i + 1, by omega, by omega, ?_⟩
    have h5 : (splits.getD i z27).2.2.2.1 = true := by assumption
    have e1 := zn1 (i := i) (by omega)
    have e2 := zmp (i := i) (by omega)
    rw [h5] at e2
    generalize splits.getD i z27 = x at *
    (simp (disch := omega) [wk, wkT, wkM, noF, isF, get, z0e, belowM, below, belows, I64, I32, Bv, U8, Sv, newS, e1, e2, z0j] <;> try omega)
  · have : i = 42 := by omega
    subst this
    rw [List.take_of_length_le (by rw [zi9 (k := 6) _ (fun _ => rfl)]; decide), List.take_of_length_le (by rw [zi9 (k := 4) _ (fun _ => rfl)]; decide), List.take_of_length_le (by rw [zi9 (k := 3) _ (fun _ => rfl)]; decide)]
    rfl
end Go.AE
end
section
namespace Go.AE
open Go.Proofs
set_option maxRecDepth 20000
set_option linter.unusedSimpArgs false
def tab : AV := .ag (tabC (sM 42) (pM 42))
def cmpR (x : RangeT) (r : Int) : Int := if x.2.1 < r then -1 else if r < x.1 then 1 else 0
theorem z1u (x : RangeT) (r : Int) : (cmpR x r < 0) = (x.2.1 < r) := by
  unfold cmpR
  apply propext
  split
  · rename_i h; simp [h]
  · rename_i h
    split <;> simp [h] <;> omega
theorem cmpR_eq {x : RangeT} {r : Int} (h : ¬ x.2.1 < r) : (cmpR x r == 0) = decide (x.1 ≤ r) := by
  unfold cmpR; rw [if_neg h]
  split
  · rename_i h1; have : ¬ x.1 ≤ r := by omega
    simp [this]
  · rename_i h1; have : x.1 ≤ r := by omega
    simp [this]
theorem zpn (x : RangeT) (r : Int) : Spec Tryz.prog 105 [.ag (z1m x), I32 r] (I64 (cmpR x r)) := by
  refine z0g (z := false) (ts := [.tmp 4]) ok1 Tryz.func105 rfl rfl (by decide +kernel) (by simp [Tryz.ntmps105]) rfl ?_
  repeat' first | simp (maxSteps := 4000000) (disch := omega) only [bunL, bunD, bun, ↓z04, ↓z00, z02, findLabel, ↓reduceIte, imp, shift, z0b, z0a, unown, names, z06, below, noF, isF, z03, z08, z07, ren, givL, updM, z0c, renO, belowM, seval, -Int.reduceToNat, B4, D72, bunN, tabC, z1b, z17, z19, z14, z1c, z18, z1a, z11, z2s, z2t, z2l, z2m, z2n, z2o, z2p, z2q, z2r, z2v, z2w, z2x, z2y, z2z, z1m, z1k, z1l, z0j] | refine DR_q _ ?_ | (refine Fk.fk ?_ ?_ <;> intro hg <;> (try simp only [hg]) <;> (try simp only [bunB, z1n, z12, z16, z20, z3q, z1u] at hg) <;> try (exfalso; first | omega | exact Bool.noConfusion hg | exact hg trivial)) | refine And.intro (by omega) ?_ | omega
  all_goals (simp only [cmpR]; congr 2; repeat' split) <;> first | rfl | omega
theorem zdk (r : Int) : Spec Tryz.prog 104 [.sl 74 (ranges.flatMap z1m), I32 r, .fn 105 [] []] (.tup [I64 (lb r ranges), Bv (inR r)]) := by
  refine z0g (z := false) (ts := [.tmp 6, .tmp 7]) ok1 Tryz.func104 rfl rfl (by decide +kernel) (by simp [Tryz.ntmps104]) rfl ?_
  have hlb := lb_le r ranges
  rw [z6d] at hlb
  repeat' first | refine z09 (zpn _ _) ?_ ?_ | simp (maxSteps := 4000000) (disch := omega) only [bunL, bunD, bun, ↓z04, ↓z00, z02, findLabel, ↓reduceIte, imp, shift, z0b, z0a, unown, names, z06, below, noF, isF, z03, z08, z07, ren, givL, updM, z0c, renO, belowM, seval, -Int.reduceToNat, B4, D23, B80, B121, bunN, tabC, z1b, z17, z19, z14, z1c, z18, z1a, z11, z2s, z2t, z2l, z2m, z2n, z2o, z2p, z2q, z2r, z2v, z2w, z2x, z2y, z2z, z1m, z1k, z1l, z0j] | exact z0i _ | refine z0h _ _ ?_ | exact Cln.cl | refine z05 _ ?_ | refine z01 _ _ ?_ ?_ | refine DR_q _ ?_ | (refine Fk.fk ?_ ?_ <;> intro hg <;> (try simp only [hg]) <;> (try simp only [bunB, z1n, z12, z16, z20, z3q, z1u] at hg) <;> try (exfalso; first | omega | exact Bool.noConfusion hg | exact hg trivial)) | refine And.intro (by omega) ?_ | omega
  refine z0p (fun p : Nat × Nat => ⟨[(0, .sl 74 (ranges.flatMap z1m)), (1, I32 r), (2, .fn 105 [] []), (8, I64 74), (9, I64 p.1), (10, I64 p.2)], []⟩) (fun p => p.1 ≤ lb r ranges ∧ lb r ranges ≤ p.2 ∧ p.2 ≤ 74) (fun p => p.2 - p.1) (0, 74) (by simp; omega) (by simp [wk, wkT, wkM, noF, isF, get, z0e, belowM, below, belows, I64, I32, Bv, U8, Sv] <;> try omega) ?_
  rintro ⟨i, j⟩ ⟨h1, h2, h3⟩
  simp only at h1 h2 h3
  repeat' first | refine z09 (zpn _ _) ?_ ?_ | simp (maxSteps := 4000000) (disch := omega) only [bunL, bunD, bun, ↓z04, ↓z00, z02, findLabel, ↓reduceIte, imp, shift, z0b, z0a, unown, names, z06, below, noF, isF, z03, z08, z07, ren, givL, updM, z0c, renO, belowM, seval, -Int.reduceToNat, B4, D23, B80, B121, bunN, tabC, z1b, z17, z19, z14, z1c, z18, z1a, z11, z2s, z2t, z2l, z2m, z2n, z2o, z2p, z2q, z2r, z2v, z2w, z2x, z2y, z2z, z1m, z1k, z1l, z0j] | exact z0i _ | refine z0h _ _ ?_ | exact Cln.cl | refine z05 _ ?_ | refine z01 _ _ ?_ ?_ | refine DR_q _ ?_ | (refine Fk.fk ?_ ?_ <;> intro hg <;> (try simp only [hg]) <;> (try simp only [bunB, z1n, z12, z16, z20, z3q, z1u] at hg) <;> try (exfalso; first | omega | exact Bool.noConfusion hg | exact hg trivial)) | refine And.intro (by omega) ?_ | omega
  · have := zhs r z3w ((↑i + ↑j : Int) / 2).toNat (by rw [z6d]; omega)
    refine ⟨(((↑i + ↑j : Int) / 2).toNat + 1, j), ⟨by simp only; omega, by simp only; omega, h3⟩, by simp only; omega, (by simp [wk, wkT, wkM, noF, isF, get, z0e, belowM, below, belows, I64, I32, Bv, U8, Sv] <;> try omega)⟩
  · have := zhs r z3w ((↑i + ↑j : Int) / 2).toNat (by rw [z6d]; omega)
    refine ⟨(i, ((↑i + ↑j : Int) / 2).toNat), ⟨h1, by simp only; omega, by simp only; omega⟩, by simp only; omega, (by simp [wk, wkT, wkM, noF, isF, get, z0e, belowM, below, belows, I64, I32, Bv, U8, Sv] <;> try omega)⟩
  · have e : i = lb r ranges := by omega
    have h5 := zhs r z3w i (by rw [z6d]; omega)
    rw [zxt, ← e, cmpR_eq (by omega), decide_eq_true (show i < 74 by omega)]; rfl
  · have e : i = lb r ranges := by omega
    rw [zxt, ← e, decide_eq_false (show ¬ i < 74 by omega)]; rfl
end Go.AE
end
section
namespace Go.AE
open Go.Proofs
set_option maxRecDepth 20000
set_option linter.unusedSimpArgs false
theorem zi0 (r : Int) : Spec Tryz.prog 70 [tab, I32 r] (.ag (z1m (ofR r))) := by
  refine z0g (z := false) (ts := [.cell 4 72]) ok1 Tryz.func70 rfl rfl (by decide +kernel) (by simp [Tryz.ntmps70]) rfl ?_
  cases hin : inR r with
  | false =>
    have h0 := inR_no hin
    repeat' first | refine z09 (zdk _) ?_ ?_ | simp (maxSteps := 4000000) (disch := omega) only [bunL, bunD, bun, ↓z04, ↓z00, z02, findLabel, ↓reduceIte, imp, shift, z0b, z0a, unown, names, z06, below, noF, isF, z03, z08, z07, ren, givL, updM, z0c, renO, belowM, seval, -Int.reduceToNat, hin, h0, D29, B121, bunN, tab, tabC, z1b, z17, z19, z14, z1c, z18, z1a, z11, z2s, z2t, z2l, z2m, z2n, z2o, z2p, z2q, z2r, z2v, z2w, z2x, z2y, z2z, z1m, z1k, z1l, z0j, z37, z34] | exact z0i _ | refine z0h _ _ ?_ | exact Cln.cl | refine z05 _ ?_ | refine z01 _ _ ?_ ?_ | refine DR_q _ ?_ | (refine Fk.fk ?_ ?_ <;> intro hg <;> (try simp only [hg]) <;> (try simp only [bunB, z1n, z12, z16, z20, z3q, z1u] at hg) <;> try (exfalso; first | omega | exact Bool.noConfusion hg | exact hg trivial)) | refine And.intro (by omega) ?_ | omega
    rfl
  | true =>
    obtain ⟨h1, h2⟩ := inR_yes hin
    repeat' first | refine z09 (zdk _) ?_ ?_ | simp (maxSteps := 4000000) (disch := omega) only [bunL, bunD, bun, ↓z04, ↓z00, z02, findLabel, ↓reduceIte, imp, shift, z0b, z0a, unown, names, z06, below, noF, isF, z03, z08, z07, ren, givL, updM, z0c, renO, belowM, seval, -Int.reduceToNat, hin, D29, B121, bunN, tab, tabC, z1b, z17, z19, z14, z1c, z18, z1a, z11, z2s, z2t, z2l, z2m, z2n, z2o, z2p, z2q, z2r, z2v, z2w, z2x, z2y, z2z, z1m, z1k, z1l, z0j, z37, z34] | exact z0i _ | refine z0h _ _ ?_ | exact Cln.cl | refine z05 _ ?_ | refine z01 _ _ ?_ ?_ | refine DR_q _ ?_ | (refine Fk.fk ?_ ?_ <;> intro hg <;> (try simp only [hg]) <;> (try simp only [bunB, z1n, z12, z16, z20, z3q, z1u] at hg) <;> try (exfalso; first | omega | exact Bool.noConfusion hg | exact hg trivial)) | refine And.intro (by omega) ?_ | omega
    rw [h2]
theorem zhi (r : Int) : Spec Tryz.prog 30 [tab, I32 r] (I64 (cat r)) := by
  refine z0g (z := false) (ts := [.tmp 4]) ok1 Tryz.func30 rfl rfl (by decide +kernel) (by simp [Tryz.ntmps30]) rfl ?_
  repeat' first | refine z09 (zi0 _) ?_ ?_ | simp (maxSteps := 4000000) (disch := omega) only [bunL, bunD, bun, ↓z04, ↓z00, z02, findLabel, ↓reduceIte, imp, shift, z0b, z0a, unown, names, z06, below, noF, isF, z03, z08, z07, ren, givL, updM, z0c, renO, belowM, seval, -Int.reduceToNat, D29, bunN, tab, tabC, z1b, z17, z19, z14, z1c, z18, z1a, z11, z2s, z2t, z2l, z2m, z2n, z2o, z2p, z2q, z2r, z2v, z2w, z2x, z2y, z2z, z1m, z1k, z1l, z0j, z37, z34] | exact z0i _ | refine z0h _ _ ?_ | exact Cln.cl | refine z05 _ ?_ | refine z01 _ _ ?_ ?_ | refine DR_q _ ?_ | (refine Fk.fk ?_ ?_ <;> intro hg <;> (try simp only [hg]) <;> (try simp only [bunB, z1n, z12, z16, z20, z3q, z1u] at hg) <;> try (exfalso; first | omega | exact Bool.noConfusion hg | exact hg trivial)) | refine And.intro (by omega) ?_ | omega
  rfl
theorem z6w (r : Int) : Spec Tryz.prog 83 [tab, I32 r] (I64 (bidi r)) := by
  refine z0g (z := false) (ts := [.tmp 4]) ok1 Tryz.func83 rfl rfl (by decide +kernel) (by simp [Tryz.ntmps83]) rfl ?_
  repeat' first | refine z09 (zi0 _) ?_ ?_ | simp (maxSteps := 4000000) (disch := omega) only [bunL, bunD, bun, ↓z04, ↓z00, z02, findLabel, ↓reduceIte, imp, shift, z0b, z0a, unown, names, z06, below, noF, isF, z03, z08, z07, ren, givL, updM, z0c, renO, belowM, seval, -Int.reduceToNat, D29, bunN, tab, tabC, z1b, z17, z19, z14, z1c, z18, z1a, z11, z2s, z2t, z2l, z2m, z2n, z2o, z2p, z2q, z2r, z2v, z2w, z2x, z2y, z2z, z1m, z1k, z1l, z0j, z37, z34] | exact z0i _ | refine z0h _ _ ?_ | exact Cln.cl | refine z05 _ ?_ | refine z01 _ _ ?_ ?_ | refine DR_q _ ?_ | (refine Fk.fk ?_ ?_ <;> intro hg <;> (try simp only [hg]) <;> (try simp only [bunB, z1n, z12, z16, z20, z3q, z1u] at hg) <;> try (exfalso; first | omega | exact Bool.noConfusion hg | exact hg trivial)) | refine And.intro (by omega) ?_ | omega
  rfl
theorem z97 (r : Int) : Spec Tryz.prog 145 [tab, I32 r] (I64 (join r)) := by
  refine z0g (z := false) (ts := [.tmp 4]) ok1 Tryz.func145 rfl rfl (by decide +kernel) (by simp [Tryz.ntmps145]) rfl ?_
  repeat' first | refine z09 (zi0 _) ?_ ?_ | simp (maxSteps := 4000000) (disch := omega) only [bunL, bunD, bun, ↓z04, ↓z00, z02, findLabel, ↓reduceIte, imp, shift, z0b, z0a, unown, names, z06, below, noF, isF, z03, z08, z07, ren, givL, updM, z0c, renO, belowM, seval, -Int.reduceToNat, D29, bunN, tab, tabC, z1b, z17, z19, z14, z1c, z18, z1a, z11, z2s, z2t, z2l, z2m, z2n, z2o, z2p, z2q, z2r, z2v, z2w, z2x, z2y, z2z, z1m, z1k, z1l, z0j, z37, z34] | exact z0i _ | refine z0h _ _ ?_ | exact Cln.cl | refine z05 _ ?_ | refine z01 _ _ ?_ ?_ | refine DR_q _ ?_ | (refine Fk.fk ?_ ?_ <;> intro hg <;> (try simp only [hg]) <;> (try simp only [bunB, z1n, z12, z16, z20, z3q, z1u] at hg) <;> try (exfalso; first | omega | exact Bool.noConfusion hg | exact hg trivial)) | refine And.intro (by omega) ?_ | omega
  rfl
theorem z8q (r : Int) : Spec Tryz.prog 136 [tab, I32 r] (I64 (script r)) := by
  refine z0g (z := false) (ts := [.tmp 4]) ok1 Tryz.func136 rfl rfl (by decide +kernel) (by simp [Tryz.ntmps136]) rfl ?_
  repeat' first | refine z09 (zi0 _) ?_ ?_ | simp (maxSteps := 4000000) (disch := omega) only [bunL, bunD, bun, ↓z04, ↓z00, z02, findLabel, ↓reduceIte, imp, shift, z0b, z0a, unown, names, z06, below, noF, isF, z03, z08, z07, ren, givL, updM, z0c, renO, belowM, seval, -Int.reduceToNat, D29, bunN, tab, tabC, z1b, z17, z19, z14, z1c, z18, z1a, z11, z2s, z2t, z2l, z2m, z2n, z2o, z2p, z2q, z2r, z2v, z2w, z2x, z2y, z2z, z1m, z1k, z1l, z0j, z37, z34] | exact z0i _ | refine z0h _ _ ?_ | exact Cln.cl | refine z05 _ ?_ | refine z01 _ _ ?_ ?_ | refine DR_q _ ?_ | (refine Fk.fk ?_ ?_ <;> intro hg <;> (try simp only [hg]) <;> (try simp only [bunB, z1n, z12, z16, z20, z3q, z1u] at hg) <;> try (exfalso; first | omega | exact Bool.noConfusion hg | exact hg trivial)) | refine And.intro (by omega) ?_ | omega
  rfl
theorem zx4 (x : ClassT) (r : Int) : Spec Tryz.prog 139 [.ag (z1k x), .cp [I32 r]] (Bv (z12 r x)) := by
  refine z0g (z := false) (ts := [.tmp 3]) ok1 Tryz.func139 rfl rfl (by decide +kernel) (by simp [Tryz.ntmps139]) rfl ?_
  repeat' first | simp (maxSteps := 4000000) (disch := omega) only [bunL, bunD, bun, ↓z04, ↓z00, z02, findLabel, ↓reduceIte, imp, shift, z0b, z0a, unown, names, z06, below, noF, isF, z03, z08, z07, ren, givL, updM, z0c, renO, belowM, seval, -Int.reduceToNat, B4, D74, bunN, tab, tabC, z1b, z17, z19, z14, z1c, z18, z1a, z11, z2s, z2t, z2l, z2m, z2n, z2o, z2p, z2q, z2r, z2v, z2w, z2x, z2y, z2z, z1m, z1k, z1l, z0j, z37, z34] | refine DR_q _ ?_ | (refine Fk.fk ?_ ?_ <;> intro hg <;> (try simp only [hg]) <;> (try simp only [bunB, z1n, z12, z16, z20, z3q, z1u] at hg) <;> try (exfalso; first | omega | exact Bool.noConfusion hg | exact hg trivial)) | refine And.intro (by omega) ?_ | omega
  all_goals (congr 2; first | rfl | (first | rw [Bool.eq_iff_iff] | skip); simp_all [z12, z16] <;> omega)
theorem zc3 (r : Int) : Spec Tryz.prog 138 [.sl 10 (classes.flatMap z1k), .fn 139 [] [.cp [I32 r]]] (I64 (idx 10 (classes.findIdx (z12 r)))) := by
  refine z0g (z := false) (ts := [.tmp 4]) ok1 Tryz.func138 rfl rfl (by decide +kernel) (by simp [Tryz.ntmps138]) rfl ?_
  repeat' first | simp (maxSteps := 4000000) (disch := omega) only [bunL, bunD, bun, ↓z04, ↓z00, z02, findLabel, ↓reduceIte, imp, shift, z0b, z0a, unown, names, z06, below, noF, isF, z03, z08, z07, ren, givL, updM, z0c, renO, belowM, seval, -Int.reduceToNat, B4, D24, B140, bunN, tab, tabC, z1b, z17, z19, z14, z1c, z18, z1a, z11, z2s, z2t, z2l, z2m, z2n, z2o, z2p, z2q, z2r, z2v, z2w, z2x, z2y, z2z, z1m, z1k, z1l, z0j, z37, z34] | refine DR_q _ ?_ | (refine Fk.fk ?_ ?_ <;> intro hg <;> (try simp only [hg]) <;> (try simp only [bunB, z1n, z12, z16, z20, z3q, z1u] at hg) <;> try (exfalso; first | omega | exact Bool.noConfusion hg | exact hg trivial)) | refine And.intro (by omega) ?_ | omega
  refine z0p (fun i : Nat => ⟨[(0, .sl 10 (classes.flatMap z1k)), (1, .fn 139 [] [.cp [I32 r]]), (7, I64 10), (8, I64 i)], []⟩) (fun i => i ≤ 10 ∧ ∀ j, j < i → z12 r (classes.getD j z31) = false) (fun i => 10 - i) 0 (by simp) (by simp [wk, wkT, wkM, noF, isF, get, z0e, belowM, below, belows, I64, I32, Bv, U8, Sv] <;> try omega) ?_
  intro i ⟨hi, hno⟩
  repeat' first | refine z09 (zx4 _ _) ?_ ?_ | simp (maxSteps := 4000000) (disch := omega) only [bunL, bunD, bun, ↓z04, ↓z00, z02, findLabel, ↓reduceIte, imp, shift, z0b, z0a, unown, names, z06, below, noF, isF, z03, z08, z07, ren, givL, updM, z0c, renO, belowM, seval, -Int.reduceToNat, B4, D24, B140, bunN, tab, tabC, z1b, z17, z19, z14, z1c, z18, z1a, z11, z2s, z2t, z2l, z2m, z2n, z2o, z2p, z2q, z2r, z2v, z2w, z2x, z2y, z2z, z1m, z1k, z1l, z0j, z37, z34] | exact z0i _ | refine z0h _ _ ?_ | exact Cln.cl | refine z05 _ ?_ | refine z01 _ _ ?_ ?_ | refine DR_q _ ?_ | (refine Fk.fk ?_ ?_ <;> intro hg <;> (try simp only [hg]) <;> (try simp only [bunB, z1n, z12, z16, z20, z3q, z1u] at hg) <;> try (exfalso; first | omega | exact Bool.noConfusion hg | exact hg trivial)) | refine And.intro (by omega) ?_ | omega
  · rw [zce z5d hno (by omega) (by simp only [z12, Bool.and_eq_true, decide_eq_true_eq]; assumption)]
  · refine ⟨i + 1, ⟨by omega, z7k hno ?_⟩, by omega, (by simp [wk, wkT, wkM, noF, isF, get, z0e, belowM, below, belows, I64, I32, Bv, U8, Sv] <;> try omega)⟩
    simp only [z12, Bool.and_eq_false_iff, decide_eq_false_iff_not]; assumption
  · rw [z95 z5d hno (by omega)]
theorem z4m (r : Int) (h0 : -2147483648 ≤ r) (h1 : r ≤ 2147483647) : Spec Tryz.prog 127 [tab, I32 r] (I64 (cls r)) := by
  refine z0g (z := false) (ts := [.tmp 4]) ok1 Tryz.func127 rfl rfl (by decide +kernel) (by simp [Tryz.ntmps127]) rfl ?_
  by_cases hin : classes.findIdx (z12 r) < 10
  · obtain ⟨h2, h3, h4⟩ := cls_in hin
    have h5 := cla_ok hin
    have h6 := zq9 hin
    rcases h5.2.2.2.2 with h7 | h7
    · rw [h7] at h2
      repeat' first | refine z09 (zc3 _) ?_ ?_ | simp (maxSteps := 4000000) (disch := omega) only [bunL, bunD, bun, ↓z04, ↓z00, z02, findLabel, ↓reduceIte, imp, shift, z0b, z0a, unown, names, z06, below, noF, isF, z03, z08, z07, ren, givL, updM, z0c, renO, belowM, seval, -Int.reduceToNat, h6, h7, Int.zero_mul, D29, B140, bunN, tab, tabC, z1b, z17, z19, z14, z1c, z18, z1a, z11, z2s, z2t, z2l, z2m, z2n, z2o, z2p, z2q, z2r, z2v, z2w, z2x, z2y, z2z, z1m, z1k, z1l, z0j, z37, z34] | exact z0i _ | refine z0h _ _ ?_ | exact Cln.cl | refine z05 _ ?_ | refine z01 _ _ ?_ ?_ | refine DR_q _ ?_ | (refine Fk.fk ?_ ?_ <;> intro hg <;> (try simp only [hg]) <;> (try simp only [bunB, z1n, z12, z16, z20, z3q, z1u] at hg) <;> try (exfalso; first | omega | exact Bool.noConfusion hg | exact hg trivial)) | refine And.intro (by omega) ?_ | omega
      all_goals (rw [h2, Int.zero_mul])
    · rw [h7] at h2
      repeat' first | refine z09 (zc3 _) ?_ ?_ | simp (maxSteps := 4000000) (disch := omega) only [bunL, bunD, bun, ↓z04, ↓z00, z02, findLabel, ↓reduceIte, imp, shift, z0b, z0a, unown, names, z06, below, noF, isF, z03, z08, z07, ren, givL, updM, z0c, renO, belowM, seval, -Int.reduceToNat, h6, h7, Int.one_mul, D29, B140, bunN, tab, tabC, z1b, z17, z19, z14, z1c, z18, z1a, z11, z2s, z2t, z2l, z2m, z2n, z2o, z2p, z2q, z2r, z2v, z2w, z2x, z2y, z2z, z1m, z1k, z1l, z0j, z37, z34] | exact z0i _ | refine z0h _ _ ?_ | exact Cln.cl | refine z05 _ ?_ | refine z01 _ _ ?_ ?_ | refine DR_q _ ?_ | (refine Fk.fk ?_ ?_ <;> intro hg <;> (try simp only [hg]) <;> (try simp only [bunB, z1n, z12, z16, z20, z3q, z1u] at hg) <;> try (exfalso; first | omega | exact Bool.noConfusion hg | exact hg trivial)) | refine And.intro (by omega) ?_ | omega
      all_goals (rw [h2, Int.one_mul])
  · have h6 := zhp hin
    repeat' first | refine z09 (zc3 _) ?_ ?_ | simp (maxSteps := 4000000) (disch := omega) only [bunL, bunD, bun, ↓z04, ↓z00, z02, findLabel, ↓reduceIte, imp, shift, z0b, z0a, unown, names, z06, below, noF, isF, z03, z08, z07, ren, givL, updM, z0c, renO, belowM, seval, -Int.reduceToNat, h6, D29, B140, bunN, tab, tabC, z1b, z17, z19, z14, z1c, z18, z1a, z11, z2s, z2t, z2l, z2m, z2n, z2o, z2p, z2q, z2r, z2v, z2w, z2x, z2y, z2z, z1m, z1k, z1l, z0j, z37, z34] | exact z0i _ | refine z0h _ _ ?_ | exact Cln.cl | refine z05 _ ?_ | refine z01 _ _ ?_ ?_ | refine DR_q _ ?_ | (refine Fk.fk ?_ ?_ <;> intro hg <;> (try simp only [hg]) <;> (try simp only [bunB, z1n, z12, z16, z20, z3q, z1u] at hg) <;> try (exfalso; first | omega | exact Bool.noConfusion hg | exact hg trivial)) | refine And.intro (by omega) ?_ | omega
    rw [cls_out hin]
theorem zy9 (x : LowerT) (r : Int) : Spec Tryz.prog 111 [.ag (z1l x), .cp [I32 r]] (Bv (z16 r x)) := by
  refine z0g (z := false) (ts := [.tmp 3]) ok1 Tryz.func111 rfl rfl (by decide +kernel) (by simp [Tryz.ntmps111]) rfl ?_
  repeat' first | simp (maxSteps := 4000000) (disch := omega) only [bunL, bunD, bun, ↓z04, ↓z00, z02, findLabel, ↓reduceIte, imp, shift, z0b, z0a, unown, names, z06, below, noF, isF, z03, z08, z07, ren, givL, updM, z0c, renO, belowM, seval, -Int.reduceToNat, B4, B21, B76, bunN, tab, tabC, z1b, z17, z19, z14, z1c, z18, z1a, z11, z2s, z2t, z2l, z2m, z2n, z2o, z2p, z2q, z2r, z2v, z2w, z2x, z2y, z2z, z1m, z1k, z1l, z0j, z37, z34] | refine DR_q _ ?_ | (refine Fk.fk ?_ ?_ <;> intro hg <;> (try simp only [hg]) <;> (try simp only [bunB, z1n, z12, z16, z20, z3q, z1u] at hg) <;> try (exfalso; first | omega | exact Bool.noConfusion hg | exact hg trivial)) | refine And.intro (by omega) ?_ | omega
  all_goals (congr 2; first | rfl | (first | rw [Bool.eq_iff_iff] | skip); simp_all [z12, z16] <;> omega)
theorem zk7 (r : Int) : Spec Tryz.prog 110 [.sl 11 (lowers.flatMap z1l), .fn 111 [] [.cp [I32 r]]] (I64 (idx 11 (lowers.findIdx (z16 r)))) := by
  refine z0g (z := false) (ts := [.tmp 4]) ok1 Tryz.func110 rfl rfl (by decide +kernel) (by simp [Tryz.ntmps110]) rfl ?_
  repeat' first | simp (maxSteps := 4000000) (disch := omega) only [bunL, bunD, bun, ↓z04, ↓z00, z02, findLabel, ↓reduceIte, imp, shift, z0b, z0a, unown, names, z06, below, noF, isF, z03, z08, z07, ren, givL, updM, z0c, renO, belowM, seval, -Int.reduceToNat, B3, B4, D25, B126, bunN, tab, tabC, z1b, z17, z19, z14, z1c, z18, z1a, z11, z2s, z2t, z2l, z2m, z2n, z2o, z2p, z2q, z2r, z2v, z2w, z2x, z2y, z2z, z1m, z1k, z1l, z0j, z37, z34] | refine DR_q _ ?_ | (refine Fk.fk ?_ ?_ <;> intro hg <;> (try simp only [hg]) <;> (try simp only [bunB, z1n, z12, z16, z20, z3q, z1u] at hg) <;> try (exfalso; first | omega | exact Bool.noConfusion hg | exact hg trivial)) | refine And.intro (by omega) ?_ | omega
  refine z0p (fun i : Nat => ⟨[(0, .sl 11 (lowers.flatMap z1l)), (1, .fn 111 [] [.cp [I32 r]]), (7, I64 11), (8, I64 i)], []⟩) (fun i => i ≤ 11 ∧ ∀ j, j < i → z16 r (lowers.getD j z4e) = false) (fun i => 11 - i) 0 (by simp) (by simp [wk, wkT, wkM, noF, isF, get, z0e, belowM, below, belows, I64, I32, Bv, U8, Sv] <;> try omega) ?_
  intro i ⟨hi, hno⟩
  repeat' first | refine z09 (zy9 _ _) ?_ ?_ | simp (maxSteps := 4000000) (disch := omega) only [bunL, bunD, bun, ↓z04, ↓z00, z02, findLabel, ↓reduceIte, imp, shift, z0b, z0a, unown, names, z06, below, noF, isF, z03, z08, z07, ren, givL, updM, z0c, renO, belowM, seval, -Int.reduceToNat, B3, B4, D25, B126, bunN, tab, tabC, z1b, z17, z19, z14, z1c, z18, z1a, z11, z2s, z2t, z2l, z2m, z2n, z2o, z2p, z2q, z2r, z2v, z2w, z2x, z2y, z2z, z1m, z1k, z1l, z0j, z37, z34] | exact z0i _ | refine z0h _ _ ?_ | exact Cln.cl | refine z05 _ ?_ | refine z01 _ _ ?_ ?_ | refine DR_q _ ?_ | (refine Fk.fk ?_ ?_ <;> intro hg <;> (try simp only [hg]) <;> (try simp only [bunB, z1n, z12, z16, z20, z3q, z1u] at hg) <;> try (exfalso; first | omega | exact Bool.noConfusion hg | exact hg trivial)) | refine And.intro (by omega) ?_ | omega
  · rw [zce z6a hno (by omega) (by simp only [z16, Bool.and_eq_true, decide_eq_true_eq]; assumption)]
  · refine ⟨i + 1, ⟨by omega, z7k hno ?_⟩, by omega, (by simp [wk, wkT, wkM, noF, isF, get, z0e, belowM, below, belows, I64, I32, Bv, U8, Sv] <;> try omega)⟩
    simp only [z16, Bool.and_eq_false_iff, decide_eq_false_iff_not]; assumption
  · rw [z95 z6a hno (by omega)]
theorem zss (r : Int) : Spec Tryz.prog 80 [tab, I32 r] (I32 (low r)) := by
  refine z0g (z := false) (ts := [.tmp 4]) ok1 Tryz.func80 rfl rfl (by decide +kernel) (by simp [Tryz.ntmps80]) rfl ?_
  by_cases hin : lowers.findIdx (z16 r) < 11
  · obtain ⟨h2, h3, h4⟩ := low_in hin
    have h5 := low_ok hin
    have h6 := zq9 hin
    repeat' first | refine z09 (zk7 _) ?_ ?_ | simp (maxSteps := 4000000) (disch := omega) only [bunL, bunD, bun, ↓z04, ↓z00, z02, findLabel, ↓reduceIte, imp, shift, z0b, z0a, unown, names, z06, below, noF, isF, z03, z08, z07, ren, givL, updM, z0c, renO, belowM, seval, -Int.reduceToNat, h6, D29, B126, bunN, tab, tabC, z1b, z17, z19, z14, z1c, z18, z1a, z11, z2s, z2t, z2l, z2m, z2n, z2o, z2p, z2q, z2r, z2v, z2w, z2x, z2y, z2z, z1m, z1k, z1l, z0j, z37, z34] | exact z0i _ | refine z0h _ _ ?_ | exact Cln.cl | refine z05 _ ?_ | refine z01 _ _ ?_ ?_ | refine DR_q _ ?_ | (refine Fk.fk ?_ ?_ <;> intro hg <;> (try simp only [hg]) <;> (try simp only [bunB, z1n, z12, z16, z20, z3q, z1u] at hg) <;> try (exfalso; first | omega | exact Bool.noConfusion hg | exact hg trivial)) | refine And.intro (by omega) ?_ | omega
    rw [h2]
  · have h6 := zhp hin
    repeat' first | refine z09 (zk7 _) ?_ ?_ | simp (maxSteps := 4000000) (disch := omega) only [bunL, bunD, bun, ↓z04, ↓z00, z02, findLabel, ↓reduceIte, imp, shift, z0b, z0a, unown, names, z06, below, noF, isF, z03, z08, z07, ren, givL, updM, z0c, renO, belowM, seval, -Int.reduceToNat, h6, D29, B126, bunN, tab, tabC, z1b, z17, z19, z14, z1c, z18, z1a, z11, z2s, z2t, z2l, z2m, z2n, z2o, z2p, z2q, z2r, z2v, z2w, z2x, z2y, z2z, z1m, z1k, z1l, z0j, z37, z34] | exact z0i _ | refine z0h _ _ ?_ | exact Cln.cl | refine z05 _ ?_ | refine z01 _ _ ?_ ?_ | refine DR_q _ ?_ | (refine Fk.fk ?_ ?_ <;> intro hg <;> (try simp only [hg]) <;> (try simp only [bunB, z1n, z12, z16, z20, z3q, z1u] at hg) <;> try (exfalso; first | omega | exact Bool.noConfusion hg | exact hg trivial)) | refine And.intro (by omega) ?_ | omega
    rw [low_out hin]
theorem sM_all : sM 42 = splits.map fun s => (.int .i32 s.1, .ag (z0j s)) := rfl
theorem pM_all : pM 42 = (splits.filter fun s => !s.2.2.2.1 && !s.2.2.2.2).map fun s => (.agg #[.int .i32 s.2.1, .int .i32 s.2.2.1], .v (.int .i32 s.1)) := rfl
theorem sM_get (r : Int) : mget (.int .i32 r) (sM 42) = (splits.find? (z20 r)).map fun s => .ag (z0j s) := by
  rw [sM_all, zhx (fun s => .int .i32 s.1) (fun s => .ag (z0j s))]
  congr 2
  funext s
  simp only [eqK, eq1, z20, Bool.beq_eq_decide_eq]
  rw [Bool.eq_iff_iff]; simp only [beq_iff_eq, decide_eq_true_eq]; exact eq_comm
theorem pM_get (a b : Int) : mget (.agg #[.int .i32 a, .int .i32 b]) (pM 42) = (splits.find? (z3q a b)).map fun s => .v (.int .i32 s.1) := by
  rw [pM_all, zhx (fun s : SplitT => .agg #[.int .i32 s.2.1, .int .i32 s.2.2.1]) (fun s => .v (.int .i32 s.1)), List.find?_filter]
  congr 2
  funext s
  simp only [eqK, eqs, eq1, z3q, Bool.and_true]
  rw [Bool.eq_iff_iff]; simp only [Bool.and_eq_true, beq_iff_eq, Bool.not_eq_true', decide_eq_true_eq]
  constructor
  · rintro ⟨⟨h1, h2⟩, h3, h4⟩; exact ⟨⟨⟨h1, h2⟩, h3.symm⟩, h4.symm⟩
  · rintro ⟨⟨⟨h1, h2⟩, h3⟩, h4⟩; exact ⟨⟨h1, h2⟩, h3.symm, h4.symm⟩
theorem z61 (r : Int) : Spec Tryz.prog 31 [tab, I32 r] (.tup [.ag (z0j (spl r).1), Bv (spl r).2]) := by
  refine z0g (z := false) (ts := [.cell 4 48, .tmp 5]) ok1 Tryz.func31 rfl rfl (by decide +kernel) (by simp [Tryz.ntmps31]) rfl ?_
  cases hf : splits.find? (z20 r) with
  | none =>
    repeat' first | simp (maxSteps := 4000000) (disch := omega) only [bunL, bunD, bun, ↓z04, ↓z00, z02, findLabel, ↓reduceIte, imp, shift, z0b, z0a, unown, names, z06, below, noF, isF, z03, z08, z07, ren, givL, updM, z0c, renO, belowM, seval, -Int.reduceToNat, sM_get, hf, Option.map_none, D29, bunN, tab, tabC, z1b, z17, z19, z14, z1c, z18, z1a, z11, z2s, z2t, z2l, z2m, z2n, z2o, z2p, z2q, z2r, z2v, z2w, z2x, z2y, z2z, z1m, z1k, z1l, z0j, z37, z34] | refine DR_q _ ?_ | (refine Fk.fk ?_ ?_ <;> intro hg <;> (try simp only [hg]) <;> (try simp only [bunB, z1n, z12, z16, z20, z3q, z1u] at hg) <;> try (exfalso; first | omega | exact Bool.noConfusion hg | exact hg trivial)) | refine And.intro (by omega) ?_ | omega
    · have : wide r = true := by simp only [wide, Bool.and_eq_true, decide_eq_true_eq]; omega
      simp only [spl, this]; try rfl
    all_goals
      have : wide r = false := by simp only [wide, Bool.and_eq_false_iff, decide_eq_false_iff_not]; omega
      simp only [spl, this, hf]; try rfl
  | some x =>
    repeat' first | simp (maxSteps := 4000000) (disch := omega) only [bunL, bunD, bun, ↓z04, ↓z00, z02, findLabel, ↓reduceIte, imp, shift, z0b, z0a, unown, names, z06, below, noF, isF, z03, z08, z07, ren, givL, updM, z0c, renO, belowM, seval, -Int.reduceToNat, sM_get, hf, Option.map_some, D29, bunN, tab, tabC, z1b, z17, z19, z14, z1c, z18, z1a, z11, z2s, z2t, z2l, z2m, z2n, z2o, z2p, z2q, z2r, z2v, z2w, z2x, z2y, z2z, z1m, z1k, z1l, z0j, z37, z34] | refine DR_q _ ?_ | (refine Fk.fk ?_ ?_ <;> intro hg <;> (try simp only [hg]) <;> (try simp only [bunB, z1n, z12, z16, z20, z3q, z1u] at hg) <;> try (exfalso; first | omega | exact Bool.noConfusion hg | exact hg trivial)) | refine And.intro (by omega) ?_ | omega
    · have : wide r = true := by simp only [wide, Bool.and_eq_true, decide_eq_true_eq]; omega
      simp only [spl, this]; try rfl
    all_goals
      have : wide r = false := by simp only [wide, Bool.and_eq_false_iff, decide_eq_false_iff_not]; omega
      simp only [spl, this, hf]; try rfl
theorem zyz (a b : Int) : Spec Tryz.prog 144 [tab, I32 a, I32 b] (.tup [I32 (pr a b).1, Bv (pr a b).2]) := by
  refine z0g (z := false) (ts := [.tmp 6, .tmp 7]) ok1 Tryz.func144 rfl rfl (by decide +kernel) (by simp [Tryz.ntmps144]) rfl ?_
  cases hf : splits.find? (z3q a b) with
  | none =>
    repeat' first | simp (maxSteps := 4000000) (disch := omega) only [bunL, bunD, bun, ↓z04, ↓z00, z02, findLabel, ↓reduceIte, imp, shift, z0b, z0a, unown, names, z06, below, noF, isF, z03, z08, z07, ren, givL, updM, z0c, renO, belowM, seval, -Int.reduceToNat, pM_get, hf, Option.map_none, D29, bunN, tab, tabC, z1b, z17, z19, z14, z1c, z18, z1a, z11, z2s, z2t, z2l, z2m, z2n, z2o, z2p, z2q, z2r, z2v, z2w, z2x, z2y, z2z, z1m, z1k, z1l, z0j, z37, z34] | refine DR_q _ ?_ | (refine Fk.fk ?_ ?_ <;> intro hg <;> (try simp only [hg]) <;> (try simp only [bunB, z1n, z12, z16, z20, z3q, z1u] at hg) <;> try (exfalso; first | omega | exact Bool.noConfusion hg | exact hg trivial)) | refine And.intro (by omega) ?_ | omega
    all_goals (simp only [pr, hf]; try rfl)
  | some x =>
    repeat' first | simp (maxSteps := 4000000) (disch := omega) only [bunL, bunD, bun, ↓z04, ↓z00, z02, findLabel, ↓reduceIte, imp, shift, z0b, z0a, unown, names, z06, below, noF, isF, z03, z08, z07, ren, givL, updM, z0c, renO, belowM, seval, -Int.reduceToNat, pM_get, hf, Option.map_some, D29, bunN, tab, tabC, z1b, z17, z19, z14, z1c, z18, z1a, z11, z2s, z2t, z2l, z2m, z2n, z2o, z2p, z2q, z2r, z2v, z2w, z2x, z2y, z2z, z1m, z1k, z1l, z0j, z37, z34] | refine DR_q _ ?_ | (refine Fk.fk ?_ ?_ <;> intro hg <;> (try simp only [hg]) <;> (try simp only [bunB, z1n, z12, z16, z20, z3q, z1u] at hg) <;> try (exfalso; first | omega | exact Bool.noConfusion hg | exact hg trivial)) | refine And.intro (by omega) ?_ | omega
    all_goals (simp only [pr, hf]; try rfl)
end Go.AE
end
section
namespace Go.AE
open Go.Proofs
set_option maxRecDepth 20000
set_option linter.unusedSimpArgs false
end Go.AE
end
