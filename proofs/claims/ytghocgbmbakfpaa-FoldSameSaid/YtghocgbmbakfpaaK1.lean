/- Contracts of functions that the laws of this seat reach, and plain laws of what they compute. No condition beyond each statement's own. -/
import Derived.Test.YtghocgbmbakfpaaAEBun
import Derived.Test.YtghocgbmbakfpaaProg
import Derived.Test.YtghocgbmbakfpaaU1
set_option linter.unusedVariables false
set_option linter.unusedSimpArgs false
section
/- What is known of the types of this seat's program. -/
namespace Go.AE
open Go.Proofs
set_option maxRecDepth 20000
def T1 : TI := ⟨TypeDesc.func #[] #[] false, 1, 8, Value.nilFunc⟩
def T2 : TI := ⟨TypeDesc.int IntKind.i64, 1, 8, Value.int IntKind.i64 0⟩
def T3 : TI := ⟨TypeDesc.int IntKind.i64, 1, 8, Value.int IntKind.i64 0⟩
def T4 : TI := ⟨TypeDesc.bool, 1, 1, Value.bool false⟩
def T5 : TI := ⟨TypeDesc.int IntKind.u8, 1, 1, Value.int IntKind.u8 0⟩
def T6 : TI := ⟨TypeDesc.int IntKind.u8, 1, 1, Value.int IntKind.u8 0⟩
def T9 : TI := ⟨TypeDesc.string, 1, 16, Value.string { data := #[] }⟩
def T10 : TI := ⟨TypeDesc.string, 1, 16, Value.string { data := #[] }⟩
def T11 : TI := ⟨TypeDesc.string, 1, 16, Value.string { data := #[] }⟩
def T12 : TI := ⟨TypeDesc.int IntKind.u64, 1, 8, Value.int IntKind.u64 0⟩
def T15 : TI := ⟨TypeDesc.pointer 108, 1, 8, Value.pointer none⟩
def T16 : TI := ⟨TypeDesc.pointer 111, 1, 8, Value.pointer none⟩
def T17 : TI := ⟨TypeDesc.pointer 121, 1, 8, Value.pointer none⟩
def T21 : TI := ⟨TypeDesc.int IntKind.i32, 1, 4, Value.int IntKind.i32 0⟩
def T22 : TI := ⟨TypeDesc.slice 21, 1, 24, Value.slice none 0 0⟩
def T23 : TI := ⟨TypeDesc.func #[] #[4] false, 1, 8, Value.nilFunc⟩
def T24 : TI := ⟨TypeDesc.slice 71, 1, 24, Value.slice none 0 0⟩
def T25 : TI := ⟨TypeDesc.slice 74, 1, 24, Value.slice none 0 0⟩
def T26 : TI := ⟨TypeDesc.slice 76, 1, 24, Value.slice none 0 0⟩
def T27 : TI := ⟨TypeDesc.map 21 53, 1, 8, Value.map none⟩
def T28 : TI := ⟨TypeDesc.map 55 21, 1, 8, Value.map none⟩
def T29 : TI := ⟨TypeDesc.struct #[⟨"ranges", 24, 0, false, "", "pillarbox/ucd", 0⟩, ⟨"classes", 25, 1, false, "", "pillarbox/ucd", 24⟩, ⟨"lowers", 26, 2, false, "", "pillarbox/ucd", 48⟩, ⟨"splits", 27, 3, false, "", "pillarbox/ucd", 72⟩, ⟨"pairs", 28, 4, false, "", "pillarbox/ucd", 80⟩], 5, 88, Value.agg #[Value.slice none 0 0, Value.slice none 0 0, Value.slice none 0 0, Value.map none, Value.map none]⟩
def T30 : TI := ⟨TypeDesc.struct #[⟨"ranges", 24, 0, false, "", "pillarbox/ucd", 0⟩, ⟨"classes", 25, 1, false, "", "pillarbox/ucd", 24⟩, ⟨"lowers", 26, 2, false, "", "pillarbox/ucd", 48⟩, ⟨"splits", 27, 3, false, "", "pillarbox/ucd", 72⟩, ⟨"pairs", 28, 4, false, "", "pillarbox/ucd", 80⟩], 5, 88, Value.agg #[Value.slice none 0 0, Value.slice none 0 0, Value.slice none 0 0, Value.map none, Value.map none]⟩
def T31 : TI := ⟨TypeDesc.func #[] #[30] false, 1, 8, Value.nilFunc⟩
def T33 : TI := ⟨TypeDesc.func #[30, 9] #[9, 4] false, 1, 8, Value.nilFunc⟩
def T34 : TI := ⟨TypeDesc.func #[9] #[9, 4] false, 1, 8, Value.nilFunc⟩
def T35 : TI := ⟨TypeDesc.func #[30, 22] #[22] false, 1, 8, Value.nilFunc⟩
def T36 : TI := ⟨TypeDesc.func #[22, 22] #[4] false, 1, 8, Value.nilFunc⟩
def T37 : TI := ⟨TypeDesc.func #[22] #[22] false, 1, 8, Value.nilFunc⟩
def T38 : TI := ⟨TypeDesc.func #[30, 9, 9] #[4] false, 1, 8, Value.nilFunc⟩
def T39 : TI := ⟨TypeDesc.func #[9] #[9] false, 1, 8, Value.nilFunc⟩
def T40 : TI := ⟨TypeDesc.func #[22, 9, 9] #[4] false, 1, 8, Value.nilFunc⟩
def T41 : TI := ⟨TypeDesc.func #[30, 9] #[4] false, 1, 8, Value.nilFunc⟩
def T42 : TI := ⟨TypeDesc.func #[9] #[4] false, 1, 8, Value.nilFunc⟩
def T43 : TI := ⟨TypeDesc.func #[9] #[3] false, 1, 8, Value.nilFunc⟩
def T45 : TI := ⟨TypeDesc.func #[9] #[22, 3] false, 1, 8, Value.nilFunc⟩
def T46 : TI := ⟨TypeDesc.func #[21] #[3] false, 1, 8, Value.nilFunc⟩
def T47 : TI := ⟨TypeDesc.func #[] #[24] false, 1, 8, Value.nilFunc⟩
def T48 : TI := ⟨TypeDesc.func #[] #[25] false, 1, 8, Value.nilFunc⟩
def T49 : TI := ⟨TypeDesc.func #[] #[26] false, 1, 8, Value.nilFunc⟩
def T50 : TI := ⟨TypeDesc.slice 53, 1, 24, Value.slice none 0 0⟩
def T51 : TI := ⟨TypeDesc.func #[] #[50] false, 1, 8, Value.nilFunc⟩
def T52 : TI := ⟨TypeDesc.struct #[⟨"Rune", 21, 0, false, "", "", 0⟩, ⟨"One", 21, 1, false, "", "", 4⟩, ⟨"Two", 21, 2, false, "", "", 8⟩, ⟨"Soft", 4, 3, false, "", "", 12⟩, ⟨"Out", 4, 4, false, "", "", 13⟩], 5, 16, Value.agg #[Value.int IntKind.i32 0, Value.int IntKind.i32 0, Value.int IntKind.i32 0, Value.bool false, Value.bool false]⟩
def T53 : TI := ⟨TypeDesc.struct #[⟨"Rune", 21, 0, false, "", "", 0⟩, ⟨"One", 21, 1, false, "", "", 4⟩, ⟨"Two", 21, 2, false, "", "", 8⟩, ⟨"Soft", 4, 3, false, "", "", 12⟩, ⟨"Out", 4, 4, false, "", "", 13⟩], 5, 16, Value.agg #[Value.int IntKind.i32 0, Value.int IntKind.i32 0, Value.int IntKind.i32 0, Value.bool false, Value.bool false]⟩
def T54 : TI := ⟨TypeDesc.struct #[⟨"one", 21, 0, false, "", "pillarbox/ucd", 0⟩, ⟨"two", 21, 1, false, "", "pillarbox/ucd", 4⟩], 2, 8, Value.agg #[Value.int IntKind.i32 0, Value.int IntKind.i32 0]⟩
def T55 : TI := ⟨TypeDesc.struct #[⟨"one", 21, 0, false, "", "pillarbox/ucd", 0⟩, ⟨"two", 21, 1, false, "", "pillarbox/ucd", 4⟩], 2, 8, Value.agg #[Value.int IntKind.i32 0, Value.int IntKind.i32 0]⟩
def T56 : TI := ⟨TypeDesc.func #[22] #[9, 4] false, 1, 8, Value.nilFunc⟩
def T57 : TI := ⟨TypeDesc.func #[9, 4, 4] #[9, 4] false, 1, 8, Value.nilFunc⟩
def T58 : TI := ⟨TypeDesc.func #[22, 59] #[22] false, 1, 8, Value.nilFunc⟩
def T59 : TI := ⟨TypeDesc.func #[21] #[21] false, 1, 8, Value.nilFunc⟩
def T60 : TI := ⟨TypeDesc.struct #[⟨"Table", 30, 0, true, "", "", 0⟩], 5, 88, Value.agg #[Value.slice none 0 0, Value.slice none 0 0, Value.slice none 0 0, Value.map none, Value.map none]⟩
def T61 : TI := ⟨TypeDesc.struct #[⟨"Table", 30, 0, true, "", "", 0⟩], 5, 88, Value.agg #[Value.slice none 0 0, Value.slice none 0 0, Value.slice none 0 0, Value.map none, Value.map none]⟩
def T62 : TI := ⟨TypeDesc.func #[21] #[4] false, 1, 8, Value.nilFunc⟩
def T63 : TI := ⟨TypeDesc.slice 5, 1, 24, Value.slice none 0 0⟩
def T64 : TI := ⟨TypeDesc.func #[63, 65] #[63] false, 1, 8, Value.nilFunc⟩
def T65 : TI := ⟨TypeDesc.func #[5] #[5] false, 1, 8, Value.nilFunc⟩
def T66 : TI := ⟨TypeDesc.func #[30, 9, 4, 4] #[9, 4] false, 1, 8, Value.nilFunc⟩
def T68 : TI := ⟨TypeDesc.func #[5] #[3, 21] false, 1, 8, Value.nilFunc⟩
def T69 : TI := ⟨TypeDesc.int IntKind.u64, 1, 8, Value.int IntKind.u64 0⟩
def T70 : TI := ⟨TypeDesc.struct #[⟨"Lo", 21, 0, false, "", "", 0⟩, ⟨"Hi", 21, 1, false, "", "", 4⟩, ⟨"Cat", 3, 2, false, "", "", 8⟩, ⟨"Bidi", 3, 3, false, "", "", 16⟩, ⟨"Join", 3, 4, false, "", "", 24⟩, ⟨"Script", 3, 5, false, "", "", 32⟩], 6, 40, Value.agg #[Value.int IntKind.i32 0, Value.int IntKind.i32 0, Value.int IntKind.i64 0, Value.int IntKind.i64 0, Value.int IntKind.i64 0, Value.int IntKind.i64 0]⟩
def T71 : TI := ⟨TypeDesc.struct #[⟨"Lo", 21, 0, false, "", "", 0⟩, ⟨"Hi", 21, 1, false, "", "", 4⟩, ⟨"Cat", 3, 2, false, "", "", 8⟩, ⟨"Bidi", 3, 3, false, "", "", 16⟩, ⟨"Join", 3, 4, false, "", "", 24⟩, ⟨"Script", 3, 5, false, "", "", 32⟩], 6, 40, Value.agg #[Value.int IntKind.i32 0, Value.int IntKind.i32 0, Value.int IntKind.i64 0, Value.int IntKind.i64 0, Value.int IntKind.i64 0, Value.int IntKind.i64 0]⟩
def T72 : TI := ⟨TypeDesc.func #[21] #[71] false, 1, 8, Value.nilFunc⟩
def T73 : TI := ⟨TypeDesc.struct #[⟨"Lo", 21, 0, false, "", "", 0⟩, ⟨"Hi", 21, 1, false, "", "", 4⟩, ⟨"Class", 3, 2, false, "", "", 8⟩, ⟨"Step", 3, 3, false, "", "", 16⟩], 4, 24, Value.agg #[Value.int IntKind.i32 0, Value.int IntKind.i32 0, Value.int IntKind.i64 0, Value.int IntKind.i64 0]⟩
def T74 : TI := ⟨TypeDesc.struct #[⟨"Lo", 21, 0, false, "", "", 0⟩, ⟨"Hi", 21, 1, false, "", "", 4⟩, ⟨"Class", 3, 2, false, "", "", 8⟩, ⟨"Step", 3, 3, false, "", "", 16⟩], 4, 24, Value.agg #[Value.int IntKind.i32 0, Value.int IntKind.i32 0, Value.int IntKind.i64 0, Value.int IntKind.i64 0]⟩
def T75 : TI := ⟨TypeDesc.struct #[⟨"Lo", 21, 0, false, "", "", 0⟩, ⟨"Hi", 21, 1, false, "", "", 4⟩, ⟨"By", 21, 2, false, "", "", 8⟩], 3, 12, Value.agg #[Value.int IntKind.i32 0, Value.int IntKind.i32 0, Value.int IntKind.i32 0]⟩
def T76 : TI := ⟨TypeDesc.struct #[⟨"Lo", 21, 0, false, "", "", 0⟩, ⟨"Hi", 21, 1, false, "", "", 4⟩, ⟨"By", 21, 2, false, "", "", 8⟩], 3, 12, Value.agg #[Value.int IntKind.i32 0, Value.int IntKind.i32 0, Value.int IntKind.i32 0]⟩
def T78 : TI := ⟨TypeDesc.func #[9] #[21, 3] false, 1, 8, Value.nilFunc⟩
def T79 : TI := ⟨TypeDesc.func #[21] #[63] false, 1, 8, Value.nilFunc⟩
def T80 : TI := ⟨TypeDesc.func #[22, 4] #[22] false, 1, 8, Value.nilFunc⟩
def T82 : TI := ⟨TypeDesc.func #[21] #[53, 4] false, 1, 8, Value.nilFunc⟩
def T83 : TI := ⟨TypeDesc.func #[26, 84] #[3] false, 1, 8, Value.nilFunc⟩
def T84 : TI := ⟨TypeDesc.func #[76] #[4] false, 1, 8, Value.nilFunc⟩
def T85 : TI := ⟨TypeDesc.func #[30, 22, 4] #[22] false, 1, 8, Value.nilFunc⟩
def T87 : TI := ⟨TypeDesc.func #[24, 21, 88] #[3, 4] false, 1, 8, Value.nilFunc⟩
def T88 : TI := ⟨TypeDesc.func #[71, 21] #[3] false, 1, 8, Value.nilFunc⟩
def T89 : TI := ⟨TypeDesc.func #[21, 4] #[22] false, 1, 8, Value.nilFunc⟩
def T91 : TI := ⟨TypeDesc.func #[21, 21] #[21, 4] false, 1, 8, Value.nilFunc⟩
def T92 : TI := ⟨TypeDesc.func #[22, 93] #[] false, 1, 8, Value.nilFunc⟩
def T93 : TI := ⟨TypeDesc.func #[21, 21] #[3] false, 1, 8, Value.nilFunc⟩
def T94 : TI := ⟨TypeDesc.func #[30, 21, 4] #[22] false, 1, 8, Value.nilFunc⟩
def T95 : TI := ⟨TypeDesc.func #[30, 21, 21] #[21, 4] false, 1, 8, Value.nilFunc⟩
def T96 : TI := ⟨TypeDesc.func #[25, 97] #[3] false, 1, 8, Value.nilFunc⟩
def T97 : TI := ⟨TypeDesc.func #[74] #[4] false, 1, 8, Value.nilFunc⟩
def T98 : TI := ⟨TypeDesc.func #[22, 3, 93] #[] false, 1, 8, Value.nilFunc⟩
def T99 : TI := ⟨TypeDesc.func #[21, 21, 3] #[4] false, 1, 8, Value.nilFunc⟩
def T100 : TI := ⟨TypeDesc.func #[21] #[22] false, 1, 8, Value.nilFunc⟩
def T101 : TI := ⟨TypeDesc.func #[104] #[22] true, 1, 8, Value.nilFunc⟩
def T102 : TI := ⟨TypeDesc.func #[22, 3, 3, 93] #[] false, 1, 8, Value.nilFunc⟩
def T103 : TI := ⟨TypeDesc.func #[22, 3, 3, 3, 93] #[] false, 1, 8, Value.nilFunc⟩
def T104 : TI := ⟨TypeDesc.slice 22, 1, 24, Value.slice none 0 0⟩
def T105 : TI := ⟨TypeDesc.func #[22, 3] #[22] false, 1, 8, Value.nilFunc⟩
def T106 : TI := ⟨TypeDesc.func #[] #[9] false, 1, 8, Value.nilFunc⟩
def T109 : TI := ⟨TypeDesc.array 0 16, 0, 0, Value.agg #[]⟩
def T112 : TI := ⟨TypeDesc.func #[] #[3] false, 1, 8, Value.nilFunc⟩
def T113 : TI := ⟨TypeDesc.int IntKind.u32, 1, 4, Value.int IntKind.u32 0⟩
def T114 : TI := ⟨TypeDesc.int IntKind.u8, 1, 1, Value.int IntKind.u8 0⟩
def T115 : TI := ⟨TypeDesc.int IntKind.u8, 1, 1, Value.int IntKind.u8 0⟩
def T116 : TI := ⟨TypeDesc.func #[122, 122] #[4] false, 1, 8, Value.nilFunc⟩
def T117 : TI := ⟨TypeDesc.pointer 5, 1, 8, Value.pointer none⟩
def T118 : TI := ⟨TypeDesc.int IntKind.i32, 1, 4, Value.int IntKind.i32 0⟩
def T119 : TI := ⟨TypeDesc.int IntKind.i32, 1, 4, Value.int IntKind.i32 0⟩
def T120 : TI := ⟨TypeDesc.struct #[⟨"Size_", 12, 0, false, "", "", 0⟩, ⟨"PtrBytes", 12, 1, false, "", "", 8⟩, ⟨"Hash", 113, 2, false, "", "", 16⟩, ⟨"TFlag", 114, 3, false, "", "", 20⟩, ⟨"Align_", 5, 4, false, "", "", 21⟩, ⟨"FieldAlign_", 5, 5, false, "", "", 22⟩, ⟨"Kind_", 115, 6, false, "", "", 23⟩, ⟨"Equal", 116, 7, false, "", "", 24⟩, ⟨"GCData", 117, 8, false, "", "", 32⟩, ⟨"Str", 118, 9, false, "", "", 40⟩, ⟨"PtrToThis", 119, 10, false, "", "", 44⟩], 11, 48, Value.agg #[Value.int IntKind.u64 0, Value.int IntKind.u64 0, Value.int IntKind.u32 0, Value.int IntKind.u8 0, Value.int IntKind.u8 0, Value.int IntKind.u8 0, Value.int IntKind.u8 0, Value.nilFunc, Value.pointer none, Value.int IntKind.i32 0, Value.int IntKind.i32 0]⟩
def T121 : TI := ⟨TypeDesc.struct #[⟨"Size_", 12, 0, false, "", "", 0⟩, ⟨"PtrBytes", 12, 1, false, "", "", 8⟩, ⟨"Hash", 113, 2, false, "", "", 16⟩, ⟨"TFlag", 114, 3, false, "", "", 20⟩, ⟨"Align_", 5, 4, false, "", "", 21⟩, ⟨"FieldAlign_", 5, 5, false, "", "", 22⟩, ⟨"Kind_", 115, 6, false, "", "", 23⟩, ⟨"Equal", 116, 7, false, "", "", 24⟩, ⟨"GCData", 117, 8, false, "", "", 32⟩, ⟨"Str", 118, 9, false, "", "", 40⟩, ⟨"PtrToThis", 119, 10, false, "", "", 44⟩], 11, 48, Value.agg #[Value.int IntKind.u64 0, Value.int IntKind.u64 0, Value.int IntKind.u32 0, Value.int IntKind.u8 0, Value.int IntKind.u8 0, Value.int IntKind.u8 0, Value.int IntKind.u8 0, Value.nilFunc, Value.pointer none, Value.int IntKind.i32 0, Value.int IntKind.i32 0]⟩
def C1 : Ctx := { flat := [53, 55, 71, 74, 76], ty := [(1, T1),
  (2, T2),
  (3, T3),
  (4, T4),
  (5, T5),
  (6, T6),
  (9, T9),
  (10, T10),
  (11, T11),
  (12, T12),
  (15, T15),
  (16, T16),
  (17, T17),
  (21, T21),
  (22, T22),
  (23, T23),
  (24, T24),
  (25, T25),
  (26, T26),
  (27, T27),
  (28, T28),
  (29, T29),
  (30, T30),
  (31, T31),
  (33, T33),
  (34, T34),
  (35, T35),
  (36, T36),
  (37, T37),
  (38, T38),
  (39, T39),
  (40, T40),
  (41, T41),
  (42, T42),
  (43, T43),
  (45, T45),
  (46, T46),
  (47, T47),
  (48, T48),
  (49, T49),
  (50, T50),
  (51, T51),
  (52, T52),
  (53, T53),
  (54, T54),
  (55, T55),
  (56, T56),
  (57, T57),
  (58, T58),
  (59, T59),
  (60, T60),
  (61, T61),
  (62, T62),
  (63, T63),
  (64, T64),
  (65, T65),
  (66, T66),
  (68, T68),
  (69, T69),
  (70, T70),
  (71, T71),
  (72, T72),
  (73, T73),
  (74, T74),
  (75, T75),
  (76, T76),
  (78, T78),
  (79, T79),
  (80, T80),
  (82, T82),
  (83, T83),
  (84, T84),
  (85, T85),
  (87, T87),
  (88, T88),
  (89, T89),
  (91, T91),
  (92, T92),
  (93, T93),
  (94, T94),
  (95, T95),
  (96, T96),
  (97, T97),
  (98, T98),
  (99, T99),
  (100, T100),
  (101, T101),
  (102, T102),
  (103, T103),
  (104, T104),
  (105, T105),
  (106, T106),
  (109, T109),
  (112, T112),
  (113, T113),
  (114, T114),
  (115, T115),
  (116, T116),
  (117, T117),
  (118, T118),
  (119, T119),
  (120, T120),
  (121, T121)] }
def Good (t : Nat) (i : TI) : Prop := Try.prog.underlying t = some i.d ∧ ∃ j, Try.prog.info? t = some j ∧ j.size = i.size ∧ j.bytes = i.bytes ∧ j.zero = some i.zero ∧ i.zero.cells.size = i.size
theorem ty1 (t : Nat) (d : TypeDesc) (sz b : Nat) (z : Value) (h0 : z.cells.size = sz) (h1 : Try.prog.underlying t = some d) (h2 : (Try.prog.info? t).map (fun j => (j.size, j.bytes, j.zero)) = some (sz, b, some z)) : Good t ⟨d, sz, b, z⟩ := by
  refine ⟨h1, ?_⟩
  cases e : Try.prog.info? t with
  | none => rw [e] at h2; simp at h2
  | some j => rw [e] at h2; simp at h2; exact ⟨j, rfl, h2.1, h2.2.1, h2.2.2, h0⟩
theorem findTy_mem : ∀ (l : List (Nat × TI)) (t : Nat) (i : TI), findTy l t = some i → (t, i) ∈ l
  | [], t, i, h => by simp [findTy] at h
  | (k, x) :: l, t, i, h => by
    simp only [findTy] at h
    split at h
    · rename_i e; subst e; simp at h; subst h; exact List.mem_cons_self ..
    · exact List.mem_cons_of_mem _ (findTy_mem l t i h)
theorem good1 : Good 1 T1 := ty1 _ _ _ _ _ rfl (by kernel_rfl) (by kernel_rfl)
theorem good2 : Good 2 T2 := ty1 _ _ _ _ _ rfl (by kernel_rfl) (by kernel_rfl)
theorem good3 : Good 3 T3 := ty1 _ _ _ _ _ rfl (by kernel_rfl) (by kernel_rfl)
theorem good4 : Good 4 T4 := ty1 _ _ _ _ _ rfl (by kernel_rfl) (by kernel_rfl)
theorem good5 : Good 5 T5 := ty1 _ _ _ _ _ rfl (by kernel_rfl) (by kernel_rfl)
theorem good6 : Good 6 T6 := ty1 _ _ _ _ _ rfl (by kernel_rfl) (by kernel_rfl)
theorem good9 : Good 9 T9 := ty1 _ _ _ _ _ rfl (by kernel_rfl) (by kernel_rfl)
theorem good10 : Good 10 T10 := ty1 _ _ _ _ _ rfl (by kernel_rfl) (by kernel_rfl)
theorem good11 : Good 11 T11 := ty1 _ _ _ _ _ rfl (by kernel_rfl) (by kernel_rfl)
theorem good12 : Good 12 T12 := ty1 _ _ _ _ _ rfl (by kernel_rfl) (by kernel_rfl)
theorem good15 : Good 15 T15 := ty1 _ _ _ _ _ rfl (by kernel_rfl) (by kernel_rfl)
theorem good16 : Good 16 T16 := ty1 _ _ _ _ _ rfl (by kernel_rfl) (by kernel_rfl)
theorem good17 : Good 17 T17 := ty1 _ _ _ _ _ rfl (by kernel_rfl) (by kernel_rfl)
theorem good21 : Good 21 T21 := ty1 _ _ _ _ _ rfl (by kernel_rfl) (by kernel_rfl)
theorem good22 : Good 22 T22 := ty1 _ _ _ _ _ rfl (by kernel_rfl) (by kernel_rfl)
theorem good23 : Good 23 T23 := ty1 _ _ _ _ _ rfl (by kernel_rfl) (by kernel_rfl)
theorem good24 : Good 24 T24 := ty1 _ _ _ _ _ rfl (by kernel_rfl) (by kernel_rfl)
theorem good25 : Good 25 T25 := ty1 _ _ _ _ _ rfl (by kernel_rfl) (by kernel_rfl)
theorem good26 : Good 26 T26 := ty1 _ _ _ _ _ rfl (by kernel_rfl) (by kernel_rfl)
theorem good27 : Good 27 T27 := ty1 _ _ _ _ _ rfl (by kernel_rfl) (by kernel_rfl)
theorem good28 : Good 28 T28 := ty1 _ _ _ _ _ rfl (by kernel_rfl) (by kernel_rfl)
theorem good29 : Good 29 T29 := ty1 _ _ _ _ _ rfl (by kernel_rfl) (by kernel_rfl)
theorem good30 : Good 30 T30 := ty1 _ _ _ _ _ rfl (by kernel_rfl) (by kernel_rfl)
theorem good31 : Good 31 T31 := ty1 _ _ _ _ _ rfl (by kernel_rfl) (by kernel_rfl)
theorem good33 : Good 33 T33 := ty1 _ _ _ _ _ rfl (by kernel_rfl) (by kernel_rfl)
theorem good34 : Good 34 T34 := ty1 _ _ _ _ _ rfl (by kernel_rfl) (by kernel_rfl)
theorem good35 : Good 35 T35 := ty1 _ _ _ _ _ rfl (by kernel_rfl) (by kernel_rfl)
theorem good36 : Good 36 T36 := ty1 _ _ _ _ _ rfl (by kernel_rfl) (by kernel_rfl)
theorem good37 : Good 37 T37 := ty1 _ _ _ _ _ rfl (by kernel_rfl) (by kernel_rfl)
theorem good38 : Good 38 T38 := ty1 _ _ _ _ _ rfl (by kernel_rfl) (by kernel_rfl)
theorem good39 : Good 39 T39 := ty1 _ _ _ _ _ rfl (by kernel_rfl) (by kernel_rfl)
theorem good40 : Good 40 T40 := ty1 _ _ _ _ _ rfl (by kernel_rfl) (by kernel_rfl)
theorem good41 : Good 41 T41 := ty1 _ _ _ _ _ rfl (by kernel_rfl) (by kernel_rfl)
theorem good42 : Good 42 T42 := ty1 _ _ _ _ _ rfl (by kernel_rfl) (by kernel_rfl)
theorem good43 : Good 43 T43 := ty1 _ _ _ _ _ rfl (by kernel_rfl) (by kernel_rfl)
theorem good45 : Good 45 T45 := ty1 _ _ _ _ _ rfl (by kernel_rfl) (by kernel_rfl)
theorem good46 : Good 46 T46 := ty1 _ _ _ _ _ rfl (by kernel_rfl) (by kernel_rfl)
theorem good47 : Good 47 T47 := ty1 _ _ _ _ _ rfl (by kernel_rfl) (by kernel_rfl)
theorem good48 : Good 48 T48 := ty1 _ _ _ _ _ rfl (by kernel_rfl) (by kernel_rfl)
theorem good49 : Good 49 T49 := ty1 _ _ _ _ _ rfl (by kernel_rfl) (by kernel_rfl)
theorem good50 : Good 50 T50 := ty1 _ _ _ _ _ rfl (by kernel_rfl) (by kernel_rfl)
theorem good51 : Good 51 T51 := ty1 _ _ _ _ _ rfl (by kernel_rfl) (by kernel_rfl)
theorem good52 : Good 52 T52 := ty1 _ _ _ _ _ rfl (by kernel_rfl) (by kernel_rfl)
theorem good53 : Good 53 T53 := ty1 _ _ _ _ _ rfl (by kernel_rfl) (by kernel_rfl)
theorem good54 : Good 54 T54 := ty1 _ _ _ _ _ rfl (by kernel_rfl) (by kernel_rfl)
theorem good55 : Good 55 T55 := ty1 _ _ _ _ _ rfl (by kernel_rfl) (by kernel_rfl)
theorem good56 : Good 56 T56 := ty1 _ _ _ _ _ rfl (by kernel_rfl) (by kernel_rfl)
theorem good57 : Good 57 T57 := ty1 _ _ _ _ _ rfl (by kernel_rfl) (by kernel_rfl)
theorem good58 : Good 58 T58 := ty1 _ _ _ _ _ rfl (by kernel_rfl) (by kernel_rfl)
theorem good59 : Good 59 T59 := ty1 _ _ _ _ _ rfl (by kernel_rfl) (by kernel_rfl)
theorem good60 : Good 60 T60 := ty1 _ _ _ _ _ rfl (by kernel_rfl) (by kernel_rfl)
theorem good61 : Good 61 T61 := ty1 _ _ _ _ _ rfl (by kernel_rfl) (by kernel_rfl)
theorem good62 : Good 62 T62 := ty1 _ _ _ _ _ rfl (by kernel_rfl) (by kernel_rfl)
theorem good63 : Good 63 T63 := ty1 _ _ _ _ _ rfl (by kernel_rfl) (by kernel_rfl)
theorem good64 : Good 64 T64 := ty1 _ _ _ _ _ rfl (by kernel_rfl) (by kernel_rfl)
theorem good65 : Good 65 T65 := ty1 _ _ _ _ _ rfl (by kernel_rfl) (by kernel_rfl)
theorem good66 : Good 66 T66 := ty1 _ _ _ _ _ rfl (by kernel_rfl) (by kernel_rfl)
theorem good68 : Good 68 T68 := ty1 _ _ _ _ _ rfl (by kernel_rfl) (by kernel_rfl)
theorem good69 : Good 69 T69 := ty1 _ _ _ _ _ rfl (by kernel_rfl) (by kernel_rfl)
theorem good70 : Good 70 T70 := ty1 _ _ _ _ _ rfl (by kernel_rfl) (by kernel_rfl)
theorem good71 : Good 71 T71 := ty1 _ _ _ _ _ rfl (by kernel_rfl) (by kernel_rfl)
theorem good72 : Good 72 T72 := ty1 _ _ _ _ _ rfl (by kernel_rfl) (by kernel_rfl)
theorem good73 : Good 73 T73 := ty1 _ _ _ _ _ rfl (by kernel_rfl) (by kernel_rfl)
theorem good74 : Good 74 T74 := ty1 _ _ _ _ _ rfl (by kernel_rfl) (by kernel_rfl)
theorem good75 : Good 75 T75 := ty1 _ _ _ _ _ rfl (by kernel_rfl) (by kernel_rfl)
theorem good76 : Good 76 T76 := ty1 _ _ _ _ _ rfl (by kernel_rfl) (by kernel_rfl)
theorem good78 : Good 78 T78 := ty1 _ _ _ _ _ rfl (by kernel_rfl) (by kernel_rfl)
theorem good79 : Good 79 T79 := ty1 _ _ _ _ _ rfl (by kernel_rfl) (by kernel_rfl)
theorem good80 : Good 80 T80 := ty1 _ _ _ _ _ rfl (by kernel_rfl) (by kernel_rfl)
theorem good82 : Good 82 T82 := ty1 _ _ _ _ _ rfl (by kernel_rfl) (by kernel_rfl)
theorem good83 : Good 83 T83 := ty1 _ _ _ _ _ rfl (by kernel_rfl) (by kernel_rfl)
theorem good84 : Good 84 T84 := ty1 _ _ _ _ _ rfl (by kernel_rfl) (by kernel_rfl)
theorem good85 : Good 85 T85 := ty1 _ _ _ _ _ rfl (by kernel_rfl) (by kernel_rfl)
theorem good87 : Good 87 T87 := ty1 _ _ _ _ _ rfl (by kernel_rfl) (by kernel_rfl)
theorem good88 : Good 88 T88 := ty1 _ _ _ _ _ rfl (by kernel_rfl) (by kernel_rfl)
theorem good89 : Good 89 T89 := ty1 _ _ _ _ _ rfl (by kernel_rfl) (by kernel_rfl)
theorem good91 : Good 91 T91 := ty1 _ _ _ _ _ rfl (by kernel_rfl) (by kernel_rfl)
theorem good92 : Good 92 T92 := ty1 _ _ _ _ _ rfl (by kernel_rfl) (by kernel_rfl)
theorem good93 : Good 93 T93 := ty1 _ _ _ _ _ rfl (by kernel_rfl) (by kernel_rfl)
theorem good94 : Good 94 T94 := ty1 _ _ _ _ _ rfl (by kernel_rfl) (by kernel_rfl)
theorem good95 : Good 95 T95 := ty1 _ _ _ _ _ rfl (by kernel_rfl) (by kernel_rfl)
theorem good96 : Good 96 T96 := ty1 _ _ _ _ _ rfl (by kernel_rfl) (by kernel_rfl)
theorem good97 : Good 97 T97 := ty1 _ _ _ _ _ rfl (by kernel_rfl) (by kernel_rfl)
theorem good98 : Good 98 T98 := ty1 _ _ _ _ _ rfl (by kernel_rfl) (by kernel_rfl)
theorem good99 : Good 99 T99 := ty1 _ _ _ _ _ rfl (by kernel_rfl) (by kernel_rfl)
theorem good100 : Good 100 T100 := ty1 _ _ _ _ _ rfl (by kernel_rfl) (by kernel_rfl)
theorem good101 : Good 101 T101 := ty1 _ _ _ _ _ rfl (by kernel_rfl) (by kernel_rfl)
theorem good102 : Good 102 T102 := ty1 _ _ _ _ _ rfl (by kernel_rfl) (by kernel_rfl)
theorem good103 : Good 103 T103 := ty1 _ _ _ _ _ rfl (by kernel_rfl) (by kernel_rfl)
theorem good104 : Good 104 T104 := ty1 _ _ _ _ _ rfl (by kernel_rfl) (by kernel_rfl)
theorem good105 : Good 105 T105 := ty1 _ _ _ _ _ rfl (by kernel_rfl) (by kernel_rfl)
theorem good106 : Good 106 T106 := ty1 _ _ _ _ _ rfl (by kernel_rfl) (by kernel_rfl)
theorem good109 : Good 109 T109 := ty1 _ _ _ _ _ rfl (by kernel_rfl) (by kernel_rfl)
theorem good112 : Good 112 T112 := ty1 _ _ _ _ _ rfl (by kernel_rfl) (by kernel_rfl)
theorem good113 : Good 113 T113 := ty1 _ _ _ _ _ rfl (by kernel_rfl) (by kernel_rfl)
theorem good114 : Good 114 T114 := ty1 _ _ _ _ _ rfl (by kernel_rfl) (by kernel_rfl)
theorem good115 : Good 115 T115 := ty1 _ _ _ _ _ rfl (by kernel_rfl) (by kernel_rfl)
theorem good116 : Good 116 T116 := ty1 _ _ _ _ _ rfl (by kernel_rfl) (by kernel_rfl)
theorem good117 : Good 117 T117 := ty1 _ _ _ _ _ rfl (by kernel_rfl) (by kernel_rfl)
theorem good118 : Good 118 T118 := ty1 _ _ _ _ _ rfl (by kernel_rfl) (by kernel_rfl)
theorem good119 : Good 119 T119 := ty1 _ _ _ _ _ rfl (by kernel_rfl) (by kernel_rfl)
theorem good120 : Good 120 T120 := ty1 _ _ _ _ _ rfl (by kernel_rfl) (by kernel_rfl)
theorem good121 : Good 121 T121 := ty1 _ _ _ _ _ rfl (by kernel_rfl) (by kernel_rfl)
theorem goods : ∀ p ∈ C1.ty, Good p.1 p.2 := (List.forall_mem_cons.2 ⟨good1, (List.forall_mem_cons.2 ⟨good2, (List.forall_mem_cons.2 ⟨good3, (List.forall_mem_cons.2 ⟨good4, (List.forall_mem_cons.2 ⟨good5, (List.forall_mem_cons.2 ⟨good6, (List.forall_mem_cons.2 ⟨good9, (List.forall_mem_cons.2 ⟨good10, (List.forall_mem_cons.2 ⟨good11, (List.forall_mem_cons.2 ⟨good12, (List.forall_mem_cons.2 ⟨good15, (List.forall_mem_cons.2 ⟨good16, (List.forall_mem_cons.2 ⟨good17, (List.forall_mem_cons.2 ⟨good21, (List.forall_mem_cons.2 ⟨good22, (List.forall_mem_cons.2 ⟨good23, (List.forall_mem_cons.2 ⟨good24, (List.forall_mem_cons.2 ⟨good25, (List.forall_mem_cons.2 ⟨good26, (List.forall_mem_cons.2 ⟨good27, (List.forall_mem_cons.2 ⟨good28, (List.forall_mem_cons.2 ⟨good29, (List.forall_mem_cons.2 ⟨good30, (List.forall_mem_cons.2 ⟨good31, (List.forall_mem_cons.2 ⟨good33, (List.forall_mem_cons.2 ⟨good34, (List.forall_mem_cons.2 ⟨good35, (List.forall_mem_cons.2 ⟨good36, (List.forall_mem_cons.2 ⟨good37, (List.forall_mem_cons.2 ⟨good38, (List.forall_mem_cons.2 ⟨good39, (List.forall_mem_cons.2 ⟨good40, (List.forall_mem_cons.2 ⟨good41, (List.forall_mem_cons.2 ⟨good42, (List.forall_mem_cons.2 ⟨good43, (List.forall_mem_cons.2 ⟨good45, (List.forall_mem_cons.2 ⟨good46, (List.forall_mem_cons.2 ⟨good47, (List.forall_mem_cons.2 ⟨good48, (List.forall_mem_cons.2 ⟨good49, (List.forall_mem_cons.2 ⟨good50, (List.forall_mem_cons.2 ⟨good51, (List.forall_mem_cons.2 ⟨good52, (List.forall_mem_cons.2 ⟨good53, (List.forall_mem_cons.2 ⟨good54, (List.forall_mem_cons.2 ⟨good55, (List.forall_mem_cons.2 ⟨good56, (List.forall_mem_cons.2 ⟨good57, (List.forall_mem_cons.2 ⟨good58, (List.forall_mem_cons.2 ⟨good59, (List.forall_mem_cons.2 ⟨good60, (List.forall_mem_cons.2 ⟨good61, (List.forall_mem_cons.2 ⟨good62, (List.forall_mem_cons.2 ⟨good63, (List.forall_mem_cons.2 ⟨good64, (List.forall_mem_cons.2 ⟨good65, (List.forall_mem_cons.2 ⟨good66, (List.forall_mem_cons.2 ⟨good68, (List.forall_mem_cons.2 ⟨good69, (List.forall_mem_cons.2 ⟨good70, (List.forall_mem_cons.2 ⟨good71, (List.forall_mem_cons.2 ⟨good72, (List.forall_mem_cons.2 ⟨good73, (List.forall_mem_cons.2 ⟨good74, (List.forall_mem_cons.2 ⟨good75, (List.forall_mem_cons.2 ⟨good76, (List.forall_mem_cons.2 ⟨good78, (List.forall_mem_cons.2 ⟨good79, (List.forall_mem_cons.2 ⟨good80, (List.forall_mem_cons.2 ⟨good82, (List.forall_mem_cons.2 ⟨good83, (List.forall_mem_cons.2 ⟨good84, (List.forall_mem_cons.2 ⟨good85, (List.forall_mem_cons.2 ⟨good87, (List.forall_mem_cons.2 ⟨good88, (List.forall_mem_cons.2 ⟨good89, (List.forall_mem_cons.2 ⟨good91, (List.forall_mem_cons.2 ⟨good92, (List.forall_mem_cons.2 ⟨good93, (List.forall_mem_cons.2 ⟨good94, (List.forall_mem_cons.2 ⟨good95, (List.forall_mem_cons.2 ⟨good96, (List.forall_mem_cons.2 ⟨good97, (List.forall_mem_cons.2 ⟨good98, (List.forall_mem_cons.2 ⟨good99, (List.forall_mem_cons.2 ⟨good100, (List.forall_mem_cons.2 ⟨good101, (List.forall_mem_cons.2 ⟨good102, (List.forall_mem_cons.2 ⟨good103, (List.forall_mem_cons.2 ⟨good104, (List.forall_mem_cons.2 ⟨good105, (List.forall_mem_cons.2 ⟨good106, (List.forall_mem_cons.2 ⟨good109, (List.forall_mem_cons.2 ⟨good112, (List.forall_mem_cons.2 ⟨good113, (List.forall_mem_cons.2 ⟨good114, (List.forall_mem_cons.2 ⟨good115, (List.forall_mem_cons.2 ⟨good116, (List.forall_mem_cons.2 ⟨good117, (List.forall_mem_cons.2 ⟨good118, (List.forall_mem_cons.2 ⟨good119, (List.forall_mem_cons.2 ⟨good120, (List.forall_mem_cons.2 ⟨good121, (List.forall_mem_nil _)⟩)⟩)⟩)⟩)⟩)⟩)⟩)⟩)⟩)⟩)⟩)⟩)⟩)⟩)⟩)⟩)⟩)⟩)⟩)⟩)⟩)⟩)⟩)⟩)⟩)⟩)⟩)⟩)⟩)⟩)⟩)⟩)⟩)⟩)⟩)⟩)⟩)⟩)⟩)⟩)⟩)⟩)⟩)⟩)⟩)⟩)⟩)⟩)⟩)⟩)⟩)⟩)⟩)⟩)⟩)⟩)⟩)⟩)⟩)⟩)⟩)⟩)⟩)⟩)⟩)⟩)⟩)⟩)⟩)⟩)⟩)⟩)⟩)⟩)⟩)⟩)⟩)⟩)⟩)⟩)⟩)⟩)⟩)⟩)⟩)⟩)⟩)⟩)⟩)⟩)⟩)⟩)⟩)⟩)⟩)⟩)⟩)⟩)⟩)⟩)⟩)⟩)⟩)
theorem flats : ∀ t ∈ C1.flat, Try.prog.stoodInHeld t = false ∧ Try.prog.eqGuardType Try.prog.depth t = false := (List.forall_mem_cons.2 ⟨⟨by decide +kernel, by decide +kernel⟩, (List.forall_mem_cons.2 ⟨⟨by decide +kernel, by decide +kernel⟩, (List.forall_mem_cons.2 ⟨⟨by decide +kernel, by decide +kernel⟩, (List.forall_mem_cons.2 ⟨⟨by decide +kernel, by decide +kernel⟩, (List.forall_mem_cons.2 ⟨⟨by decide +kernel, by decide +kernel⟩, (List.forall_mem_nil _)⟩)⟩)⟩)⟩)⟩)
theorem ok1 : C1.Ok Try.prog where
  mixed := by decide +kernel
  flat := flats
  ty := fun t i h => goods (t, i) (findTy_mem _ _ _ h)
theorem C1_ti1 : C1.ti 1 = some ⟨TypeDesc.func #[] #[] false, 1, 8, Value.nilFunc⟩ := rfl
theorem C1_td1 : C1.td 1 = some (TypeDesc.func #[] #[] false) := rfl
theorem C1_ti2 : C1.ti 2 = some ⟨TypeDesc.int IntKind.i64, 1, 8, Value.int IntKind.i64 0⟩ := rfl
theorem C1_td2 : C1.td 2 = some (TypeDesc.int IntKind.i64) := rfl
theorem C1_ti3 : C1.ti 3 = some ⟨TypeDesc.int IntKind.i64, 1, 8, Value.int IntKind.i64 0⟩ := rfl
theorem C1_td3 : C1.td 3 = some (TypeDesc.int IntKind.i64) := rfl
theorem C1_ti4 : C1.ti 4 = some ⟨TypeDesc.bool, 1, 1, Value.bool false⟩ := rfl
theorem C1_td4 : C1.td 4 = some (TypeDesc.bool) := rfl
theorem C1_ti5 : C1.ti 5 = some ⟨TypeDesc.int IntKind.u8, 1, 1, Value.int IntKind.u8 0⟩ := rfl
theorem C1_td5 : C1.td 5 = some (TypeDesc.int IntKind.u8) := rfl
theorem C1_ti6 : C1.ti 6 = some ⟨TypeDesc.int IntKind.u8, 1, 1, Value.int IntKind.u8 0⟩ := rfl
theorem C1_td6 : C1.td 6 = some (TypeDesc.int IntKind.u8) := rfl
theorem C1_ti9 : C1.ti 9 = some ⟨TypeDesc.string, 1, 16, Value.string { data := #[] }⟩ := rfl
theorem C1_td9 : C1.td 9 = some (TypeDesc.string) := rfl
theorem C1_ti10 : C1.ti 10 = some ⟨TypeDesc.string, 1, 16, Value.string { data := #[] }⟩ := rfl
theorem C1_td10 : C1.td 10 = some (TypeDesc.string) := rfl
theorem C1_ti11 : C1.ti 11 = some ⟨TypeDesc.string, 1, 16, Value.string { data := #[] }⟩ := rfl
theorem C1_td11 : C1.td 11 = some (TypeDesc.string) := rfl
theorem C1_ti12 : C1.ti 12 = some ⟨TypeDesc.int IntKind.u64, 1, 8, Value.int IntKind.u64 0⟩ := rfl
theorem C1_td12 : C1.td 12 = some (TypeDesc.int IntKind.u64) := rfl
theorem C1_ti15 : C1.ti 15 = some ⟨TypeDesc.pointer 108, 1, 8, Value.pointer none⟩ := rfl
theorem C1_td15 : C1.td 15 = some (TypeDesc.pointer 108) := rfl
theorem C1_ti16 : C1.ti 16 = some ⟨TypeDesc.pointer 111, 1, 8, Value.pointer none⟩ := rfl
theorem C1_td16 : C1.td 16 = some (TypeDesc.pointer 111) := rfl
theorem C1_ti17 : C1.ti 17 = some ⟨TypeDesc.pointer 121, 1, 8, Value.pointer none⟩ := rfl
theorem C1_td17 : C1.td 17 = some (TypeDesc.pointer 121) := rfl
theorem C1_ti21 : C1.ti 21 = some ⟨TypeDesc.int IntKind.i32, 1, 4, Value.int IntKind.i32 0⟩ := rfl
theorem C1_td21 : C1.td 21 = some (TypeDesc.int IntKind.i32) := rfl
theorem C1_ti22 : C1.ti 22 = some ⟨TypeDesc.slice 21, 1, 24, Value.slice none 0 0⟩ := rfl
theorem C1_td22 : C1.td 22 = some (TypeDesc.slice 21) := rfl
theorem C1_ti23 : C1.ti 23 = some ⟨TypeDesc.func #[] #[4] false, 1, 8, Value.nilFunc⟩ := rfl
theorem C1_td23 : C1.td 23 = some (TypeDesc.func #[] #[4] false) := rfl
theorem C1_ti24 : C1.ti 24 = some ⟨TypeDesc.slice 71, 1, 24, Value.slice none 0 0⟩ := rfl
theorem C1_td24 : C1.td 24 = some (TypeDesc.slice 71) := rfl
theorem C1_ti25 : C1.ti 25 = some ⟨TypeDesc.slice 74, 1, 24, Value.slice none 0 0⟩ := rfl
theorem C1_td25 : C1.td 25 = some (TypeDesc.slice 74) := rfl
theorem C1_ti26 : C1.ti 26 = some ⟨TypeDesc.slice 76, 1, 24, Value.slice none 0 0⟩ := rfl
theorem C1_td26 : C1.td 26 = some (TypeDesc.slice 76) := rfl
theorem C1_ti27 : C1.ti 27 = some ⟨TypeDesc.map 21 53, 1, 8, Value.map none⟩ := rfl
theorem C1_td27 : C1.td 27 = some (TypeDesc.map 21 53) := rfl
theorem C1_ti28 : C1.ti 28 = some ⟨TypeDesc.map 55 21, 1, 8, Value.map none⟩ := rfl
theorem C1_td28 : C1.td 28 = some (TypeDesc.map 55 21) := rfl
theorem C1_ti29 : C1.ti 29 = some ⟨TypeDesc.struct #[⟨"ranges", 24, 0, false, "", "pillarbox/ucd", 0⟩, ⟨"classes", 25, 1, false, "", "pillarbox/ucd", 24⟩, ⟨"lowers", 26, 2, false, "", "pillarbox/ucd", 48⟩, ⟨"splits", 27, 3, false, "", "pillarbox/ucd", 72⟩, ⟨"pairs", 28, 4, false, "", "pillarbox/ucd", 80⟩], 5, 88, Value.agg #[Value.slice none 0 0, Value.slice none 0 0, Value.slice none 0 0, Value.map none, Value.map none]⟩ := rfl
theorem C1_td29 : C1.td 29 = some (TypeDesc.struct #[⟨"ranges", 24, 0, false, "", "pillarbox/ucd", 0⟩, ⟨"classes", 25, 1, false, "", "pillarbox/ucd", 24⟩, ⟨"lowers", 26, 2, false, "", "pillarbox/ucd", 48⟩, ⟨"splits", 27, 3, false, "", "pillarbox/ucd", 72⟩, ⟨"pairs", 28, 4, false, "", "pillarbox/ucd", 80⟩]) := rfl
theorem C1_fld29_0 : C1.fld 29 0 = some (0, ⟨TypeDesc.slice 71, 1, 24, Value.slice none 0 0⟩) := rfl
theorem C1_fld29_1 : C1.fld 29 1 = some (1, ⟨TypeDesc.slice 74, 1, 24, Value.slice none 0 0⟩) := rfl
theorem C1_fld29_2 : C1.fld 29 2 = some (2, ⟨TypeDesc.slice 76, 1, 24, Value.slice none 0 0⟩) := rfl
theorem C1_fld29_3 : C1.fld 29 3 = some (3, ⟨TypeDesc.map 21 53, 1, 8, Value.map none⟩) := rfl
theorem C1_fld29_4 : C1.fld 29 4 = some (4, ⟨TypeDesc.map 55 21, 1, 8, Value.map none⟩) := rfl
theorem C1_ti30 : C1.ti 30 = some ⟨TypeDesc.struct #[⟨"ranges", 24, 0, false, "", "pillarbox/ucd", 0⟩, ⟨"classes", 25, 1, false, "", "pillarbox/ucd", 24⟩, ⟨"lowers", 26, 2, false, "", "pillarbox/ucd", 48⟩, ⟨"splits", 27, 3, false, "", "pillarbox/ucd", 72⟩, ⟨"pairs", 28, 4, false, "", "pillarbox/ucd", 80⟩], 5, 88, Value.agg #[Value.slice none 0 0, Value.slice none 0 0, Value.slice none 0 0, Value.map none, Value.map none]⟩ := rfl
theorem C1_td30 : C1.td 30 = some (TypeDesc.struct #[⟨"ranges", 24, 0, false, "", "pillarbox/ucd", 0⟩, ⟨"classes", 25, 1, false, "", "pillarbox/ucd", 24⟩, ⟨"lowers", 26, 2, false, "", "pillarbox/ucd", 48⟩, ⟨"splits", 27, 3, false, "", "pillarbox/ucd", 72⟩, ⟨"pairs", 28, 4, false, "", "pillarbox/ucd", 80⟩]) := rfl
theorem C1_fld30_0 : C1.fld 30 0 = some (0, ⟨TypeDesc.slice 71, 1, 24, Value.slice none 0 0⟩) := rfl
theorem C1_fld30_1 : C1.fld 30 1 = some (1, ⟨TypeDesc.slice 74, 1, 24, Value.slice none 0 0⟩) := rfl
theorem C1_fld30_2 : C1.fld 30 2 = some (2, ⟨TypeDesc.slice 76, 1, 24, Value.slice none 0 0⟩) := rfl
theorem C1_fld30_3 : C1.fld 30 3 = some (3, ⟨TypeDesc.map 21 53, 1, 8, Value.map none⟩) := rfl
theorem C1_fld30_4 : C1.fld 30 4 = some (4, ⟨TypeDesc.map 55 21, 1, 8, Value.map none⟩) := rfl
theorem C1_ti31 : C1.ti 31 = some ⟨TypeDesc.func #[] #[30] false, 1, 8, Value.nilFunc⟩ := rfl
theorem C1_td31 : C1.td 31 = some (TypeDesc.func #[] #[30] false) := rfl
theorem C1_ti33 : C1.ti 33 = some ⟨TypeDesc.func #[30, 9] #[9, 4] false, 1, 8, Value.nilFunc⟩ := rfl
theorem C1_td33 : C1.td 33 = some (TypeDesc.func #[30, 9] #[9, 4] false) := rfl
theorem C1_ti34 : C1.ti 34 = some ⟨TypeDesc.func #[9] #[9, 4] false, 1, 8, Value.nilFunc⟩ := rfl
theorem C1_td34 : C1.td 34 = some (TypeDesc.func #[9] #[9, 4] false) := rfl
theorem C1_ti35 : C1.ti 35 = some ⟨TypeDesc.func #[30, 22] #[22] false, 1, 8, Value.nilFunc⟩ := rfl
theorem C1_td35 : C1.td 35 = some (TypeDesc.func #[30, 22] #[22] false) := rfl
theorem C1_ti36 : C1.ti 36 = some ⟨TypeDesc.func #[22, 22] #[4] false, 1, 8, Value.nilFunc⟩ := rfl
theorem C1_td36 : C1.td 36 = some (TypeDesc.func #[22, 22] #[4] false) := rfl
theorem C1_ti37 : C1.ti 37 = some ⟨TypeDesc.func #[22] #[22] false, 1, 8, Value.nilFunc⟩ := rfl
theorem C1_td37 : C1.td 37 = some (TypeDesc.func #[22] #[22] false) := rfl
theorem C1_ti38 : C1.ti 38 = some ⟨TypeDesc.func #[30, 9, 9] #[4] false, 1, 8, Value.nilFunc⟩ := rfl
theorem C1_td38 : C1.td 38 = some (TypeDesc.func #[30, 9, 9] #[4] false) := rfl
theorem C1_ti39 : C1.ti 39 = some ⟨TypeDesc.func #[9] #[9] false, 1, 8, Value.nilFunc⟩ := rfl
theorem C1_td39 : C1.td 39 = some (TypeDesc.func #[9] #[9] false) := rfl
theorem C1_ti40 : C1.ti 40 = some ⟨TypeDesc.func #[22, 9, 9] #[4] false, 1, 8, Value.nilFunc⟩ := rfl
theorem C1_td40 : C1.td 40 = some (TypeDesc.func #[22, 9, 9] #[4] false) := rfl
theorem C1_ti41 : C1.ti 41 = some ⟨TypeDesc.func #[30, 9] #[4] false, 1, 8, Value.nilFunc⟩ := rfl
theorem C1_td41 : C1.td 41 = some (TypeDesc.func #[30, 9] #[4] false) := rfl
theorem C1_ti42 : C1.ti 42 = some ⟨TypeDesc.func #[9] #[4] false, 1, 8, Value.nilFunc⟩ := rfl
theorem C1_td42 : C1.td 42 = some (TypeDesc.func #[9] #[4] false) := rfl
theorem C1_ti43 : C1.ti 43 = some ⟨TypeDesc.func #[9] #[3] false, 1, 8, Value.nilFunc⟩ := rfl
theorem C1_td43 : C1.td 43 = some (TypeDesc.func #[9] #[3] false) := rfl
theorem C1_ti45 : C1.ti 45 = some ⟨TypeDesc.func #[9] #[22, 3] false, 1, 8, Value.nilFunc⟩ := rfl
theorem C1_td45 : C1.td 45 = some (TypeDesc.func #[9] #[22, 3] false) := rfl
theorem C1_ti46 : C1.ti 46 = some ⟨TypeDesc.func #[21] #[3] false, 1, 8, Value.nilFunc⟩ := rfl
theorem C1_td46 : C1.td 46 = some (TypeDesc.func #[21] #[3] false) := rfl
theorem C1_ti47 : C1.ti 47 = some ⟨TypeDesc.func #[] #[24] false, 1, 8, Value.nilFunc⟩ := rfl
theorem C1_td47 : C1.td 47 = some (TypeDesc.func #[] #[24] false) := rfl
theorem C1_ti48 : C1.ti 48 = some ⟨TypeDesc.func #[] #[25] false, 1, 8, Value.nilFunc⟩ := rfl
theorem C1_td48 : C1.td 48 = some (TypeDesc.func #[] #[25] false) := rfl
theorem C1_ti49 : C1.ti 49 = some ⟨TypeDesc.func #[] #[26] false, 1, 8, Value.nilFunc⟩ := rfl
theorem C1_td49 : C1.td 49 = some (TypeDesc.func #[] #[26] false) := rfl
theorem C1_ti50 : C1.ti 50 = some ⟨TypeDesc.slice 53, 1, 24, Value.slice none 0 0⟩ := rfl
theorem C1_td50 : C1.td 50 = some (TypeDesc.slice 53) := rfl
theorem C1_ti51 : C1.ti 51 = some ⟨TypeDesc.func #[] #[50] false, 1, 8, Value.nilFunc⟩ := rfl
theorem C1_td51 : C1.td 51 = some (TypeDesc.func #[] #[50] false) := rfl
theorem C1_ti52 : C1.ti 52 = some ⟨TypeDesc.struct #[⟨"Rune", 21, 0, false, "", "", 0⟩, ⟨"One", 21, 1, false, "", "", 4⟩, ⟨"Two", 21, 2, false, "", "", 8⟩, ⟨"Soft", 4, 3, false, "", "", 12⟩, ⟨"Out", 4, 4, false, "", "", 13⟩], 5, 16, Value.agg #[Value.int IntKind.i32 0, Value.int IntKind.i32 0, Value.int IntKind.i32 0, Value.bool false, Value.bool false]⟩ := rfl
theorem C1_td52 : C1.td 52 = some (TypeDesc.struct #[⟨"Rune", 21, 0, false, "", "", 0⟩, ⟨"One", 21, 1, false, "", "", 4⟩, ⟨"Two", 21, 2, false, "", "", 8⟩, ⟨"Soft", 4, 3, false, "", "", 12⟩, ⟨"Out", 4, 4, false, "", "", 13⟩]) := rfl
theorem C1_fld52_0 : C1.fld 52 0 = some (0, ⟨TypeDesc.int IntKind.i32, 1, 4, Value.int IntKind.i32 0⟩) := rfl
theorem C1_fld52_1 : C1.fld 52 1 = some (1, ⟨TypeDesc.int IntKind.i32, 1, 4, Value.int IntKind.i32 0⟩) := rfl
theorem C1_fld52_2 : C1.fld 52 2 = some (2, ⟨TypeDesc.int IntKind.i32, 1, 4, Value.int IntKind.i32 0⟩) := rfl
theorem C1_fld52_3 : C1.fld 52 3 = some (3, ⟨TypeDesc.bool, 1, 1, Value.bool false⟩) := rfl
theorem C1_fld52_4 : C1.fld 52 4 = some (4, ⟨TypeDesc.bool, 1, 1, Value.bool false⟩) := rfl
theorem C1_ti53 : C1.ti 53 = some ⟨TypeDesc.struct #[⟨"Rune", 21, 0, false, "", "", 0⟩, ⟨"One", 21, 1, false, "", "", 4⟩, ⟨"Two", 21, 2, false, "", "", 8⟩, ⟨"Soft", 4, 3, false, "", "", 12⟩, ⟨"Out", 4, 4, false, "", "", 13⟩], 5, 16, Value.agg #[Value.int IntKind.i32 0, Value.int IntKind.i32 0, Value.int IntKind.i32 0, Value.bool false, Value.bool false]⟩ := rfl
theorem C1_td53 : C1.td 53 = some (TypeDesc.struct #[⟨"Rune", 21, 0, false, "", "", 0⟩, ⟨"One", 21, 1, false, "", "", 4⟩, ⟨"Two", 21, 2, false, "", "", 8⟩, ⟨"Soft", 4, 3, false, "", "", 12⟩, ⟨"Out", 4, 4, false, "", "", 13⟩]) := rfl
theorem C1_fld53_0 : C1.fld 53 0 = some (0, ⟨TypeDesc.int IntKind.i32, 1, 4, Value.int IntKind.i32 0⟩) := rfl
theorem C1_fld53_1 : C1.fld 53 1 = some (1, ⟨TypeDesc.int IntKind.i32, 1, 4, Value.int IntKind.i32 0⟩) := rfl
theorem C1_fld53_2 : C1.fld 53 2 = some (2, ⟨TypeDesc.int IntKind.i32, 1, 4, Value.int IntKind.i32 0⟩) := rfl
theorem C1_fld53_3 : C1.fld 53 3 = some (3, ⟨TypeDesc.bool, 1, 1, Value.bool false⟩) := rfl
theorem C1_fld53_4 : C1.fld 53 4 = some (4, ⟨TypeDesc.bool, 1, 1, Value.bool false⟩) := rfl
theorem C1_ti54 : C1.ti 54 = some ⟨TypeDesc.struct #[⟨"one", 21, 0, false, "", "pillarbox/ucd", 0⟩, ⟨"two", 21, 1, false, "", "pillarbox/ucd", 4⟩], 2, 8, Value.agg #[Value.int IntKind.i32 0, Value.int IntKind.i32 0]⟩ := rfl
theorem C1_td54 : C1.td 54 = some (TypeDesc.struct #[⟨"one", 21, 0, false, "", "pillarbox/ucd", 0⟩, ⟨"two", 21, 1, false, "", "pillarbox/ucd", 4⟩]) := rfl
theorem C1_fld54_0 : C1.fld 54 0 = some (0, ⟨TypeDesc.int IntKind.i32, 1, 4, Value.int IntKind.i32 0⟩) := rfl
theorem C1_fld54_1 : C1.fld 54 1 = some (1, ⟨TypeDesc.int IntKind.i32, 1, 4, Value.int IntKind.i32 0⟩) := rfl
theorem C1_ti55 : C1.ti 55 = some ⟨TypeDesc.struct #[⟨"one", 21, 0, false, "", "pillarbox/ucd", 0⟩, ⟨"two", 21, 1, false, "", "pillarbox/ucd", 4⟩], 2, 8, Value.agg #[Value.int IntKind.i32 0, Value.int IntKind.i32 0]⟩ := rfl
theorem C1_td55 : C1.td 55 = some (TypeDesc.struct #[⟨"one", 21, 0, false, "", "pillarbox/ucd", 0⟩, ⟨"two", 21, 1, false, "", "pillarbox/ucd", 4⟩]) := rfl
theorem C1_fld55_0 : C1.fld 55 0 = some (0, ⟨TypeDesc.int IntKind.i32, 1, 4, Value.int IntKind.i32 0⟩) := rfl
theorem C1_fld55_1 : C1.fld 55 1 = some (1, ⟨TypeDesc.int IntKind.i32, 1, 4, Value.int IntKind.i32 0⟩) := rfl
theorem C1_ti56 : C1.ti 56 = some ⟨TypeDesc.func #[22] #[9, 4] false, 1, 8, Value.nilFunc⟩ := rfl
theorem C1_td56 : C1.td 56 = some (TypeDesc.func #[22] #[9, 4] false) := rfl
theorem C1_ti57 : C1.ti 57 = some ⟨TypeDesc.func #[9, 4, 4] #[9, 4] false, 1, 8, Value.nilFunc⟩ := rfl
theorem C1_td57 : C1.td 57 = some (TypeDesc.func #[9, 4, 4] #[9, 4] false) := rfl
theorem C1_ti58 : C1.ti 58 = some ⟨TypeDesc.func #[22, 59] #[22] false, 1, 8, Value.nilFunc⟩ := rfl
theorem C1_td58 : C1.td 58 = some (TypeDesc.func #[22, 59] #[22] false) := rfl
theorem C1_ti59 : C1.ti 59 = some ⟨TypeDesc.func #[21] #[21] false, 1, 8, Value.nilFunc⟩ := rfl
theorem C1_td59 : C1.td 59 = some (TypeDesc.func #[21] #[21] false) := rfl
theorem C1_ti60 : C1.ti 60 = some ⟨TypeDesc.struct #[⟨"Table", 30, 0, true, "", "", 0⟩], 5, 88, Value.agg #[Value.slice none 0 0, Value.slice none 0 0, Value.slice none 0 0, Value.map none, Value.map none]⟩ := rfl
theorem C1_td60 : C1.td 60 = some (TypeDesc.struct #[⟨"Table", 30, 0, true, "", "", 0⟩]) := rfl
theorem C1_fld60_0 : C1.fld 60 0 = some (0, ⟨TypeDesc.struct #[⟨"ranges", 24, 0, false, "", "pillarbox/ucd", 0⟩, ⟨"classes", 25, 1, false, "", "pillarbox/ucd", 24⟩, ⟨"lowers", 26, 2, false, "", "pillarbox/ucd", 48⟩, ⟨"splits", 27, 3, false, "", "pillarbox/ucd", 72⟩, ⟨"pairs", 28, 4, false, "", "pillarbox/ucd", 80⟩], 5, 88, Value.agg #[Value.slice none 0 0, Value.slice none 0 0, Value.slice none 0 0, Value.map none, Value.map none]⟩) := rfl
theorem C1_ti61 : C1.ti 61 = some ⟨TypeDesc.struct #[⟨"Table", 30, 0, true, "", "", 0⟩], 5, 88, Value.agg #[Value.slice none 0 0, Value.slice none 0 0, Value.slice none 0 0, Value.map none, Value.map none]⟩ := rfl
theorem C1_td61 : C1.td 61 = some (TypeDesc.struct #[⟨"Table", 30, 0, true, "", "", 0⟩]) := rfl
theorem C1_fld61_0 : C1.fld 61 0 = some (0, ⟨TypeDesc.struct #[⟨"ranges", 24, 0, false, "", "pillarbox/ucd", 0⟩, ⟨"classes", 25, 1, false, "", "pillarbox/ucd", 24⟩, ⟨"lowers", 26, 2, false, "", "pillarbox/ucd", 48⟩, ⟨"splits", 27, 3, false, "", "pillarbox/ucd", 72⟩, ⟨"pairs", 28, 4, false, "", "pillarbox/ucd", 80⟩], 5, 88, Value.agg #[Value.slice none 0 0, Value.slice none 0 0, Value.slice none 0 0, Value.map none, Value.map none]⟩) := rfl
theorem C1_ti62 : C1.ti 62 = some ⟨TypeDesc.func #[21] #[4] false, 1, 8, Value.nilFunc⟩ := rfl
theorem C1_td62 : C1.td 62 = some (TypeDesc.func #[21] #[4] false) := rfl
theorem C1_ti63 : C1.ti 63 = some ⟨TypeDesc.slice 5, 1, 24, Value.slice none 0 0⟩ := rfl
theorem C1_td63 : C1.td 63 = some (TypeDesc.slice 5) := rfl
theorem C1_ti64 : C1.ti 64 = some ⟨TypeDesc.func #[63, 65] #[63] false, 1, 8, Value.nilFunc⟩ := rfl
theorem C1_td64 : C1.td 64 = some (TypeDesc.func #[63, 65] #[63] false) := rfl
theorem C1_ti65 : C1.ti 65 = some ⟨TypeDesc.func #[5] #[5] false, 1, 8, Value.nilFunc⟩ := rfl
theorem C1_td65 : C1.td 65 = some (TypeDesc.func #[5] #[5] false) := rfl
theorem C1_ti66 : C1.ti 66 = some ⟨TypeDesc.func #[30, 9, 4, 4] #[9, 4] false, 1, 8, Value.nilFunc⟩ := rfl
theorem C1_td66 : C1.td 66 = some (TypeDesc.func #[30, 9, 4, 4] #[9, 4] false) := rfl
theorem C1_ti68 : C1.ti 68 = some ⟨TypeDesc.func #[5] #[3, 21] false, 1, 8, Value.nilFunc⟩ := rfl
theorem C1_td68 : C1.td 68 = some (TypeDesc.func #[5] #[3, 21] false) := rfl
theorem C1_ti69 : C1.ti 69 = some ⟨TypeDesc.int IntKind.u64, 1, 8, Value.int IntKind.u64 0⟩ := rfl
theorem C1_td69 : C1.td 69 = some (TypeDesc.int IntKind.u64) := rfl
theorem C1_ti70 : C1.ti 70 = some ⟨TypeDesc.struct #[⟨"Lo", 21, 0, false, "", "", 0⟩, ⟨"Hi", 21, 1, false, "", "", 4⟩, ⟨"Cat", 3, 2, false, "", "", 8⟩, ⟨"Bidi", 3, 3, false, "", "", 16⟩, ⟨"Join", 3, 4, false, "", "", 24⟩, ⟨"Script", 3, 5, false, "", "", 32⟩], 6, 40, Value.agg #[Value.int IntKind.i32 0, Value.int IntKind.i32 0, Value.int IntKind.i64 0, Value.int IntKind.i64 0, Value.int IntKind.i64 0, Value.int IntKind.i64 0]⟩ := rfl
theorem C1_td70 : C1.td 70 = some (TypeDesc.struct #[⟨"Lo", 21, 0, false, "", "", 0⟩, ⟨"Hi", 21, 1, false, "", "", 4⟩, ⟨"Cat", 3, 2, false, "", "", 8⟩, ⟨"Bidi", 3, 3, false, "", "", 16⟩, ⟨"Join", 3, 4, false, "", "", 24⟩, ⟨"Script", 3, 5, false, "", "", 32⟩]) := rfl
theorem C1_fld70_0 : C1.fld 70 0 = some (0, ⟨TypeDesc.int IntKind.i32, 1, 4, Value.int IntKind.i32 0⟩) := rfl
theorem C1_fld70_1 : C1.fld 70 1 = some (1, ⟨TypeDesc.int IntKind.i32, 1, 4, Value.int IntKind.i32 0⟩) := rfl
theorem C1_fld70_2 : C1.fld 70 2 = some (2, ⟨TypeDesc.int IntKind.i64, 1, 8, Value.int IntKind.i64 0⟩) := rfl
theorem C1_fld70_3 : C1.fld 70 3 = some (3, ⟨TypeDesc.int IntKind.i64, 1, 8, Value.int IntKind.i64 0⟩) := rfl
theorem C1_fld70_4 : C1.fld 70 4 = some (4, ⟨TypeDesc.int IntKind.i64, 1, 8, Value.int IntKind.i64 0⟩) := rfl
theorem C1_fld70_5 : C1.fld 70 5 = some (5, ⟨TypeDesc.int IntKind.i64, 1, 8, Value.int IntKind.i64 0⟩) := rfl
theorem C1_ti71 : C1.ti 71 = some ⟨TypeDesc.struct #[⟨"Lo", 21, 0, false, "", "", 0⟩, ⟨"Hi", 21, 1, false, "", "", 4⟩, ⟨"Cat", 3, 2, false, "", "", 8⟩, ⟨"Bidi", 3, 3, false, "", "", 16⟩, ⟨"Join", 3, 4, false, "", "", 24⟩, ⟨"Script", 3, 5, false, "", "", 32⟩], 6, 40, Value.agg #[Value.int IntKind.i32 0, Value.int IntKind.i32 0, Value.int IntKind.i64 0, Value.int IntKind.i64 0, Value.int IntKind.i64 0, Value.int IntKind.i64 0]⟩ := rfl
theorem C1_td71 : C1.td 71 = some (TypeDesc.struct #[⟨"Lo", 21, 0, false, "", "", 0⟩, ⟨"Hi", 21, 1, false, "", "", 4⟩, ⟨"Cat", 3, 2, false, "", "", 8⟩, ⟨"Bidi", 3, 3, false, "", "", 16⟩, ⟨"Join", 3, 4, false, "", "", 24⟩, ⟨"Script", 3, 5, false, "", "", 32⟩]) := rfl
theorem C1_fld71_0 : C1.fld 71 0 = some (0, ⟨TypeDesc.int IntKind.i32, 1, 4, Value.int IntKind.i32 0⟩) := rfl
theorem C1_fld71_1 : C1.fld 71 1 = some (1, ⟨TypeDesc.int IntKind.i32, 1, 4, Value.int IntKind.i32 0⟩) := rfl
theorem C1_fld71_2 : C1.fld 71 2 = some (2, ⟨TypeDesc.int IntKind.i64, 1, 8, Value.int IntKind.i64 0⟩) := rfl
theorem C1_fld71_3 : C1.fld 71 3 = some (3, ⟨TypeDesc.int IntKind.i64, 1, 8, Value.int IntKind.i64 0⟩) := rfl
theorem C1_fld71_4 : C1.fld 71 4 = some (4, ⟨TypeDesc.int IntKind.i64, 1, 8, Value.int IntKind.i64 0⟩) := rfl
theorem C1_fld71_5 : C1.fld 71 5 = some (5, ⟨TypeDesc.int IntKind.i64, 1, 8, Value.int IntKind.i64 0⟩) := rfl
theorem C1_ti72 : C1.ti 72 = some ⟨TypeDesc.func #[21] #[71] false, 1, 8, Value.nilFunc⟩ := rfl
theorem C1_td72 : C1.td 72 = some (TypeDesc.func #[21] #[71] false) := rfl
theorem C1_ti73 : C1.ti 73 = some ⟨TypeDesc.struct #[⟨"Lo", 21, 0, false, "", "", 0⟩, ⟨"Hi", 21, 1, false, "", "", 4⟩, ⟨"Class", 3, 2, false, "", "", 8⟩, ⟨"Step", 3, 3, false, "", "", 16⟩], 4, 24, Value.agg #[Value.int IntKind.i32 0, Value.int IntKind.i32 0, Value.int IntKind.i64 0, Value.int IntKind.i64 0]⟩ := rfl
theorem C1_td73 : C1.td 73 = some (TypeDesc.struct #[⟨"Lo", 21, 0, false, "", "", 0⟩, ⟨"Hi", 21, 1, false, "", "", 4⟩, ⟨"Class", 3, 2, false, "", "", 8⟩, ⟨"Step", 3, 3, false, "", "", 16⟩]) := rfl
theorem C1_fld73_0 : C1.fld 73 0 = some (0, ⟨TypeDesc.int IntKind.i32, 1, 4, Value.int IntKind.i32 0⟩) := rfl
theorem C1_fld73_1 : C1.fld 73 1 = some (1, ⟨TypeDesc.int IntKind.i32, 1, 4, Value.int IntKind.i32 0⟩) := rfl
theorem C1_fld73_2 : C1.fld 73 2 = some (2, ⟨TypeDesc.int IntKind.i64, 1, 8, Value.int IntKind.i64 0⟩) := rfl
theorem C1_fld73_3 : C1.fld 73 3 = some (3, ⟨TypeDesc.int IntKind.i64, 1, 8, Value.int IntKind.i64 0⟩) := rfl
theorem C1_ti74 : C1.ti 74 = some ⟨TypeDesc.struct #[⟨"Lo", 21, 0, false, "", "", 0⟩, ⟨"Hi", 21, 1, false, "", "", 4⟩, ⟨"Class", 3, 2, false, "", "", 8⟩, ⟨"Step", 3, 3, false, "", "", 16⟩], 4, 24, Value.agg #[Value.int IntKind.i32 0, Value.int IntKind.i32 0, Value.int IntKind.i64 0, Value.int IntKind.i64 0]⟩ := rfl
theorem C1_td74 : C1.td 74 = some (TypeDesc.struct #[⟨"Lo", 21, 0, false, "", "", 0⟩, ⟨"Hi", 21, 1, false, "", "", 4⟩, ⟨"Class", 3, 2, false, "", "", 8⟩, ⟨"Step", 3, 3, false, "", "", 16⟩]) := rfl
theorem C1_fld74_0 : C1.fld 74 0 = some (0, ⟨TypeDesc.int IntKind.i32, 1, 4, Value.int IntKind.i32 0⟩) := rfl
theorem C1_fld74_1 : C1.fld 74 1 = some (1, ⟨TypeDesc.int IntKind.i32, 1, 4, Value.int IntKind.i32 0⟩) := rfl
theorem C1_fld74_2 : C1.fld 74 2 = some (2, ⟨TypeDesc.int IntKind.i64, 1, 8, Value.int IntKind.i64 0⟩) := rfl
theorem C1_fld74_3 : C1.fld 74 3 = some (3, ⟨TypeDesc.int IntKind.i64, 1, 8, Value.int IntKind.i64 0⟩) := rfl
theorem C1_ti75 : C1.ti 75 = some ⟨TypeDesc.struct #[⟨"Lo", 21, 0, false, "", "", 0⟩, ⟨"Hi", 21, 1, false, "", "", 4⟩, ⟨"By", 21, 2, false, "", "", 8⟩], 3, 12, Value.agg #[Value.int IntKind.i32 0, Value.int IntKind.i32 0, Value.int IntKind.i32 0]⟩ := rfl
theorem C1_td75 : C1.td 75 = some (TypeDesc.struct #[⟨"Lo", 21, 0, false, "", "", 0⟩, ⟨"Hi", 21, 1, false, "", "", 4⟩, ⟨"By", 21, 2, false, "", "", 8⟩]) := rfl
theorem C1_fld75_0 : C1.fld 75 0 = some (0, ⟨TypeDesc.int IntKind.i32, 1, 4, Value.int IntKind.i32 0⟩) := rfl
theorem C1_fld75_1 : C1.fld 75 1 = some (1, ⟨TypeDesc.int IntKind.i32, 1, 4, Value.int IntKind.i32 0⟩) := rfl
theorem C1_fld75_2 : C1.fld 75 2 = some (2, ⟨TypeDesc.int IntKind.i32, 1, 4, Value.int IntKind.i32 0⟩) := rfl
theorem C1_ti76 : C1.ti 76 = some ⟨TypeDesc.struct #[⟨"Lo", 21, 0, false, "", "", 0⟩, ⟨"Hi", 21, 1, false, "", "", 4⟩, ⟨"By", 21, 2, false, "", "", 8⟩], 3, 12, Value.agg #[Value.int IntKind.i32 0, Value.int IntKind.i32 0, Value.int IntKind.i32 0]⟩ := rfl
theorem C1_td76 : C1.td 76 = some (TypeDesc.struct #[⟨"Lo", 21, 0, false, "", "", 0⟩, ⟨"Hi", 21, 1, false, "", "", 4⟩, ⟨"By", 21, 2, false, "", "", 8⟩]) := rfl
theorem C1_fld76_0 : C1.fld 76 0 = some (0, ⟨TypeDesc.int IntKind.i32, 1, 4, Value.int IntKind.i32 0⟩) := rfl
theorem C1_fld76_1 : C1.fld 76 1 = some (1, ⟨TypeDesc.int IntKind.i32, 1, 4, Value.int IntKind.i32 0⟩) := rfl
theorem C1_fld76_2 : C1.fld 76 2 = some (2, ⟨TypeDesc.int IntKind.i32, 1, 4, Value.int IntKind.i32 0⟩) := rfl
theorem C1_ti78 : C1.ti 78 = some ⟨TypeDesc.func #[9] #[21, 3] false, 1, 8, Value.nilFunc⟩ := rfl
theorem C1_td78 : C1.td 78 = some (TypeDesc.func #[9] #[21, 3] false) := rfl
theorem C1_ti79 : C1.ti 79 = some ⟨TypeDesc.func #[21] #[63] false, 1, 8, Value.nilFunc⟩ := rfl
theorem C1_td79 : C1.td 79 = some (TypeDesc.func #[21] #[63] false) := rfl
theorem C1_ti80 : C1.ti 80 = some ⟨TypeDesc.func #[22, 4] #[22] false, 1, 8, Value.nilFunc⟩ := rfl
theorem C1_td80 : C1.td 80 = some (TypeDesc.func #[22, 4] #[22] false) := rfl
theorem C1_ti82 : C1.ti 82 = some ⟨TypeDesc.func #[21] #[53, 4] false, 1, 8, Value.nilFunc⟩ := rfl
theorem C1_td82 : C1.td 82 = some (TypeDesc.func #[21] #[53, 4] false) := rfl
theorem C1_ti83 : C1.ti 83 = some ⟨TypeDesc.func #[26, 84] #[3] false, 1, 8, Value.nilFunc⟩ := rfl
theorem C1_td83 : C1.td 83 = some (TypeDesc.func #[26, 84] #[3] false) := rfl
theorem C1_ti84 : C1.ti 84 = some ⟨TypeDesc.func #[76] #[4] false, 1, 8, Value.nilFunc⟩ := rfl
theorem C1_td84 : C1.td 84 = some (TypeDesc.func #[76] #[4] false) := rfl
theorem C1_ti85 : C1.ti 85 = some ⟨TypeDesc.func #[30, 22, 4] #[22] false, 1, 8, Value.nilFunc⟩ := rfl
theorem C1_td85 : C1.td 85 = some (TypeDesc.func #[30, 22, 4] #[22] false) := rfl
theorem C1_ti87 : C1.ti 87 = some ⟨TypeDesc.func #[24, 21, 88] #[3, 4] false, 1, 8, Value.nilFunc⟩ := rfl
theorem C1_td87 : C1.td 87 = some (TypeDesc.func #[24, 21, 88] #[3, 4] false) := rfl
theorem C1_ti88 : C1.ti 88 = some ⟨TypeDesc.func #[71, 21] #[3] false, 1, 8, Value.nilFunc⟩ := rfl
theorem C1_td88 : C1.td 88 = some (TypeDesc.func #[71, 21] #[3] false) := rfl
theorem C1_ti89 : C1.ti 89 = some ⟨TypeDesc.func #[21, 4] #[22] false, 1, 8, Value.nilFunc⟩ := rfl
theorem C1_td89 : C1.td 89 = some (TypeDesc.func #[21, 4] #[22] false) := rfl
theorem C1_ti91 : C1.ti 91 = some ⟨TypeDesc.func #[21, 21] #[21, 4] false, 1, 8, Value.nilFunc⟩ := rfl
theorem C1_td91 : C1.td 91 = some (TypeDesc.func #[21, 21] #[21, 4] false) := rfl
theorem C1_ti92 : C1.ti 92 = some ⟨TypeDesc.func #[22, 93] #[] false, 1, 8, Value.nilFunc⟩ := rfl
theorem C1_td92 : C1.td 92 = some (TypeDesc.func #[22, 93] #[] false) := rfl
theorem C1_ti93 : C1.ti 93 = some ⟨TypeDesc.func #[21, 21] #[3] false, 1, 8, Value.nilFunc⟩ := rfl
theorem C1_td93 : C1.td 93 = some (TypeDesc.func #[21, 21] #[3] false) := rfl
theorem C1_ti94 : C1.ti 94 = some ⟨TypeDesc.func #[30, 21, 4] #[22] false, 1, 8, Value.nilFunc⟩ := rfl
theorem C1_td94 : C1.td 94 = some (TypeDesc.func #[30, 21, 4] #[22] false) := rfl
theorem C1_ti95 : C1.ti 95 = some ⟨TypeDesc.func #[30, 21, 21] #[21, 4] false, 1, 8, Value.nilFunc⟩ := rfl
theorem C1_td95 : C1.td 95 = some (TypeDesc.func #[30, 21, 21] #[21, 4] false) := rfl
theorem C1_ti96 : C1.ti 96 = some ⟨TypeDesc.func #[25, 97] #[3] false, 1, 8, Value.nilFunc⟩ := rfl
theorem C1_td96 : C1.td 96 = some (TypeDesc.func #[25, 97] #[3] false) := rfl
theorem C1_ti97 : C1.ti 97 = some ⟨TypeDesc.func #[74] #[4] false, 1, 8, Value.nilFunc⟩ := rfl
theorem C1_td97 : C1.td 97 = some (TypeDesc.func #[74] #[4] false) := rfl
theorem C1_ti98 : C1.ti 98 = some ⟨TypeDesc.func #[22, 3, 93] #[] false, 1, 8, Value.nilFunc⟩ := rfl
theorem C1_td98 : C1.td 98 = some (TypeDesc.func #[22, 3, 93] #[] false) := rfl
theorem C1_ti99 : C1.ti 99 = some ⟨TypeDesc.func #[21, 21, 3] #[4] false, 1, 8, Value.nilFunc⟩ := rfl
theorem C1_td99 : C1.td 99 = some (TypeDesc.func #[21, 21, 3] #[4] false) := rfl
theorem C1_ti100 : C1.ti 100 = some ⟨TypeDesc.func #[21] #[22] false, 1, 8, Value.nilFunc⟩ := rfl
theorem C1_td100 : C1.td 100 = some (TypeDesc.func #[21] #[22] false) := rfl
theorem C1_ti101 : C1.ti 101 = some ⟨TypeDesc.func #[104] #[22] true, 1, 8, Value.nilFunc⟩ := rfl
theorem C1_td101 : C1.td 101 = some (TypeDesc.func #[104] #[22] true) := rfl
theorem C1_ti102 : C1.ti 102 = some ⟨TypeDesc.func #[22, 3, 3, 93] #[] false, 1, 8, Value.nilFunc⟩ := rfl
theorem C1_td102 : C1.td 102 = some (TypeDesc.func #[22, 3, 3, 93] #[] false) := rfl
theorem C1_ti103 : C1.ti 103 = some ⟨TypeDesc.func #[22, 3, 3, 3, 93] #[] false, 1, 8, Value.nilFunc⟩ := rfl
theorem C1_td103 : C1.td 103 = some (TypeDesc.func #[22, 3, 3, 3, 93] #[] false) := rfl
theorem C1_ti104 : C1.ti 104 = some ⟨TypeDesc.slice 22, 1, 24, Value.slice none 0 0⟩ := rfl
theorem C1_td104 : C1.td 104 = some (TypeDesc.slice 22) := rfl
theorem C1_ti105 : C1.ti 105 = some ⟨TypeDesc.func #[22, 3] #[22] false, 1, 8, Value.nilFunc⟩ := rfl
theorem C1_td105 : C1.td 105 = some (TypeDesc.func #[22, 3] #[22] false) := rfl
theorem C1_ti106 : C1.ti 106 = some ⟨TypeDesc.func #[] #[9] false, 1, 8, Value.nilFunc⟩ := rfl
theorem C1_td106 : C1.td 106 = some (TypeDesc.func #[] #[9] false) := rfl
theorem C1_ti109 : C1.ti 109 = some ⟨TypeDesc.array 0 16, 0, 0, Value.agg #[]⟩ := rfl
theorem C1_td109 : C1.td 109 = some (TypeDesc.array 0 16) := rfl
theorem C1_ti112 : C1.ti 112 = some ⟨TypeDesc.func #[] #[3] false, 1, 8, Value.nilFunc⟩ := rfl
theorem C1_td112 : C1.td 112 = some (TypeDesc.func #[] #[3] false) := rfl
theorem C1_ti113 : C1.ti 113 = some ⟨TypeDesc.int IntKind.u32, 1, 4, Value.int IntKind.u32 0⟩ := rfl
theorem C1_td113 : C1.td 113 = some (TypeDesc.int IntKind.u32) := rfl
theorem C1_ti114 : C1.ti 114 = some ⟨TypeDesc.int IntKind.u8, 1, 1, Value.int IntKind.u8 0⟩ := rfl
theorem C1_td114 : C1.td 114 = some (TypeDesc.int IntKind.u8) := rfl
theorem C1_ti115 : C1.ti 115 = some ⟨TypeDesc.int IntKind.u8, 1, 1, Value.int IntKind.u8 0⟩ := rfl
theorem C1_td115 : C1.td 115 = some (TypeDesc.int IntKind.u8) := rfl
theorem C1_ti116 : C1.ti 116 = some ⟨TypeDesc.func #[122, 122] #[4] false, 1, 8, Value.nilFunc⟩ := rfl
theorem C1_td116 : C1.td 116 = some (TypeDesc.func #[122, 122] #[4] false) := rfl
theorem C1_ti117 : C1.ti 117 = some ⟨TypeDesc.pointer 5, 1, 8, Value.pointer none⟩ := rfl
theorem C1_td117 : C1.td 117 = some (TypeDesc.pointer 5) := rfl
theorem C1_ti118 : C1.ti 118 = some ⟨TypeDesc.int IntKind.i32, 1, 4, Value.int IntKind.i32 0⟩ := rfl
theorem C1_td118 : C1.td 118 = some (TypeDesc.int IntKind.i32) := rfl
theorem C1_ti119 : C1.ti 119 = some ⟨TypeDesc.int IntKind.i32, 1, 4, Value.int IntKind.i32 0⟩ := rfl
theorem C1_td119 : C1.td 119 = some (TypeDesc.int IntKind.i32) := rfl
theorem C1_ti120 : C1.ti 120 = some ⟨TypeDesc.struct #[⟨"Size_", 12, 0, false, "", "", 0⟩, ⟨"PtrBytes", 12, 1, false, "", "", 8⟩, ⟨"Hash", 113, 2, false, "", "", 16⟩, ⟨"TFlag", 114, 3, false, "", "", 20⟩, ⟨"Align_", 5, 4, false, "", "", 21⟩, ⟨"FieldAlign_", 5, 5, false, "", "", 22⟩, ⟨"Kind_", 115, 6, false, "", "", 23⟩, ⟨"Equal", 116, 7, false, "", "", 24⟩, ⟨"GCData", 117, 8, false, "", "", 32⟩, ⟨"Str", 118, 9, false, "", "", 40⟩, ⟨"PtrToThis", 119, 10, false, "", "", 44⟩], 11, 48, Value.agg #[Value.int IntKind.u64 0, Value.int IntKind.u64 0, Value.int IntKind.u32 0, Value.int IntKind.u8 0, Value.int IntKind.u8 0, Value.int IntKind.u8 0, Value.int IntKind.u8 0, Value.nilFunc, Value.pointer none, Value.int IntKind.i32 0, Value.int IntKind.i32 0]⟩ := rfl
theorem C1_td120 : C1.td 120 = some (TypeDesc.struct #[⟨"Size_", 12, 0, false, "", "", 0⟩, ⟨"PtrBytes", 12, 1, false, "", "", 8⟩, ⟨"Hash", 113, 2, false, "", "", 16⟩, ⟨"TFlag", 114, 3, false, "", "", 20⟩, ⟨"Align_", 5, 4, false, "", "", 21⟩, ⟨"FieldAlign_", 5, 5, false, "", "", 22⟩, ⟨"Kind_", 115, 6, false, "", "", 23⟩, ⟨"Equal", 116, 7, false, "", "", 24⟩, ⟨"GCData", 117, 8, false, "", "", 32⟩, ⟨"Str", 118, 9, false, "", "", 40⟩, ⟨"PtrToThis", 119, 10, false, "", "", 44⟩]) := rfl
theorem C1_fld120_0 : C1.fld 120 0 = some (0, ⟨TypeDesc.int IntKind.u64, 1, 8, Value.int IntKind.u64 0⟩) := rfl
theorem C1_fld120_1 : C1.fld 120 1 = some (1, ⟨TypeDesc.int IntKind.u64, 1, 8, Value.int IntKind.u64 0⟩) := rfl
theorem C1_fld120_2 : C1.fld 120 2 = some (2, ⟨TypeDesc.int IntKind.u32, 1, 4, Value.int IntKind.u32 0⟩) := rfl
theorem C1_fld120_3 : C1.fld 120 3 = some (3, ⟨TypeDesc.int IntKind.u8, 1, 1, Value.int IntKind.u8 0⟩) := rfl
theorem C1_fld120_4 : C1.fld 120 4 = some (4, ⟨TypeDesc.int IntKind.u8, 1, 1, Value.int IntKind.u8 0⟩) := rfl
theorem C1_fld120_5 : C1.fld 120 5 = some (5, ⟨TypeDesc.int IntKind.u8, 1, 1, Value.int IntKind.u8 0⟩) := rfl
theorem C1_fld120_6 : C1.fld 120 6 = some (6, ⟨TypeDesc.int IntKind.u8, 1, 1, Value.int IntKind.u8 0⟩) := rfl
theorem C1_fld120_7 : C1.fld 120 7 = some (7, ⟨TypeDesc.func #[122, 122] #[4] false, 1, 8, Value.nilFunc⟩) := rfl
theorem C1_fld120_8 : C1.fld 120 8 = some (8, ⟨TypeDesc.pointer 5, 1, 8, Value.pointer none⟩) := rfl
theorem C1_fld120_9 : C1.fld 120 9 = some (9, ⟨TypeDesc.int IntKind.i32, 1, 4, Value.int IntKind.i32 0⟩) := rfl
theorem C1_fld120_10 : C1.fld 120 10 = some (10, ⟨TypeDesc.int IntKind.i32, 1, 4, Value.int IntKind.i32 0⟩) := rfl
theorem C1_ti121 : C1.ti 121 = some ⟨TypeDesc.struct #[⟨"Size_", 12, 0, false, "", "", 0⟩, ⟨"PtrBytes", 12, 1, false, "", "", 8⟩, ⟨"Hash", 113, 2, false, "", "", 16⟩, ⟨"TFlag", 114, 3, false, "", "", 20⟩, ⟨"Align_", 5, 4, false, "", "", 21⟩, ⟨"FieldAlign_", 5, 5, false, "", "", 22⟩, ⟨"Kind_", 115, 6, false, "", "", 23⟩, ⟨"Equal", 116, 7, false, "", "", 24⟩, ⟨"GCData", 117, 8, false, "", "", 32⟩, ⟨"Str", 118, 9, false, "", "", 40⟩, ⟨"PtrToThis", 119, 10, false, "", "", 44⟩], 11, 48, Value.agg #[Value.int IntKind.u64 0, Value.int IntKind.u64 0, Value.int IntKind.u32 0, Value.int IntKind.u8 0, Value.int IntKind.u8 0, Value.int IntKind.u8 0, Value.int IntKind.u8 0, Value.nilFunc, Value.pointer none, Value.int IntKind.i32 0, Value.int IntKind.i32 0]⟩ := rfl
theorem C1_td121 : C1.td 121 = some (TypeDesc.struct #[⟨"Size_", 12, 0, false, "", "", 0⟩, ⟨"PtrBytes", 12, 1, false, "", "", 8⟩, ⟨"Hash", 113, 2, false, "", "", 16⟩, ⟨"TFlag", 114, 3, false, "", "", 20⟩, ⟨"Align_", 5, 4, false, "", "", 21⟩, ⟨"FieldAlign_", 5, 5, false, "", "", 22⟩, ⟨"Kind_", 115, 6, false, "", "", 23⟩, ⟨"Equal", 116, 7, false, "", "", 24⟩, ⟨"GCData", 117, 8, false, "", "", 32⟩, ⟨"Str", 118, 9, false, "", "", 40⟩, ⟨"PtrToThis", 119, 10, false, "", "", 44⟩]) := rfl
theorem C1_fld121_0 : C1.fld 121 0 = some (0, ⟨TypeDesc.int IntKind.u64, 1, 8, Value.int IntKind.u64 0⟩) := rfl
theorem C1_fld121_1 : C1.fld 121 1 = some (1, ⟨TypeDesc.int IntKind.u64, 1, 8, Value.int IntKind.u64 0⟩) := rfl
theorem C1_fld121_2 : C1.fld 121 2 = some (2, ⟨TypeDesc.int IntKind.u32, 1, 4, Value.int IntKind.u32 0⟩) := rfl
theorem C1_fld121_3 : C1.fld 121 3 = some (3, ⟨TypeDesc.int IntKind.u8, 1, 1, Value.int IntKind.u8 0⟩) := rfl
theorem C1_fld121_4 : C1.fld 121 4 = some (4, ⟨TypeDesc.int IntKind.u8, 1, 1, Value.int IntKind.u8 0⟩) := rfl
theorem C1_fld121_5 : C1.fld 121 5 = some (5, ⟨TypeDesc.int IntKind.u8, 1, 1, Value.int IntKind.u8 0⟩) := rfl
theorem C1_fld121_6 : C1.fld 121 6 = some (6, ⟨TypeDesc.int IntKind.u8, 1, 1, Value.int IntKind.u8 0⟩) := rfl
theorem C1_fld121_7 : C1.fld 121 7 = some (7, ⟨TypeDesc.func #[122, 122] #[4] false, 1, 8, Value.nilFunc⟩) := rfl
theorem C1_fld121_8 : C1.fld 121 8 = some (8, ⟨TypeDesc.pointer 5, 1, 8, Value.pointer none⟩) := rfl
theorem C1_fld121_9 : C1.fld 121 9 = some (9, ⟨TypeDesc.int IntKind.i32, 1, 4, Value.int IntKind.i32 0⟩) := rfl
theorem C1_fld121_10 : C1.fld 121 10 = some (10, ⟨TypeDesc.int IntKind.i32, 1, 4, Value.int IntKind.i32 0⟩) := rfl
theorem C1_fit2 (a : Int) : fitsK C1 2 (.int .i64 a) = true := rfl
theorem C1_fit3 (a : Int) : fitsK C1 3 (.int .i64 a) = true := rfl
theorem C1_fit4 (a : Bool) : fitsK C1 4 (.bool a) = true := rfl
theorem C1_fit5 (a : Int) : fitsK C1 5 (.int .u8 a) = true := rfl
theorem C1_fit6 (a : Int) : fitsK C1 6 (.int .u8 a) = true := rfl
theorem C1_fit9 (a : ByteArray) : fitsK C1 9 (.string a) = true := rfl
theorem C1_fit10 (a : ByteArray) : fitsK C1 10 (.string a) = true := rfl
theorem C1_fit11 (a : ByteArray) : fitsK C1 11 (.string a) = true := rfl
theorem C1_fit12 (a : Int) : fitsK C1 12 (.int .u64 a) = true := rfl
theorem C1_fit21 (a : Int) : fitsK C1 21 (.int .i32 a) = true := rfl
theorem C1_fit69 (a : Int) : fitsK C1 69 (.int .u64 a) = true := rfl
theorem C1_fit113 (a : Int) : fitsK C1 113 (.int .u32 a) = true := rfl
theorem C1_fit114 (a : Int) : fitsK C1 114 (.int .u8 a) = true := rfl
theorem C1_fit115 (a : Int) : fitsK C1 115 (.int .u8 a) = true := rfl
theorem C1_fit118 (a : Int) : fitsK C1 118 (.int .i32 a) = true := rfl
theorem C1_fit119 (a : Int) : fitsK C1 119 (.int .i32 a) = true := rfl
theorem C1_fit53 (x0 : Int) (x1 : Int) (x2 : Int) (x3 : Bool) (x4 : Bool) : fitsK C1 53 (.agg #[.int .i32 x0, .int .i32 x1, .int .i32 x2, .bool x3, .bool x4]) = true := rfl
theorem C1_fit55 (x0 : Int) (x1 : Int) : fitsK C1 55 (.agg #[.int .i32 x0, .int .i32 x1]) = true := rfl
theorem C1_fit71 (x0 : Int) (x1 : Int) (x2 : Int) (x3 : Int) (x4 : Int) (x5 : Int) : fitsK C1 71 (.agg #[.int .i32 x0, .int .i32 x1, .int .i64 x2, .int .i64 x3, .int .i64 x4, .int .i64 x5]) = true := rfl
theorem C1_fit74 (x0 : Int) (x1 : Int) (x2 : Int) (x3 : Int) : fitsK C1 74 (.agg #[.int .i32 x0, .int .i32 x1, .int .i64 x2, .int .i64 x3]) = true := rfl
theorem C1_fit76 (x0 : Int) (x1 : Int) (x2 : Int) : fitsK C1 76 (.agg #[.int .i32 x0, .int .i32 x1, .int .i32 x2]) = true := rfl
theorem B1 : type_of% (And.intro @C1_ti1 @C1_td1) := (And.intro @C1_ti1 @C1_td1)
theorem B2 : type_of% (And.intro @C1_ti2 (And.intro @C1_td2 @C1_fit2)) := (And.intro @C1_ti2 (And.intro @C1_td2 @C1_fit2))
theorem B3 : type_of% (And.intro @C1_ti3 (And.intro @C1_td3 @C1_fit3)) := (And.intro @C1_ti3 (And.intro @C1_td3 @C1_fit3))
theorem B4 : type_of% (And.intro @C1_ti4 (And.intro @C1_td4 @C1_fit4)) := (And.intro @C1_ti4 (And.intro @C1_td4 @C1_fit4))
theorem B5 : type_of% (And.intro @C1_ti5 (And.intro @C1_td5 @C1_fit5)) := (And.intro @C1_ti5 (And.intro @C1_td5 @C1_fit5))
theorem B6 : type_of% (And.intro @C1_ti6 (And.intro @C1_td6 @C1_fit6)) := (And.intro @C1_ti6 (And.intro @C1_td6 @C1_fit6))
theorem B9 : type_of% (And.intro @C1_ti9 (And.intro @C1_td9 @C1_fit9)) := (And.intro @C1_ti9 (And.intro @C1_td9 @C1_fit9))
theorem B10 : type_of% (And.intro @C1_ti10 (And.intro @C1_td10 @C1_fit10)) := (And.intro @C1_ti10 (And.intro @C1_td10 @C1_fit10))
theorem B11 : type_of% (And.intro @C1_ti11 (And.intro @C1_td11 @C1_fit11)) := (And.intro @C1_ti11 (And.intro @C1_td11 @C1_fit11))
theorem B12 : type_of% (And.intro @C1_ti12 (And.intro @C1_td12 @C1_fit12)) := (And.intro @C1_ti12 (And.intro @C1_td12 @C1_fit12))
theorem B15 : type_of% (And.intro @C1_ti15 @C1_td15) := (And.intro @C1_ti15 @C1_td15)
theorem B16 : type_of% (And.intro @C1_ti16 @C1_td16) := (And.intro @C1_ti16 @C1_td16)
theorem B17 : type_of% (And.intro @C1_ti17 @C1_td17) := (And.intro @C1_ti17 @C1_td17)
theorem B21 : type_of% (And.intro @C1_ti21 (And.intro @C1_td21 @C1_fit21)) := (And.intro @C1_ti21 (And.intro @C1_td21 @C1_fit21))
theorem B22 : type_of% (And.intro @C1_ti22 @C1_td22) := (And.intro @C1_ti22 @C1_td22)
theorem B23 : type_of% (And.intro @C1_ti23 @C1_td23) := (And.intro @C1_ti23 @C1_td23)
theorem B24 : type_of% (And.intro @C1_ti24 @C1_td24) := (And.intro @C1_ti24 @C1_td24)
theorem B25 : type_of% (And.intro @C1_ti25 @C1_td25) := (And.intro @C1_ti25 @C1_td25)
theorem B26 : type_of% (And.intro @C1_ti26 @C1_td26) := (And.intro @C1_ti26 @C1_td26)
theorem B27 : type_of% (And.intro @C1_ti27 @C1_td27) := (And.intro @C1_ti27 @C1_td27)
theorem B28 : type_of% (And.intro @C1_ti28 @C1_td28) := (And.intro @C1_ti28 @C1_td28)
theorem B29 : type_of% (And.intro @C1_ti29 (And.intro @C1_td29 (And.intro @C1_fld29_0 (And.intro @C1_fld29_1 (And.intro @C1_fld29_2 (And.intro @C1_fld29_3 @C1_fld29_4)))))) := (And.intro @C1_ti29 (And.intro @C1_td29 (And.intro @C1_fld29_0 (And.intro @C1_fld29_1 (And.intro @C1_fld29_2 (And.intro @C1_fld29_3 @C1_fld29_4))))))
theorem B30 : type_of% (And.intro @C1_ti30 (And.intro @C1_td30 (And.intro @C1_fld30_0 (And.intro @C1_fld30_1 (And.intro @C1_fld30_2 (And.intro @C1_fld30_3 @C1_fld30_4)))))) := (And.intro @C1_ti30 (And.intro @C1_td30 (And.intro @C1_fld30_0 (And.intro @C1_fld30_1 (And.intro @C1_fld30_2 (And.intro @C1_fld30_3 @C1_fld30_4))))))
theorem B31 : type_of% (And.intro @C1_ti31 @C1_td31) := (And.intro @C1_ti31 @C1_td31)
theorem B33 : type_of% (And.intro @C1_ti33 @C1_td33) := (And.intro @C1_ti33 @C1_td33)
theorem B34 : type_of% (And.intro @C1_ti34 @C1_td34) := (And.intro @C1_ti34 @C1_td34)
theorem B35 : type_of% (And.intro @C1_ti35 @C1_td35) := (And.intro @C1_ti35 @C1_td35)
theorem B36 : type_of% (And.intro @C1_ti36 @C1_td36) := (And.intro @C1_ti36 @C1_td36)
theorem B37 : type_of% (And.intro @C1_ti37 @C1_td37) := (And.intro @C1_ti37 @C1_td37)
theorem B38 : type_of% (And.intro @C1_ti38 @C1_td38) := (And.intro @C1_ti38 @C1_td38)
theorem B39 : type_of% (And.intro @C1_ti39 @C1_td39) := (And.intro @C1_ti39 @C1_td39)
theorem B40 : type_of% (And.intro @C1_ti40 @C1_td40) := (And.intro @C1_ti40 @C1_td40)
theorem B41 : type_of% (And.intro @C1_ti41 @C1_td41) := (And.intro @C1_ti41 @C1_td41)
theorem B42 : type_of% (And.intro @C1_ti42 @C1_td42) := (And.intro @C1_ti42 @C1_td42)
theorem B43 : type_of% (And.intro @C1_ti43 @C1_td43) := (And.intro @C1_ti43 @C1_td43)
theorem B45 : type_of% (And.intro @C1_ti45 @C1_td45) := (And.intro @C1_ti45 @C1_td45)
theorem B46 : type_of% (And.intro @C1_ti46 @C1_td46) := (And.intro @C1_ti46 @C1_td46)
theorem B47 : type_of% (And.intro @C1_ti47 @C1_td47) := (And.intro @C1_ti47 @C1_td47)
theorem B48 : type_of% (And.intro @C1_ti48 @C1_td48) := (And.intro @C1_ti48 @C1_td48)
theorem B49 : type_of% (And.intro @C1_ti49 @C1_td49) := (And.intro @C1_ti49 @C1_td49)
theorem B50 : type_of% (And.intro @C1_ti50 @C1_td50) := (And.intro @C1_ti50 @C1_td50)
theorem B51 : type_of% (And.intro @C1_ti51 @C1_td51) := (And.intro @C1_ti51 @C1_td51)
theorem B52 : type_of% (And.intro @C1_ti52 (And.intro @C1_td52 (And.intro @C1_fld52_0 (And.intro @C1_fld52_1 (And.intro @C1_fld52_2 (And.intro @C1_fld52_3 @C1_fld52_4)))))) := (And.intro @C1_ti52 (And.intro @C1_td52 (And.intro @C1_fld52_0 (And.intro @C1_fld52_1 (And.intro @C1_fld52_2 (And.intro @C1_fld52_3 @C1_fld52_4))))))
theorem B53 : type_of% (And.intro @C1_ti53 (And.intro @C1_td53 (And.intro @C1_fld53_0 (And.intro @C1_fld53_1 (And.intro @C1_fld53_2 (And.intro @C1_fld53_3 (And.intro @C1_fld53_4 @C1_fit53))))))) := (And.intro @C1_ti53 (And.intro @C1_td53 (And.intro @C1_fld53_0 (And.intro @C1_fld53_1 (And.intro @C1_fld53_2 (And.intro @C1_fld53_3 (And.intro @C1_fld53_4 @C1_fit53)))))))
theorem B54 : type_of% (And.intro @C1_ti54 (And.intro @C1_td54 (And.intro @C1_fld54_0 @C1_fld54_1))) := (And.intro @C1_ti54 (And.intro @C1_td54 (And.intro @C1_fld54_0 @C1_fld54_1)))
theorem B55 : type_of% (And.intro @C1_ti55 (And.intro @C1_td55 (And.intro @C1_fld55_0 (And.intro @C1_fld55_1 @C1_fit55)))) := (And.intro @C1_ti55 (And.intro @C1_td55 (And.intro @C1_fld55_0 (And.intro @C1_fld55_1 @C1_fit55))))
theorem B56 : type_of% (And.intro @C1_ti56 @C1_td56) := (And.intro @C1_ti56 @C1_td56)
theorem B57 : type_of% (And.intro @C1_ti57 @C1_td57) := (And.intro @C1_ti57 @C1_td57)
theorem B58 : type_of% (And.intro @C1_ti58 @C1_td58) := (And.intro @C1_ti58 @C1_td58)
theorem B59 : type_of% (And.intro @C1_ti59 @C1_td59) := (And.intro @C1_ti59 @C1_td59)
theorem B60 : type_of% (And.intro @C1_ti60 (And.intro @C1_td60 @C1_fld60_0)) := (And.intro @C1_ti60 (And.intro @C1_td60 @C1_fld60_0))
theorem B61 : type_of% (And.intro @C1_ti61 (And.intro @C1_td61 @C1_fld61_0)) := (And.intro @C1_ti61 (And.intro @C1_td61 @C1_fld61_0))
theorem B62 : type_of% (And.intro @C1_ti62 @C1_td62) := (And.intro @C1_ti62 @C1_td62)
theorem B63 : type_of% (And.intro @C1_ti63 @C1_td63) := (And.intro @C1_ti63 @C1_td63)
theorem B64 : type_of% (And.intro @C1_ti64 @C1_td64) := (And.intro @C1_ti64 @C1_td64)
theorem B65 : type_of% (And.intro @C1_ti65 @C1_td65) := (And.intro @C1_ti65 @C1_td65)
theorem B66 : type_of% (And.intro @C1_ti66 @C1_td66) := (And.intro @C1_ti66 @C1_td66)
theorem B68 : type_of% (And.intro @C1_ti68 @C1_td68) := (And.intro @C1_ti68 @C1_td68)
theorem B69 : type_of% (And.intro @C1_ti69 (And.intro @C1_td69 @C1_fit69)) := (And.intro @C1_ti69 (And.intro @C1_td69 @C1_fit69))
theorem B70 : type_of% (And.intro @C1_ti70 (And.intro @C1_td70 (And.intro @C1_fld70_0 (And.intro @C1_fld70_1 (And.intro @C1_fld70_2 (And.intro @C1_fld70_3 (And.intro @C1_fld70_4 @C1_fld70_5))))))) := (And.intro @C1_ti70 (And.intro @C1_td70 (And.intro @C1_fld70_0 (And.intro @C1_fld70_1 (And.intro @C1_fld70_2 (And.intro @C1_fld70_3 (And.intro @C1_fld70_4 @C1_fld70_5)))))))
theorem B71 : type_of% (And.intro @C1_ti71 (And.intro @C1_td71 (And.intro @C1_fld71_0 (And.intro @C1_fld71_1 (And.intro @C1_fld71_2 (And.intro @C1_fld71_3 (And.intro @C1_fld71_4 (And.intro @C1_fld71_5 @C1_fit71)))))))) := (And.intro @C1_ti71 (And.intro @C1_td71 (And.intro @C1_fld71_0 (And.intro @C1_fld71_1 (And.intro @C1_fld71_2 (And.intro @C1_fld71_3 (And.intro @C1_fld71_4 (And.intro @C1_fld71_5 @C1_fit71))))))))
theorem B72 : type_of% (And.intro @C1_ti72 @C1_td72) := (And.intro @C1_ti72 @C1_td72)
theorem B73 : type_of% (And.intro @C1_ti73 (And.intro @C1_td73 (And.intro @C1_fld73_0 (And.intro @C1_fld73_1 (And.intro @C1_fld73_2 @C1_fld73_3))))) := (And.intro @C1_ti73 (And.intro @C1_td73 (And.intro @C1_fld73_0 (And.intro @C1_fld73_1 (And.intro @C1_fld73_2 @C1_fld73_3)))))
theorem B74 : type_of% (And.intro @C1_ti74 (And.intro @C1_td74 (And.intro @C1_fld74_0 (And.intro @C1_fld74_1 (And.intro @C1_fld74_2 (And.intro @C1_fld74_3 @C1_fit74)))))) := (And.intro @C1_ti74 (And.intro @C1_td74 (And.intro @C1_fld74_0 (And.intro @C1_fld74_1 (And.intro @C1_fld74_2 (And.intro @C1_fld74_3 @C1_fit74))))))
theorem B75 : type_of% (And.intro @C1_ti75 (And.intro @C1_td75 (And.intro @C1_fld75_0 (And.intro @C1_fld75_1 @C1_fld75_2)))) := (And.intro @C1_ti75 (And.intro @C1_td75 (And.intro @C1_fld75_0 (And.intro @C1_fld75_1 @C1_fld75_2))))
theorem B76 : type_of% (And.intro @C1_ti76 (And.intro @C1_td76 (And.intro @C1_fld76_0 (And.intro @C1_fld76_1 (And.intro @C1_fld76_2 @C1_fit76))))) := (And.intro @C1_ti76 (And.intro @C1_td76 (And.intro @C1_fld76_0 (And.intro @C1_fld76_1 (And.intro @C1_fld76_2 @C1_fit76)))))
theorem B78 : type_of% (And.intro @C1_ti78 @C1_td78) := (And.intro @C1_ti78 @C1_td78)
theorem B79 : type_of% (And.intro @C1_ti79 @C1_td79) := (And.intro @C1_ti79 @C1_td79)
theorem B80 : type_of% (And.intro @C1_ti80 @C1_td80) := (And.intro @C1_ti80 @C1_td80)
theorem B82 : type_of% (And.intro @C1_ti82 @C1_td82) := (And.intro @C1_ti82 @C1_td82)
theorem B83 : type_of% (And.intro @C1_ti83 @C1_td83) := (And.intro @C1_ti83 @C1_td83)
theorem B84 : type_of% (And.intro @C1_ti84 @C1_td84) := (And.intro @C1_ti84 @C1_td84)
theorem B85 : type_of% (And.intro @C1_ti85 @C1_td85) := (And.intro @C1_ti85 @C1_td85)
theorem B87 : type_of% (And.intro @C1_ti87 @C1_td87) := (And.intro @C1_ti87 @C1_td87)
theorem B88 : type_of% (And.intro @C1_ti88 @C1_td88) := (And.intro @C1_ti88 @C1_td88)
theorem B89 : type_of% (And.intro @C1_ti89 @C1_td89) := (And.intro @C1_ti89 @C1_td89)
theorem B91 : type_of% (And.intro @C1_ti91 @C1_td91) := (And.intro @C1_ti91 @C1_td91)
theorem B92 : type_of% (And.intro @C1_ti92 @C1_td92) := (And.intro @C1_ti92 @C1_td92)
theorem B93 : type_of% (And.intro @C1_ti93 @C1_td93) := (And.intro @C1_ti93 @C1_td93)
theorem B94 : type_of% (And.intro @C1_ti94 @C1_td94) := (And.intro @C1_ti94 @C1_td94)
theorem B95 : type_of% (And.intro @C1_ti95 @C1_td95) := (And.intro @C1_ti95 @C1_td95)
theorem B96 : type_of% (And.intro @C1_ti96 @C1_td96) := (And.intro @C1_ti96 @C1_td96)
theorem B97 : type_of% (And.intro @C1_ti97 @C1_td97) := (And.intro @C1_ti97 @C1_td97)
theorem B98 : type_of% (And.intro @C1_ti98 @C1_td98) := (And.intro @C1_ti98 @C1_td98)
theorem B99 : type_of% (And.intro @C1_ti99 @C1_td99) := (And.intro @C1_ti99 @C1_td99)
theorem B100 : type_of% (And.intro @C1_ti100 @C1_td100) := (And.intro @C1_ti100 @C1_td100)
theorem B101 : type_of% (And.intro @C1_ti101 @C1_td101) := (And.intro @C1_ti101 @C1_td101)
theorem B102 : type_of% (And.intro @C1_ti102 @C1_td102) := (And.intro @C1_ti102 @C1_td102)
theorem B103 : type_of% (And.intro @C1_ti103 @C1_td103) := (And.intro @C1_ti103 @C1_td103)
theorem B104 : type_of% (And.intro @C1_ti104 @C1_td104) := (And.intro @C1_ti104 @C1_td104)
theorem B105 : type_of% (And.intro @C1_ti105 @C1_td105) := (And.intro @C1_ti105 @C1_td105)
theorem B106 : type_of% (And.intro @C1_ti106 @C1_td106) := (And.intro @C1_ti106 @C1_td106)
theorem B109 : type_of% (And.intro @C1_ti109 @C1_td109) := (And.intro @C1_ti109 @C1_td109)
theorem B112 : type_of% (And.intro @C1_ti112 @C1_td112) := (And.intro @C1_ti112 @C1_td112)
theorem B113 : type_of% (And.intro @C1_ti113 (And.intro @C1_td113 @C1_fit113)) := (And.intro @C1_ti113 (And.intro @C1_td113 @C1_fit113))
theorem B114 : type_of% (And.intro @C1_ti114 (And.intro @C1_td114 @C1_fit114)) := (And.intro @C1_ti114 (And.intro @C1_td114 @C1_fit114))
theorem B115 : type_of% (And.intro @C1_ti115 (And.intro @C1_td115 @C1_fit115)) := (And.intro @C1_ti115 (And.intro @C1_td115 @C1_fit115))
theorem B116 : type_of% (And.intro @C1_ti116 @C1_td116) := (And.intro @C1_ti116 @C1_td116)
theorem B117 : type_of% (And.intro @C1_ti117 @C1_td117) := (And.intro @C1_ti117 @C1_td117)
theorem B118 : type_of% (And.intro @C1_ti118 (And.intro @C1_td118 @C1_fit118)) := (And.intro @C1_ti118 (And.intro @C1_td118 @C1_fit118))
theorem B119 : type_of% (And.intro @C1_ti119 (And.intro @C1_td119 @C1_fit119)) := (And.intro @C1_ti119 (And.intro @C1_td119 @C1_fit119))
theorem B120 : type_of% (And.intro @C1_ti120 (And.intro @C1_td120 (And.intro @C1_fld120_0 (And.intro @C1_fld120_1 (And.intro @C1_fld120_2 (And.intro @C1_fld120_3 (And.intro @C1_fld120_4 (And.intro @C1_fld120_5 (And.intro @C1_fld120_6 (And.intro @C1_fld120_7 (And.intro @C1_fld120_8 (And.intro @C1_fld120_9 @C1_fld120_10)))))))))))) := (And.intro @C1_ti120 (And.intro @C1_td120 (And.intro @C1_fld120_0 (And.intro @C1_fld120_1 (And.intro @C1_fld120_2 (And.intro @C1_fld120_3 (And.intro @C1_fld120_4 (And.intro @C1_fld120_5 (And.intro @C1_fld120_6 (And.intro @C1_fld120_7 (And.intro @C1_fld120_8 (And.intro @C1_fld120_9 @C1_fld120_10))))))))))))
theorem B121 : type_of% (And.intro @C1_ti121 (And.intro @C1_td121 (And.intro @C1_fld121_0 (And.intro @C1_fld121_1 (And.intro @C1_fld121_2 (And.intro @C1_fld121_3 (And.intro @C1_fld121_4 (And.intro @C1_fld121_5 (And.intro @C1_fld121_6 (And.intro @C1_fld121_7 (And.intro @C1_fld121_8 (And.intro @C1_fld121_9 @C1_fld121_10)))))))))))) := (And.intro @C1_ti121 (And.intro @C1_td121 (And.intro @C1_fld121_0 (And.intro @C1_fld121_1 (And.intro @C1_fld121_2 (And.intro @C1_fld121_3 (And.intro @C1_fld121_4 (And.intro @C1_fld121_5 (And.intro @C1_fld121_6 (And.intro @C1_fld121_7 (And.intro @C1_fld121_8 (And.intro @C1_fld121_9 @C1_fld121_10))))))))))))
end Go.AE
end
section
/- The tables' contracts. -/
namespace Go.AE
open Go.Proofs
set_option maxRecDepth 20000
set_option linter.unusedSimpArgs false
theorem classes_spec : Spec Try.prog 27 [] (.own 74 4 10 (classes.flatMap classC)) := by
  refine spec_mk (z := false) (ts := [.tmp 0]) ok1 Try.func27 rfl rfl (by decide +kernel) (by simp [Try.ntmps27]) rfl ?_
  repeat' first | simp (maxSteps := 4000000) (disch := omega) only [bunD, bun, ↓WG_true, ↓WG_false, labelOf, findLabel, Nat.reduceEqDiff, ↓reduceIte, imp, shift, killO, cond_true, cond_false, Nat.reduceBEq, hasId, Nat.reduceAdd, Nat.reduceMul, Nat.reduceSub, Nat.reduceLeDiff, reduceCtorEq, Int.reduceNe, Int.reduceLE, Int.reduceEq, ne_eq, Int.reducePow, Int.reduceAdd, Int.reduceSub, Int.reduceMul, unown, names, plainR, Int.reduceBEq, Int.reduceLT, Int.reduceGT, Int.reduceGE, Int.reduceBNe, below, noF, isF, lendObs, lendOb, kindOk, ren, givL, updM, backO, renO, belowM, B3, B21, B25, B74, bunN, wrap8, wrap32, wrap64] | refine DR_q _ ?_ | ((first | refine WG_mk ?_ ?_ | refine CD_mk ?_ ?_ | refine GD_mk ?_ ?_ | refine GQ_mk ?_ ?_ | refine PK_mk ?_ ?_) <;> intro hg <;> (try simp only [hg]) <;> (try simp only [bunB, ne_eq] at hg) <;> first | (exfalso; omega) | (exfalso; exact Bool.noConfusion hg) | (exfalso; exact hg trivial) | skip) | refine And.intro (by omega) ?_ | omega
  all_goals rfl
theorem lowers_spec : Spec Try.prog 28 [] (.own 76 3 11 (lowers.flatMap lowerC)) := by
  refine spec_mk (z := false) (ts := [.tmp 0]) ok1 Try.func28 rfl rfl (by decide +kernel) (by simp [Try.ntmps28]) rfl ?_
  repeat' first | simp (maxSteps := 4000000) (disch := omega) only [bunD, bun, ↓WG_true, ↓WG_false, labelOf, findLabel, Nat.reduceEqDiff, ↓reduceIte, imp, shift, killO, cond_true, cond_false, Nat.reduceBEq, hasId, Nat.reduceAdd, Nat.reduceMul, Nat.reduceSub, Nat.reduceLeDiff, reduceCtorEq, Int.reduceNe, Int.reduceLE, Int.reduceEq, ne_eq, Int.reducePow, Int.reduceAdd, Int.reduceSub, Int.reduceMul, unown, names, plainR, Int.reduceBEq, Int.reduceLT, Int.reduceGT, Int.reduceGE, Int.reduceBNe, below, noF, isF, lendObs, lendOb, kindOk, ren, givL, updM, backO, renO, belowM, B21, B26, B76, bunN, wrap8, wrap32, wrap64] | refine DR_q _ ?_ | ((first | refine WG_mk ?_ ?_ | refine CD_mk ?_ ?_ | refine GD_mk ?_ ?_ | refine GQ_mk ?_ ?_ | refine PK_mk ?_ ?_) <;> intro hg <;> (try simp only [hg]) <;> (try simp only [bunB, ne_eq] at hg) <;> first | (exfalso; omega) | (exfalso; exact Bool.noConfusion hg) | (exfalso; exact hg trivial) | skip) | refine And.intro (by omega) ?_ | omega
  all_goals rfl
theorem splits_spec : Spec Try.prog 29 [] (.own 53 5 42 (splits.flatMap splitC)) := by
  refine spec_mk (z := false) (ts := [.tmp 0]) ok1 Try.func29 rfl rfl (by decide +kernel) (by simp [Try.ntmps29]) rfl ?_
  repeat' first | simp (maxSteps := 4000000) (disch := omega) only [bunD, bun, ↓WG_true, ↓WG_false, labelOf, findLabel, Nat.reduceEqDiff, ↓reduceIte, imp, shift, killO, cond_true, cond_false, Nat.reduceBEq, hasId, Nat.reduceAdd, Nat.reduceMul, Nat.reduceSub, Nat.reduceLeDiff, reduceCtorEq, Int.reduceNe, Int.reduceLE, Int.reduceEq, ne_eq, Int.reducePow, Int.reduceAdd, Int.reduceSub, Int.reduceMul, unown, names, plainR, Int.reduceBEq, Int.reduceLT, Int.reduceGT, Int.reduceGE, Int.reduceBNe, below, noF, isF, lendObs, lendOb, kindOk, ren, givL, updM, backO, renO, belowM, B4, B21, B50, B53, bunN, wrap8, wrap32, wrap64] | refine DR_q _ ?_ | ((first | refine WG_mk ?_ ?_ | refine CD_mk ?_ ?_ | refine GD_mk ?_ ?_ | refine GQ_mk ?_ ?_ | refine PK_mk ?_ ?_) <;> intro hg <;> (try simp only [hg]) <;> (try simp only [bunB, ne_eq] at hg) <;> first | (exfalso; omega) | (exfalso; exact Bool.noConfusion hg) | (exfalso; exact hg trivial) | skip) | refine And.intro (by omega) ?_ | omega
  all_goals rfl
theorem ranges_spec : Spec Try.prog 26 [] (.own 71 6 74 (ranges.flatMap rangeC)) := by
  refine spec_mk (z := false) (ts := [.tmp 0]) ok1 Try.func26 rfl rfl (by decide +kernel) (by simp [Try.ntmps26]) rfl ?_
  repeat' first | simp (maxSteps := 4000000) (disch := omega) only [bunD, bun, ↓WG_true, ↓WG_false, labelOf, findLabel, Nat.reduceEqDiff, ↓reduceIte, imp, shift, killO, cond_true, cond_false, Nat.reduceBEq, hasId, Nat.reduceAdd, Nat.reduceMul, Nat.reduceSub, Nat.reduceLeDiff, reduceCtorEq, Int.reduceNe, Int.reduceLE, Int.reduceEq, ne_eq, Int.reducePow, Int.reduceAdd, Int.reduceSub, Int.reduceMul, unown, names, plainR, Int.reduceBEq, Int.reduceLT, Int.reduceGT, Int.reduceGE, Int.reduceBNe, below, noF, isF, lendObs, lendOb, kindOk, ren, givL, updM, backO, renO, belowM, B3, B21, B24, B71, bunN, wrap8, wrap32, wrap64] | refine DR_q _ ?_ | ((first | refine WG_mk ?_ ?_ | refine CD_mk ?_ ?_ | refine GD_mk ?_ ?_ | refine GQ_mk ?_ ?_ | refine PK_mk ?_ ?_) <;> intro hg <;> (try simp only [hg]) <;> (try simp only [bunB, ne_eq] at hg) <;> first | (exfalso; omega) | (exfalso; exact Bool.noConfusion hg) | (exfalso; exact hg trivial) | skip) | refine And.intro (by omega) ?_ | omega
  all_goals rfl
end Go.AE
end
section
/- The table. -/
namespace Go.AE
open Go.Proofs
set_option maxRecDepth 20000
set_option linter.unusedSimpArgs false
def tabC (es ps : List (Value × AV)) : List AV := [.sl 74 (ranges.flatMap rangeC), .sl 10 (classes.flatMap classC), .sl 11 (lowers.flatMap lowerC), .mp es, .mp ps]
def sM (i : Nat) : List (Value × AV) := (splits.take i).foldl (fun m s => mput (.int .i32 s.1) (.ag (splitC s)) m) []
def pM (i : Nat) : List (Value × AV) := (splits.take i).foldl (fun m s => match s.2.2.2.1 || s.2.2.2.2 with | true => m | false => mput (.agg #[.int .i32 s.2.1, .int .i32 s.2.2.1]) (.v (.int .i32 s.1)) m) []
theorem sM_succ {i : Nat} (h : i < 42) : sM (i + 1) = mput (.int .i32 (splits.getD i split0).1) (.ag (splitC (splits.getD i split0))) (sM i) := by
  unfold sM
  rw [take_succ_getD _ i split0 (by rw [spl_len]; exact h), List.foldl_append]; rfl
theorem pM_succ {i : Nat} (h : i < 42) : pM (i + 1) = match (splits.getD i split0).2.2.2.1 || (splits.getD i split0).2.2.2.2 with | true => pM i | false => mput (.agg #[.int .i32 (splits.getD i split0).2.1, .int .i32 (splits.getD i split0).2.2.1]) (.v (.int .i32 (splits.getD i split0).1)) (pM i) := by
  unfold pM
  rw [take_succ_getD _ i split0 (by rw [spl_len]; exact h), List.foldl_append]; rfl
theorem mput_keys {Q : Value → Prop} {k : Value} {x : AV} (hk : Q k) : ∀ {es : List (Value × AV)}, (∀ e ∈ es, Q e.1) → ∀ e ∈ mput k x es, Q e.1
  | [], _, e, he => by simp only [mput, List.mem_singleton] at he; subst he; exact hk
  | (k', y) :: l, h, e, he => by
    simp only [mput] at he
    split at he
    · rcases List.mem_cons.1 he with rfl | he
      · exact hk
      · exact h e (by simp [he])
    · rcases List.mem_cons.1 he with rfl | he
      · exact h _ (by simp)
      · exact mput_keys hk (fun e he => h e (by simp [he])) e he
theorem sM_fit (i : Nat) : (∀ e ∈ sM i, fitsK C1 21 e.1 = true) = True := by
  refine eq_true ?_
  unfold sM
  have : ∀ (l : List SplitT) (m : List (Value × AV)), (∀ e ∈ m, fitsK C1 21 e.1 = true) → ∀ e ∈ l.foldl (fun m s => mput (.int .i32 s.1) (.ag (splitC s)) m) m, fitsK C1 21 e.1 = true := by
    intro l
    induction l with
    | nil => intro m h; exact h
    | cons a l ih => intro m h; exact ih _ (mput_keys (Q := fun v => fitsK C1 21 v = true) rfl h)
  exact this _ _ (by simp)
theorem pM_fit (i : Nat) : (∀ e ∈ pM i, fitsK C1 55 e.1 = true) = True := by
  refine eq_true ?_
  unfold pM
  have : ∀ (l : List SplitT) (m : List (Value × AV)), (∀ e ∈ m, fitsK C1 55 e.1 = true) → ∀ e ∈ l.foldl (fun m s => match s.2.2.2.1 || s.2.2.2.2 with | true => m | false => mput (.agg #[.int .i32 s.2.1, .int .i32 s.2.2.1]) (.v (.int .i32 s.1)) m) m, fitsK C1 55 e.1 = true := by
    intro l
    induction l with
    | nil => intro m h; exact h
    | cons a l ih =>
      intro m h
      refine ih _ ?_
      show ∀ e ∈ (match a.2.2.2.1 || a.2.2.2.2 with | true => m | false => mput (.agg #[.int .i32 a.2.1, .int .i32 a.2.2.1]) (.v (.int .i32 a.1)) m), _
      split
      · exact h
      · exact mput_keys (Q := fun v => fitsK C1 55 v = true) rfl h
  exact this _ _ (by simp)
def newS (i : Nat) : St := ⟨[(0, .ptr 0 0), (1, .ptr 6 0), (10, .ref 7 0 42), (11, I64 42), (12, I64 i)],
  [.row true 1 [.v (.slice none 0 0), .v (.slice none 0 0), .v (.slice none 0 0), .v (.map none), .v (.map none)], .arr 71 6 (ranges.flatMap rangeC), .arr 74 4 (classes.flatMap classC), .arr 76 3 (lowers.flatMap lowerC),
   .mp (sM i), .mp (pM i), .row true 1 [.ref 1 0 74, .ref 2 0 10, .ref 3 0 11, .mr 4, .mr 5], .arr 53 5 (splits.flatMap splitC)]⟩
theorem new_spec : Spec Try.prog 9 [] (.ag (tabC (sM 42) (pM 42))) := by
  refine spec_mk (z := true) (ts := [.cell 0 30]) ok1 Try.func9 rfl rfl (by decide +kernel) (by simp [Try.ntmps9]) rfl ?_
  repeat' first | refine WE_fit (ranges_spec) ?_ ?_ | refine WE_fit (classes_spec) ?_ ?_ | refine WE_fit (lowers_spec) ?_ ?_ | refine WE_fit (splits_spec) ?_ ?_ | simp (maxSteps := 4000000) (disch := omega) only [bunD, bun, ↓WG_true, ↓WG_false, labelOf, findLabel, Nat.reduceEqDiff, ↓reduceIte, imp, shift, killO, cond_true, cond_false, Nat.reduceBEq, hasId, Nat.reduceAdd, Nat.reduceMul, Nat.reduceSub, Nat.reduceLeDiff, reduceCtorEq, Int.reduceNe, Int.reduceLE, Int.reduceEq, ne_eq, Int.reducePow, Int.reduceAdd, Int.reduceSub, Int.reduceMul, unown, names, plainR, Int.reduceBEq, Int.reduceLT, Int.reduceGT, Int.reduceGE, Int.reduceBNe, below, noF, isF, lendObs, lendOb, kindOk, ren, givL, updM, backO, renO, belowM, B3, B4, B21, B24, B25, B26, B27, B28, B30, B50, B53, B55, B71, B74, B76, bunN, wrap8, wrap32, wrap64, splitC, spl_take, sM_fit, pM_fit, Bool.not_true, Bool.not_false] | exact NK_no _ | refine NK_cl _ _ ?_ | exact clean_v _ | exact clean_u8 _ _ _ _ | exact clean_i32 _ _ _ _ | exact clean_str _ _ _ _ | refine clean_tup _ ?_ | refine clean_ag _ ?_ | exact cleans_nil | refine cleans_cons _ _ ?_ ?_ | refine DR_q _ ?_ | ((first | refine WG_mk ?_ ?_ | refine CD_mk ?_ ?_ | refine GD_mk ?_ ?_ | refine GQ_mk ?_ ?_ | refine PK_mk ?_ ?_) <;> intro hg <;> (try simp only [hg]) <;> (try simp only [bunB, ne_eq] at hg) <;> first | (exfalso; omega) | (exfalso; exact Bool.noConfusion hg) | (exfalso; exact hg trivial) | skip) | refine And.intro (by omega) ?_ | omega
  refine LP_intro newS (fun i => i ≤ 42) (fun i => 42 - i) 0 (by omega) ?_ ?_
  · (simp (disch := omega) [wk, wkT, wkM, noF, isF, get, belowT, belowM, below, belows, I64, I32, Bv, U8, Sv, newS, sM, pM, splits] <;> try omega)
  intro i hi
  unfold newS
  repeat' first | simp (maxSteps := 4000000) (disch := omega) only [bunD, bun, ↓WG_true, ↓WG_false, labelOf, findLabel, Nat.reduceEqDiff, ↓reduceIte, imp, shift, killO, cond_true, cond_false, Nat.reduceBEq, hasId, Nat.reduceAdd, Nat.reduceMul, Nat.reduceSub, Nat.reduceLeDiff, reduceCtorEq, Int.reduceNe, Int.reduceLE, Int.reduceEq, ne_eq, Int.reducePow, Int.reduceAdd, Int.reduceSub, Int.reduceMul, unown, names, plainR, Int.reduceBEq, Int.reduceLT, Int.reduceGT, Int.reduceGE, Int.reduceBNe, below, noF, isF, lendObs, lendOb, kindOk, ren, givL, updM, backO, renO, belowM, spl_flen, B3, B4, B21, B24, B25, B26, B27, B28, B30, B50, B53, B55, B71, B74, B76, bunN, wrap8, wrap32, wrap64, splitC, spl_take, sM_fit, pM_fit, Bool.not_true, Bool.not_false] | refine DR_q _ ?_ | ((first | refine WG_mk ?_ ?_ | refine CD_mk ?_ ?_ | refine GD_mk ?_ ?_ | refine GQ_mk ?_ ?_ | refine PK_mk ?_ ?_) <;> intro hg <;> (try simp only [hg]) <;> (try simp only [bunB, ne_eq] at hg) <;> first | (exfalso; omega) | (exfalso; exact Bool.noConfusion hg) | (exfalso; exact hg trivial) | skip) | refine And.intro (by omega) ?_ | omega
  · refine ⟨i + 1, by omega, by omega, ?_⟩
    have h5 : (splits.getD i split0).2.2.2.1 = false := by assumption
    have h6 : (splits.getD i split0).2.2.2.2 = false := by assumption
    have e1 := sM_succ (i := i) (by omega)
    have e2 := pM_succ (i := i) (by omega)
    rw [h5, h6] at e2
    generalize splits.getD i split0 = x at *
    (simp (disch := omega) [wk, wkT, wkM, noF, isF, get, belowT, belowM, below, belows, I64, I32, Bv, U8, Sv, newS, e1, e2, splitC] <;> try omega)
  · refine ⟨i + 1, by omega, by omega, ?_⟩
    have h5 : (splits.getD i split0).2.2.2.1 = false := by assumption
    have h6 : (splits.getD i split0).2.2.2.2 = true := by assumption
    have e1 := sM_succ (i := i) (by omega)
    have e2 := pM_succ (i := i) (by omega)
    rw [h5, h6] at e2
    generalize splits.getD i split0 = x at *
    (simp (disch := omega) [wk, wkT, wkM, noF, isF, get, belowT, belowM, below, belows, I64, I32, Bv, U8, Sv, newS, e1, e2, splitC] <;> try omega)
  · refine ⟨i + 1, by omega, by omega, ?_⟩
    have h5 : (splits.getD i split0).2.2.2.1 = true := by assumption
    have e1 := sM_succ (i := i) (by omega)
    have e2 := pM_succ (i := i) (by omega)
    rw [h5] at e2
    generalize splits.getD i split0 = x at *
    (simp (disch := omega) [wk, wkT, wkM, noF, isF, get, belowT, belowM, below, belows, I64, I32, Bv, U8, Sv, newS, e1, e2, splitC] <;> try omega)
  · have : i = 42 := by omega
    subst this
    rw [List.take_of_length_le (by rw [rows_len (k := 6) _ (fun _ => rfl)]; decide), List.take_of_length_le (by rw [rows_len (k := 4) _ (fun _ => rfl)]; decide), List.take_of_length_le (by rw [rows_len (k := 3) _ (fun _ => rfl)]; decide)]
    rfl
end Go.AE
end
section
/- What is read of the table: the program's functions. -/
namespace Go.AE
open Go.Proofs
set_option maxRecDepth 20000
set_option linter.unusedSimpArgs false
def tab : AV := .ag (tabC (sM 42) (pM 42))
/-- How a range stands to a character. -/
def cmpR (x : RangeT) (r : Int) : Int := if x.2.1 < r then -1 else if r < x.1 then 1 else 0
theorem cmpR_lt (x : RangeT) (r : Int) : (cmpR x r < 0) = (x.2.1 < r) := by
  unfold cmpR
  apply propext
  split
  · rename_i h; simp [h]
  · rename_i h
    split <;> simp [h] <;> omega
theorem cmpR_eq {x : RangeT} {r : Int} (h : ¬ x.2.1 < r) : (cmpR x r == 0) = decide (x.1 ≤ r) := by
  unfold cmpR; rw [if_neg h]
  split
  · rename_i h1; have : ¬ x.1 ≤ r := by omega
    simp [this]
  · rename_i h1; have : x.1 ≤ r := by omega
    simp [this]
theorem cmp_spec (x : RangeT) (r : Int) : Spec Try.prog 59 [.ag (rangeC x), I32 r] (I64 (cmpR x r)) := by
  refine spec_mk (z := false) (ts := [.tmp 4]) ok1 Try.func59 rfl rfl (by decide +kernel) (by simp [Try.ntmps59]) rfl ?_
  repeat' first | simp (maxSteps := 4000000) (disch := omega) only [bunD, bun, ↓WG_true, ↓WG_false, labelOf, findLabel, Nat.reduceEqDiff, ↓reduceIte, imp, shift, killO, cond_true, cond_false, Nat.reduceBEq, hasId, Nat.reduceAdd, Nat.reduceMul, Nat.reduceSub, Nat.reduceLeDiff, reduceCtorEq, Int.reduceNe, Int.reduceLE, Int.reduceEq, ne_eq, Int.reducePow, Int.reduceAdd, Int.reduceSub, Int.reduceMul, unown, names, plainR, Int.reduceBEq, Int.reduceLT, Int.reduceGT, Int.reduceGE, Int.reduceBNe, below, noF, isF, lendObs, lendOb, kindOk, ren, givL, updM, backO, renO, belowM, B3, B4, B21, B71, bunN, tabC, ran_flen, cla_flen, low_flen, spl_flen, ran_take, cla_take, low_take, spl_take, ran_n0, ran_n1, cla_n0, cla_n1, cla_n2, cla_n3, low_n0, low_n1, low_n2, spl_n0, spl_n1, spl_n2, spl_n3, spl_n4, rangeC, classC, lowerC, splitC] | refine DR_q _ ?_ | ((first | refine WG_mk ?_ ?_ | refine CD_mk ?_ ?_ | refine GD_mk ?_ ?_ | refine GQ_mk ?_ ?_ | refine PK_mk ?_ ?_) <;> intro hg <;> (try simp only [hg]) <;> (try simp only [bunB, ne_eq, rangeP, classP, lowerP, splitP, pairP, cmpR_lt] at hg) <;> first | (exfalso; omega) | (exfalso; exact Bool.noConfusion hg) | (exfalso; exact hg trivial) | skip) | refine And.intro (by omega) ?_ | omega
  all_goals (simp only [cmpR]; congr 2; repeat' split) <;> first | rfl | omega
theorem search_spec (r : Int) : Spec Try.prog 58 [.sl 74 (ranges.flatMap rangeC), I32 r, .fn 59 [] []] (.tup [I64 (lb r ranges), Bv (inR r)]) := by
  refine spec_mk (z := false) (ts := [.tmp 6, .tmp 7]) ok1 Try.func58 rfl rfl (by decide +kernel) (by simp [Try.ntmps58]) rfl ?_
  have hlb := lb_le r ranges
  rw [ran_len] at hlb
  repeat' first | refine WE_fit (cmp_spec _ _) ?_ ?_ | simp (maxSteps := 4000000) (disch := omega) only [bunD, bun, ↓WG_true, ↓WG_false, labelOf, findLabel, Nat.reduceEqDiff, ↓reduceIte, imp, shift, killO, cond_true, cond_false, Nat.reduceBEq, hasId, Nat.reduceAdd, Nat.reduceMul, Nat.reduceSub, Nat.reduceLeDiff, reduceCtorEq, Int.reduceNe, Int.reduceLE, Int.reduceEq, ne_eq, Int.reducePow, Int.reduceAdd, Int.reduceSub, Int.reduceMul, unown, names, plainR, Int.reduceBEq, Int.reduceLT, Int.reduceGT, Int.reduceGE, Int.reduceBNe, below, noF, isF, lendObs, lendOb, kindOk, ren, givL, updM, backO, renO, belowM, B3, B4, B21, B24, B69, B71, B88, bunN, tabC, ran_flen, cla_flen, low_flen, spl_flen, ran_take, cla_take, low_take, spl_take, ran_n0, ran_n1, cla_n0, cla_n1, cla_n2, cla_n3, low_n0, low_n1, low_n2, spl_n0, spl_n1, spl_n2, spl_n3, spl_n4, rangeC, classC, lowerC, splitC] | exact NK_no _ | refine NK_cl _ _ ?_ | exact clean_v _ | exact clean_u8 _ _ _ _ | exact clean_i32 _ _ _ _ | exact clean_str _ _ _ _ | refine clean_tup _ ?_ | refine clean_ag _ ?_ | exact cleans_nil | refine cleans_cons _ _ ?_ ?_ | refine DR_q _ ?_ | ((first | refine WG_mk ?_ ?_ | refine CD_mk ?_ ?_ | refine GD_mk ?_ ?_ | refine GQ_mk ?_ ?_ | refine PK_mk ?_ ?_) <;> intro hg <;> (try simp only [hg]) <;> (try simp only [bunB, ne_eq, rangeP, classP, lowerP, splitP, pairP, cmpR_lt] at hg) <;> first | (exfalso; omega) | (exfalso; exact Bool.noConfusion hg) | (exfalso; exact hg trivial) | skip) | refine And.intro (by omega) ?_ | omega
  refine LP_intro (fun p : Nat × Nat => ⟨[(0, .sl 74 (ranges.flatMap rangeC)), (1, I32 r), (2, .fn 59 [] []), (8, I64 74), (9, I64 p.1), (10, I64 p.2)], []⟩) (fun p => p.1 ≤ lb r ranges ∧ lb r ranges ≤ p.2 ∧ p.2 ≤ 74) (fun p => p.2 - p.1) (0, 74) (by simp; omega) (by simp [wk, wkT, wkM, noF, isF, get, belowT, belowM, below, belows, I64, I32, Bv, U8, Sv] <;> try omega) ?_
  rintro ⟨i, j⟩ ⟨h1, h2, h3⟩
  simp only at h1 h2 h3
  repeat' first | refine WE_fit (cmp_spec _ _) ?_ ?_ | simp (maxSteps := 4000000) (disch := omega) only [bunD, bun, ↓WG_true, ↓WG_false, labelOf, findLabel, Nat.reduceEqDiff, ↓reduceIte, imp, shift, killO, cond_true, cond_false, Nat.reduceBEq, hasId, Nat.reduceAdd, Nat.reduceMul, Nat.reduceSub, Nat.reduceLeDiff, reduceCtorEq, Int.reduceNe, Int.reduceLE, Int.reduceEq, ne_eq, Int.reducePow, Int.reduceAdd, Int.reduceSub, Int.reduceMul, unown, names, plainR, Int.reduceBEq, Int.reduceLT, Int.reduceGT, Int.reduceGE, Int.reduceBNe, below, noF, isF, lendObs, lendOb, kindOk, ren, givL, updM, backO, renO, belowM, B3, B4, B21, B24, B69, B71, B88, bunN, tabC, ran_flen, cla_flen, low_flen, spl_flen, ran_take, cla_take, low_take, spl_take, ran_n0, ran_n1, cla_n0, cla_n1, cla_n2, cla_n3, low_n0, low_n1, low_n2, spl_n0, spl_n1, spl_n2, spl_n3, spl_n4, rangeC, classC, lowerC, splitC] | exact NK_no _ | refine NK_cl _ _ ?_ | exact clean_v _ | exact clean_u8 _ _ _ _ | exact clean_i32 _ _ _ _ | exact clean_str _ _ _ _ | refine clean_tup _ ?_ | refine clean_ag _ ?_ | exact cleans_nil | refine cleans_cons _ _ ?_ ?_ | refine DR_q _ ?_ | ((first | refine WG_mk ?_ ?_ | refine CD_mk ?_ ?_ | refine GD_mk ?_ ?_ | refine GQ_mk ?_ ?_ | refine PK_mk ?_ ?_) <;> intro hg <;> (try simp only [hg]) <;> (try simp only [bunB, ne_eq, rangeP, classP, lowerP, splitP, pairP, cmpR_lt] at hg) <;> first | (exfalso; omega) | (exfalso; exact Bool.noConfusion hg) | (exfalso; exact hg trivial) | skip) | refine And.intro (by omega) ?_ | omega
  · have := lb_spec r ranges_rising ((↑i + ↑j : Int) / 2).toNat (by rw [ran_len]; omega)
    refine ⟨(((↑i + ↑j : Int) / 2).toNat + 1, j), ⟨by simp only; omega, by simp only; omega, h3⟩, by simp only; omega, (by simp [wk, wkT, wkM, noF, isF, get, belowT, belowM, below, belows, I64, I32, Bv, U8, Sv] <;> try omega)⟩
  · have := lb_spec r ranges_rising ((↑i + ↑j : Int) / 2).toNat (by rw [ran_len]; omega)
    refine ⟨(i, ((↑i + ↑j : Int) / 2).toNat), ⟨h1, by simp only; omega, by simp only; omega⟩, by simp only; omega, (by simp [wk, wkT, wkM, noF, isF, get, belowT, belowM, below, belows, I64, I32, Bv, U8, Sv] <;> try omega)⟩
  · have e : i = lb r ranges := by omega
    have h5 := lb_spec r ranges_rising i (by rw [ran_len]; omega)
    rw [inR_lb, ← e, cmpR_eq (by omega), decide_eq_true (show i < 74 by omega)]; rfl
  · have e : i = lb r ranges := by omega
    rw [inR_lb, ← e, decide_eq_false (show ¬ i < 74 by omega)]; rfl
end Go.AE
end
section
/- What is read of the table: the program's functions. -/
namespace Go.AE
open Go.Proofs
set_option maxRecDepth 20000
set_option linter.unusedSimpArgs false
theorem of_spec (r : Int) : Spec Try.prog 44 [tab, I32 r] (.ag (rangeC (ofR r))) := by
  refine spec_mk (z := false) (ts := [.cell 4 71]) ok1 Try.func44 rfl rfl (by decide +kernel) (by simp [Try.ntmps44]) rfl ?_
  cases hin : inR r with
  | false =>
    have h0 := inR_no hin
    repeat' first | refine WE_fit (search_spec _) ?_ ?_ | simp (maxSteps := 4000000) (disch := omega) only [bunD, bun, ↓WG_true, ↓WG_false, labelOf, findLabel, Nat.reduceEqDiff, ↓reduceIte, imp, shift, killO, cond_true, cond_false, Nat.reduceBEq, hasId, Nat.reduceAdd, Nat.reduceMul, Nat.reduceSub, Nat.reduceLeDiff, reduceCtorEq, Int.reduceNe, Int.reduceLE, Int.reduceEq, ne_eq, Int.reducePow, Int.reduceAdd, Int.reduceSub, Int.reduceMul, unown, names, plainR, Int.reduceBEq, Int.reduceLT, Int.reduceGT, Int.reduceGE, Int.reduceBNe, below, noF, isF, lendObs, lendOb, kindOk, ren, givL, updM, backO, renO, belowM, hin, h0, B3, B4, B21, B24, B25, B26, B27, B28, B30, B53, B55, B71, B74, B76, B88, bunN, tab, tabC, ran_flen, cla_flen, low_flen, spl_flen, ran_take, cla_take, low_take, spl_take, ran_n0, ran_n1, cla_n0, cla_n1, cla_n2, cla_n3, low_n0, low_n1, low_n2, spl_n0, spl_n1, spl_n2, spl_n3, spl_n4, rangeC, classC, lowerC, splitC, sM_fit, pM_fit] | exact NK_no _ | refine NK_cl _ _ ?_ | exact clean_v _ | exact clean_u8 _ _ _ _ | exact clean_i32 _ _ _ _ | exact clean_str _ _ _ _ | refine clean_tup _ ?_ | refine clean_ag _ ?_ | exact cleans_nil | refine cleans_cons _ _ ?_ ?_ | refine DR_q _ ?_ | ((first | refine WG_mk ?_ ?_ | refine CD_mk ?_ ?_ | refine GD_mk ?_ ?_ | refine GQ_mk ?_ ?_ | refine PK_mk ?_ ?_) <;> intro hg <;> (try simp only [hg]) <;> (try simp only [bunB, ne_eq, rangeP, classP, lowerP, splitP, pairP, cmpR_lt] at hg) <;> first | (exfalso; omega) | (exfalso; exact Bool.noConfusion hg) | (exfalso; exact hg trivial) | skip) | refine And.intro (by omega) ?_ | omega
    rfl
  | true =>
    obtain ⟨h1, h2⟩ := inR_yes hin
    repeat' first | refine WE_fit (search_spec _) ?_ ?_ | simp (maxSteps := 4000000) (disch := omega) only [bunD, bun, ↓WG_true, ↓WG_false, labelOf, findLabel, Nat.reduceEqDiff, ↓reduceIte, imp, shift, killO, cond_true, cond_false, Nat.reduceBEq, hasId, Nat.reduceAdd, Nat.reduceMul, Nat.reduceSub, Nat.reduceLeDiff, reduceCtorEq, Int.reduceNe, Int.reduceLE, Int.reduceEq, ne_eq, Int.reducePow, Int.reduceAdd, Int.reduceSub, Int.reduceMul, unown, names, plainR, Int.reduceBEq, Int.reduceLT, Int.reduceGT, Int.reduceGE, Int.reduceBNe, below, noF, isF, lendObs, lendOb, kindOk, ren, givL, updM, backO, renO, belowM, hin, B3, B4, B21, B24, B25, B26, B27, B28, B30, B53, B55, B71, B74, B76, B88, bunN, tab, tabC, ran_flen, cla_flen, low_flen, spl_flen, ran_take, cla_take, low_take, spl_take, ran_n0, ran_n1, cla_n0, cla_n1, cla_n2, cla_n3, low_n0, low_n1, low_n2, spl_n0, spl_n1, spl_n2, spl_n3, spl_n4, rangeC, classC, lowerC, splitC, sM_fit, pM_fit] | exact NK_no _ | refine NK_cl _ _ ?_ | exact clean_v _ | exact clean_u8 _ _ _ _ | exact clean_i32 _ _ _ _ | exact clean_str _ _ _ _ | refine clean_tup _ ?_ | refine clean_ag _ ?_ | exact cleans_nil | refine cleans_cons _ _ ?_ ?_ | refine DR_q _ ?_ | ((first | refine WG_mk ?_ ?_ | refine CD_mk ?_ ?_ | refine GD_mk ?_ ?_ | refine GQ_mk ?_ ?_ | refine PK_mk ?_ ?_) <;> intro hg <;> (try simp only [hg]) <;> (try simp only [bunB, ne_eq, rangeP, classP, lowerP, splitP, pairP, cmpR_lt] at hg) <;> first | (exfalso; omega) | (exfalso; exact Bool.noConfusion hg) | (exfalso; exact hg trivial) | skip) | refine And.intro (by omega) ?_ | omega
    rw [h2]
theorem cat_spec (r : Int) : Spec Try.prog 25 [tab, I32 r] (I64 (cat r)) := by
  refine spec_mk (z := false) (ts := [.tmp 4]) ok1 Try.func25 rfl rfl (by decide +kernel) (by simp [Try.ntmps25]) rfl ?_
  repeat' first | refine WE_fit (of_spec _) ?_ ?_ | simp (maxSteps := 4000000) (disch := omega) only [bunD, bun, ↓WG_true, ↓WG_false, labelOf, findLabel, Nat.reduceEqDiff, ↓reduceIte, imp, shift, killO, cond_true, cond_false, Nat.reduceBEq, hasId, Nat.reduceAdd, Nat.reduceMul, Nat.reduceSub, Nat.reduceLeDiff, reduceCtorEq, Int.reduceNe, Int.reduceLE, Int.reduceEq, ne_eq, Int.reducePow, Int.reduceAdd, Int.reduceSub, Int.reduceMul, unown, names, plainR, Int.reduceBEq, Int.reduceLT, Int.reduceGT, Int.reduceGE, Int.reduceBNe, below, noF, isF, lendObs, lendOb, kindOk, ren, givL, updM, backO, renO, belowM, B3, B4, B21, B24, B25, B26, B27, B28, B30, B53, B55, B71, B74, B76, bunN, tab, tabC, ran_flen, cla_flen, low_flen, spl_flen, ran_take, cla_take, low_take, spl_take, ran_n0, ran_n1, cla_n0, cla_n1, cla_n2, cla_n3, low_n0, low_n1, low_n2, spl_n0, spl_n1, spl_n2, spl_n3, spl_n4, rangeC, classC, lowerC, splitC, sM_fit, pM_fit] | exact NK_no _ | refine NK_cl _ _ ?_ | exact clean_v _ | exact clean_u8 _ _ _ _ | exact clean_i32 _ _ _ _ | exact clean_str _ _ _ _ | refine clean_tup _ ?_ | refine clean_ag _ ?_ | exact cleans_nil | refine cleans_cons _ _ ?_ ?_ | refine DR_q _ ?_ | ((first | refine WG_mk ?_ ?_ | refine CD_mk ?_ ?_ | refine GD_mk ?_ ?_ | refine GQ_mk ?_ ?_ | refine PK_mk ?_ ?_) <;> intro hg <;> (try simp only [hg]) <;> (try simp only [bunB, ne_eq, rangeP, classP, lowerP, splitP, pairP, cmpR_lt] at hg) <;> first | (exfalso; omega) | (exfalso; exact Bool.noConfusion hg) | (exfalso; exact hg trivial) | skip) | refine And.intro (by omega) ?_ | omega
  rfl
theorem clsF_spec (x : ClassT) (r : Int) : Spec Try.prog 74 [.ag (classC x), .cp [I32 r]] (Bv (classP r x)) := by
  refine spec_mk (z := false) (ts := [.tmp 3]) ok1 Try.func74 rfl rfl (by decide +kernel) (by simp [Try.ntmps74]) rfl ?_
  repeat' first | simp (maxSteps := 4000000) (disch := omega) only [bunD, bun, ↓WG_true, ↓WG_false, labelOf, findLabel, Nat.reduceEqDiff, ↓reduceIte, imp, shift, killO, cond_true, cond_false, Nat.reduceBEq, hasId, Nat.reduceAdd, Nat.reduceMul, Nat.reduceSub, Nat.reduceLeDiff, reduceCtorEq, Int.reduceNe, Int.reduceLE, Int.reduceEq, ne_eq, Int.reducePow, Int.reduceAdd, Int.reduceSub, Int.reduceMul, unown, names, plainR, Int.reduceBEq, Int.reduceLT, Int.reduceGT, Int.reduceGE, Int.reduceBNe, below, noF, isF, lendObs, lendOb, kindOk, ren, givL, updM, backO, renO, belowM, B3, B4, B21, B74, bunN, tab, tabC, ran_flen, cla_flen, low_flen, spl_flen, ran_take, cla_take, low_take, spl_take, ran_n0, ran_n1, cla_n0, cla_n1, cla_n2, cla_n3, low_n0, low_n1, low_n2, spl_n0, spl_n1, spl_n2, spl_n3, spl_n4, rangeC, classC, lowerC, splitC, sM_fit, pM_fit] | refine DR_q _ ?_ | ((first | refine WG_mk ?_ ?_ | refine CD_mk ?_ ?_ | refine GD_mk ?_ ?_ | refine GQ_mk ?_ ?_ | refine PK_mk ?_ ?_) <;> intro hg <;> (try simp only [hg]) <;> (try simp only [bunB, ne_eq, rangeP, classP, lowerP, splitP, pairP, cmpR_lt] at hg) <;> first | (exfalso; omega) | (exfalso; exact Bool.noConfusion hg) | (exfalso; exact hg trivial) | skip) | refine And.intro (by omega) ?_ | omega
  all_goals (congr 2; first | rfl | (first | rw [Bool.eq_iff_iff] | skip); simp_all [classP, lowerP] <;> omega)
theorem clsI_spec (r : Int) : Spec Try.prog 73 [.sl 10 (classes.flatMap classC), .fn 74 [] [.cp [I32 r]]] (I64 (idx 10 (classes.findIdx (classP r)))) := by
  refine spec_mk (z := false) (ts := [.tmp 4]) ok1 Try.func73 rfl rfl (by decide +kernel) (by simp [Try.ntmps73]) rfl ?_
  repeat' first | simp (maxSteps := 4000000) (disch := omega) only [bunD, bun, ↓WG_true, ↓WG_false, labelOf, findLabel, Nat.reduceEqDiff, ↓reduceIte, imp, shift, killO, cond_true, cond_false, Nat.reduceBEq, hasId, Nat.reduceAdd, Nat.reduceMul, Nat.reduceSub, Nat.reduceLeDiff, reduceCtorEq, Int.reduceNe, Int.reduceLE, Int.reduceEq, ne_eq, Int.reducePow, Int.reduceAdd, Int.reduceSub, Int.reduceMul, unown, names, plainR, Int.reduceBEq, Int.reduceLT, Int.reduceGT, Int.reduceGE, Int.reduceBNe, below, noF, isF, lendObs, lendOb, kindOk, ren, givL, updM, backO, renO, belowM, B3, B4, B21, B25, B74, B97, bunN, tab, tabC, ran_flen, cla_flen, low_flen, spl_flen, ran_take, cla_take, low_take, spl_take, ran_n0, ran_n1, cla_n0, cla_n1, cla_n2, cla_n3, low_n0, low_n1, low_n2, spl_n0, spl_n1, spl_n2, spl_n3, spl_n4, rangeC, classC, lowerC, splitC, sM_fit, pM_fit] | refine DR_q _ ?_ | ((first | refine WG_mk ?_ ?_ | refine CD_mk ?_ ?_ | refine GD_mk ?_ ?_ | refine GQ_mk ?_ ?_ | refine PK_mk ?_ ?_) <;> intro hg <;> (try simp only [hg]) <;> (try simp only [bunB, ne_eq, rangeP, classP, lowerP, splitP, pairP, cmpR_lt] at hg) <;> first | (exfalso; omega) | (exfalso; exact Bool.noConfusion hg) | (exfalso; exact hg trivial) | skip) | refine And.intro (by omega) ?_ | omega
  refine LP_intro (fun i : Nat => ⟨[(0, .sl 10 (classes.flatMap classC)), (1, .fn 74 [] [.cp [I32 r]]), (7, I64 10), (8, I64 i)], []⟩) (fun i => i ≤ 10 ∧ ∀ j, j < i → classP r (classes.getD j class0) = false) (fun i => 10 - i) 0 (by simp) (by simp [wk, wkT, wkM, noF, isF, get, belowT, belowM, below, belows, I64, I32, Bv, U8, Sv] <;> try omega) ?_
  intro i ⟨hi, hno⟩
  repeat' first | refine WE_fit (clsF_spec _ _) ?_ ?_ | simp (maxSteps := 4000000) (disch := omega) only [bunD, bun, ↓WG_true, ↓WG_false, labelOf, findLabel, Nat.reduceEqDiff, ↓reduceIte, imp, shift, killO, cond_true, cond_false, Nat.reduceBEq, hasId, Nat.reduceAdd, Nat.reduceMul, Nat.reduceSub, Nat.reduceLeDiff, reduceCtorEq, Int.reduceNe, Int.reduceLE, Int.reduceEq, ne_eq, Int.reducePow, Int.reduceAdd, Int.reduceSub, Int.reduceMul, unown, names, plainR, Int.reduceBEq, Int.reduceLT, Int.reduceGT, Int.reduceGE, Int.reduceBNe, below, noF, isF, lendObs, lendOb, kindOk, ren, givL, updM, backO, renO, belowM, B3, B4, B21, B25, B74, B97, bunN, tab, tabC, ran_flen, cla_flen, low_flen, spl_flen, ran_take, cla_take, low_take, spl_take, ran_n0, ran_n1, cla_n0, cla_n1, cla_n2, cla_n3, low_n0, low_n1, low_n2, spl_n0, spl_n1, spl_n2, spl_n3, spl_n4, rangeC, classC, lowerC, splitC, sM_fit, pM_fit] | exact NK_no _ | refine NK_cl _ _ ?_ | exact clean_v _ | exact clean_u8 _ _ _ _ | exact clean_i32 _ _ _ _ | exact clean_str _ _ _ _ | refine clean_tup _ ?_ | refine clean_ag _ ?_ | exact cleans_nil | refine cleans_cons _ _ ?_ ?_ | refine DR_q _ ?_ | ((first | refine WG_mk ?_ ?_ | refine CD_mk ?_ ?_ | refine GD_mk ?_ ?_ | refine GQ_mk ?_ ?_ | refine PK_mk ?_ ?_) <;> intro hg <;> (try simp only [hg]) <;> (try simp only [bunB, ne_eq, rangeP, classP, lowerP, splitP, pairP, cmpR_lt] at hg) <;> first | (exfalso; omega) | (exfalso; exact Bool.noConfusion hg) | (exfalso; exact hg trivial) | skip) | refine And.intro (by omega) ?_ | omega
  · rw [idx_hit cla_len hno (by omega) (by simp only [classP, Bool.and_eq_true, decide_eq_true_eq]; assumption)]
  · refine ⟨i + 1, ⟨by omega, upto_succ hno ?_⟩, by omega, (by simp [wk, wkT, wkM, noF, isF, get, belowT, belowM, below, belows, I64, I32, Bv, U8, Sv] <;> try omega)⟩
    simp only [classP, Bool.and_eq_false_iff, decide_eq_false_iff_not]; assumption
  · rw [idx_miss cla_len hno (by omega)]
theorem class_spec (r : Int) (h0 : -2147483648 ≤ r) (h1 : r ≤ 2147483647) : Spec Try.prog 65 [tab, I32 r] (I64 (cls r)) := by
  refine spec_mk (z := false) (ts := [.tmp 4]) ok1 Try.func65 rfl rfl (by decide +kernel) (by simp [Try.ntmps65]) rfl ?_
  by_cases hin : classes.findIdx (classP r) < 10
  · obtain ⟨h2, h3, h4⟩ := cls_in hin
    have h5 := cla_ok hin
    have h6 := idx_in hin
    rcases h5.2.2.2.2 with h7 | h7
    · rw [h7] at h2
      repeat' first | refine WE_fit (clsI_spec _) ?_ ?_ | simp (maxSteps := 4000000) (disch := omega) only [bunD, bun, ↓WG_true, ↓WG_false, labelOf, findLabel, Nat.reduceEqDiff, ↓reduceIte, imp, shift, killO, cond_true, cond_false, Nat.reduceBEq, hasId, Nat.reduceAdd, Nat.reduceMul, Nat.reduceSub, Nat.reduceLeDiff, reduceCtorEq, Int.reduceNe, Int.reduceLE, Int.reduceEq, ne_eq, Int.reducePow, Int.reduceAdd, Int.reduceSub, Int.reduceMul, unown, names, plainR, Int.reduceBEq, Int.reduceLT, Int.reduceGT, Int.reduceGE, Int.reduceBNe, below, noF, isF, lendObs, lendOb, kindOk, ren, givL, updM, backO, renO, belowM, h6, h7, Int.zero_mul, B3, B4, B21, B24, B25, B26, B27, B28, B30, B53, B55, B71, B74, B76, B97, bunN, tab, tabC, ran_flen, cla_flen, low_flen, spl_flen, ran_take, cla_take, low_take, spl_take, ran_n0, ran_n1, cla_n0, cla_n1, cla_n2, cla_n3, low_n0, low_n1, low_n2, spl_n0, spl_n1, spl_n2, spl_n3, spl_n4, rangeC, classC, lowerC, splitC, sM_fit, pM_fit] | exact NK_no _ | refine NK_cl _ _ ?_ | exact clean_v _ | exact clean_u8 _ _ _ _ | exact clean_i32 _ _ _ _ | exact clean_str _ _ _ _ | refine clean_tup _ ?_ | refine clean_ag _ ?_ | exact cleans_nil | refine cleans_cons _ _ ?_ ?_ | refine DR_q _ ?_ | ((first | refine WG_mk ?_ ?_ | refine CD_mk ?_ ?_ | refine GD_mk ?_ ?_ | refine GQ_mk ?_ ?_ | refine PK_mk ?_ ?_) <;> intro hg <;> (try simp only [hg]) <;> (try simp only [bunB, ne_eq, rangeP, classP, lowerP, splitP, pairP, cmpR_lt] at hg) <;> first | (exfalso; omega) | (exfalso; exact Bool.noConfusion hg) | (exfalso; exact hg trivial) | skip) | refine And.intro (by omega) ?_ | omega
      all_goals (rw [h2, Int.zero_mul])
    · rw [h7] at h2
      repeat' first | refine WE_fit (clsI_spec _) ?_ ?_ | simp (maxSteps := 4000000) (disch := omega) only [bunD, bun, ↓WG_true, ↓WG_false, labelOf, findLabel, Nat.reduceEqDiff, ↓reduceIte, imp, shift, killO, cond_true, cond_false, Nat.reduceBEq, hasId, Nat.reduceAdd, Nat.reduceMul, Nat.reduceSub, Nat.reduceLeDiff, reduceCtorEq, Int.reduceNe, Int.reduceLE, Int.reduceEq, ne_eq, Int.reducePow, Int.reduceAdd, Int.reduceSub, Int.reduceMul, unown, names, plainR, Int.reduceBEq, Int.reduceLT, Int.reduceGT, Int.reduceGE, Int.reduceBNe, below, noF, isF, lendObs, lendOb, kindOk, ren, givL, updM, backO, renO, belowM, h6, h7, Int.one_mul, B3, B4, B21, B24, B25, B26, B27, B28, B30, B53, B55, B71, B74, B76, B97, bunN, tab, tabC, ran_flen, cla_flen, low_flen, spl_flen, ran_take, cla_take, low_take, spl_take, ran_n0, ran_n1, cla_n0, cla_n1, cla_n2, cla_n3, low_n0, low_n1, low_n2, spl_n0, spl_n1, spl_n2, spl_n3, spl_n4, rangeC, classC, lowerC, splitC, sM_fit, pM_fit] | exact NK_no _ | refine NK_cl _ _ ?_ | exact clean_v _ | exact clean_u8 _ _ _ _ | exact clean_i32 _ _ _ _ | exact clean_str _ _ _ _ | refine clean_tup _ ?_ | refine clean_ag _ ?_ | exact cleans_nil | refine cleans_cons _ _ ?_ ?_ | refine DR_q _ ?_ | ((first | refine WG_mk ?_ ?_ | refine CD_mk ?_ ?_ | refine GD_mk ?_ ?_ | refine GQ_mk ?_ ?_ | refine PK_mk ?_ ?_) <;> intro hg <;> (try simp only [hg]) <;> (try simp only [bunB, ne_eq, rangeP, classP, lowerP, splitP, pairP, cmpR_lt] at hg) <;> first | (exfalso; omega) | (exfalso; exact Bool.noConfusion hg) | (exfalso; exact hg trivial) | skip) | refine And.intro (by omega) ?_ | omega
      all_goals (rw [h2, Int.one_mul])
  · have h6 := idx_out hin
    repeat' first | refine WE_fit (clsI_spec _) ?_ ?_ | simp (maxSteps := 4000000) (disch := omega) only [bunD, bun, ↓WG_true, ↓WG_false, labelOf, findLabel, Nat.reduceEqDiff, ↓reduceIte, imp, shift, killO, cond_true, cond_false, Nat.reduceBEq, hasId, Nat.reduceAdd, Nat.reduceMul, Nat.reduceSub, Nat.reduceLeDiff, reduceCtorEq, Int.reduceNe, Int.reduceLE, Int.reduceEq, ne_eq, Int.reducePow, Int.reduceAdd, Int.reduceSub, Int.reduceMul, unown, names, plainR, Int.reduceBEq, Int.reduceLT, Int.reduceGT, Int.reduceGE, Int.reduceBNe, below, noF, isF, lendObs, lendOb, kindOk, ren, givL, updM, backO, renO, belowM, h6, B3, B4, B21, B24, B25, B26, B27, B28, B30, B53, B55, B71, B74, B76, B97, bunN, tab, tabC, ran_flen, cla_flen, low_flen, spl_flen, ran_take, cla_take, low_take, spl_take, ran_n0, ran_n1, cla_n0, cla_n1, cla_n2, cla_n3, low_n0, low_n1, low_n2, spl_n0, spl_n1, spl_n2, spl_n3, spl_n4, rangeC, classC, lowerC, splitC, sM_fit, pM_fit] | exact NK_no _ | refine NK_cl _ _ ?_ | exact clean_v _ | exact clean_u8 _ _ _ _ | exact clean_i32 _ _ _ _ | exact clean_str _ _ _ _ | refine clean_tup _ ?_ | refine clean_ag _ ?_ | exact cleans_nil | refine cleans_cons _ _ ?_ ?_ | refine DR_q _ ?_ | ((first | refine WG_mk ?_ ?_ | refine CD_mk ?_ ?_ | refine GD_mk ?_ ?_ | refine GQ_mk ?_ ?_ | refine PK_mk ?_ ?_) <;> intro hg <;> (try simp only [hg]) <;> (try simp only [bunB, ne_eq, rangeP, classP, lowerP, splitP, pairP, cmpR_lt] at hg) <;> first | (exfalso; omega) | (exfalso; exact Bool.noConfusion hg) | (exfalso; exact hg trivial) | skip) | refine And.intro (by omega) ?_ | omega
    rw [cls_out hin]
theorem lowF_spec (x : LowerT) (r : Int) : Spec Try.prog 53 [.ag (lowerC x), .cp [I32 r]] (Bv (lowerP r x)) := by
  refine spec_mk (z := false) (ts := [.tmp 3]) ok1 Try.func53 rfl rfl (by decide +kernel) (by simp [Try.ntmps53]) rfl ?_
  repeat' first | simp (maxSteps := 4000000) (disch := omega) only [bunD, bun, ↓WG_true, ↓WG_false, labelOf, findLabel, Nat.reduceEqDiff, ↓reduceIte, imp, shift, killO, cond_true, cond_false, Nat.reduceBEq, hasId, Nat.reduceAdd, Nat.reduceMul, Nat.reduceSub, Nat.reduceLeDiff, reduceCtorEq, Int.reduceNe, Int.reduceLE, Int.reduceEq, ne_eq, Int.reducePow, Int.reduceAdd, Int.reduceSub, Int.reduceMul, unown, names, plainR, Int.reduceBEq, Int.reduceLT, Int.reduceGT, Int.reduceGE, Int.reduceBNe, below, noF, isF, lendObs, lendOb, kindOk, ren, givL, updM, backO, renO, belowM, B4, B21, B76, bunN, tab, tabC, ran_flen, cla_flen, low_flen, spl_flen, ran_take, cla_take, low_take, spl_take, ran_n0, ran_n1, cla_n0, cla_n1, cla_n2, cla_n3, low_n0, low_n1, low_n2, spl_n0, spl_n1, spl_n2, spl_n3, spl_n4, rangeC, classC, lowerC, splitC, sM_fit, pM_fit] | refine DR_q _ ?_ | ((first | refine WG_mk ?_ ?_ | refine CD_mk ?_ ?_ | refine GD_mk ?_ ?_ | refine GQ_mk ?_ ?_ | refine PK_mk ?_ ?_) <;> intro hg <;> (try simp only [hg]) <;> (try simp only [bunB, ne_eq, rangeP, classP, lowerP, splitP, pairP, cmpR_lt] at hg) <;> first | (exfalso; omega) | (exfalso; exact Bool.noConfusion hg) | (exfalso; exact hg trivial) | skip) | refine And.intro (by omega) ?_ | omega
  all_goals (congr 2; first | rfl | (first | rw [Bool.eq_iff_iff] | skip); simp_all [classP, lowerP] <;> omega)
theorem lowI_spec (r : Int) : Spec Try.prog 52 [.sl 11 (lowers.flatMap lowerC), .fn 53 [] [.cp [I32 r]]] (I64 (idx 11 (lowers.findIdx (lowerP r)))) := by
  refine spec_mk (z := false) (ts := [.tmp 4]) ok1 Try.func52 rfl rfl (by decide +kernel) (by simp [Try.ntmps52]) rfl ?_
  repeat' first | simp (maxSteps := 4000000) (disch := omega) only [bunD, bun, ↓WG_true, ↓WG_false, labelOf, findLabel, Nat.reduceEqDiff, ↓reduceIte, imp, shift, killO, cond_true, cond_false, Nat.reduceBEq, hasId, Nat.reduceAdd, Nat.reduceMul, Nat.reduceSub, Nat.reduceLeDiff, reduceCtorEq, Int.reduceNe, Int.reduceLE, Int.reduceEq, ne_eq, Int.reducePow, Int.reduceAdd, Int.reduceSub, Int.reduceMul, unown, names, plainR, Int.reduceBEq, Int.reduceLT, Int.reduceGT, Int.reduceGE, Int.reduceBNe, below, noF, isF, lendObs, lendOb, kindOk, ren, givL, updM, backO, renO, belowM, B3, B4, B21, B26, B76, B84, bunN, tab, tabC, ran_flen, cla_flen, low_flen, spl_flen, ran_take, cla_take, low_take, spl_take, ran_n0, ran_n1, cla_n0, cla_n1, cla_n2, cla_n3, low_n0, low_n1, low_n2, spl_n0, spl_n1, spl_n2, spl_n3, spl_n4, rangeC, classC, lowerC, splitC, sM_fit, pM_fit] | refine DR_q _ ?_ | ((first | refine WG_mk ?_ ?_ | refine CD_mk ?_ ?_ | refine GD_mk ?_ ?_ | refine GQ_mk ?_ ?_ | refine PK_mk ?_ ?_) <;> intro hg <;> (try simp only [hg]) <;> (try simp only [bunB, ne_eq, rangeP, classP, lowerP, splitP, pairP, cmpR_lt] at hg) <;> first | (exfalso; omega) | (exfalso; exact Bool.noConfusion hg) | (exfalso; exact hg trivial) | skip) | refine And.intro (by omega) ?_ | omega
  refine LP_intro (fun i : Nat => ⟨[(0, .sl 11 (lowers.flatMap lowerC)), (1, .fn 53 [] [.cp [I32 r]]), (7, I64 11), (8, I64 i)], []⟩) (fun i => i ≤ 11 ∧ ∀ j, j < i → lowerP r (lowers.getD j lower0) = false) (fun i => 11 - i) 0 (by simp) (by simp [wk, wkT, wkM, noF, isF, get, belowT, belowM, below, belows, I64, I32, Bv, U8, Sv] <;> try omega) ?_
  intro i ⟨hi, hno⟩
  repeat' first | refine WE_fit (lowF_spec _ _) ?_ ?_ | simp (maxSteps := 4000000) (disch := omega) only [bunD, bun, ↓WG_true, ↓WG_false, labelOf, findLabel, Nat.reduceEqDiff, ↓reduceIte, imp, shift, killO, cond_true, cond_false, Nat.reduceBEq, hasId, Nat.reduceAdd, Nat.reduceMul, Nat.reduceSub, Nat.reduceLeDiff, reduceCtorEq, Int.reduceNe, Int.reduceLE, Int.reduceEq, ne_eq, Int.reducePow, Int.reduceAdd, Int.reduceSub, Int.reduceMul, unown, names, plainR, Int.reduceBEq, Int.reduceLT, Int.reduceGT, Int.reduceGE, Int.reduceBNe, below, noF, isF, lendObs, lendOb, kindOk, ren, givL, updM, backO, renO, belowM, B3, B4, B21, B26, B76, B84, bunN, tab, tabC, ran_flen, cla_flen, low_flen, spl_flen, ran_take, cla_take, low_take, spl_take, ran_n0, ran_n1, cla_n0, cla_n1, cla_n2, cla_n3, low_n0, low_n1, low_n2, spl_n0, spl_n1, spl_n2, spl_n3, spl_n4, rangeC, classC, lowerC, splitC, sM_fit, pM_fit] | exact NK_no _ | refine NK_cl _ _ ?_ | exact clean_v _ | exact clean_u8 _ _ _ _ | exact clean_i32 _ _ _ _ | exact clean_str _ _ _ _ | refine clean_tup _ ?_ | refine clean_ag _ ?_ | exact cleans_nil | refine cleans_cons _ _ ?_ ?_ | refine DR_q _ ?_ | ((first | refine WG_mk ?_ ?_ | refine CD_mk ?_ ?_ | refine GD_mk ?_ ?_ | refine GQ_mk ?_ ?_ | refine PK_mk ?_ ?_) <;> intro hg <;> (try simp only [hg]) <;> (try simp only [bunB, ne_eq, rangeP, classP, lowerP, splitP, pairP, cmpR_lt] at hg) <;> first | (exfalso; omega) | (exfalso; exact Bool.noConfusion hg) | (exfalso; exact hg trivial) | skip) | refine And.intro (by omega) ?_ | omega
  · rw [idx_hit low_len hno (by omega) (by simp only [lowerP, Bool.and_eq_true, decide_eq_true_eq]; assumption)]
  · refine ⟨i + 1, ⟨by omega, upto_succ hno ?_⟩, by omega, (by simp [wk, wkT, wkM, noF, isF, get, belowT, belowM, below, belows, I64, I32, Bv, U8, Sv] <;> try omega)⟩
    simp only [lowerP, Bool.and_eq_false_iff, decide_eq_false_iff_not]; assumption
  · rw [idx_miss low_len hno (by omega)]
theorem lower_spec (r : Int) : Spec Try.prog 36 [tab, I32 r] (I32 (low r)) := by
  refine spec_mk (z := false) (ts := [.tmp 4]) ok1 Try.func36 rfl rfl (by decide +kernel) (by simp [Try.ntmps36]) rfl ?_
  by_cases hin : lowers.findIdx (lowerP r) < 11
  · obtain ⟨h2, h3, h4⟩ := low_in hin
    have h5 := low_ok hin
    have h6 := idx_in hin
    repeat' first | refine WE_fit (lowI_spec _) ?_ ?_ | simp (maxSteps := 4000000) (disch := omega) only [bunD, bun, ↓WG_true, ↓WG_false, labelOf, findLabel, Nat.reduceEqDiff, ↓reduceIte, imp, shift, killO, cond_true, cond_false, Nat.reduceBEq, hasId, Nat.reduceAdd, Nat.reduceMul, Nat.reduceSub, Nat.reduceLeDiff, reduceCtorEq, Int.reduceNe, Int.reduceLE, Int.reduceEq, ne_eq, Int.reducePow, Int.reduceAdd, Int.reduceSub, Int.reduceMul, unown, names, plainR, Int.reduceBEq, Int.reduceLT, Int.reduceGT, Int.reduceGE, Int.reduceBNe, below, noF, isF, lendObs, lendOb, kindOk, ren, givL, updM, backO, renO, belowM, h6, B3, B4, B21, B24, B25, B26, B27, B28, B30, B53, B55, B71, B74, B76, B84, bunN, tab, tabC, ran_flen, cla_flen, low_flen, spl_flen, ran_take, cla_take, low_take, spl_take, ran_n0, ran_n1, cla_n0, cla_n1, cla_n2, cla_n3, low_n0, low_n1, low_n2, spl_n0, spl_n1, spl_n2, spl_n3, spl_n4, rangeC, classC, lowerC, splitC, sM_fit, pM_fit] | exact NK_no _ | refine NK_cl _ _ ?_ | exact clean_v _ | exact clean_u8 _ _ _ _ | exact clean_i32 _ _ _ _ | exact clean_str _ _ _ _ | refine clean_tup _ ?_ | refine clean_ag _ ?_ | exact cleans_nil | refine cleans_cons _ _ ?_ ?_ | refine DR_q _ ?_ | ((first | refine WG_mk ?_ ?_ | refine CD_mk ?_ ?_ | refine GD_mk ?_ ?_ | refine GQ_mk ?_ ?_ | refine PK_mk ?_ ?_) <;> intro hg <;> (try simp only [hg]) <;> (try simp only [bunB, ne_eq, rangeP, classP, lowerP, splitP, pairP, cmpR_lt] at hg) <;> first | (exfalso; omega) | (exfalso; exact Bool.noConfusion hg) | (exfalso; exact hg trivial) | skip) | refine And.intro (by omega) ?_ | omega
    rw [h2]
  · have h6 := idx_out hin
    repeat' first | refine WE_fit (lowI_spec _) ?_ ?_ | simp (maxSteps := 4000000) (disch := omega) only [bunD, bun, ↓WG_true, ↓WG_false, labelOf, findLabel, Nat.reduceEqDiff, ↓reduceIte, imp, shift, killO, cond_true, cond_false, Nat.reduceBEq, hasId, Nat.reduceAdd, Nat.reduceMul, Nat.reduceSub, Nat.reduceLeDiff, reduceCtorEq, Int.reduceNe, Int.reduceLE, Int.reduceEq, ne_eq, Int.reducePow, Int.reduceAdd, Int.reduceSub, Int.reduceMul, unown, names, plainR, Int.reduceBEq, Int.reduceLT, Int.reduceGT, Int.reduceGE, Int.reduceBNe, below, noF, isF, lendObs, lendOb, kindOk, ren, givL, updM, backO, renO, belowM, h6, B3, B4, B21, B24, B25, B26, B27, B28, B30, B53, B55, B71, B74, B76, B84, bunN, tab, tabC, ran_flen, cla_flen, low_flen, spl_flen, ran_take, cla_take, low_take, spl_take, ran_n0, ran_n1, cla_n0, cla_n1, cla_n2, cla_n3, low_n0, low_n1, low_n2, spl_n0, spl_n1, spl_n2, spl_n3, spl_n4, rangeC, classC, lowerC, splitC, sM_fit, pM_fit] | exact NK_no _ | refine NK_cl _ _ ?_ | exact clean_v _ | exact clean_u8 _ _ _ _ | exact clean_i32 _ _ _ _ | exact clean_str _ _ _ _ | refine clean_tup _ ?_ | refine clean_ag _ ?_ | exact cleans_nil | refine cleans_cons _ _ ?_ ?_ | refine DR_q _ ?_ | ((first | refine WG_mk ?_ ?_ | refine CD_mk ?_ ?_ | refine GD_mk ?_ ?_ | refine GQ_mk ?_ ?_ | refine PK_mk ?_ ?_) <;> intro hg <;> (try simp only [hg]) <;> (try simp only [bunB, ne_eq, rangeP, classP, lowerP, splitP, pairP, cmpR_lt] at hg) <;> first | (exfalso; omega) | (exfalso; exact Bool.noConfusion hg) | (exfalso; exact hg trivial) | skip) | refine And.intro (by omega) ?_ | omega
    rw [low_out hin]
theorem sM_all : sM 42 = splits.map fun s => (.int .i32 s.1, .ag (splitC s)) := rfl
theorem pM_all : pM 42 = (splits.filter fun s => !s.2.2.2.1 && !s.2.2.2.2).map fun s => (.agg #[.int .i32 s.2.1, .int .i32 s.2.2.1], .v (.int .i32 s.1)) := rfl
theorem sM_get (r : Int) : mget (.int .i32 r) (sM 42) = (splits.find? (splitP r)).map fun s => .ag (splitC s) := by
  rw [sM_all, mget_map (fun s => .int .i32 s.1) (fun s => .ag (splitC s))]
  congr 2
  funext s
  simp only [eqK, eq1, splitP, Bool.beq_eq_decide_eq]
  rw [Bool.eq_iff_iff]; simp only [beq_iff_eq, decide_eq_true_eq]; exact eq_comm
theorem pM_get (a b : Int) : mget (.agg #[.int .i32 a, .int .i32 b]) (pM 42) = (splits.find? (pairP a b)).map fun s => .v (.int .i32 s.1) := by
  rw [pM_all, mget_map (fun s : SplitT => .agg #[.int .i32 s.2.1, .int .i32 s.2.2.1]) (fun s => .v (.int .i32 s.1)), List.find?_filter]
  congr 2
  funext s
  simp only [eqK, eqs, eq1, pairP, Bool.and_true]
  rw [Bool.eq_iff_iff]; simp only [Bool.and_eq_true, beq_iff_eq, Bool.not_eq_true', decide_eq_true_eq]
  constructor
  · rintro ⟨⟨h1, h2⟩, h3, h4⟩; exact ⟨⟨⟨h1, h2⟩, h3.symm⟩, h4.symm⟩
  · rintro ⟨⟨⟨h1, h2⟩, h3⟩, h4⟩; exact ⟨⟨h1, h2⟩, h3.symm, h4.symm⟩
theorem split_spec (r : Int) : Spec Try.prog 51 [tab, I32 r] (.tup [.ag (splitC (spl r).1), Bv (spl r).2]) := by
  refine spec_mk (z := false) (ts := [.cell 4 53, .tmp 5]) ok1 Try.func51 rfl rfl (by decide +kernel) (by simp [Try.ntmps51]) rfl ?_
  cases hf : splits.find? (splitP r) with
  | none =>
    repeat' first | simp (maxSteps := 4000000) (disch := omega) only [bunD, bun, ↓WG_true, ↓WG_false, labelOf, findLabel, Nat.reduceEqDiff, ↓reduceIte, imp, shift, killO, cond_true, cond_false, Nat.reduceBEq, hasId, Nat.reduceAdd, Nat.reduceMul, Nat.reduceSub, Nat.reduceLeDiff, reduceCtorEq, Int.reduceNe, Int.reduceLE, Int.reduceEq, ne_eq, Int.reducePow, Int.reduceAdd, Int.reduceSub, Int.reduceMul, unown, names, plainR, Int.reduceBEq, Int.reduceLT, Int.reduceGT, Int.reduceGE, Int.reduceBNe, below, noF, isF, lendObs, lendOb, kindOk, ren, givL, updM, backO, renO, belowM, sM_get, hf, Option.map_none, B3, B4, B21, B24, B25, B26, B27, B28, B30, B53, B55, B71, B74, B76, bunN, tab, tabC, ran_flen, cla_flen, low_flen, spl_flen, ran_take, cla_take, low_take, spl_take, ran_n0, ran_n1, cla_n0, cla_n1, cla_n2, cla_n3, low_n0, low_n1, low_n2, spl_n0, spl_n1, spl_n2, spl_n3, spl_n4, rangeC, classC, lowerC, splitC, sM_fit, pM_fit] | refine DR_q _ ?_ | ((first | refine WG_mk ?_ ?_ | refine CD_mk ?_ ?_ | refine GD_mk ?_ ?_ | refine GQ_mk ?_ ?_ | refine PK_mk ?_ ?_) <;> intro hg <;> (try simp only [hg]) <;> (try simp only [bunB, ne_eq, rangeP, classP, lowerP, splitP, pairP, cmpR_lt] at hg) <;> first | (exfalso; omega) | (exfalso; exact Bool.noConfusion hg) | (exfalso; exact hg trivial) | skip) | refine And.intro (by omega) ?_ | omega
    · have : wide r = true := by simp only [wide, Bool.and_eq_true, decide_eq_true_eq]; omega
      simp only [spl, this]; try rfl
    all_goals
      have : wide r = false := by simp only [wide, Bool.and_eq_false_iff, decide_eq_false_iff_not]; omega
      simp only [spl, this, hf]; try rfl
  | some x =>
    repeat' first | simp (maxSteps := 4000000) (disch := omega) only [bunD, bun, ↓WG_true, ↓WG_false, labelOf, findLabel, Nat.reduceEqDiff, ↓reduceIte, imp, shift, killO, cond_true, cond_false, Nat.reduceBEq, hasId, Nat.reduceAdd, Nat.reduceMul, Nat.reduceSub, Nat.reduceLeDiff, reduceCtorEq, Int.reduceNe, Int.reduceLE, Int.reduceEq, ne_eq, Int.reducePow, Int.reduceAdd, Int.reduceSub, Int.reduceMul, unown, names, plainR, Int.reduceBEq, Int.reduceLT, Int.reduceGT, Int.reduceGE, Int.reduceBNe, below, noF, isF, lendObs, lendOb, kindOk, ren, givL, updM, backO, renO, belowM, sM_get, hf, Option.map_some, B3, B4, B21, B24, B25, B26, B27, B28, B30, B53, B55, B71, B74, B76, bunN, tab, tabC, ran_flen, cla_flen, low_flen, spl_flen, ran_take, cla_take, low_take, spl_take, ran_n0, ran_n1, cla_n0, cla_n1, cla_n2, cla_n3, low_n0, low_n1, low_n2, spl_n0, spl_n1, spl_n2, spl_n3, spl_n4, rangeC, classC, lowerC, splitC, sM_fit, pM_fit] | refine DR_q _ ?_ | ((first | refine WG_mk ?_ ?_ | refine CD_mk ?_ ?_ | refine GD_mk ?_ ?_ | refine GQ_mk ?_ ?_ | refine PK_mk ?_ ?_) <;> intro hg <;> (try simp only [hg]) <;> (try simp only [bunB, ne_eq, rangeP, classP, lowerP, splitP, pairP, cmpR_lt] at hg) <;> first | (exfalso; omega) | (exfalso; exact Bool.noConfusion hg) | (exfalso; exact hg trivial) | skip) | refine And.intro (by omega) ?_ | omega
    · have : wide r = true := by simp only [wide, Bool.and_eq_true, decide_eq_true_eq]; omega
      simp only [spl, this]; try rfl
    all_goals
      have : wide r = false := by simp only [wide, Bool.and_eq_false_iff, decide_eq_false_iff_not]; omega
      simp only [spl, this, hf]; try rfl
theorem pair_spec (a b : Int) : Spec Try.prog 79 [tab, I32 a, I32 b] (.tup [I32 (pr a b).1, Bv (pr a b).2]) := by
  refine spec_mk (z := false) (ts := [.tmp 6, .tmp 7]) ok1 Try.func79 rfl rfl (by decide +kernel) (by simp [Try.ntmps79]) rfl ?_
  cases hf : splits.find? (pairP a b) with
  | none =>
    repeat' first | simp (maxSteps := 4000000) (disch := omega) only [bunD, bun, ↓WG_true, ↓WG_false, labelOf, findLabel, Nat.reduceEqDiff, ↓reduceIte, imp, shift, killO, cond_true, cond_false, Nat.reduceBEq, hasId, Nat.reduceAdd, Nat.reduceMul, Nat.reduceSub, Nat.reduceLeDiff, reduceCtorEq, Int.reduceNe, Int.reduceLE, Int.reduceEq, ne_eq, Int.reducePow, Int.reduceAdd, Int.reduceSub, Int.reduceMul, unown, names, plainR, Int.reduceBEq, Int.reduceLT, Int.reduceGT, Int.reduceGE, Int.reduceBNe, below, noF, isF, lendObs, lendOb, kindOk, ren, givL, updM, backO, renO, belowM, pM_get, hf, Option.map_none, B3, B4, B21, B24, B25, B26, B27, B28, B30, B53, B55, B71, B74, B76, bunN, tab, tabC, ran_flen, cla_flen, low_flen, spl_flen, ran_take, cla_take, low_take, spl_take, ran_n0, ran_n1, cla_n0, cla_n1, cla_n2, cla_n3, low_n0, low_n1, low_n2, spl_n0, spl_n1, spl_n2, spl_n3, spl_n4, rangeC, classC, lowerC, splitC, sM_fit, pM_fit] | refine DR_q _ ?_ | ((first | refine WG_mk ?_ ?_ | refine CD_mk ?_ ?_ | refine GD_mk ?_ ?_ | refine GQ_mk ?_ ?_ | refine PK_mk ?_ ?_) <;> intro hg <;> (try simp only [hg]) <;> (try simp only [bunB, ne_eq, rangeP, classP, lowerP, splitP, pairP, cmpR_lt] at hg) <;> first | (exfalso; omega) | (exfalso; exact Bool.noConfusion hg) | (exfalso; exact hg trivial) | skip) | refine And.intro (by omega) ?_ | omega
    all_goals (simp only [pr, hf]; try rfl)
  | some x =>
    repeat' first | simp (maxSteps := 4000000) (disch := omega) only [bunD, bun, ↓WG_true, ↓WG_false, labelOf, findLabel, Nat.reduceEqDiff, ↓reduceIte, imp, shift, killO, cond_true, cond_false, Nat.reduceBEq, hasId, Nat.reduceAdd, Nat.reduceMul, Nat.reduceSub, Nat.reduceLeDiff, reduceCtorEq, Int.reduceNe, Int.reduceLE, Int.reduceEq, ne_eq, Int.reducePow, Int.reduceAdd, Int.reduceSub, Int.reduceMul, unown, names, plainR, Int.reduceBEq, Int.reduceLT, Int.reduceGT, Int.reduceGE, Int.reduceBNe, below, noF, isF, lendObs, lendOb, kindOk, ren, givL, updM, backO, renO, belowM, pM_get, hf, Option.map_some, B3, B4, B21, B24, B25, B26, B27, B28, B30, B53, B55, B71, B74, B76, bunN, tab, tabC, ran_flen, cla_flen, low_flen, spl_flen, ran_take, cla_take, low_take, spl_take, ran_n0, ran_n1, cla_n0, cla_n1, cla_n2, cla_n3, low_n0, low_n1, low_n2, spl_n0, spl_n1, spl_n2, spl_n3, spl_n4, rangeC, classC, lowerC, splitC, sM_fit, pM_fit] | refine DR_q _ ?_ | ((first | refine WG_mk ?_ ?_ | refine CD_mk ?_ ?_ | refine GD_mk ?_ ?_ | refine GQ_mk ?_ ?_ | refine PK_mk ?_ ?_) <;> intro hg <;> (try simp only [hg]) <;> (try simp only [bunB, ne_eq, rangeP, classP, lowerP, splitP, pairP, cmpR_lt] at hg) <;> first | (exfalso; omega) | (exfalso; exact Bool.noConfusion hg) | (exfalso; exact hg trivial) | skip) | refine And.intro (by omega) ?_ | omega
    all_goals (simp only [pr, hf]; try rfl)
end Go.AE
end
section
/- What is read of the table: the document's answer. -/
namespace Go.AE
open Go.Proofs
set_option maxRecDepth 20000
set_option linter.unusedSimpArgs false
theorem find_yes {r : Int} {i : Nat} (hno : ∀ j, j < i → rangeP r (ranges.getD j range0) = false) (hi : i < 74) (hp : rangeP r (ranges.getD i range0) = true) : ofR r = ranges.getD i range0 ∧ inR r = true := by
  have := (first_at (l := ranges) (d := range0) hno (by rw [ran_len]; exact hi) hp).2
  exact ⟨by rw [ofR, this]; rfl, by rw [inR, this]; rfl⟩
theorem find_no {r : Int} {i : Nat} (hno : ∀ j, j < i → rangeP r (ranges.getD j range0) = false) (hi : ¬ i < 74) : ofR r = range0 ∧ inR r = false := by
  have := (first_none (l := ranges) (d := range0) (p := rangeP r) (fun j hj => hno j (by rw [ran_len] at hj; omega))).2
  exact ⟨by rw [ofR, this]; rfl, by rw [inR, this]; rfl⟩
theorem cls_yes {r : Int} {i : Nat} (hno : ∀ j, j < i → classP r (classes.getD j class0) = false) (hi : i < 10) (hp : classP r (classes.getD i class0) = true) : cls r = (classes.getD i class0).2.2.1 + (classes.getD i class0).2.2.2 * (r - (classes.getD i class0).1) := by
  rw [cls, (first_at (l := classes) (d := class0) hno (by rw [cla_len]; exact hi) hp).2]; rfl
theorem cls_no {r : Int} {i : Nat} (hno : ∀ j, j < i → classP r (classes.getD j class0) = false) (hi : ¬ i < 10) : cls r = 0 := by
  rw [cls, (first_none (l := classes) (d := class0) (p := classP r) (fun j hj => hno j (by rw [cla_len] at hj; omega))).2]; rfl
theorem rclass_spec (r : Int) (h0 : -2147483648 ≤ r) (h1 : r ≤ 2147483647) : Spec Try.prog 61 [I32 r] (I64 (cls r)) := by
  refine spec_mk (z := false) (ts := [.tmp 2]) ok1 Try.func61 rfl rfl (by decide +kernel) (by simp [Try.ntmps61]) rfl ?_
  repeat' first | refine WE_fit (classes_spec) ?_ ?_ | simp (maxSteps := 4000000) (disch := omega) only [bunD, bun, ↓WG_true, ↓WG_false, labelOf, findLabel, Nat.reduceEqDiff, ↓reduceIte, imp, shift, killO, cond_true, cond_false, Nat.reduceBEq, hasId, Nat.reduceAdd, Nat.reduceMul, Nat.reduceSub, Nat.reduceLeDiff, reduceCtorEq, Int.reduceNe, Int.reduceLE, Int.reduceEq, ne_eq, Int.reducePow, Int.reduceAdd, Int.reduceSub, Int.reduceMul, unown, names, plainR, Int.reduceBEq, Int.reduceLT, Int.reduceGT, Int.reduceGE, Int.reduceBNe, below, noF, isF, lendObs, lendOb, kindOk, ren, givL, updM, backO, renO, belowM, B3, B4, B21, B25, B74, bunN, tab, tabC, ran_flen, cla_flen, low_flen, spl_flen, ran_take, cla_take, low_take, spl_take, ran_n0, ran_n1, cla_n0, cla_n1, cla_n2, cla_n3, low_n0, low_n1, low_n2, spl_n0, spl_n1, spl_n2, spl_n3, spl_n4, rangeC, classC, lowerC, splitC] | exact NK_no _ | refine NK_cl _ _ ?_ | exact clean_v _ | exact clean_u8 _ _ _ _ | exact clean_i32 _ _ _ _ | exact clean_str _ _ _ _ | refine clean_tup _ ?_ | refine clean_ag _ ?_ | exact cleans_nil | refine cleans_cons _ _ ?_ ?_ | refine DR_q _ ?_ | ((first | refine WG_mk ?_ ?_ | refine CD_mk ?_ ?_ | refine GD_mk ?_ ?_ | refine GQ_mk ?_ ?_ | refine PK_mk ?_ ?_) <;> intro hg <;> (try simp only [hg]) <;> (try simp only [bunB, ne_eq] at hg) <;> first | (exfalso; omega) | (exfalso; exact Bool.noConfusion hg) | (exfalso; exact hg trivial) | skip) | refine And.intro (by omega) ?_ | omega
  refine LP_intro (fun i : Nat => ⟨[(0, I32 r), (3, .ref 0 0 10), (4, I64 i)], [.arr 74 4 (classes.flatMap classC)]⟩) (fun i => i ≤ 10 ∧ ∀ j, j < i → classP r (classes.getD j class0) = false) (fun i => 10 - i) 0 (by simp) (by (simp (disch := omega) [wk, wkT, wkM, noF, isF, get, belowT, belowM, below, belows, I64, I32, Bv, U8, Sv, classC, class0] <;> try omega)) ?_
  intro i ⟨hi, hno⟩
  by_cases hlt : i < 10
  · have h5 := cla_ok hlt
    rcases h5.2.2.2.2 with h7 | h7
    · repeat' first | simp (maxSteps := 4000000) (disch := omega) only [bunD, bun, ↓WG_true, ↓WG_false, labelOf, findLabel, Nat.reduceEqDiff, ↓reduceIte, imp, shift, killO, cond_true, cond_false, Nat.reduceBEq, hasId, Nat.reduceAdd, Nat.reduceMul, Nat.reduceSub, Nat.reduceLeDiff, reduceCtorEq, Int.reduceNe, Int.reduceLE, Int.reduceEq, ne_eq, Int.reducePow, Int.reduceAdd, Int.reduceSub, Int.reduceMul, unown, names, plainR, Int.reduceBEq, Int.reduceLT, Int.reduceGT, Int.reduceGE, Int.reduceBNe, below, noF, isF, lendObs, lendOb, kindOk, ren, givL, updM, backO, renO, belowM, h7, Int.zero_mul, B3, B4, B21, B25, B74, bunN, tab, tabC, ran_flen, cla_flen, low_flen, spl_flen, ran_take, cla_take, low_take, spl_take, ran_n0, ran_n1, cla_n0, cla_n1, cla_n2, cla_n3, low_n0, low_n1, low_n2, spl_n0, spl_n1, spl_n2, spl_n3, spl_n4, rangeC, classC, lowerC, splitC] | refine DR_q _ ?_ | ((first | refine WG_mk ?_ ?_ | refine CD_mk ?_ ?_ | refine GD_mk ?_ ?_ | refine GQ_mk ?_ ?_ | refine PK_mk ?_ ?_) <;> intro hg <;> (try simp only [hg]) <;> (try simp only [bunB, ne_eq] at hg) <;> first | (exfalso; omega) | (exfalso; exact Bool.noConfusion hg) | (exfalso; exact hg trivial) | skip) | refine And.intro (by omega) ?_ | omega
      · rw [cls_yes hno (by omega) (by simp only [classP, Bool.and_eq_true, decide_eq_true_eq]; omega), h7, Int.zero_mul]
      all_goals
        refine ⟨i + 1, ⟨by omega, upto_succ hno ?_⟩, by omega, by (simp (disch := omega) [wk, wkT, wkM, noF, isF, get, belowT, belowM, below, belows, I64, I32, Bv, U8, Sv, classC, class0] <;> try omega)⟩
        simp only [classP, Bool.and_eq_false_iff, decide_eq_false_iff_not]; omega
    · repeat' first | simp (maxSteps := 4000000) (disch := omega) only [bunD, bun, ↓WG_true, ↓WG_false, labelOf, findLabel, Nat.reduceEqDiff, ↓reduceIte, imp, shift, killO, cond_true, cond_false, Nat.reduceBEq, hasId, Nat.reduceAdd, Nat.reduceMul, Nat.reduceSub, Nat.reduceLeDiff, reduceCtorEq, Int.reduceNe, Int.reduceLE, Int.reduceEq, ne_eq, Int.reducePow, Int.reduceAdd, Int.reduceSub, Int.reduceMul, unown, names, plainR, Int.reduceBEq, Int.reduceLT, Int.reduceGT, Int.reduceGE, Int.reduceBNe, below, noF, isF, lendObs, lendOb, kindOk, ren, givL, updM, backO, renO, belowM, h7, Int.one_mul, B3, B4, B21, B25, B74, bunN, tab, tabC, ran_flen, cla_flen, low_flen, spl_flen, ran_take, cla_take, low_take, spl_take, ran_n0, ran_n1, cla_n0, cla_n1, cla_n2, cla_n3, low_n0, low_n1, low_n2, spl_n0, spl_n1, spl_n2, spl_n3, spl_n4, rangeC, classC, lowerC, splitC] | refine DR_q _ ?_ | ((first | refine WG_mk ?_ ?_ | refine CD_mk ?_ ?_ | refine GD_mk ?_ ?_ | refine GQ_mk ?_ ?_ | refine PK_mk ?_ ?_) <;> intro hg <;> (try simp only [hg]) <;> (try simp only [bunB, ne_eq] at hg) <;> first | (exfalso; omega) | (exfalso; exact Bool.noConfusion hg) | (exfalso; exact hg trivial) | skip) | refine And.intro (by omega) ?_ | omega
      · rw [cls_yes hno (by omega) (by simp only [classP, Bool.and_eq_true, decide_eq_true_eq]; omega), h7, Int.one_mul]
      all_goals
        refine ⟨i + 1, ⟨by omega, upto_succ hno ?_⟩, by omega, by (simp (disch := omega) [wk, wkT, wkM, noF, isF, get, belowT, belowM, below, belows, I64, I32, Bv, U8, Sv, classC, class0] <;> try omega)⟩
        simp only [classP, Bool.and_eq_false_iff, decide_eq_false_iff_not]; omega
  · repeat' first | simp (maxSteps := 4000000) (disch := omega) only [bunD, bun, ↓WG_true, ↓WG_false, labelOf, findLabel, Nat.reduceEqDiff, ↓reduceIte, imp, shift, killO, cond_true, cond_false, Nat.reduceBEq, hasId, Nat.reduceAdd, Nat.reduceMul, Nat.reduceSub, Nat.reduceLeDiff, reduceCtorEq, Int.reduceNe, Int.reduceLE, Int.reduceEq, ne_eq, Int.reducePow, Int.reduceAdd, Int.reduceSub, Int.reduceMul, unown, names, plainR, Int.reduceBEq, Int.reduceLT, Int.reduceGT, Int.reduceGE, Int.reduceBNe, below, noF, isF, lendObs, lendOb, kindOk, ren, givL, updM, backO, renO, belowM, B3, B4, B21, B25, B74, bunN, tab, tabC, ran_flen, cla_flen, low_flen, spl_flen, ran_take, cla_take, low_take, spl_take, ran_n0, ran_n1, cla_n0, cla_n1, cla_n2, cla_n3, low_n0, low_n1, low_n2, spl_n0, spl_n1, spl_n2, spl_n3, spl_n4, rangeC, classC, lowerC, splitC] | refine DR_q _ ?_ | ((first | refine WG_mk ?_ ?_ | refine CD_mk ?_ ?_ | refine GD_mk ?_ ?_ | refine GQ_mk ?_ ?_ | refine PK_mk ?_ ?_) <;> intro hg <;> (try simp only [hg]) <;> (try simp only [bunB, ne_eq] at hg) <;> first | (exfalso; omega) | (exfalso; exact Bool.noConfusion hg) | (exfalso; exact hg trivial) | skip) | refine And.intro (by omega) ?_ | omega
    rw [cls_no hno hlt]
theorem low_yes {r : Int} {i : Nat} (hno : ∀ j, j < i → lowerP r (lowers.getD j lower0) = false) (hi : i < 11) (hp : lowerP r (lowers.getD i lower0) = true) : low r = r + (lowers.getD i lower0).2.2 := by
  rw [low, (first_at (l := lowers) (d := lower0) hno (by rw [low_len]; exact hi) hp).2]; rfl
theorem low_no {r : Int} {i : Nat} (hno : ∀ j, j < i → lowerP r (lowers.getD j lower0) = false) (hi : ¬ i < 11) : low r = r := by
  rw [low, (first_none (l := lowers) (d := lower0) (p := lowerP r) (fun j hj => hno j (by rw [low_len] at hj; omega))).2]; rfl
theorem rlower_spec (r : Int) : Spec Try.prog 38 [I32 r] (I32 (low r)) := by
  refine spec_mk (z := false) (ts := [.tmp 2]) ok1 Try.func38 rfl rfl (by decide +kernel) (by simp [Try.ntmps38]) rfl ?_
  repeat' first | refine WE_fit (lowers_spec) ?_ ?_ | simp (maxSteps := 4000000) (disch := omega) only [bunD, bun, ↓WG_true, ↓WG_false, labelOf, findLabel, Nat.reduceEqDiff, ↓reduceIte, imp, shift, killO, cond_true, cond_false, Nat.reduceBEq, hasId, Nat.reduceAdd, Nat.reduceMul, Nat.reduceSub, Nat.reduceLeDiff, reduceCtorEq, Int.reduceNe, Int.reduceLE, Int.reduceEq, ne_eq, Int.reducePow, Int.reduceAdd, Int.reduceSub, Int.reduceMul, unown, names, plainR, Int.reduceBEq, Int.reduceLT, Int.reduceGT, Int.reduceGE, Int.reduceBNe, below, noF, isF, lendObs, lendOb, kindOk, ren, givL, updM, backO, renO, belowM, B3, B4, B21, B26, B76, bunN, tab, tabC, ran_flen, cla_flen, low_flen, spl_flen, ran_take, cla_take, low_take, spl_take, ran_n0, ran_n1, cla_n0, cla_n1, cla_n2, cla_n3, low_n0, low_n1, low_n2, spl_n0, spl_n1, spl_n2, spl_n3, spl_n4, rangeC, classC, lowerC, splitC] | exact NK_no _ | refine NK_cl _ _ ?_ | exact clean_v _ | exact clean_u8 _ _ _ _ | exact clean_i32 _ _ _ _ | exact clean_str _ _ _ _ | refine clean_tup _ ?_ | refine clean_ag _ ?_ | exact cleans_nil | refine cleans_cons _ _ ?_ ?_ | refine DR_q _ ?_ | ((first | refine WG_mk ?_ ?_ | refine CD_mk ?_ ?_ | refine GD_mk ?_ ?_ | refine GQ_mk ?_ ?_ | refine PK_mk ?_ ?_) <;> intro hg <;> (try simp only [hg]) <;> (try simp only [bunB, ne_eq] at hg) <;> first | (exfalso; omega) | (exfalso; exact Bool.noConfusion hg) | (exfalso; exact hg trivial) | skip) | refine And.intro (by omega) ?_ | omega
  refine LP_intro (fun i : Nat => ⟨[(0, I32 r), (3, .ref 0 0 11), (4, I64 i)], [.arr 76 3 (lowers.flatMap lowerC)]⟩) (fun i => i ≤ 11 ∧ ∀ j, j < i → lowerP r (lowers.getD j lower0) = false) (fun i => 11 - i) 0 (by simp) (by (simp (disch := omega) [wk, wkT, wkM, noF, isF, get, belowT, belowM, below, belows, I64, I32, Bv, U8, Sv, lowerC, lower0] <;> try omega)) ?_
  intro i ⟨hi, hno⟩
  by_cases hlt : i < 11
  · have h5 := low_ok hlt
    repeat' first | simp (maxSteps := 4000000) (disch := omega) only [bunD, bun, ↓WG_true, ↓WG_false, labelOf, findLabel, Nat.reduceEqDiff, ↓reduceIte, imp, shift, killO, cond_true, cond_false, Nat.reduceBEq, hasId, Nat.reduceAdd, Nat.reduceMul, Nat.reduceSub, Nat.reduceLeDiff, reduceCtorEq, Int.reduceNe, Int.reduceLE, Int.reduceEq, ne_eq, Int.reducePow, Int.reduceAdd, Int.reduceSub, Int.reduceMul, unown, names, plainR, Int.reduceBEq, Int.reduceLT, Int.reduceGT, Int.reduceGE, Int.reduceBNe, below, noF, isF, lendObs, lendOb, kindOk, ren, givL, updM, backO, renO, belowM, B3, B4, B21, B26, B76, bunN, tab, tabC, ran_flen, cla_flen, low_flen, spl_flen, ran_take, cla_take, low_take, spl_take, ran_n0, ran_n1, cla_n0, cla_n1, cla_n2, cla_n3, low_n0, low_n1, low_n2, spl_n0, spl_n1, spl_n2, spl_n3, spl_n4, rangeC, classC, lowerC, splitC] | refine DR_q _ ?_ | ((first | refine WG_mk ?_ ?_ | refine CD_mk ?_ ?_ | refine GD_mk ?_ ?_ | refine GQ_mk ?_ ?_ | refine PK_mk ?_ ?_) <;> intro hg <;> (try simp only [hg]) <;> (try simp only [bunB, ne_eq] at hg) <;> first | (exfalso; omega) | (exfalso; exact Bool.noConfusion hg) | (exfalso; exact hg trivial) | skip) | refine And.intro (by omega) ?_ | omega
    · rw [low_yes hno (by omega) (by simp only [lowerP, Bool.and_eq_true, decide_eq_true_eq]; omega)]
    all_goals
      refine ⟨i + 1, ⟨by omega, upto_succ hno ?_⟩, by omega, by (simp (disch := omega) [wk, wkT, wkM, noF, isF, get, belowT, belowM, below, belows, I64, I32, Bv, U8, Sv, lowerC, lower0] <;> try omega)⟩
      simp only [lowerP, Bool.and_eq_false_iff, decide_eq_false_iff_not]; omega
  · repeat' first | simp (maxSteps := 4000000) (disch := omega) only [bunD, bun, ↓WG_true, ↓WG_false, labelOf, findLabel, Nat.reduceEqDiff, ↓reduceIte, imp, shift, killO, cond_true, cond_false, Nat.reduceBEq, hasId, Nat.reduceAdd, Nat.reduceMul, Nat.reduceSub, Nat.reduceLeDiff, reduceCtorEq, Int.reduceNe, Int.reduceLE, Int.reduceEq, ne_eq, Int.reducePow, Int.reduceAdd, Int.reduceSub, Int.reduceMul, unown, names, plainR, Int.reduceBEq, Int.reduceLT, Int.reduceGT, Int.reduceGE, Int.reduceBNe, below, noF, isF, lendObs, lendOb, kindOk, ren, givL, updM, backO, renO, belowM, B3, B4, B21, B26, B76, bunN, tab, tabC, ran_flen, cla_flen, low_flen, spl_flen, ran_take, cla_take, low_take, spl_take, ran_n0, ran_n1, cla_n0, cla_n1, cla_n2, cla_n3, low_n0, low_n1, low_n2, spl_n0, spl_n1, spl_n2, spl_n3, spl_n4, rangeC, classC, lowerC, splitC] | refine DR_q _ ?_ | ((first | refine WG_mk ?_ ?_ | refine CD_mk ?_ ?_ | refine GD_mk ?_ ?_ | refine GQ_mk ?_ ?_ | refine PK_mk ?_ ?_) <;> intro hg <;> (try simp only [hg]) <;> (try simp only [bunB, ne_eq] at hg) <;> first | (exfalso; omega) | (exfalso; exact Bool.noConfusion hg) | (exfalso; exact hg trivial) | skip) | refine And.intro (by omega) ?_ | omega
    rw [low_no hno hlt]
theorem rwide_spec (r : Int) : Spec Try.prog 37 [I32 r] (Bv (wide r)) := by
  refine spec_mk (z := false) (ts := [.tmp 2]) ok1 Try.func37 rfl rfl (by decide +kernel) (by simp [Try.ntmps37]) rfl ?_
  repeat' first | simp (maxSteps := 4000000) (disch := omega) only [bunD, bun, ↓WG_true, ↓WG_false, labelOf, findLabel, Nat.reduceEqDiff, ↓reduceIte, imp, shift, killO, cond_true, cond_false, Nat.reduceBEq, hasId, Nat.reduceAdd, Nat.reduceMul, Nat.reduceSub, Nat.reduceLeDiff, reduceCtorEq, Int.reduceNe, Int.reduceLE, Int.reduceEq, ne_eq, Int.reducePow, Int.reduceAdd, Int.reduceSub, Int.reduceMul, unown, names, plainR, Int.reduceBEq, Int.reduceLT, Int.reduceGT, Int.reduceGE, Int.reduceBNe, below, noF, isF, lendObs, lendOb, kindOk, ren, givL, updM, backO, renO, belowM, B4, B21, bunN, tab, tabC, ran_flen, cla_flen, low_flen, spl_flen, ran_take, cla_take, low_take, spl_take, ran_n0, ran_n1, cla_n0, cla_n1, cla_n2, cla_n3, low_n0, low_n1, low_n2, spl_n0, spl_n1, spl_n2, spl_n3, spl_n4, rangeC, classC, lowerC, splitC] | refine DR_q _ ?_ | ((first | refine WG_mk ?_ ?_ | refine CD_mk ?_ ?_ | refine GD_mk ?_ ?_ | refine GQ_mk ?_ ?_ | refine PK_mk ?_ ?_) <;> intro hg <;> (try simp only [hg]) <;> (try simp only [bunB, ne_eq] at hg) <;> first | (exfalso; omega) | (exfalso; exact Bool.noConfusion hg) | (exfalso; exact hg trivial) | skip) | refine And.intro (by omega) ?_ | omega
  all_goals (congr 2; first | rfl | (first | rw [Bool.eq_iff_iff] | skip); simp_all [wide] <;> omega)
theorem rsplit_spec (r : Int) : Spec Try.prog 71 [I32 r] (.tup [.ag (splitC (spl r).1), Bv (spl r).2]) := by
  refine spec_mk (z := false) (ts := [.cell 2 53, .tmp 3]) ok1 Try.func71 rfl rfl (by decide +kernel) (by simp [Try.ntmps71]) rfl ?_
  cases hw : wide r with
  | true =>
    have hb : 65281 ≤ r ∧ r ≤ 65374 := by simpa [wide] using hw
    repeat' first | refine WE_fit (rwide_spec _) ?_ ?_ | simp (maxSteps := 4000000) (disch := omega) only [bunD, bun, ↓WG_true, ↓WG_false, labelOf, findLabel, Nat.reduceEqDiff, ↓reduceIte, imp, shift, killO, cond_true, cond_false, Nat.reduceBEq, hasId, Nat.reduceAdd, Nat.reduceMul, Nat.reduceSub, Nat.reduceLeDiff, reduceCtorEq, Int.reduceNe, Int.reduceLE, Int.reduceEq, ne_eq, Int.reducePow, Int.reduceAdd, Int.reduceSub, Int.reduceMul, unown, names, plainR, Int.reduceBEq, Int.reduceLT, Int.reduceGT, Int.reduceGE, Int.reduceBNe, below, noF, isF, lendObs, lendOb, kindOk, ren, givL, updM, backO, renO, belowM, hw, B3, B4, B21, B50, B53, bunN, tab, tabC, ran_flen, cla_flen, low_flen, spl_flen, ran_take, cla_take, low_take, spl_take, ran_n0, ran_n1, cla_n0, cla_n1, cla_n2, cla_n3, low_n0, low_n1, low_n2, spl_n0, spl_n1, spl_n2, spl_n3, spl_n4, rangeC, classC, lowerC, splitC] | exact NK_no _ | refine NK_cl _ _ ?_ | exact clean_v _ | exact clean_u8 _ _ _ _ | exact clean_i32 _ _ _ _ | exact clean_str _ _ _ _ | refine clean_tup _ ?_ | refine clean_ag _ ?_ | exact cleans_nil | refine cleans_cons _ _ ?_ ?_ | refine DR_q _ ?_ | ((first | refine WG_mk ?_ ?_ | refine CD_mk ?_ ?_ | refine GD_mk ?_ ?_ | refine GQ_mk ?_ ?_ | refine PK_mk ?_ ?_) <;> intro hg <;> (try simp only [hg]) <;> (try simp only [bunB, ne_eq] at hg) <;> first | (exfalso; omega) | (exfalso; exact Bool.noConfusion hg) | (exfalso; exact hg trivial) | skip) | refine And.intro (by omega) ?_ | omega
    simp only [spl, hw]
  | false =>
    repeat' first | refine WE_fit (rwide_spec _) ?_ ?_ | refine WE_fit (splits_spec) ?_ ?_ | simp (maxSteps := 4000000) (disch := omega) only [bunD, bun, ↓WG_true, ↓WG_false, labelOf, findLabel, Nat.reduceEqDiff, ↓reduceIte, imp, shift, killO, cond_true, cond_false, Nat.reduceBEq, hasId, Nat.reduceAdd, Nat.reduceMul, Nat.reduceSub, Nat.reduceLeDiff, reduceCtorEq, Int.reduceNe, Int.reduceLE, Int.reduceEq, ne_eq, Int.reducePow, Int.reduceAdd, Int.reduceSub, Int.reduceMul, unown, names, plainR, Int.reduceBEq, Int.reduceLT, Int.reduceGT, Int.reduceGE, Int.reduceBNe, below, noF, isF, lendObs, lendOb, kindOk, ren, givL, updM, backO, renO, belowM, hw, B3, B4, B21, B50, B53, bunN, tab, tabC, ran_flen, cla_flen, low_flen, spl_flen, ran_take, cla_take, low_take, spl_take, ran_n0, ran_n1, cla_n0, cla_n1, cla_n2, cla_n3, low_n0, low_n1, low_n2, spl_n0, spl_n1, spl_n2, spl_n3, spl_n4, rangeC, classC, lowerC, splitC] | exact NK_no _ | refine NK_cl _ _ ?_ | exact clean_v _ | exact clean_u8 _ _ _ _ | exact clean_i32 _ _ _ _ | exact clean_str _ _ _ _ | refine clean_tup _ ?_ | refine clean_ag _ ?_ | exact cleans_nil | refine cleans_cons _ _ ?_ ?_ | refine DR_q _ ?_ | ((first | refine WG_mk ?_ ?_ | refine CD_mk ?_ ?_ | refine GD_mk ?_ ?_ | refine GQ_mk ?_ ?_ | refine PK_mk ?_ ?_) <;> intro hg <;> (try simp only [hg]) <;> (try simp only [bunB, ne_eq] at hg) <;> first | (exfalso; omega) | (exfalso; exact Bool.noConfusion hg) | (exfalso; exact hg trivial) | skip) | refine And.intro (by omega) ?_ | omega
    refine LP_intro (fun i : Nat => ⟨[(0, I32 r), (2, .ptr 0 0), (3, Bv false), (4, .ref 1 0 42), (5, I64 i)], [.row true 1 (splitC split0), .arr 53 5 (splits.flatMap splitC)]⟩) (fun i => i ≤ 42 ∧ ∀ j, j < i → splitP r (splits.getD j split0) = false) (fun i => 42 - i) 0 (by simp) (by (simp (disch := omega) [wk, wkT, wkM, noF, isF, get, belowT, belowM, below, belows, I64, I32, Bv, U8, Sv, splitC, split0] <;> try omega)) ?_
    intro i ⟨hi, hno⟩
    repeat' first | simp (maxSteps := 4000000) (disch := omega) only [bunD, bun, ↓WG_true, ↓WG_false, labelOf, findLabel, Nat.reduceEqDiff, ↓reduceIte, imp, shift, killO, cond_true, cond_false, Nat.reduceBEq, hasId, Nat.reduceAdd, Nat.reduceMul, Nat.reduceSub, Nat.reduceLeDiff, reduceCtorEq, Int.reduceNe, Int.reduceLE, Int.reduceEq, ne_eq, Int.reducePow, Int.reduceAdd, Int.reduceSub, Int.reduceMul, unown, names, plainR, Int.reduceBEq, Int.reduceLT, Int.reduceGT, Int.reduceGE, Int.reduceBNe, below, noF, isF, lendObs, lendOb, kindOk, ren, givL, updM, backO, renO, belowM, B3, B4, B21, B50, B53, bunN, tab, tabC, ran_flen, cla_flen, low_flen, spl_flen, ran_take, cla_take, low_take, spl_take, ran_n0, ran_n1, cla_n0, cla_n1, cla_n2, cla_n3, low_n0, low_n1, low_n2, spl_n0, spl_n1, spl_n2, spl_n3, spl_n4, rangeC, classC, lowerC, splitC] | refine DR_q _ ?_ | ((first | refine WG_mk ?_ ?_ | refine CD_mk ?_ ?_ | refine GD_mk ?_ ?_ | refine GQ_mk ?_ ?_ | refine PK_mk ?_ ?_) <;> intro hg <;> (try simp only [hg]) <;> (try simp only [bunB, ne_eq] at hg) <;> first | (exfalso; omega) | (exfalso; exact Bool.noConfusion hg) | (exfalso; exact hg trivial) | skip) | refine And.intro (by omega) ?_ | omega
    · have hg : (splits.getD i split0).1 = r := by assumption
      have := (first_at (l := splits) (d := split0) hno (by rw [spl_len]; omega) (by simp only [splitP, beq_iff_eq]; exact hg)).2
      simp only [spl, hw, this, splV]
    · refine ⟨i + 1, ⟨by omega, upto_succ hno ?_⟩, by omega, by (simp (disch := omega) [wk, wkT, wkM, noF, isF, get, belowT, belowM, below, belows, I64, I32, Bv, U8, Sv, splitC, split0] <;> try omega)⟩
      simp only [splitP, beq_eq_false_iff_ne, ne_eq]; assumption
    · have := (first_none (l := splits) (d := split0) (p := splitP r) (fun j hj => hno j (by rw [spl_len] at hj; omega))).2
      simp only [spl, hw, this, splV]; rfl
theorem pair_zero (a : Int) : splits.find? (pairP a 0) = none := by
  rw [List.find?_eq_none]
  intro x hx
  have : (splits.all fun x => !(!x.2.2.2.1 && !x.2.2.2.2 && (x.2.2.1 == 0))) = true := by decide +kernel
  have := List.all_eq_true.1 this x hx
  simp only [Bool.not_eq_true', Bool.and_eq_false_iff] at this
  simp only [pairP, Bool.and_eq_true]
  rintro ⟨⟨h1, _⟩, h2⟩
  rcases this with h | h
  · rcases h with h | h <;> simp_all
  · rw [h] at h2; simp at h2
theorem rpair_spec (a b : Int) : Spec Try.prog 72 [I32 a, I32 b] (.tup [I32 (pr a b).1, Bv (pr a b).2]) := by
  refine spec_mk (z := false) (ts := [.tmp 4, .tmp 5]) ok1 Try.func72 rfl rfl (by decide +kernel) (by simp [Try.ntmps72]) rfl ?_
  repeat' first | refine WE_fit (splits_spec) ?_ ?_ | simp (maxSteps := 4000000) (disch := omega) only [bunD, bun, ↓WG_true, ↓WG_false, labelOf, findLabel, Nat.reduceEqDiff, ↓reduceIte, imp, shift, killO, cond_true, cond_false, Nat.reduceBEq, hasId, Nat.reduceAdd, Nat.reduceMul, Nat.reduceSub, Nat.reduceLeDiff, reduceCtorEq, Int.reduceNe, Int.reduceLE, Int.reduceEq, ne_eq, Int.reducePow, Int.reduceAdd, Int.reduceSub, Int.reduceMul, unown, names, plainR, Int.reduceBEq, Int.reduceLT, Int.reduceGT, Int.reduceGE, Int.reduceBNe, below, noF, isF, lendObs, lendOb, kindOk, ren, givL, updM, backO, renO, belowM, B3, B4, B21, B50, B53, bunN, tab, tabC, ran_flen, cla_flen, low_flen, spl_flen, ran_take, cla_take, low_take, spl_take, ran_n0, ran_n1, cla_n0, cla_n1, cla_n2, cla_n3, low_n0, low_n1, low_n2, spl_n0, spl_n1, spl_n2, spl_n3, spl_n4, rangeC, classC, lowerC, splitC] | exact NK_no _ | refine NK_cl _ _ ?_ | exact clean_v _ | exact clean_u8 _ _ _ _ | exact clean_i32 _ _ _ _ | exact clean_str _ _ _ _ | refine clean_tup _ ?_ | refine clean_ag _ ?_ | exact cleans_nil | refine cleans_cons _ _ ?_ ?_ | refine DR_q _ ?_ | ((first | refine WG_mk ?_ ?_ | refine CD_mk ?_ ?_ | refine GD_mk ?_ ?_ | refine GQ_mk ?_ ?_ | refine PK_mk ?_ ?_) <;> intro hg <;> (try simp only [hg]) <;> (try simp only [bunB, ne_eq] at hg) <;> first | (exfalso; omega) | (exfalso; exact Bool.noConfusion hg) | (exfalso; exact hg trivial) | skip) | refine And.intro (by omega) ?_ | omega
  refine LP_intro (fun i : Nat => ⟨[(0, I32 a), (1, I32 b), (6, .ref 0 0 42), (7, I64 i)], [.arr 53 5 (splits.flatMap splitC)]⟩) (fun i => i ≤ 42 ∧ ∀ j, j < i → pairP a b (splits.getD j split0) = false) (fun i => 42 - i) 0 (by simp) (by (simp (disch := omega) [wk, wkT, wkM, noF, isF, get, belowT, belowM, below, belows, I64, I32, Bv, U8, Sv, splitC, split0] <;> try omega)) ?_
  intro i ⟨hi, hno⟩
  repeat' first | simp (maxSteps := 4000000) (disch := omega) only [bunD, bun, ↓WG_true, ↓WG_false, labelOf, findLabel, Nat.reduceEqDiff, ↓reduceIte, imp, shift, killO, cond_true, cond_false, Nat.reduceBEq, hasId, Nat.reduceAdd, Nat.reduceMul, Nat.reduceSub, Nat.reduceLeDiff, reduceCtorEq, Int.reduceNe, Int.reduceLE, Int.reduceEq, ne_eq, Int.reducePow, Int.reduceAdd, Int.reduceSub, Int.reduceMul, unown, names, plainR, Int.reduceBEq, Int.reduceLT, Int.reduceGT, Int.reduceGE, Int.reduceBNe, below, noF, isF, lendObs, lendOb, kindOk, ren, givL, updM, backO, renO, belowM, B3, B4, B21, B50, B53, bunN, tab, tabC, ran_flen, cla_flen, low_flen, spl_flen, ran_take, cla_take, low_take, spl_take, ran_n0, ran_n1, cla_n0, cla_n1, cla_n2, cla_n3, low_n0, low_n1, low_n2, spl_n0, spl_n1, spl_n2, spl_n3, spl_n4, rangeC, classC, lowerC, splitC] | refine DR_q _ ?_ | ((first | refine WG_mk ?_ ?_ | refine CD_mk ?_ ?_ | refine GD_mk ?_ ?_ | refine GQ_mk ?_ ?_ | refine PK_mk ?_ ?_) <;> intro hg <;> (try simp only [hg]) <;> (try simp only [bunB, ne_eq] at hg) <;> first | (exfalso; omega) | (exfalso; exact Bool.noConfusion hg) | (exfalso; exact hg trivial) | skip) | refine And.intro (by omega) ?_ | omega
  · have := (first_at (l := splits) (d := split0) (p := pairP a b) hno (by rw [spl_len]; omega) (by simp only [pairP]; simp_all)).2
    simp only [pr, this, prV]
  all_goals try
    refine ⟨i + 1, ⟨by omega, upto_succ hno ?_⟩, by omega, by (simp (disch := omega) [wk, wkT, wkM, noF, isF, get, belowT, belowM, below, belows, I64, I32, Bv, U8, Sv, splitC, split0] <;> try omega)⟩
    simp only [pairP]; simp_all; done
  · have hb : b = 0 := by assumption
    rw [hb, pr, pair_zero]; rfl
  · have := (first_none (l := splits) (d := split0) (p := pairP a b) (fun j hj => hno j (by rw [spl_len] at hj; omega))).2
    simp only [pr, this, prV]
end Go.AE
end
