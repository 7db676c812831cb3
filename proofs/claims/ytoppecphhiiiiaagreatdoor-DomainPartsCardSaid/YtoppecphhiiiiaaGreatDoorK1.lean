/- Contracts of functions that the laws of this seat reach, and plain laws of what they compute. No condition beyond each statement's own. -/
import Derived.Test.YtoppecphhiiiiaaGreatDoorAEBun
import Derived.Test.YtoppecphhiiiiaaGreatDoorProg
import Derived.Test.YtoppecphhiiiiaaGreatDoorU1
set_option linter.unusedVariables false
set_option linter.unusedSimpArgs false
section
namespace Go.AE
open Go.Proofs
set_option maxRecDepth 20000
def T3 : TI := ⟨TypeDesc.int IntKind.i64, 1, 8, Value.int IntKind.i64 0⟩
def T4 : TI := ⟨TypeDesc.bool, 1, 1, Value.bool false⟩
def T5 : TI := ⟨TypeDesc.int IntKind.u8, 1, 1, Value.int IntKind.u8 0⟩
def T9 : TI := ⟨TypeDesc.string, 1, 16, Value.string { data := #[] }⟩
def T21 : TI := ⟨TypeDesc.int IntKind.i32, 1, 4, Value.int IntKind.i32 0⟩
def T22 : TI := ⟨TypeDesc.func #[] #[4] false, 1, 8, Value.nilFunc⟩
def T23 : TI := ⟨TypeDesc.slice 69, 1, 24, Value.slice none 0 0⟩
def T24 : TI := ⟨TypeDesc.slice 71, 1, 24, Value.slice none 0 0⟩
def T25 : TI := ⟨TypeDesc.slice 73, 1, 24, Value.slice none 0 0⟩
def T26 : TI := ⟨TypeDesc.map 21 53, 1, 8, Value.map none⟩
def T27 : TI := ⟨TypeDesc.map 55 21, 1, 8, Value.map none⟩
def T29 : TI := ⟨TypeDesc.struct #[⟨"ranges", 23, 0, false, "", "pillarbox/ucd", 0⟩, ⟨"classes", 24, 1, false, "", "pillarbox/ucd", 24⟩, ⟨"lowers", 25, 2, false, "", "pillarbox/ucd", 48⟩, ⟨"splits", 26, 3, false, "", "pillarbox/ucd", 72⟩, ⟨"pairs", 27, 4, false, "", "pillarbox/ucd", 80⟩], 5, 88, Value.agg #[Value.slice none 0 0, Value.slice none 0 0, Value.slice none 0 0, Value.map none, Value.map none]⟩
def T31 : TI := ⟨TypeDesc.slice 9, 1, 24, Value.slice none 0 0⟩
def T32 : TI := ⟨TypeDesc.int IntKind.i64, 1, 8, Value.int IntKind.i64 0⟩
def T45 : TI := ⟨TypeDesc.func #[9] #[4] false, 1, 8, Value.nilFunc⟩
def T50 : TI := ⟨TypeDesc.slice 53, 1, 24, Value.slice none 0 0⟩
def T53 : TI := ⟨TypeDesc.struct #[⟨"Rune", 21, 0, false, "", "", 0⟩, ⟨"One", 21, 1, false, "", "", 4⟩, ⟨"Two", 21, 2, false, "", "", 8⟩, ⟨"Soft", 4, 3, false, "", "", 12⟩, ⟨"Out", 4, 4, false, "", "", 13⟩], 5, 16, Value.agg #[Value.int IntKind.i32 0, Value.int IntKind.i32 0, Value.int IntKind.i32 0, Value.bool false, Value.bool false]⟩
def T55 : TI := ⟨TypeDesc.struct #[⟨"one", 21, 0, false, "", "pillarbox/ucd", 0⟩, ⟨"two", 21, 1, false, "", "pillarbox/ucd", 4⟩], 2, 8, Value.agg #[Value.int IntKind.i32 0, Value.int IntKind.i32 0]⟩
def T60 : TI := ⟨TypeDesc.func #[45] #[] false, 1, 8, Value.nilFunc⟩
def T63 : TI := ⟨TypeDesc.slice 21, 1, 24, Value.slice none 0 0⟩
def T69 : TI := ⟨TypeDesc.struct #[⟨"Lo", 21, 0, false, "", "", 0⟩, ⟨"Hi", 21, 1, false, "", "", 4⟩, ⟨"Cat", 3, 2, false, "", "", 8⟩, ⟨"Bidi", 3, 3, false, "", "", 16⟩, ⟨"Join", 3, 4, false, "", "", 24⟩, ⟨"Script", 3, 5, false, "", "", 32⟩], 6, 40, Value.agg #[Value.int IntKind.i32 0, Value.int IntKind.i32 0, Value.int IntKind.i64 0, Value.int IntKind.i64 0, Value.int IntKind.i64 0, Value.int IntKind.i64 0]⟩
def T71 : TI := ⟨TypeDesc.struct #[⟨"Lo", 21, 0, false, "", "", 0⟩, ⟨"Hi", 21, 1, false, "", "", 4⟩, ⟨"Class", 3, 2, false, "", "", 8⟩, ⟨"Step", 3, 3, false, "", "", 16⟩], 4, 24, Value.agg #[Value.int IntKind.i32 0, Value.int IntKind.i32 0, Value.int IntKind.i64 0, Value.int IntKind.i64 0]⟩
def T73 : TI := ⟨TypeDesc.struct #[⟨"Lo", 21, 0, false, "", "", 0⟩, ⟨"Hi", 21, 1, false, "", "", 4⟩, ⟨"By", 21, 2, false, "", "", 8⟩], 3, 12, Value.agg #[Value.int IntKind.i32 0, Value.int IntKind.i32 0, Value.int IntKind.i32 0]⟩
def T76 : TI := ⟨TypeDesc.func #[45] #[] false, 1, 8, Value.nilFunc⟩
def T84 : TI := ⟨TypeDesc.slice 5, 1, 24, Value.slice none 0 0⟩
def T85 : TI := ⟨TypeDesc.func #[21] #[4] false, 1, 8, Value.nilFunc⟩
def T96 : TI := ⟨TypeDesc.int IntKind.u64, 1, 8, Value.int IntKind.u64 0⟩
def T99 : TI := ⟨TypeDesc.func #[21] #[21] false, 1, 8, Value.nilFunc⟩
def T101 : TI := ⟨TypeDesc.struct #[⟨"Table", 29, 0, true, "", "", 0⟩], 5, 88, Value.agg #[Value.slice none 0 0, Value.slice none 0 0, Value.slice none 0 0, Value.map none, Value.map none]⟩
def T124 : TI := ⟨TypeDesc.struct #[⟨"err", 32, 0, false, "", "pillarbox/label", 0⟩, ⟨"bad", 22, 1, false, "", "pillarbox/label", 8⟩], 2, 16, Value.agg #[Value.int IntKind.i64 0, Value.nilFunc]⟩
def T133 : TI := ⟨TypeDesc.func #[73] #[4] false, 1, 8, Value.nilFunc⟩
def T150 : TI := ⟨TypeDesc.slice 124, 1, 24, Value.slice none 0 0⟩
def T155 : TI := ⟨TypeDesc.array 8 3, 8, 64, Value.agg #[Value.int IntKind.i64 0, Value.int IntKind.i64 0, Value.int IntKind.i64 0, Value.int IntKind.i64 0, Value.int IntKind.i64 0, Value.int IntKind.i64 0, Value.int IntKind.i64 0, Value.int IntKind.i64 0]⟩
def T162 : TI := ⟨TypeDesc.func #[21, 21] #[3] false, 1, 8, Value.nilFunc⟩
def T176 : TI := ⟨TypeDesc.func #[69, 21] #[3] false, 1, 8, Value.nilFunc⟩
def T177 : TI := ⟨TypeDesc.func #[180] #[4] false, 1, 8, Value.nilFunc⟩
def T180 : TI := ⟨TypeDesc.struct #[⟨"t", 29, 0, false, "", "pillarbox/context", 0⟩, ⟨"l", 63, 5, false, "", "pillarbox/context", 88⟩, ⟨"at", 3, 6, false, "", "pillarbox/context", 112⟩], 7, 120, Value.agg #[Value.slice none 0 0, Value.slice none 0 0, Value.slice none 0 0, Value.map none, Value.map none, Value.slice none 0 0, Value.int IntKind.i64 0]⟩
def T181 : TI := ⟨TypeDesc.func #[197] #[] false, 1, 8, Value.nilFunc⟩
def T182 : TI := ⟨TypeDesc.func #[197] #[] false, 1, 8, Value.nilFunc⟩
def T186 : TI := ⟨TypeDesc.func #[71] #[4] false, 1, 8, Value.nilFunc⟩
def T195 : TI := ⟨TypeDesc.map 21 177, 1, 8, Value.map none⟩
def T197 : TI := ⟨TypeDesc.func #[3, 21] #[4] false, 1, 8, Value.nilFunc⟩
def T201 : TI := ⟨TypeDesc.slice 63, 1, 24, Value.slice none 0 0⟩
def C1 : Ctx := { flat := [53, 55, 69, 71, 73], ty := [(3, T3),
 (4, T4),
 (5, T5),
 (9, T9),
 (21, T21),
 (22, T22),
 (23, T23),
 (24, T24),
 (25, T25),
 (26, T26),
 (27, T27),
 (29, T29),
 (31, T31),
 (32, T32),
 (45, T45),
 (50, T50),
 (53, T53),
 (55, T55),
 (60, T60),
 (63, T63),
 (69, T69),
 (71, T71),
 (73, T73),
 (76, T76),
 (84, T84),
 (85, T85),
 (96, T96),
 (99, T99),
 (101, T101),
 (124, T124),
 (133, T133),
 (150, T150),
 (155, T155),
 (162, T162),
 (176, T176),
 (177, T177),
 (180, T180),
 (181, T181),
 (182, T182),
 (186, T186),
 (195, T195),
 (197, T197),
 (201, T201)] }
def z5p (t : Nat) (i : TI) : Prop := Tryz.prog.underlying t = some i.d ∧ ∃ j, Tryz.prog.info? t = some j ∧ j.size = i.size ∧ j.bytes = i.bytes ∧ j.zero = some i.zero ∧ i.zero.cells.size = i.size
theorem ty1 (t : Nat) (d : TypeDesc) (sz b : Nat) (z : Value) (h0 : z.cells.size = sz) (h1 : Tryz.prog.underlying t = some d) (h2 : (Tryz.prog.info? t).map (fun j => (j.size, j.bytes, j.zero)) = some (sz, b, some z)) : z5p t ⟨d, sz, b, z⟩ := by
 refine ⟨h1, ?_⟩
 cases e : Tryz.prog.info? t with
 | none => rw [e] at h2; simp at h2
 | some j => rw [e] at h2; simp at h2; exact ⟨j, rfl, h2.1, h2.2.1, h2.2.2, h0⟩
theorem zk5 : ∀ (l : List (Nat × TI)) (t : Nat) (i : TI), zpa l t = some i → (t, i) ∈ l
 | [], t, i, h => by simp [zpa] at h
 | (k, x) :: l, t, i, h => by
   simp only [zpa] at h
   split at h
   · rename_i e; subst e; simp at h; subst h; exact List.mem_cons_self ..
   · exact List.mem_cons_of_mem _ (zk5 l t i h)
theorem good3 : z5p 3 T3 := ty1 _ _ _ _ _ rfl (by kernel_rfl) (by kernel_rfl)
theorem good4 : z5p 4 T4 := ty1 _ _ _ _ _ rfl (by kernel_rfl) (by kernel_rfl)
theorem good5 : z5p 5 T5 := ty1 _ _ _ _ _ rfl (by kernel_rfl) (by kernel_rfl)
theorem good9 : z5p 9 T9 := ty1 _ _ _ _ _ rfl (by kernel_rfl) (by kernel_rfl)
theorem y0lt : z5p 21 T21 := ty1 _ _ _ _ _ rfl (by kernel_rfl) (by kernel_rfl)
theorem y0lu : z5p 22 T22 := ty1 _ _ _ _ _ rfl (by kernel_rfl) (by kernel_rfl)
theorem y0lv : z5p 23 T23 := ty1 _ _ _ _ _ rfl (by kernel_rfl) (by kernel_rfl)
theorem y0lw : z5p 24 T24 := ty1 _ _ _ _ _ rfl (by kernel_rfl) (by kernel_rfl)
theorem y0lx : z5p 25 T25 := ty1 _ _ _ _ _ rfl (by kernel_rfl) (by kernel_rfl)
theorem y0ly : z5p 26 T26 := ty1 _ _ _ _ _ rfl (by kernel_rfl) (by kernel_rfl)
theorem y0lz : z5p 27 T27 := ty1 _ _ _ _ _ rfl (by kernel_rfl) (by kernel_rfl)
theorem y0m0 : z5p 29 T29 := ty1 _ _ _ _ _ rfl (by kernel_rfl) (by kernel_rfl)
theorem y0m1 : z5p 31 T31 := ty1 _ _ _ _ _ rfl (by kernel_rfl) (by kernel_rfl)
theorem y0m2 : z5p 32 T32 := ty1 _ _ _ _ _ rfl (by kernel_rfl) (by kernel_rfl)
theorem y0m3 : z5p 45 T45 := ty1 _ _ _ _ _ rfl (by kernel_rfl) (by kernel_rfl)
theorem y0m4 : z5p 50 T50 := ty1 _ _ _ _ _ rfl (by kernel_rfl) (by kernel_rfl)
theorem y0m5 : z5p 53 T53 := ty1 _ _ _ _ _ rfl (by kernel_rfl) (by kernel_rfl)
theorem y0m6 : z5p 55 T55 := ty1 _ _ _ _ _ rfl (by kernel_rfl) (by kernel_rfl)
theorem y0m7 : z5p 60 T60 := ty1 _ _ _ _ _ rfl (by kernel_rfl) (by kernel_rfl)
theorem y0m8 : z5p 63 T63 := ty1 _ _ _ _ _ rfl (by kernel_rfl) (by kernel_rfl)
theorem y0m9 : z5p 69 T69 := ty1 _ _ _ _ _ rfl (by kernel_rfl) (by kernel_rfl)
theorem y0ma : z5p 71 T71 := ty1 _ _ _ _ _ rfl (by kernel_rfl) (by kernel_rfl)
theorem y0mb : z5p 73 T73 := ty1 _ _ _ _ _ rfl (by kernel_rfl) (by kernel_rfl)
theorem y0mc : z5p 76 T76 := ty1 _ _ _ _ _ rfl (by kernel_rfl) (by kernel_rfl)
theorem y0md : z5p 84 T84 := ty1 _ _ _ _ _ rfl (by kernel_rfl) (by kernel_rfl)
theorem y0me : z5p 85 T85 := ty1 _ _ _ _ _ rfl (by kernel_rfl) (by kernel_rfl)
theorem y0mf : z5p 96 T96 := ty1 _ _ _ _ _ rfl (by kernel_rfl) (by kernel_rfl)
theorem y0mg : z5p 99 T99 := ty1 _ _ _ _ _ rfl (by kernel_rfl) (by kernel_rfl)
theorem y0h5 : z5p 101 T101 := ty1 _ _ _ _ _ rfl (by kernel_rfl) (by kernel_rfl)
theorem y0h6 : z5p 124 T124 := ty1 _ _ _ _ _ rfl (by kernel_rfl) (by kernel_rfl)
theorem y0h7 : z5p 133 T133 := ty1 _ _ _ _ _ rfl (by kernel_rfl) (by kernel_rfl)
theorem y0h8 : z5p 150 T150 := ty1 _ _ _ _ _ rfl (by kernel_rfl) (by kernel_rfl)
theorem y0h9 : z5p 155 T155 := ty1 _ _ _ _ _ rfl (by kernel_rfl) (by kernel_rfl)
theorem y0ha : z5p 162 T162 := ty1 _ _ _ _ _ rfl (by kernel_rfl) (by kernel_rfl)
theorem y0hb : z5p 176 T176 := ty1 _ _ _ _ _ rfl (by kernel_rfl) (by kernel_rfl)
theorem y0hc : z5p 177 T177 := ty1 _ _ _ _ _ rfl (by kernel_rfl) (by kernel_rfl)
theorem y0hd : z5p 180 T180 := ty1 _ _ _ _ _ rfl (by kernel_rfl) (by kernel_rfl)
theorem y0he : z5p 181 T181 := ty1 _ _ _ _ _ rfl (by kernel_rfl) (by kernel_rfl)
theorem y0hf : z5p 182 T182 := ty1 _ _ _ _ _ rfl (by kernel_rfl) (by kernel_rfl)
theorem y0hg : z5p 186 T186 := ty1 _ _ _ _ _ rfl (by kernel_rfl) (by kernel_rfl)
theorem y0hh : z5p 195 T195 := ty1 _ _ _ _ _ rfl (by kernel_rfl) (by kernel_rfl)
theorem y0hi : z5p 197 T197 := ty1 _ _ _ _ _ rfl (by kernel_rfl) (by kernel_rfl)
theorem y0hj : z5p 201 T201 := ty1 _ _ _ _ _ rfl (by kernel_rfl) (by kernel_rfl)
theorem goods : ∀ p ∈ C1.ty, z5p p.1 p.2 := (List.forall_mem_cons.2 ⟨good3, (List.forall_mem_cons.2 ⟨good4, (List.forall_mem_cons.2 ⟨good5, (List.forall_mem_cons.2 ⟨good9, (List.forall_mem_cons.2 ⟨y0lt, (List.forall_mem_cons.2 ⟨y0lu, (List.forall_mem_cons.2 ⟨y0lv, (List.forall_mem_cons.2 ⟨y0lw, (List.forall_mem_cons.2 ⟨y0lx, (List.forall_mem_cons.2 ⟨y0ly, (List.forall_mem_cons.2 ⟨y0lz, (List.forall_mem_cons.2 ⟨y0m0, (List.forall_mem_cons.2 ⟨y0m1, (List.forall_mem_cons.2 ⟨y0m2, (List.forall_mem_cons.2 ⟨y0m3, (List.forall_mem_cons.2 ⟨y0m4, (List.forall_mem_cons.2 ⟨y0m5, (List.forall_mem_cons.2 ⟨y0m6, (List.forall_mem_cons.2 ⟨y0m7, (List.forall_mem_cons.2 ⟨y0m8, (List.forall_mem_cons.2 ⟨y0m9, (List.forall_mem_cons.2 ⟨y0ma, (List.forall_mem_cons.2 ⟨y0mb, (List.forall_mem_cons.2 ⟨y0mc, (List.forall_mem_cons.2 ⟨y0md, (List.forall_mem_cons.2 ⟨y0me, (List.forall_mem_cons.2 ⟨y0mf, (List.forall_mem_cons.2 ⟨y0mg, (List.forall_mem_cons.2 ⟨y0h5, (List.forall_mem_cons.2 ⟨y0h6, (List.forall_mem_cons.2 ⟨y0h7, (List.forall_mem_cons.2 ⟨y0h8, (List.forall_mem_cons.2 ⟨y0h9, (List.forall_mem_cons.2 ⟨y0ha, (List.forall_mem_cons.2 ⟨y0hb, (List.forall_mem_cons.2 ⟨y0hc, (List.forall_mem_cons.2 ⟨y0hd, (List.forall_mem_cons.2 ⟨y0he, (List.forall_mem_cons.2 ⟨y0hf, (List.forall_mem_cons.2 ⟨y0hg, (List.forall_mem_cons.2 ⟨y0hh, (List.forall_mem_cons.2 ⟨y0hi, (List.forall_mem_cons.2 ⟨y0hj, (List.forall_mem_nil _)⟩)⟩)⟩)⟩)⟩)⟩)⟩)⟩)⟩)⟩)⟩)⟩)⟩)⟩)⟩)⟩)⟩)⟩)⟩)⟩)⟩)⟩)⟩)⟩)⟩)⟩)⟩)⟩)⟩)⟩)⟩)⟩)⟩)⟩)⟩)⟩)⟩)⟩)⟩)⟩)⟩)⟩)⟩)
theorem flats : ∀ t ∈ C1.flat, Tryz.prog.stoodInHeld t = false ∧ Tryz.prog.eqGuardType Tryz.prog.depth t = false := (List.forall_mem_cons.2 ⟨⟨by decide +kernel, by decide +kernel⟩, (List.forall_mem_cons.2 ⟨⟨by decide +kernel, by decide +kernel⟩, (List.forall_mem_cons.2 ⟨⟨by decide +kernel, by decide +kernel⟩, (List.forall_mem_cons.2 ⟨⟨by decide +kernel, by decide +kernel⟩, (List.forall_mem_cons.2 ⟨⟨by decide +kernel, by decide +kernel⟩, (List.forall_mem_nil _)⟩)⟩)⟩)⟩)⟩)
theorem ok1 : C1.Ok Tryz.prog where
 mixed := by decide +kernel
 flat := flats
 ty := fun t i h => goods (t, i) (zk5 _ _ _ h)
theorem zod : C1.ti 3 = some ⟨TypeDesc.int IntKind.i64, 1, 8, Value.int IntKind.i64 0⟩ := rfl
theorem y0da : C1.td 3 = some (TypeDesc.int IntKind.i64) := rfl
theorem y0de : C1.ti 4 = some ⟨TypeDesc.bool, 1, 1, Value.bool false⟩ := rfl
theorem y0db : C1.td 4 = some (TypeDesc.bool) := rfl
theorem y0df : C1.ti 5 = some ⟨TypeDesc.int IntKind.u8, 1, 1, Value.int IntKind.u8 0⟩ := rfl
theorem y0dc : C1.td 5 = some (TypeDesc.int IntKind.u8) := rfl
theorem zvq : C1.ti 9 = some ⟨TypeDesc.string, 1, 16, Value.string { data := #[] }⟩ := rfl
theorem y0dd : C1.td 9 = some (TypeDesc.string) := rfl
theorem y035 : C1.ti 21 = some ⟨TypeDesc.int IntKind.i32, 1, 4, Value.int IntKind.i32 0⟩ := rfl
theorem y02h : C1.td 21 = some (TypeDesc.int IntKind.i32) := rfl
theorem y036 : C1.ti 22 = some ⟨TypeDesc.func #[] #[4] false, 1, 8, Value.nilFunc⟩ := rfl
theorem y02i : C1.td 22 = some (TypeDesc.func #[] #[4] false) := rfl
theorem y037 : C1.ti 23 = some ⟨TypeDesc.slice 69, 1, 24, Value.slice none 0 0⟩ := rfl
theorem y02j : C1.td 23 = some (TypeDesc.slice 69) := rfl
theorem y038 : C1.ti 24 = some ⟨TypeDesc.slice 71, 1, 24, Value.slice none 0 0⟩ := rfl
theorem y02k : C1.td 24 = some (TypeDesc.slice 71) := rfl
theorem y039 : C1.ti 25 = some ⟨TypeDesc.slice 73, 1, 24, Value.slice none 0 0⟩ := rfl
theorem y02l : C1.td 25 = some (TypeDesc.slice 73) := rfl
theorem y03a : C1.ti 26 = some ⟨TypeDesc.map 21 53, 1, 8, Value.map none⟩ := rfl
theorem y02m : C1.td 26 = some (TypeDesc.map 21 53) := rfl
theorem y03b : C1.ti 27 = some ⟨TypeDesc.map 55 21, 1, 8, Value.map none⟩ := rfl
theorem y02n : C1.td 27 = some (TypeDesc.map 55 21) := rfl
theorem y03c : C1.ti 29 = some ⟨TypeDesc.struct #[⟨"ranges", 23, 0, false, "", "pillarbox/ucd", 0⟩, ⟨"classes", 24, 1, false, "", "pillarbox/ucd", 24⟩, ⟨"lowers", 25, 2, false, "", "pillarbox/ucd", 48⟩, ⟨"splits", 26, 3, false, "", "pillarbox/ucd", 72⟩, ⟨"pairs", 27, 4, false, "", "pillarbox/ucd", 80⟩], 5, 88, Value.agg #[Value.slice none 0 0, Value.slice none 0 0, Value.slice none 0 0, Value.map none, Value.map none]⟩ := rfl
theorem y02o : C1.td 29 = some (TypeDesc.struct #[⟨"ranges", 23, 0, false, "", "pillarbox/ucd", 0⟩, ⟨"classes", 24, 1, false, "", "pillarbox/ucd", 24⟩, ⟨"lowers", 25, 2, false, "", "pillarbox/ucd", 48⟩, ⟨"splits", 26, 3, false, "", "pillarbox/ucd", 72⟩, ⟨"pairs", 27, 4, false, "", "pillarbox/ucd", 80⟩]) := rfl
theorem zip : C1.fld 29 0 = some (0, ⟨TypeDesc.slice 69, 1, 24, Value.slice none 0 0⟩) := rfl
theorem ziq : C1.fld 29 1 = some (1, ⟨TypeDesc.slice 71, 1, 24, Value.slice none 0 0⟩) := rfl
theorem zir : C1.fld 29 2 = some (2, ⟨TypeDesc.slice 73, 1, 24, Value.slice none 0 0⟩) := rfl
theorem zis : C1.fld 29 3 = some (3, ⟨TypeDesc.map 21 53, 1, 8, Value.map none⟩) := rfl
theorem zit : C1.fld 29 4 = some (4, ⟨TypeDesc.map 55 21, 1, 8, Value.map none⟩) := rfl
theorem zro : C1.ti 31 = some ⟨TypeDesc.slice 9, 1, 24, Value.slice none 0 0⟩ := rfl
theorem y02p : C1.td 31 = some (TypeDesc.slice 9) := rfl
theorem y03d : C1.ti 32 = some ⟨TypeDesc.int IntKind.i64, 1, 8, Value.int IntKind.i64 0⟩ := rfl
theorem y02q : C1.td 32 = some (TypeDesc.int IntKind.i64) := rfl
theorem y03e : C1.ti 45 = some ⟨TypeDesc.func #[9] #[4] false, 1, 8, Value.nilFunc⟩ := rfl
theorem y02r : C1.td 45 = some (TypeDesc.func #[9] #[4] false) := rfl
theorem y03f : C1.ti 50 = some ⟨TypeDesc.slice 53, 1, 24, Value.slice none 0 0⟩ := rfl
theorem y02s : C1.td 50 = some (TypeDesc.slice 53) := rfl
theorem y03g : C1.ti 53 = some ⟨TypeDesc.struct #[⟨"Rune", 21, 0, false, "", "", 0⟩, ⟨"One", 21, 1, false, "", "", 4⟩, ⟨"Two", 21, 2, false, "", "", 8⟩, ⟨"Soft", 4, 3, false, "", "", 12⟩, ⟨"Out", 4, 4, false, "", "", 13⟩], 5, 16, Value.agg #[Value.int IntKind.i32 0, Value.int IntKind.i32 0, Value.int IntKind.i32 0, Value.bool false, Value.bool false]⟩ := rfl
theorem y02t : C1.td 53 = some (TypeDesc.struct #[⟨"Rune", 21, 0, false, "", "", 0⟩, ⟨"One", 21, 1, false, "", "", 4⟩, ⟨"Two", 21, 2, false, "", "", 8⟩, ⟨"Soft", 4, 3, false, "", "", 12⟩, ⟨"Out", 4, 4, false, "", "", 13⟩]) := rfl
theorem ziu : C1.fld 53 0 = some (0, ⟨TypeDesc.int IntKind.i32, 1, 4, Value.int IntKind.i32 0⟩) := rfl
theorem ziv : C1.fld 53 1 = some (1, ⟨TypeDesc.int IntKind.i32, 1, 4, Value.int IntKind.i32 0⟩) := rfl
theorem ziw : C1.fld 53 2 = some (2, ⟨TypeDesc.int IntKind.i32, 1, 4, Value.int IntKind.i32 0⟩) := rfl
theorem zix : C1.fld 53 3 = some (3, ⟨TypeDesc.bool, 1, 1, Value.bool false⟩) := rfl
theorem ziy : C1.fld 53 4 = some (4, ⟨TypeDesc.bool, 1, 1, Value.bool false⟩) := rfl
theorem y03h : C1.ti 55 = some ⟨TypeDesc.struct #[⟨"one", 21, 0, false, "", "pillarbox/ucd", 0⟩, ⟨"two", 21, 1, false, "", "pillarbox/ucd", 4⟩], 2, 8, Value.agg #[Value.int IntKind.i32 0, Value.int IntKind.i32 0]⟩ := rfl
theorem y02u : C1.td 55 = some (TypeDesc.struct #[⟨"one", 21, 0, false, "", "pillarbox/ucd", 0⟩, ⟨"two", 21, 1, false, "", "pillarbox/ucd", 4⟩]) := rfl
theorem ziz : C1.fld 55 0 = some (0, ⟨TypeDesc.int IntKind.i32, 1, 4, Value.int IntKind.i32 0⟩) := rfl
theorem zj0 : C1.fld 55 1 = some (1, ⟨TypeDesc.int IntKind.i32, 1, 4, Value.int IntKind.i32 0⟩) := rfl
theorem y03i : C1.ti 60 = some ⟨TypeDesc.func #[45] #[] false, 1, 8, Value.nilFunc⟩ := rfl
theorem y02v : C1.td 60 = some (TypeDesc.func #[45] #[] false) := rfl
theorem zmn : C1.ti 63 = some ⟨TypeDesc.slice 21, 1, 24, Value.slice none 0 0⟩ := rfl
theorem y02w : C1.td 63 = some (TypeDesc.slice 21) := rfl
theorem y03j : C1.ti 69 = some ⟨TypeDesc.struct #[⟨"Lo", 21, 0, false, "", "", 0⟩, ⟨"Hi", 21, 1, false, "", "", 4⟩, ⟨"Cat", 3, 2, false, "", "", 8⟩, ⟨"Bidi", 3, 3, false, "", "", 16⟩, ⟨"Join", 3, 4, false, "", "", 24⟩, ⟨"Script", 3, 5, false, "", "", 32⟩], 6, 40, Value.agg #[Value.int IntKind.i32 0, Value.int IntKind.i32 0, Value.int IntKind.i64 0, Value.int IntKind.i64 0, Value.int IntKind.i64 0, Value.int IntKind.i64 0]⟩ := rfl
theorem y02x : C1.td 69 = some (TypeDesc.struct #[⟨"Lo", 21, 0, false, "", "", 0⟩, ⟨"Hi", 21, 1, false, "", "", 4⟩, ⟨"Cat", 3, 2, false, "", "", 8⟩, ⟨"Bidi", 3, 3, false, "", "", 16⟩, ⟨"Join", 3, 4, false, "", "", 24⟩, ⟨"Script", 3, 5, false, "", "", 32⟩]) := rfl
theorem zj1 : C1.fld 69 0 = some (0, ⟨TypeDesc.int IntKind.i32, 1, 4, Value.int IntKind.i32 0⟩) := rfl
theorem zj2 : C1.fld 69 1 = some (1, ⟨TypeDesc.int IntKind.i32, 1, 4, Value.int IntKind.i32 0⟩) := rfl
theorem zj3 : C1.fld 69 2 = some (2, ⟨TypeDesc.int IntKind.i64, 1, 8, Value.int IntKind.i64 0⟩) := rfl
theorem zj4 : C1.fld 69 3 = some (3, ⟨TypeDesc.int IntKind.i64, 1, 8, Value.int IntKind.i64 0⟩) := rfl
theorem zj5 : C1.fld 69 4 = some (4, ⟨TypeDesc.int IntKind.i64, 1, 8, Value.int IntKind.i64 0⟩) := rfl
theorem zj6 : C1.fld 69 5 = some (5, ⟨TypeDesc.int IntKind.i64, 1, 8, Value.int IntKind.i64 0⟩) := rfl
theorem y03k : C1.ti 71 = some ⟨TypeDesc.struct #[⟨"Lo", 21, 0, false, "", "", 0⟩, ⟨"Hi", 21, 1, false, "", "", 4⟩, ⟨"Class", 3, 2, false, "", "", 8⟩, ⟨"Step", 3, 3, false, "", "", 16⟩], 4, 24, Value.agg #[Value.int IntKind.i32 0, Value.int IntKind.i32 0, Value.int IntKind.i64 0, Value.int IntKind.i64 0]⟩ := rfl
theorem y02y : C1.td 71 = some (TypeDesc.struct #[⟨"Lo", 21, 0, false, "", "", 0⟩, ⟨"Hi", 21, 1, false, "", "", 4⟩, ⟨"Class", 3, 2, false, "", "", 8⟩, ⟨"Step", 3, 3, false, "", "", 16⟩]) := rfl
theorem zj7 : C1.fld 71 0 = some (0, ⟨TypeDesc.int IntKind.i32, 1, 4, Value.int IntKind.i32 0⟩) := rfl
theorem zj8 : C1.fld 71 1 = some (1, ⟨TypeDesc.int IntKind.i32, 1, 4, Value.int IntKind.i32 0⟩) := rfl
theorem zj9 : C1.fld 71 2 = some (2, ⟨TypeDesc.int IntKind.i64, 1, 8, Value.int IntKind.i64 0⟩) := rfl
theorem zja : C1.fld 71 3 = some (3, ⟨TypeDesc.int IntKind.i64, 1, 8, Value.int IntKind.i64 0⟩) := rfl
theorem y03l : C1.ti 73 = some ⟨TypeDesc.struct #[⟨"Lo", 21, 0, false, "", "", 0⟩, ⟨"Hi", 21, 1, false, "", "", 4⟩, ⟨"By", 21, 2, false, "", "", 8⟩], 3, 12, Value.agg #[Value.int IntKind.i32 0, Value.int IntKind.i32 0, Value.int IntKind.i32 0]⟩ := rfl
theorem y02z : C1.td 73 = some (TypeDesc.struct #[⟨"Lo", 21, 0, false, "", "", 0⟩, ⟨"Hi", 21, 1, false, "", "", 4⟩, ⟨"By", 21, 2, false, "", "", 8⟩]) := rfl
theorem zjb : C1.fld 73 0 = some (0, ⟨TypeDesc.int IntKind.i32, 1, 4, Value.int IntKind.i32 0⟩) := rfl
theorem zjc : C1.fld 73 1 = some (1, ⟨TypeDesc.int IntKind.i32, 1, 4, Value.int IntKind.i32 0⟩) := rfl
theorem zjd : C1.fld 73 2 = some (2, ⟨TypeDesc.int IntKind.i32, 1, 4, Value.int IntKind.i32 0⟩) := rfl
theorem y03m : C1.ti 76 = some ⟨TypeDesc.func #[45] #[] false, 1, 8, Value.nilFunc⟩ := rfl
theorem y030 : C1.td 76 = some (TypeDesc.func #[45] #[] false) := rfl
theorem y03n : C1.ti 84 = some ⟨TypeDesc.slice 5, 1, 24, Value.slice none 0 0⟩ := rfl
theorem y031 : C1.td 84 = some (TypeDesc.slice 5) := rfl
theorem y03o : C1.ti 85 = some ⟨TypeDesc.func #[21] #[4] false, 1, 8, Value.nilFunc⟩ := rfl
theorem y032 : C1.td 85 = some (TypeDesc.func #[21] #[4] false) := rfl
theorem y03p : C1.ti 96 = some ⟨TypeDesc.int IntKind.u64, 1, 8, Value.int IntKind.u64 0⟩ := rfl
theorem y033 : C1.td 96 = some (TypeDesc.int IntKind.u64) := rfl
theorem y03q : C1.ti 99 = some ⟨TypeDesc.func #[21] #[21] false, 1, 8, Value.nilFunc⟩ := rfl
theorem y034 : C1.td 99 = some (TypeDesc.func #[21] #[21] false) := rfl
theorem zvb : C1.ti 101 = some ⟨TypeDesc.struct #[⟨"Table", 29, 0, true, "", "", 0⟩], 5, 88, Value.agg #[Value.slice none 0 0, Value.slice none 0 0, Value.slice none 0 0, Value.map none, Value.map none]⟩ := rfl
theorem zuw : C1.td 101 = some (TypeDesc.struct #[⟨"Table", 29, 0, true, "", "", 0⟩]) := rfl
theorem zfe : C1.fld 101 0 = some (0, ⟨TypeDesc.struct #[⟨"ranges", 23, 0, false, "", "pillarbox/ucd", 0⟩, ⟨"classes", 24, 1, false, "", "pillarbox/ucd", 24⟩, ⟨"lowers", 25, 2, false, "", "pillarbox/ucd", 48⟩, ⟨"splits", 26, 3, false, "", "pillarbox/ucd", 72⟩, ⟨"pairs", 27, 4, false, "", "pillarbox/ucd", 80⟩], 5, 88, Value.agg #[Value.slice none 0 0, Value.slice none 0 0, Value.slice none 0 0, Value.map none, Value.map none]⟩) := rfl
theorem zvc : C1.ti 124 = some ⟨TypeDesc.struct #[⟨"err", 32, 0, false, "", "pillarbox/label", 0⟩, ⟨"bad", 22, 1, false, "", "pillarbox/label", 8⟩], 2, 16, Value.agg #[Value.int IntKind.i64 0, Value.nilFunc]⟩ := rfl
theorem zux : C1.td 124 = some (TypeDesc.struct #[⟨"err", 32, 0, false, "", "pillarbox/label", 0⟩, ⟨"bad", 22, 1, false, "", "pillarbox/label", 8⟩]) := rfl
theorem zff : C1.fld 124 0 = some (0, ⟨TypeDesc.int IntKind.i64, 1, 8, Value.int IntKind.i64 0⟩) := rfl
theorem zfg : C1.fld 124 1 = some (1, ⟨TypeDesc.func #[] #[4] false, 1, 8, Value.nilFunc⟩) := rfl
theorem zvd : C1.ti 133 = some ⟨TypeDesc.func #[73] #[4] false, 1, 8, Value.nilFunc⟩ := rfl
theorem zuy : C1.td 133 = some (TypeDesc.func #[73] #[4] false) := rfl
theorem zve : C1.ti 150 = some ⟨TypeDesc.slice 124, 1, 24, Value.slice none 0 0⟩ := rfl
theorem zuz : C1.td 150 = some (TypeDesc.slice 124) := rfl
theorem zvf : C1.ti 155 = some ⟨TypeDesc.array 8 3, 8, 64, Value.agg #[Value.int IntKind.i64 0, Value.int IntKind.i64 0, Value.int IntKind.i64 0, Value.int IntKind.i64 0, Value.int IntKind.i64 0, Value.int IntKind.i64 0, Value.int IntKind.i64 0, Value.int IntKind.i64 0]⟩ := rfl
theorem zv0 : C1.td 155 = some (TypeDesc.array 8 3) := rfl
theorem zvg : C1.ti 162 = some ⟨TypeDesc.func #[21, 21] #[3] false, 1, 8, Value.nilFunc⟩ := rfl
theorem zv1 : C1.td 162 = some (TypeDesc.func #[21, 21] #[3] false) := rfl
theorem zvh : C1.ti 176 = some ⟨TypeDesc.func #[69, 21] #[3] false, 1, 8, Value.nilFunc⟩ := rfl
theorem zv2 : C1.td 176 = some (TypeDesc.func #[69, 21] #[3] false) := rfl
theorem zvi : C1.ti 177 = some ⟨TypeDesc.func #[180] #[4] false, 1, 8, Value.nilFunc⟩ := rfl
theorem zv3 : C1.td 177 = some (TypeDesc.func #[180] #[4] false) := rfl
theorem zvj : C1.ti 180 = some ⟨TypeDesc.struct #[⟨"t", 29, 0, false, "", "pillarbox/context", 0⟩, ⟨"l", 63, 5, false, "", "pillarbox/context", 88⟩, ⟨"at", 3, 6, false, "", "pillarbox/context", 112⟩], 7, 120, Value.agg #[Value.slice none 0 0, Value.slice none 0 0, Value.slice none 0 0, Value.map none, Value.map none, Value.slice none 0 0, Value.int IntKind.i64 0]⟩ := rfl
theorem zv4 : C1.td 180 = some (TypeDesc.struct #[⟨"t", 29, 0, false, "", "pillarbox/context", 0⟩, ⟨"l", 63, 5, false, "", "pillarbox/context", 88⟩, ⟨"at", 3, 6, false, "", "pillarbox/context", 112⟩]) := rfl
theorem zfh : C1.fld 180 0 = some (0, ⟨TypeDesc.struct #[⟨"ranges", 23, 0, false, "", "pillarbox/ucd", 0⟩, ⟨"classes", 24, 1, false, "", "pillarbox/ucd", 24⟩, ⟨"lowers", 25, 2, false, "", "pillarbox/ucd", 48⟩, ⟨"splits", 26, 3, false, "", "pillarbox/ucd", 72⟩, ⟨"pairs", 27, 4, false, "", "pillarbox/ucd", 80⟩], 5, 88, Value.agg #[Value.slice none 0 0, Value.slice none 0 0, Value.slice none 0 0, Value.map none, Value.map none]⟩) := rfl
theorem zfi : C1.fld 180 1 = some (5, ⟨TypeDesc.slice 21, 1, 24, Value.slice none 0 0⟩) := rfl
theorem zfj : C1.fld 180 2 = some (6, ⟨TypeDesc.int IntKind.i64, 1, 8, Value.int IntKind.i64 0⟩) := rfl
theorem zvk : C1.ti 181 = some ⟨TypeDesc.func #[197] #[] false, 1, 8, Value.nilFunc⟩ := rfl
theorem zv5 : C1.td 181 = some (TypeDesc.func #[197] #[] false) := rfl
theorem zvl : C1.ti 182 = some ⟨TypeDesc.func #[197] #[] false, 1, 8, Value.nilFunc⟩ := rfl
theorem zv6 : C1.td 182 = some (TypeDesc.func #[197] #[] false) := rfl
theorem zvm : C1.ti 186 = some ⟨TypeDesc.func #[71] #[4] false, 1, 8, Value.nilFunc⟩ := rfl
theorem zv7 : C1.td 186 = some (TypeDesc.func #[71] #[4] false) := rfl
theorem zvn : C1.ti 195 = some ⟨TypeDesc.map 21 177, 1, 8, Value.map none⟩ := rfl
theorem zv8 : C1.td 195 = some (TypeDesc.map 21 177) := rfl
theorem zvo : C1.ti 197 = some ⟨TypeDesc.func #[3, 21] #[4] false, 1, 8, Value.nilFunc⟩ := rfl
theorem zv9 : C1.td 197 = some (TypeDesc.func #[3, 21] #[4] false) := rfl
theorem zvp : C1.ti 201 = some ⟨TypeDesc.slice 63, 1, 24, Value.slice none 0 0⟩ := rfl
theorem zva : C1.td 201 = some (TypeDesc.slice 63) := rfl
theorem y02d (a : Int) : z1c C1 3 (.int .i64 a) = true := rfl
theorem y02e (a : Bool) : z1c C1 4 (.bool a) = true := rfl
theorem y02f (a : Int) : z1c C1 5 (.int .u8 a) = true := rfl
theorem y02g (a : ByteArray) : z1c C1 9 (.string a) = true := rfl
theorem zuo (a : Int) : z1c C1 21 (.int .i32 a) = true := rfl
theorem zup (a : Int) : z1c C1 32 (.int .i64 a) = true := rfl
theorem zuv (a : Int) : z1c C1 96 (.int .u64 a) = true := rfl
theorem zuq (x0 : Int) (x1 : Int) (x2 : Int) (x3 : Bool) (x4 : Bool) : z1c C1 53 (.agg #[.int .i32 x0, .int .i32 x1, .int .i32 x2, .bool x3, .bool x4]) = true := rfl
theorem zur (x0 : Int) (x1 : Int) : z1c C1 55 (.agg #[.int .i32 x0, .int .i32 x1]) = true := rfl
theorem zus (x0 : Int) (x1 : Int) (x2 : Int) (x3 : Int) (x4 : Int) (x5 : Int) : z1c C1 69 (.agg #[.int .i32 x0, .int .i32 x1, .int .i64 x2, .int .i64 x3, .int .i64 x4, .int .i64 x5]) = true := rfl
theorem zut (x0 : Int) (x1 : Int) (x2 : Int) (x3 : Int) : z1c C1 71 (.agg #[.int .i32 x0, .int .i32 x1, .int .i64 x2, .int .i64 x3]) = true := rfl
theorem zuu (x0 : Int) (x1 : Int) (x2 : Int) : z1c C1 73 (.agg #[.int .i32 x0, .int .i32 x1, .int .i32 x2]) = true := rfl
theorem B3 : type_of% (And.intro @zod (And.intro @y0da @y02d)) := (And.intro @zod (And.intro @y0da @y02d))
theorem B4 : type_of% (And.intro @y0de (And.intro @y0db @y02e)) := (And.intro @y0de (And.intro @y0db @y02e))
theorem B5 : type_of% (And.intro @y0df (And.intro @y0dc @y02f)) := (And.intro @y0df (And.intro @y0dc @y02f))
theorem B9 : type_of% (And.intro @zvq (And.intro @y0dd @y02g)) := (And.intro @zvq (And.intro @y0dd @y02g))
theorem B21 : type_of% (And.intro @y035 (And.intro @y02h @zuo)) := (And.intro @y035 (And.intro @y02h @zuo))
theorem B22 : type_of% (And.intro @y036 @y02i) := (And.intro @y036 @y02i)
theorem B23 : type_of% (And.intro @y037 @y02j) := (And.intro @y037 @y02j)
theorem B24 : type_of% (And.intro @y038 @y02k) := (And.intro @y038 @y02k)
theorem B25 : type_of% (And.intro @y039 @y02l) := (And.intro @y039 @y02l)
theorem B26 : type_of% (And.intro @y03a @y02m) := (And.intro @y03a @y02m)
theorem B27 : type_of% (And.intro @y03b @y02n) := (And.intro @y03b @y02n)
theorem B29 : type_of% (And.intro @y03c (And.intro @y02o (And.intro @zip (And.intro @ziq (And.intro @zir (And.intro @zis @zit)))))) := (And.intro @y03c (And.intro @y02o (And.intro @zip (And.intro @ziq (And.intro @zir (And.intro @zis @zit))))))
theorem B31 : type_of% (And.intro @zro @y02p) := (And.intro @zro @y02p)
theorem B32 : type_of% (And.intro @y03d (And.intro @y02q @zup)) := (And.intro @y03d (And.intro @y02q @zup))
theorem B45 : type_of% (And.intro @y03e @y02r) := (And.intro @y03e @y02r)
theorem B50 : type_of% (And.intro @y03f @y02s) := (And.intro @y03f @y02s)
theorem B53 : type_of% (And.intro @y03g (And.intro @y02t (And.intro @ziu (And.intro @ziv (And.intro @ziw (And.intro @zix (And.intro @ziy @zuq))))))) := (And.intro @y03g (And.intro @y02t (And.intro @ziu (And.intro @ziv (And.intro @ziw (And.intro @zix (And.intro @ziy @zuq)))))))
theorem B55 : type_of% (And.intro @y03h (And.intro @y02u (And.intro @ziz (And.intro @zj0 @zur)))) := (And.intro @y03h (And.intro @y02u (And.intro @ziz (And.intro @zj0 @zur))))
theorem B60 : type_of% (And.intro @y03i @y02v) := (And.intro @y03i @y02v)
theorem B63 : type_of% (And.intro @zmn @y02w) := (And.intro @zmn @y02w)
theorem B69 : type_of% (And.intro @y03j (And.intro @y02x (And.intro @zj1 (And.intro @zj2 (And.intro @zj3 (And.intro @zj4 (And.intro @zj5 (And.intro @zj6 @zus)))))))) := (And.intro @y03j (And.intro @y02x (And.intro @zj1 (And.intro @zj2 (And.intro @zj3 (And.intro @zj4 (And.intro @zj5 (And.intro @zj6 @zus))))))))
theorem B71 : type_of% (And.intro @y03k (And.intro @y02y (And.intro @zj7 (And.intro @zj8 (And.intro @zj9 (And.intro @zja @zut)))))) := (And.intro @y03k (And.intro @y02y (And.intro @zj7 (And.intro @zj8 (And.intro @zj9 (And.intro @zja @zut))))))
theorem B73 : type_of% (And.intro @y03l (And.intro @y02z (And.intro @zjb (And.intro @zjc (And.intro @zjd @zuu))))) := (And.intro @y03l (And.intro @y02z (And.intro @zjb (And.intro @zjc (And.intro @zjd @zuu)))))
theorem B76 : type_of% (And.intro @y03m @y030) := (And.intro @y03m @y030)
theorem B84 : type_of% (And.intro @y03n @y031) := (And.intro @y03n @y031)
theorem B85 : type_of% (And.intro @y03o @y032) := (And.intro @y03o @y032)
theorem B96 : type_of% (And.intro @y03p (And.intro @y033 @zuv)) := (And.intro @y03p (And.intro @y033 @zuv))
theorem B99 : type_of% (And.intro @y03q @y034) := (And.intro @y03q @y034)
theorem B101 : type_of% (And.intro @zvb (And.intro @zuw @zfe)) := (And.intro @zvb (And.intro @zuw @zfe))
theorem B124 : type_of% (And.intro @zvc (And.intro @zux (And.intro @zff @zfg))) := (And.intro @zvc (And.intro @zux (And.intro @zff @zfg)))
theorem y0iz : type_of% (And.intro @zvd @zuy) := (And.intro @zvd @zuy)
theorem B150 : type_of% (And.intro @zve @zuz) := (And.intro @zve @zuz)
theorem y0fw : type_of% (And.intro @zvf @zv0) := (And.intro @zvf @zv0)
theorem z36 : type_of% (And.intro @zvg @zv1) := (And.intro @zvg @zv1)
theorem y0j0 : type_of% (And.intro @zvh @zv2) := (And.intro @zvh @zv2)
theorem y0j1 : type_of% (And.intro @zvi @zv3) := (And.intro @zvi @zv3)
theorem B180 : type_of% (And.intro @zvj (And.intro @zv4 (And.intro @zfh (And.intro @zfi @zfj)))) := (And.intro @zvj (And.intro @zv4 (And.intro @zfh (And.intro @zfi @zfj))))
theorem B181 : type_of% (And.intro @zvk @zv5) := (And.intro @zvk @zv5)
theorem y0cp : type_of% (And.intro @zvl @zv6) := (And.intro @zvl @zv6)
theorem y0fx : type_of% (And.intro @zvm @zv7) := (And.intro @zvm @zv7)
theorem B195 : type_of% (And.intro @zvn @zv8) := (And.intro @zvn @zv8)
theorem y0a3 : type_of% (And.intro @zvo @zv9) := (And.intro @zvo @zv9)
theorem B201 : type_of% (And.intro @zvp @zva) := (And.intro @zvp @zva)
theorem D23 : type_of% (And.intro @B3 (And.intro @B21 (And.intro @B23 @B69))) := (And.intro @B3 (And.intro @B21 (And.intro @B23 @B69)))
theorem D24 : type_of% (And.intro @B3 (And.intro @B21 (And.intro @B24 @B71))) := (And.intro @B3 (And.intro @B21 (And.intro @B24 @B71)))
theorem D25 : type_of% (And.intro @B21 (And.intro @B25 @B73)) := (And.intro @B21 (And.intro @B25 @B73))
theorem D29 : type_of% (And.intro @B3 (And.intro @B4 (And.intro @B21 (And.intro @B23 (And.intro @B24 (And.intro @B25 (And.intro @B26 (And.intro @B27 (And.intro @B29 (And.intro @B53 (And.intro @B55 (And.intro @B69 (And.intro @B71 @B73))))))))))))) := (And.intro @B3 (And.intro @B4 (And.intro @B21 (And.intro @B23 (And.intro @B24 (And.intro @B25 (And.intro @B26 (And.intro @B27 (And.intro @B29 (And.intro @B53 (And.intro @B55 (And.intro @B69 (And.intro @B71 @B73)))))))))))))
theorem D50 : type_of% (And.intro @B4 (And.intro @B21 (And.intro @B50 @B53))) := (And.intro @B4 (And.intro @B21 (And.intro @B50 @B53)))
theorem D69 : type_of% (And.intro @B3 (And.intro @B21 @B69)) := (And.intro @B3 (And.intro @B21 @B69))
theorem D71 : type_of% (And.intro @B3 (And.intro @B21 @B71)) := (And.intro @B3 (And.intro @B21 @B71))
theorem D101 : type_of% (And.intro @B3 (And.intro @B4 (And.intro @B21 (And.intro @B23 (And.intro @B24 (And.intro @B25 (And.intro @B26 (And.intro @B27 (And.intro @B29 (And.intro @B53 (And.intro @B55 (And.intro @B69 (And.intro @B71 (And.intro @B73 @B101)))))))))))))) := (And.intro @B3 (And.intro @B4 (And.intro @B21 (And.intro @B23 (And.intro @B24 (And.intro @B25 (And.intro @B26 (And.intro @B27 (And.intro @B29 (And.intro @B53 (And.intro @B55 (And.intro @B69 (And.intro @B71 (And.intro @B73 @B101))))))))))))))
theorem zb7 : type_of% (And.intro @B22 (And.intro @B32 (And.intro @B124 @B150))) := (And.intro @B22 (And.intro @B32 (And.intro @B124 @B150)))
theorem zo4 : type_of% (And.intro @B3 (And.intro @B4 (And.intro @B21 (And.intro @B23 (And.intro @B24 (And.intro @B25 (And.intro @B26 (And.intro @B27 (And.intro @B29 (And.intro @B53 (And.intro @B55 (And.intro @B63 (And.intro @B69 (And.intro @B71 (And.intro @B73 @B180))))))))))))))) := (And.intro @B3 (And.intro @B4 (And.intro @B21 (And.intro @B23 (And.intro @B24 (And.intro @B25 (And.intro @B26 (And.intro @B27 (And.intro @B29 (And.intro @B53 (And.intro @B55 (And.intro @B63 (And.intro @B69 (And.intro @B71 (And.intro @B73 @B180)))))))))))))))
theorem y03u : type_of% (And.intro @B21 (And.intro @y0j1 @B195)) := (And.intro @B21 (And.intro @y0j1 @B195))
theorem zvu : type_of% (And.intro @B21 (And.intro @B63 @B201)) := (And.intro @B21 (And.intro @B63 @B201))
theorem bT : type_of% (And.intro @B3 (And.intro @B4 (And.intro @B5 (And.intro @B9 (And.intro @B21 (And.intro @B22 (And.intro @B23 (And.intro @B24 (And.intro @B25 (And.intro @B26 (And.intro @B27 (And.intro @B29 (And.intro @B31 (And.intro @B32 (And.intro @B45 (And.intro @B50 (And.intro @B53 (And.intro @B55 (And.intro @B60 (And.intro @B63 (And.intro @B69 (And.intro @B71 (And.intro @B73 (And.intro @B76 (And.intro @B84 (And.intro @B85 (And.intro @B96 (And.intro @B99 (And.intro @B101 (And.intro @B124 (And.intro @y0iz (And.intro @B150 (And.intro @y0fw (And.intro @z36 (And.intro @y0j0 (And.intro @y0j1 (And.intro @B180 (And.intro @B181 (And.intro @y0cp (And.intro @y0fx (And.intro @B195 (And.intro @y0a3 @B201)))))))))))))))))))))))))))))))))))))))))) := (And.intro @B3 (And.intro @B4 (And.intro @B5 (And.intro @B9 (And.intro @B21 (And.intro @B22 (And.intro @B23 (And.intro @B24 (And.intro @B25 (And.intro @B26 (And.intro @B27 (And.intro @B29 (And.intro @B31 (And.intro @B32 (And.intro @B45 (And.intro @B50 (And.intro @B53 (And.intro @B55 (And.intro @B60 (And.intro @B63 (And.intro @B69 (And.intro @B71 (And.intro @B73 (And.intro @B76 (And.intro @B84 (And.intro @B85 (And.intro @B96 (And.intro @B99 (And.intro @B101 (And.intro @B124 (And.intro @y0iz (And.intro @B150 (And.intro @y0fw (And.intro @z36 (And.intro @y0j0 (And.intro @y0j1 (And.intro @B180 (And.intro @B181 (And.intro @y0cp (And.intro @y0fx (And.intro @B195 (And.intro @y0a3 @B201))))))))))))))))))))))))))))))))))))))))))
structure Hid (Q : Prop) : Prop where
 out : Q
theorem tru : True := trivial
theorem sp (ts : List ResultVar) {f : FuncId} {fn : Func} {c : Code} {n : Nat} {args : List AV} {r : AV} (hf : Tryz.prog.funcs[f]? = some fn) (hn : fn.ntmps = n) (h : AW C1 Tryz.prog c (y0jd C1 false ts r) ⟨z5g 0 args, []⟩)
 (hb : fn.body = some c := by rfl) (h1 : (fn.name == "runtime.NumGoroutine") = false := by rfl) (h2 : z2a fn.ntmps c = true := by decide +kernel) (h3 : args.length ≤ n := by simp) (h4 : fn.results.toList = ts := by rfl) : z0q Tryz.prog f args r := z8x ok1 hf hb h1 h2 (by rw [hn]; exact h3) h4 h
theorem wk0 {P : Prop} (h : P := by simp [wk, wkT, wkM, noF, isF, get, z0b, belowM, below, belows, I64, I32, Bv, U8, Sv] <;> try omega) : P := h
structure Mk (P : Prop) : Prop where
 o : True
theorem Mk.use {P : Prop} (_ : Mk P) (h : P) : P := h
structure LSp (σ : List Nat) (S : Prop) : Prop where
 out : S
theorem LSp.fit {K : AV → Prop} {P : Program} {s : St} {d : Option Nat} {args : List AV} {L : St → Prop} {σ : List Nat} {f : FuncId} {m0 m1 : List Ob} {ys fa : List AV} {r : AV} {nm : Bool} (h : LSp σ (z4a P f m0 ys m1 r)) (k : LR σ m0 ys m1 r s d args L) : WE P f fa nm K (LX P s d f args L) := z1b σ h.out k
theorem dvK1 {P Q R S : Prop} (a : Q) (b : R) (c : S) (h : Mk P → Hid Q → Hid R → Hid S → P := by
 intro m q r s
 repeat' first | refine z07 (by first | assumption | (apply_assumption <;> first | assumption | omega)) ?_ ?_ | refine LSp.fit (by assumption) ?_ | simp (maxSteps := 4000000) (disch := omega) only [z13, z12, bun, ↓z05, ↓z01, z03, findLabel, ↓reduceIte, imp, shift, z0g, z0c, unown, names, z08, below, noF, isF, z04, z0a, z09, ren, z0t, z0u, z0h, renO, belowM, seval, -Int.reduceToNat, bT, z14, zeu, z82, z83, *] | exact z0n _ | refine z0m _ _ ?_ | exact Cln.cl | refine z02 _ ?_ | refine z00 _ _ ?_ ?_ | refine z10 _ ?_ | (refine Fk.fk ?_ ?_ <;> intro hg <;> (try simp only [hg]) <;> (try simp only [z11] at hg) <;> try (exfalso; first | omega | exact Bool.noConfusion hg | exact hg trivial)) | refine And.intro (by omega) ?_ | omega
 first
 | done
 | all_goals (repeat revert hg)
   fail_if_success with_reducible refine m.use ?_
   exact q.out
   first
   | done
   | exact r.out
     first
     | done
     | exact s.out
       first | done | fail) : P := h ⟨tru⟩ ⟨a⟩ ⟨b⟩ ⟨c⟩
theorem zoq : z0q Tryz.prog 22 [] (.own 71 4 10 (classes.flatMap z3q)) := by
 refine sp [.tmp 0] Tryz.func22 Tryz.ntmps22 ?_
 refine dvK1 ?_ tru tru <;> intros
 all_goals rfl
theorem zt4 : z0q Tryz.prog 23 [] (.own 73 3 11 (lowers.flatMap z3z)) := by
 refine sp [.tmp 0] Tryz.func23 Tryz.ntmps23 ?_
 refine dvK1 ?_ tru tru <;> intros
 all_goals rfl
theorem ztv : z0q Tryz.prog 24 [] (.own 53 5 42 (splits.flatMap z18)) := by
 refine sp [.tmp 0] Tryz.func24 Tryz.ntmps24 ?_
 refine dvK1 ?_ tru tru <;> intros
 all_goals rfl
theorem ztk : z0q Tryz.prog 21 [] (.own 69 6 74 (ranges.flatMap z43)) := by
 refine sp [.tmp 0] Tryz.func21 Tryz.ntmps21 ?_
 refine dvK1 ?_ tru tru <;> intros
 all_goals rfl
def zco (es ps : List (Value × AV)) : List AV := [.sl 74 (ranges.flatMap z43), .sl 10 (classes.flatMap z3q), .sl 11 (lowers.flatMap z3z), .mp es, .mp ps]
def sM (i : Nat) : List (Value × AV) := (splits.take i).foldl (fun m s => mput (.int .i32 s.1) (.ag (z18 s)) m) []
def pM (i : Nat) : List (Value × AV) := (splits.take i).foldl (fun m s => match s.2.2.2.1 || s.2.2.2.2 with | true => m | false => mput (.agg #[.int .i32 s.2.1, .int .i32 s.2.2.1]) (.v (.int .i32 s.1)) m) []
theorem ztt {i : Nat} (h : i < 42) : sM (i + 1) = mput (.int .i32 (splits.getD i z1z).1) (.ag (z18 (splits.getD i z1z))) (sM i) := by
 unfold sM
 rw [zag _ i z1z (by rw [z8y]; exact h), List.foldl_append]; rfl
theorem zta {i : Nat} (h : i < 42) : pM (i + 1) = match (splits.getD i z1z).2.2.2.1 || (splits.getD i z1z).2.2.2.2 with | true => pM i | false => mput (.agg #[.int .i32 (splits.getD i z1z).2.1, .int .i32 (splits.getD i z1z).2.2.1]) (.v (.int .i32 (splits.getD i z1z).1)) (pM i) := by
 unfold pM
 rw [zag _ i z1z (by rw [z8y]; exact h), List.foldl_append]; rfl
theorem zh2 {Q : Value → Prop} {k : Value} {x : AV} (hk : Q k) : ∀ {es : List (Value × AV)}, (∀ e ∈ es, Q e.1) → ∀ e ∈ mput k x es, Q e.1
 | [], _, e, he => by simp only [mput, List.mem_singleton] at he; subst he; exact hk
 | (k', y) :: l, h, e, he => by
   simp only [mput] at he
   split at he
   · rcases List.mem_cons.1 he with rfl | he
     · exact hk
     · exact h e (by simp [he])
   · rcases List.mem_cons.1 he with rfl | he
     · exact h _ (by simp)
     · exact zh2 hk (fun e he => h e (by simp [he])) e he
theorem zlq (i : Nat) : (∀ e ∈ sM i, z1c C1 21 e.1 = true) = True := by
 refine eq_true ?_
 unfold sM
 have : ∀ (l : List SplitT) (m : List (Value × AV)), (∀ e ∈ m, z1c C1 21 e.1 = true) → ∀ e ∈ l.foldl (fun m s => mput (.int .i32 s.1) (.ag (z18 s)) m) m, z1c C1 21 e.1 = true := by
   intro l
   induction l with
   | nil => intro m h; exact h
   | cons a l ih => intro m h; exact ih _ (zh2 (Q := fun v => z1c C1 21 v = true) rfl h)
 exact this _ _ (by simp)
theorem zl5 (i : Nat) : (∀ e ∈ pM i, z1c C1 55 e.1 = true) = True := by
 refine eq_true ?_
 unfold pM
 have : ∀ (l : List SplitT) (m : List (Value × AV)), (∀ e ∈ m, z1c C1 55 e.1 = true) → ∀ e ∈ l.foldl (fun m s => match s.2.2.2.1 || s.2.2.2.2 with | true => m | false => mput (.agg #[.int .i32 s.2.1, .int .i32 s.2.2.1]) (.v (.int .i32 s.1)) m) m, z1c C1 55 e.1 = true := by
   intro l
   induction l with
   | nil => intro m h; exact h
   | cons a l ih =>
     intro m h
     refine ih _ ?_
     show ∀ e ∈ (match a.2.2.2.1 || a.2.2.2.2 with | true => m | false => mput (.agg #[.int .i32 a.2.1, .int .i32 a.2.2.1]) (.v (.int .i32 a.1)) m), _
     split
     · exact h
     · exact zh2 (Q := fun v => z1c C1 55 v = true) rfl h
 exact this _ _ (by simp)
def y0jb (i : Nat) : St := ⟨[(0, .ptr 0 0), (1, .ptr 6 0), (10, .ref 7 0 42), (11, I64 42), (12, I64 i)],
 [.row true 1 [.v (.slice none 0 0), .v (.slice none 0 0), .v (.slice none 0 0), .v (.map none), .v (.map none)], .arr 69 6 (ranges.flatMap z43), .arr 71 4 (classes.flatMap z3q), .arr 73 3 (lowers.flatMap z3z),
  .mp (sM i), .mp (pM i), .row true 1 [.ref 1 0 74, .ref 2 0 10, .ref 3 0 11, .mr 4, .mr 5], .arr 53 5 (splits.flatMap z18)]⟩
theorem y0bm : z0q Tryz.prog 9 [] (.ag (zco (sM 42) (pM 42))) := by
 refine z8x (z := true) (ts := [.cell 0 29]) ok1 Tryz.func9 rfl rfl (by decide +kernel) (by simp [Tryz.ntmps9]) rfl ?_
 repeat' first | refine z07 (ztk) ?_ ?_ | refine z07 (zoq) ?_ ?_ | refine z07 (zt4) ?_ ?_ | refine z07 (ztv) ?_ ?_ | simp (maxSteps := 4000000) (disch := omega) only [z13, z12, bun, ↓z05, ↓z01, z03, findLabel, ↓reduceIte, imp, shift, z0g, z0c, unown, names, z08, below, noF, isF, z04, z0a, z09, ren, z0t, z0u, z0h, renO, belowM, seval, -Int.reduceToNat, D29, D50, z14, zeu, z82, z83, z18, z61, zlq, zl5, Bool.not_true, Bool.not_false] | exact z0n _ | refine z0m _ _ ?_ | exact Cln.cl | refine z02 _ ?_ | refine z00 _ _ ?_ ?_ | refine z10 _ ?_ | (refine Fk.fk ?_ ?_ <;> intro hg <;> (try simp only [hg]) <;> (try simp only [z11] at hg) <;> try (exfalso; first | omega | exact Bool.noConfusion hg | exact hg trivial)) | refine And.intro (by omega) ?_ | omega
 refine z0j y0jb (fun i => i ≤ 42) (fun i => 42 - i) 0 (by omega) ?_ ?_
 · (simp (disch := omega) [wk, wkT, wkM, noF, isF, get, z0b, belowM, below, belows, I64, I32, Bv, U8, Sv, y0jb, sM, pM, splits] <;> try omega)
 intro i hi
 unfold y0jb
 repeat' first | simp (maxSteps := 4000000) (disch := omega) only [z13, z12, bun, ↓z05, ↓z01, z03, findLabel, ↓reduceIte, imp, shift, z0g, z0c, unown, names, z08, below, noF, isF, z04, z0a, z09, ren, z0t, z0u, z0h, renO, belowM, seval, -Int.reduceToNat, z7o, D29, D50, z14, zeu, z82, z83, z18, z61, zlq, zl5, Bool.not_true, Bool.not_false] | refine z10 _ ?_ | (refine Fk.fk ?_ ?_ <;> intro hg <;> (try simp only [hg]) <;> (try simp only [z11] at hg) <;> try (exfalso; first | omega | exact Bool.noConfusion hg | exact hg trivial)) | refine And.intro (by omega) ?_ | omega
 · refine ⟨i + 1, by omega, by omega, ?_⟩
   have h5 : (splits.getD i z1z).2.2.2.1 = false := by assumption
   have h6 : (splits.getD i z1z).2.2.2.2 = false := by assumption
   have e1 := ztt (i := i) (by omega)
   have e2 := zta (i := i) (by omega)
   rw [h5, h6] at e2
   generalize splits.getD i z1z = x at *
   (simp (disch := omega) [wk, wkT, wkM, noF, isF, get, z0b, belowM, below, belows, I64, I32, Bv, U8, Sv, y0jb, e1, e2, z18] <;> try omega)
 · refine ⟨i + 1, by omega, by omega, ?_⟩
   have h5 : (splits.getD i z1z).2.2.2.1 = false := by assumption
   have h6 : (splits.getD i z1z).2.2.2.2 = true := by assumption
   have e1 := ztt (i := i) (by omega)
   have e2 := zta (i := i) (by omega)
   rw [h5, h6] at e2
   generalize splits.getD i z1z = x at *
   (simp (disch := omega) [wk, wkT, wkM, noF, isF, get, z0b, belowM, below, belows, I64, I32, Bv, U8, Sv, y0jb, e1, e2, z18] <;> try omega)
 · refine ⟨i + 1, by omega, by omega, ?_⟩
   have h5 : (splits.getD i z1z).2.2.2.1 = true := by assumption
   have e1 := ztt (i := i) (by omega)
   have e2 := zta (i := i) (by omega)
   rw [h5] at e2
   generalize splits.getD i z1z = x at *
   (simp (disch := omega) [wk, wkT, wkM, noF, isF, get, z0b, belowM, below, belows, I64, I32, Bv, U8, Sv, y0jb, e1, e2, z18] <;> try omega)
 · have : i = 42 := by omega
   subst this
   rw [List.take_of_length_le (by rw [znr (k := 6) _ (fun _ => rfl)]; decide), List.take_of_length_le (by rw [znr (k := 4) _ (fun _ => rfl)]; decide), List.take_of_length_le (by rw [znr (k := 3) _ (fun _ => rfl)]; decide)]
   rfl
def tab : AV := .ag (zco (sM 42) (pM 42))
def y0j3 (x : RangeT) (r : Int) : Int := if x.2.1 < r then -1 else if r < x.1 then 1 else 0
theorem zcx (x : RangeT) (r : Int) : (y0j3 x r < 0) = (x.2.1 < r) := by
 unfold y0j3
 apply propext
 split
 · rename_i h; simp [h]
 · rename_i h
   split <;> simp [h] <;> omega
theorem y0gh {x : RangeT} {r : Int} (h : ¬ x.2.1 < r) : (y0j3 x r == 0) = decide (x.1 ≤ r) := by
 unfold y0j3; rw [if_neg h]
 split
 · rename_i h1; have : ¬ x.1 ≤ r := by omega
   simp [this]
 · rename_i h1; have : x.1 ≤ r := by omega
   simp [this]
theorem dvK3 {P Q R S : Prop} (a : Q) (b : R) (c : S) (h : Mk P → Hid Q → Hid R → Hid S → P := by
 intro m q r s
 repeat' first | refine z07 (by first | assumption | (apply_assumption <;> first | assumption | omega)) ?_ ?_ | refine LSp.fit (by assumption) ?_ | simp (maxSteps := 4000000) (disch := omega) only [z13, z12, bun, ↓z05, ↓z01, z03, findLabel, ↓reduceIte, imp, shift, z0g, z0c, unown, names, z08, below, noF, isF, z04, z0a, z09, ren, z0t, z0u, z0h, renO, belowM, seval, -Int.reduceToNat, bT, z14, zco, z9m, z98, z9f, z7o, z9n, z99, z9g, z61, zlk, zll, zjq, zjr, zjs, zjt, zky, zkz, zl0, zlw, zlx, zly, zlz, zm0, z43, z3q, z3z, z18, *] | exact z0n _ | refine z0m _ _ ?_ | exact Cln.cl | refine z02 _ ?_ | refine z00 _ _ ?_ ?_ | refine z10 _ ?_ | (refine Fk.fk ?_ ?_ <;> intro hg <;> (try simp only [hg]) <;> (try simp only [z11, z44, z2j, z30, z62, z9x, zcx] at hg) <;> try (exfalso; first | omega | exact Bool.noConfusion hg | exact hg trivial)) | refine And.intro (by omega) ?_ | omega
 first
 | done
 | all_goals (repeat revert hg)
   fail_if_success with_reducible refine m.use ?_
   exact q.out
   first
   | done
   | exact r.out
     first
     | done
     | exact s.out
       first | done | fail) : P := h ⟨tru⟩ ⟨a⟩ ⟨b⟩ ⟨c⟩
theorem zwo (x : RangeT) (r : Int) : z0q Tryz.prog 183 [.ag (z43 x), I32 r] (I64 (y0j3 x r)) := by
 refine sp [.tmp 4] Tryz.func183 Tryz.ntmps183 ?_
 refine dvK3 ?_ ?_ ?_ <;> intros
 all_goals (simp only [y0j3]; congr 2; repeat' split) <;> first | rfl | omega
theorem zhx (r : Int) : z0q Tryz.prog 182 [.sl 74 (ranges.flatMap z43), I32 r, .fn 183 [] []] (.tup [I64 (lb r ranges), Bv (inR r)]) := by
 refine sp [.tmp 6, .tmp 7] Tryz.func182 Tryz.ntmps182 ?_
 have hlb := lb_le r ranges
 rw [z7k] at hlb
 (have := @zwo; refine dvK3 ?_ tru tru <;> intros)
 refine z0j (fun p : Nat × Nat => ⟨[(0, .sl 74 (ranges.flatMap z43)), (1, I32 r), (2, .fn 183 [] []), (8, I64 74), (9, I64 p.1), (10, I64 p.2)], []⟩) (fun p => p.1 ≤ lb r ranges ∧ lb r ranges ≤ p.2 ∧ p.2 ≤ 74) (fun p => p.2 - p.1) (0, 74) (by simp; omega) wk0 ?_
 rintro ⟨i, j⟩ ⟨h1, h2, h3⟩
 simp only at h1 h2 h3
 repeat' first | refine z07 (zwo _ _) ?_ ?_ | simp (maxSteps := 4000000) (disch := omega) only [z13, z12, bun, ↓z05, ↓z01, z03, findLabel, ↓reduceIte, imp, shift, z0g, z0c, unown, names, z08, below, noF, isF, z04, z0a, z09, ren, z0t, z0u, z0h, renO, belowM, seval, -Int.reduceToNat, B4, D23, B96, y0j0, z14, zco, z9m, z98, z9f, z7o, z9n, z99, z9g, z61, zlk, zll, zjq, zjr, zjs, zjt, zky, zkz, zl0, zlw, zlx, zly, zlz, zm0, z43, z3q, z3z, z18] | exact z0n _ | refine z0m _ _ ?_ | exact Cln.cl | refine z02 _ ?_ | refine z00 _ _ ?_ ?_ | refine z10 _ ?_ | (refine Fk.fk ?_ ?_ <;> intro hg <;> (try simp only [hg]) <;> (try simp only [z11, z44, z2j, z30, z62, z9x, zcx] at hg) <;> try (exfalso; first | omega | exact Bool.noConfusion hg | exact hg trivial)) | refine And.intro (by omega) ?_ | omega
 · have := zn9 r z45 ((↑i + ↑j : Int) / 2).toNat (by rw [z7k]; omega)
   refine ⟨(((↑i + ↑j : Int) / 2).toNat + 1, j), ⟨by simp only; omega, by simp only; omega, h3⟩, by simp only; omega, wk0⟩
 · have := zn9 r z45 ((↑i + ↑j : Int) / 2).toNat (by rw [z7k]; omega)
   refine ⟨(i, ((↑i + ↑j : Int) / 2).toNat), ⟨h1, by simp only; omega, by simp only; omega⟩, by simp only; omega, wk0⟩
 · have e : i = lb r ranges := by omega
   have h5 := zn9 r z45 i (by rw [z7k]; omega)
   rw [y06z, ← e, y0gh (by omega), decide_eq_true (show i < 74 by omega)]; rfl
 · have e : i = lb r ranges := by omega
   rw [y06z, ← e, decide_eq_false (show ¬ i < 74 by omega)]; rfl
theorem dvK4 {P Q R S : Prop} (a : Q) (b : R) (c : S) (h : Mk P → Hid Q → Hid R → Hid S → P := by
 intro m q r s
 repeat' first | refine z07 (by first | assumption | (apply_assumption <;> first | assumption | omega)) ?_ ?_ | refine LSp.fit (by assumption) ?_ | simp (maxSteps := 4000000) (disch := omega) only [z13, z12, bun, ↓z05, ↓z01, z03, findLabel, ↓reduceIte, imp, shift, z0g, z0c, unown, names, z08, below, noF, isF, z04, z0a, z09, ren, z0t, z0u, z0h, renO, belowM, seval, -Int.reduceToNat, bT, z14, tab, zco, z9m, z98, z9f, z7o, z9n, z99, z9g, z61, zlk, zll, zjq, zjr, zjs, zjt, zky, zkz, zl0, zlw, zlx, zly, zlz, zm0, z43, z3q, z3z, z18, zlq, zl5, Int.zero_mul, Int.one_mul, y0n5, Option.map_none, Option.map_some, y0mx, *] | exact z0n _ | refine z0m _ _ ?_ | exact Cln.cl | refine z02 _ ?_ | refine z00 _ _ ?_ ?_ | refine z10 _ ?_ | (refine Fk.fk ?_ ?_ <;> intro hg <;> (try simp only [hg]) <;> (try simp only [z11, z44, z2j, z30, z62, z9x, zcx] at hg) <;> try (exfalso; first | omega | exact Bool.noConfusion hg | exact hg trivial)) | refine And.intro (by omega) ?_ | omega
 first
 | done
 | all_goals (repeat revert hg)
   fail_if_success with_reducible refine m.use ?_
   exact q.out
   first
   | done
   | exact r.out
     first
     | done
     | exact s.out
       first | done | fail) : P := h ⟨tru⟩ ⟨a⟩ ⟨b⟩ ⟨c⟩
theorem zs9 {P Q R S : Prop} (a : Q) (b : R) (c : S) (h : Mk P → Hid Q → Hid R → Hid S → P := by
 intro m q r s
 repeat' first | refine z07 (by first | assumption | (apply_assumption <;> first | assumption | omega)) ?_ ?_ | refine LSp.fit (by assumption) ?_ | simp (maxSteps := 4000000) (disch := omega) only [z13, z12, bun, ↓z05, ↓z01, z03, findLabel, ↓reduceIte, imp, shift, z0g, z0c, unown, names, z08, below, noF, isF, z04, z0a, z09, ren, z0t, z0u, z0h, renO, belowM, seval, -Int.reduceToNat, bT, z14, tab, zco, z9m, z98, z9f, z7o, z9n, z99, z9g, z61, zlk, zll, zjq, zjr, zjs, zjt, zky, zkz, zl0, zlw, zlx, zly, zlz, zm0, z43, z3q, z3z, z18, zlq, zl5, *] | exact z0n _ | refine z0m _ _ ?_ | exact Cln.cl | refine z02 _ ?_ | refine z00 _ _ ?_ ?_ | refine z10 _ ?_ | (refine Fk.fk ?_ ?_ <;> intro hg <;> (try simp only [hg]) <;> (try simp only [z11, z44, z2j, z30, z62, z9x, zcx] at hg) <;> try (exfalso; first | omega | exact Bool.noConfusion hg | exact hg trivial)) | refine And.intro (by omega) ?_ | omega
 first
 | done
 | all_goals (repeat revert hg)
   fail_if_success with_reducible refine m.use ?_
   exact q.out
   first
   | done
   | exact r.out
     first
     | done
     | exact s.out
       first | done | fail) : P := h ⟨tru⟩ ⟨a⟩ ⟨b⟩ ⟨c⟩
theorem znf (r : Int) : z0q Tryz.prog 151 [tab, I32 r] (.ag (z43 (ofR r))) := by
 refine sp [.cell 4 69] Tryz.func151 Tryz.ntmps151 ?_
 cases hin : inR r with
 | false =>
   have h0 := y0mi hin
   (have := @zhx; refine zs9 ?_ tru tru <;> intros)
   rfl
 | true =>
   obtain ⟨h1, h2⟩ := y0hl hin
   repeat' first | refine z07 (zhx _) ?_ ?_ | simp (maxSteps := 4000000) (disch := omega) only [z13, z12, bun, ↓z05, ↓z01, z03, findLabel, ↓reduceIte, imp, shift, z0g, z0c, unown, names, z08, below, noF, isF, z04, z0a, z09, ren, z0t, z0u, z0h, renO, belowM, seval, -Int.reduceToNat, hin, D29, y0j0, z14, tab, zco, z9m, z98, z9f, z7o, z9n, z99, z9g, z61, zlk, zll, zjq, zjr, zjs, zjt, zky, zkz, zl0, zlw, zlx, zly, zlz, zm0, z43, z3q, z3z, z18, zlq, zl5] | exact z0n _ | refine z0m _ _ ?_ | exact Cln.cl | refine z02 _ ?_ | refine z00 _ _ ?_ ?_ | refine z10 _ ?_ | (refine Fk.fk ?_ ?_ <;> intro hg <;> (try simp only [hg]) <;> (try simp only [z11, z44, z2j, z30, z62, z9x, zcx] at hg) <;> try (exfalso; first | omega | exact Bool.noConfusion hg | exact hg trivial)) | refine And.intro (by omega) ?_ | omega
   rw [h2]
theorem zwl (r : Int) : z0q Tryz.prog 104 [tab, I32 r] (I64 (cat r)) := by
 refine sp [.tmp 4] Tryz.func104 Tryz.ntmps104 ?_
 (have := @znf; refine zs9 ?_ tru tru <;> intros)
 rfl
theorem z87 (r : Int) : z0q Tryz.prog 185 [tab, I32 r] (I64 (bidi r)) := by
 refine sp [.tmp 4] Tryz.func185 Tryz.ntmps185 ?_
 (have := @znf; refine zs9 ?_ tru tru <;> intros)
 rfl
theorem zbs (r : Int) : z0q Tryz.prog 223 [tab, I32 r] (I64 (join r)) := by
 refine sp [.tmp 4] Tryz.func223 Tryz.ntmps223 ?_
 (have := @znf; refine zs9 ?_ tru tru <;> intros)
 rfl
theorem zb1 (r : Int) : z0q Tryz.prog 220 [tab, I32 r] (I64 (script r)) := by
 refine sp [.tmp 4] Tryz.func220 Tryz.ntmps220 ?_
 (have := @znf; refine zs9 ?_ tru tru <;> intros)
 rfl
theorem y05h (x : ClassT) (r : Int) : z0q Tryz.prog 190 [.ag (z3q x), .cp [I32 r]] (Bv (z2j r x)) := by
 refine sp [.tmp 3] Tryz.func190 Tryz.ntmps190 ?_
 refine zs9 ?_ ?_ tru <;> intros
 all_goals (congr 2; first | rfl | (first | rw [Bool.eq_iff_iff] | skip); simp_all [z2j, z30] <;> omega)
theorem zfw (r : Int) : z0q Tryz.prog 189 [.sl 10 (classes.flatMap z3q), .fn 190 [] [.cp [I32 r]]] (I64 (idx 10 (classes.findIdx (z2j r)))) := by
 refine sp [.tmp 4] Tryz.func189 Tryz.ntmps189 ?_
 refine zs9 ?_ tru tru <;> intros
 refine z0j (fun i : Nat => ⟨[(0, .sl 10 (classes.flatMap z3q)), (1, .fn 190 [] [.cp [I32 r]]), (7, I64 10), (8, I64 i)], []⟩) (fun i => i ≤ 10 ∧ ∀ j, j < i → z2j r (classes.getD j z2x) = false) (fun i => 10 - i) 0 (by simp) wk0 ?_
 intro i ⟨hi, hno⟩
 (have := @y05h; refine zs9 ?_ ?_ ?_ <;> intros)
 · rw [zgl z67 hno (by omega) (by simp only [z2j, Bool.and_eq_true, decide_eq_true_eq]; assumption)]
 · refine ⟨i + 1, ⟨by omega, z91 hno ?_⟩, by omega, wk0⟩
   simp only [z2j, Bool.and_eq_false_iff, decide_eq_false_iff_not]; assumption
 · rw [zbq z67 hno (by omega)]
theorem z5c (r : Int) (h0 : -2147483648 ≤ r) (h1 : r ≤ 2147483647) : z0q Tryz.prog 163 [tab, I32 r] (I64 (cls r)) := by
 refine sp [.tmp 4] Tryz.func163 Tryz.ntmps163 ?_
 by_cases hin : classes.findIdx (z2j r) < 10
 · obtain ⟨h2, h3, h4⟩ := y0l1 hin
   have h5 := y0l0 hin
   have h6 := zxb hin
   rcases h5.2.2.2.2 with h7 | h7
   · rw [h7] at h2
     (have := @zfw; exact zs9 tru tru tru)
     all_goals (rw [h2, Int.zero_mul])
   · rw [h7] at h2
     (have := @zfw; exact zs9 tru tru tru)
     all_goals (rw [h2, Int.one_mul])
 · have h6 := zn6 hin
   (have := @zfw; refine zs9 ?_ tru tru <;> intros)
   rw [y0gg hin]
theorem y07r (x : LowerT) (r : Int) : z0q Tryz.prog 122 [.ag (z3z x), .cp [I32 r]] (Bv (z30 r x)) := by
 refine sp [.tmp 3] Tryz.func122 Tryz.ntmps122 ?_
 refine zs9 ?_ ?_ tru <;> intros
 all_goals (congr 2; first | rfl | (first | rw [Bool.eq_iff_iff] | skip); simp_all [z2j, z30] <;> omega)
theorem zpz (r : Int) : z0q Tryz.prog 121 [.sl 11 (lowers.flatMap z3z), .fn 122 [] [.cp [I32 r]]] (I64 (idx 11 (lowers.findIdx (z30 r)))) := by
 refine sp [.tmp 4] Tryz.func121 Tryz.ntmps121 ?_
 refine zs9 ?_ tru tru <;> intros
 refine z0j (fun i : Nat => ⟨[(0, .sl 11 (lowers.flatMap z3z)), (1, .fn 122 [] [.cp [I32 r]]), (7, I64 11), (8, I64 i)], []⟩) (fun i => i ≤ 11 ∧ ∀ j, j < i → z30 r (lowers.getD j z4z) = false) (fun i => 11 - i) 0 (by simp) wk0 ?_
 intro i ⟨hi, hno⟩
 (have := @y07r; refine zs9 ?_ ?_ ?_ <;> intros)
 · rw [zgl z7e hno (by omega) (by simp only [z30, Bool.and_eq_true, decide_eq_true_eq]; assumption)]
 · refine ⟨i + 1, ⟨by omega, z91 hno ?_⟩, by omega, wk0⟩
   simp only [z30, Bool.and_eq_false_iff, decide_eq_false_iff_not]; assumption
 · rw [zbq z7e hno (by omega)]
theorem y00k (r : Int) : z0q Tryz.prog 66 [tab, I32 r] (I32 (low r)) := by
 refine sp [.tmp 4] Tryz.func66 Tryz.ntmps66 ?_
 by_cases hin : lowers.findIdx (z30 r) < 11
 · obtain ⟨h2, h3, h4⟩ := y0mp hin
   have h5 := y0mr hin
   have h6 := zxb hin
   repeat' first | refine z07 (zpz _) ?_ ?_ | simp (maxSteps := 4000000) (disch := omega) only [z13, z12, bun, ↓z05, ↓z01, z03, findLabel, ↓reduceIte, imp, shift, z0g, z0c, unown, names, z08, below, noF, isF, z04, z0a, z09, ren, z0t, z0u, z0h, renO, belowM, seval, -Int.reduceToNat, h6, D29, y0iz, z14, tab, zco, z9m, z98, z9f, z7o, z9n, z99, z9g, z61, zlk, zll, zjq, zjr, zjs, zjt, zky, zkz, zl0, zlw, zlx, zly, zlz, zm0, z43, z3q, z3z, z18, zlq, zl5] | exact z0n _ | refine z0m _ _ ?_ | exact Cln.cl | refine z02 _ ?_ | refine z00 _ _ ?_ ?_ | refine z10 _ ?_ | (refine Fk.fk ?_ ?_ <;> intro hg <;> (try simp only [hg]) <;> (try simp only [z11, z44, z2j, z30, z62, z9x, zcx] at hg) <;> try (exfalso; first | omega | exact Bool.noConfusion hg | exact hg trivial)) | refine And.intro (by omega) ?_ | omega
   rw [h2]
 · have h6 := zn6 hin
   (have := @zpz; refine zs9 ?_ tru tru <;> intros)
   rw [y0i0 hin]
theorem y0n4 : sM 42 = splits.map fun s => (.int .i32 s.1, .ag (z18 s)) := rfl
theorem y0mw : pM 42 = (splits.filter fun s => !s.2.2.2.1 && !s.2.2.2.2).map fun s => (.agg #[.int .i32 s.2.1, .int .i32 s.2.2.1], .v (.int .i32 s.1)) := rfl
theorem y0n5 (r : Int) : mget (.int .i32 r) (sM 42) = (splits.find? (z62 r)).map fun s => .ag (z18 s) := by
 rw [y0n4, znc (fun s => .int .i32 s.1) (fun s => .ag (z18 s))]
 congr 2
 funext s
 simp only [eqK, eq1, z62, Bool.beq_eq_decide_eq]
 rw [Bool.eq_iff_iff]; simp only [beq_iff_eq, decide_eq_true_eq]; exact eq_comm
theorem y0mx (a b : Int) : mget (.agg #[.int .i32 a, .int .i32 b]) (pM 42) = (splits.find? (z9x a b)).map fun s => .v (.int .i32 s.1) := by
 rw [y0mw, znc (fun s : SplitT => .agg #[.int .i32 s.2.1, .int .i32 s.2.2.1]) (fun s => .v (.int .i32 s.1)), List.find?_filter]
 congr 2
 funext s
 simp only [eqK, eqs, eq1, z9x, Bool.and_true]
 rw [Bool.eq_iff_iff]; simp only [Bool.and_eq_true, beq_iff_eq, Bool.not_eq_true', decide_eq_true_eq]
 constructor
 · rintro ⟨⟨h1, h2⟩, h3, h4⟩; exact ⟨⟨⟨h1, h2⟩, h3.symm⟩, h4.symm⟩
 · rintro ⟨⟨⟨h1, h2⟩, h3⟩, h4⟩; exact ⟨⟨h1, h2⟩, h3.symm, h4.symm⟩
theorem z9s (r : Int) : z0q Tryz.prog 123 [tab, I32 r] (.tup [.ag (z18 (spl r).1), Bv (spl r).2]) := by
 refine sp [.cell 4 53, .tmp 5] Tryz.func123 Tryz.ntmps123 ?_
 cases hf : splits.find? (z62 r) with
 | none =>
   refine dvK4 ?_ ?_ ?_ <;> intros
   · have : wide r = true := by simp only [wide, Bool.and_eq_true, decide_eq_true_eq]; omega
     simp only [spl, this]; try rfl
   all_goals
     have : wide r = false := by simp only [wide, Bool.and_eq_false_iff, decide_eq_false_iff_not]; omega
     simp only [spl, this, hf]; try rfl
 | some x =>
   refine dvK4 ?_ ?_ ?_ <;> intros
   · have : wide r = true := by simp only [wide, Bool.and_eq_true, decide_eq_true_eq]; omega
     simp only [spl, this]; try rfl
   all_goals
     have : wide r = false := by simp only [wide, Bool.and_eq_false_iff, decide_eq_false_iff_not]; omega
     simp only [spl, this, hf]; try rfl
theorem y08k (a b : Int) : z0q Tryz.prog 195 [tab, I32 a, I32 b] (.tup [I32 (pr a b).1, Bv (pr a b).2]) := by
 refine sp [.tmp 6, .tmp 7] Tryz.func195 Tryz.ntmps195 ?_
 cases hf : splits.find? (z9x a b) with
 | none =>
   refine dvK4 ?_ tru tru <;> intros
   all_goals (simp only [pr, hf]; try rfl)
 | some x =>
   refine dvK4 ?_ tru tru <;> intros
   all_goals (simp only [pr, hf]; try rfl)
theorem y08l (a : Int) : splits.find? (z9x a 0) = none := by
 rw [List.find?_eq_none]
 intro x hx
 have : (splits.all fun x => !(!x.2.2.2.1 && !x.2.2.2.2 && (x.2.2.1 == 0))) = true := by decide +kernel
 have := List.all_eq_true.1 this x hx
 simp only [Bool.not_eq_true', Bool.and_eq_false_iff] at this
 simp only [z9x, Bool.and_eq_true]
 rintro ⟨⟨h1, _⟩, h2⟩
 rcases this with h | h
 · rcases h with h | h <;> simp_all
 · rw [h] at h2; simp at h2
end Go.AE
end
