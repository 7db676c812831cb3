/- Contracts of functions that the laws of this seat reach, and plain laws of what they compute. No condition beyond each statement's own. -/
import Derived.Test.YtoppecphhiiiiaaGreatDoorAEBun
import Derived.Test.YtoppecphhiiiiaaGreatDoorProg
import Derived.Test.YtoppecphhiiiiaaGreatDoorU1
set_option linter.unusedVariables false
set_option linter.unusedSimpArgs false
section
namespace Go.AE
open Go.Proofs
set_option maxRecDepth 20000
def T3 : TI := ⟨TypeDesc.int IntKind.i64, 1, 8, Value.int IntKind.i64 0⟩
def T4 : TI := ⟨TypeDesc.bool, 1, 1, Value.bool false⟩
def T5 : TI := ⟨TypeDesc.int IntKind.u8, 1, 1, Value.int IntKind.u8 0⟩
def T9 : TI := ⟨TypeDesc.string, 1, 16, Value.string { data := #[] }⟩
def T21 : TI := ⟨TypeDesc.int IntKind.i32, 1, 4, Value.int IntKind.i32 0⟩
def T22 : TI := ⟨TypeDesc.func #[] #[4] false, 1, 8, Value.nilFunc⟩
def T23 : TI := ⟨TypeDesc.slice 69, 1, 24, Value.slice none 0 0⟩
def T24 : TI := ⟨TypeDesc.slice 71, 1, 24, Value.slice none 0 0⟩
def T25 : TI := ⟨TypeDesc.slice 73, 1, 24, Value.slice none 0 0⟩
def T26 : TI := ⟨TypeDesc.map 21 53, 1, 8, Value.map none⟩
def T27 : TI := ⟨TypeDesc.map 55 21, 1, 8, Value.map none⟩
def T29 : TI := ⟨TypeDesc.struct #[⟨"ranges", 23, 0, false, "", "pillarbox/ucd", 0⟩, ⟨"classes", 24, 1, false, "", "pillarbox/ucd", 24⟩, ⟨"lowers", 25, 2, false, "", "pillarbox/ucd", 48⟩, ⟨"splits", 26, 3, false, "", "pillarbox/ucd", 72⟩, ⟨"pairs", 27, 4, false, "", "pillarbox/ucd", 80⟩], 5, 88, Value.agg #[Value.slice none 0 0, Value.slice none 0 0, Value.slice none 0 0, Value.map none, Value.map none]⟩
def T31 : TI := ⟨TypeDesc.slice 9, 1, 24, Value.slice none 0 0⟩
def T32 : TI := ⟨TypeDesc.int IntKind.i64, 1, 8, Value.int IntKind.i64 0⟩
def T45 : TI := ⟨TypeDesc.func #[9] #[4] false, 1, 8, Value.nilFunc⟩
def T50 : TI := ⟨TypeDesc.slice 53, 1, 24, Value.slice none 0 0⟩
def T53 : TI := ⟨TypeDesc.struct #[⟨"Rune", 21, 0, false, "", "", 0⟩, ⟨"One", 21, 1, false, "", "", 4⟩, ⟨"Two", 21, 2, false, "", "", 8⟩, ⟨"Soft", 4, 3, false, "", "", 12⟩, ⟨"Out", 4, 4, false, "", "", 13⟩], 5, 16, Value.agg #[Value.int IntKind.i32 0, Value.int IntKind.i32 0, Value.int IntKind.i32 0, Value.bool false, Value.bool false]⟩
def T55 : TI := ⟨TypeDesc.struct #[⟨"one", 21, 0, false, "", "pillarbox/ucd", 0⟩, ⟨"two", 21, 1, false, "", "pillarbox/ucd", 4⟩], 2, 8, Value.agg #[Value.int IntKind.i32 0, Value.int IntKind.i32 0]⟩
def T60 : TI := ⟨TypeDesc.func #[45] #[] false, 1, 8, Value.nilFunc⟩
def T63 : TI := ⟨TypeDesc.slice 21, 1, 24, Value.slice none 0 0⟩
def T69 : TI := ⟨TypeDesc.struct #[⟨"Lo", 21, 0, false, "", "", 0⟩, ⟨"Hi", 21, 1, false, "", "", 4⟩, ⟨"Cat", 3, 2, false, "", "", 8⟩, ⟨"Bidi", 3, 3, false, "", "", 16⟩, ⟨"Join", 3, 4, false, "", "", 24⟩, ⟨"Script", 3, 5, false, "", "", 32⟩], 6, 40, Value.agg #[Value.int IntKind.i32 0, Value.int IntKind.i32 0, Value.int IntKind.i64 0, Value.int IntKind.i64 0, Value.int IntKind.i64 0, Value.int IntKind.i64 0]⟩
def T71 : TI := ⟨TypeDesc.struct #[⟨"Lo", 21, 0, false, "", "", 0⟩, ⟨"Hi", 21, 1, false, "", "", 4⟩, ⟨"Class", 3, 2, false, "", "", 8⟩, ⟨"Step", 3, 3, false, "", "", 16⟩], 4, 24, Value.agg #[Value.int IntKind.i32 0, Value.int IntKind.i32 0, Value.int IntKind.i64 0, Value.int IntKind.i64 0]⟩
def T73 : TI := ⟨TypeDesc.struct #[⟨"Lo", 21, 0, false, "", "", 0⟩, ⟨"Hi", 21, 1, false, "", "", 4⟩, ⟨"By", 21, 2, false, "", "", 8⟩], 3, 12, Value.agg #[Value.int IntKind.i32 0, Value.int IntKind.i32 0, Value.int IntKind.i32 0]⟩
def T76 : TI := ⟨TypeDesc.func #[45] #[] false, 1, 8, Value.nilFunc⟩
def T84 : TI := ⟨TypeDesc.slice 5, 1, 24, Value.slice none 0 0⟩
def T85 : TI := ⟨TypeDesc.func #[21] #[4] false, 1, 8, Value.nilFunc⟩
def T96 : TI := ⟨TypeDesc.int IntKind.u64, 1, 8, Value.int IntKind.u64 0⟩
def T99 : TI := ⟨TypeDesc.func #[21] #[21] false, 1, 8, Value.nilFunc⟩
def MR : TI := ⟨TypeDesc.struct #[⟨"Table", 29, 0, true, "", "", 0⟩], 5, 88, Value.agg #[Value.slice none 0 0, Value.slice none 0 0, Value.slice none 0 0, Value.map none, Value.map none]⟩
def MS : TI := ⟨TypeDesc.struct #[⟨"err", 32, 0, false, "", "pillarbox/label", 0⟩, ⟨"bad", 22, 1, false, "", "pillarbox/label", 8⟩], 2, 16, Value.agg #[Value.int IntKind.i64 0, Value.nilFunc]⟩
def MT : TI := ⟨TypeDesc.func #[73] #[4] false, 1, 8, Value.nilFunc⟩
def MU : TI := ⟨TypeDesc.slice 124, 1, 24, Value.slice none 0 0⟩
def MV : TI := ⟨TypeDesc.array 8 3, 8, 64, Value.agg #[Value.int IntKind.i64 0, Value.int IntKind.i64 0, Value.int IntKind.i64 0, Value.int IntKind.i64 0, Value.int IntKind.i64 0, Value.int IntKind.i64 0, Value.int IntKind.i64 0, Value.int IntKind.i64 0]⟩
def MW : TI := ⟨TypeDesc.func #[21, 21] #[3] false, 1, 8, Value.nilFunc⟩
def MY : TI := ⟨TypeDesc.func #[69, 21] #[3] false, 1, 8, Value.nilFunc⟩
def MZ : TI := ⟨TypeDesc.func #[180] #[4] false, 1, 8, Value.nilFunc⟩
def N0 : TI := ⟨TypeDesc.struct #[⟨"t", 29, 0, false, "", "pillarbox/context", 0⟩, ⟨"l", 63, 5, false, "", "pillarbox/context", 88⟩, ⟨"at", 3, 6, false, "", "pillarbox/context", 112⟩], 7, 120, Value.agg #[Value.slice none 0 0, Value.slice none 0 0, Value.slice none 0 0, Value.map none, Value.map none, Value.slice none 0 0, Value.int IntKind.i64 0]⟩
def N1 : TI := ⟨TypeDesc.func #[197] #[] false, 1, 8, Value.nilFunc⟩
def N2 : TI := ⟨TypeDesc.func #[197] #[] false, 1, 8, Value.nilFunc⟩
def N3 : TI := ⟨TypeDesc.func #[71] #[4] false, 1, 8, Value.nilFunc⟩
def N4 : TI := ⟨TypeDesc.map 21 177, 1, 8, Value.map none⟩
def N5 : TI := ⟨TypeDesc.func #[3, 21] #[4] false, 1, 8, Value.nilFunc⟩
def N6 : TI := ⟨TypeDesc.slice 63, 1, 24, Value.slice none 0 0⟩
def C1 : bI := { flat := [53, 55, 69, 71, 73], ty := [(3, T3),
 (4, T4),
 (5, T5),
 (9, T9),
 (21, T21),
 (22, T22),
 (23, T23),
 (24, T24),
 (25, T25),
 (26, T26),
 (27, T27),
 (29, T29),
 (31, T31),
 (32, T32),
 (45, T45),
 (50, T50),
 (53, T53),
 (55, T55),
 (60, T60),
 (63, T63),
 (69, T69),
 (71, T71),
 (73, T73),
 (76, T76),
 (84, T84),
 (85, T85),
 (96, T96),
 (99, T99),
 (101, MR),
 (124, MS),
 (133, MT),
 (150, MU),
 (155, MV),
 (162, MW),
 (176, MY),
 (177, MZ),
 (180, N0),
 (181, N1),
 (182, N2),
 (186, N3),
 (195, N4),
 (197, N5),
 (201, N6)] }
def cW (t : Nat) (i : TI) : Prop := Tryz.prog.underlying t = some i.d ∧ ∃ j, Tryz.prog.info? t = some j ∧ j.size = i.size ∧ j.bytes = i.bytes ∧ j.zero = some i.zero ∧ i.zero.cells.size = i.size
theorem dA (t : Nat) (d : TypeDesc) (sz b : Nat) (z : Value) (h0 : z.cells.size = sz) (h1 : Tryz.prog.underlying t = some d) (h2 : (Tryz.prog.info? t).map (fun j => (j.size, j.bytes, j.zero)) = some (sz, b, some z)) : cW t ⟨d, sz, b, z⟩ := by
 refine ⟨h1, ?_⟩
 cases e : Tryz.prog.info? t with
 | none => rw [e] at h2; simp at h2
 | some j => rw [e] at h2; simp at h2; exact ⟨j, rfl, h2.1, h2.2.1, h2.2.2, h0⟩
theorem RN : ∀ (l : List (Nat × TI)) (t : Nat) (i : TI), uV l t = some i → (t, i) ∈ l
 | [], t, i, h => by simp [uV] at h
 | (k, x) :: l, t, i, h => by
  simp only [uV] at h
  split at h
  ·rename_i e; subst e; simp at h; subst h; exact List.mem_cons_self ..
  ·exact List.mem_cons_of_mem _ (RN l t i h)
theorem zdu : cW 3 T3 := dA _ _ _ _ _ rfl (by kernel_rfl) (by kernel_rfl)
theorem zdx : cW 4 T4 := dA _ _ _ _ _ rfl (by kernel_rfl) (by kernel_rfl)
theorem zdz : cW 5 T5 := dA _ _ _ _ _ rfl (by kernel_rfl) (by kernel_rfl)
theorem zeb : cW 9 T9 := dA _ _ _ _ _ rfl (by kernel_rfl) (by kernel_rfl)
theorem zdm : cW 21 T21 := dA _ _ _ _ _ rfl (by kernel_rfl) (by kernel_rfl)
theorem zdn : cW 22 T22 := dA _ _ _ _ _ rfl (by kernel_rfl) (by kernel_rfl)
theorem zdo : cW 23 T23 := dA _ _ _ _ _ rfl (by kernel_rfl) (by kernel_rfl)
theorem zdp : cW 24 T24 := dA _ _ _ _ _ rfl (by kernel_rfl) (by kernel_rfl)
theorem zdq : cW 25 T25 := dA _ _ _ _ _ rfl (by kernel_rfl) (by kernel_rfl)
theorem zdr : cW 26 T26 := dA _ _ _ _ _ rfl (by kernel_rfl) (by kernel_rfl)
theorem zds : cW 27 T27 := dA _ _ _ _ _ rfl (by kernel_rfl) (by kernel_rfl)
theorem zdt : cW 29 T29 := dA _ _ _ _ _ rfl (by kernel_rfl) (by kernel_rfl)
theorem zdv : cW 31 T31 := dA _ _ _ _ _ rfl (by kernel_rfl) (by kernel_rfl)
theorem zdw : cW 32 T32 := dA _ _ _ _ _ rfl (by kernel_rfl) (by kernel_rfl)
theorem zdy : cW 45 T45 := dA _ _ _ _ _ rfl (by kernel_rfl) (by kernel_rfl)
theorem ze0 : cW 50 T50 := dA _ _ _ _ _ rfl (by kernel_rfl) (by kernel_rfl)
theorem ze1 : cW 53 T53 := dA _ _ _ _ _ rfl (by kernel_rfl) (by kernel_rfl)
theorem ze2 : cW 55 T55 := dA _ _ _ _ _ rfl (by kernel_rfl) (by kernel_rfl)
theorem ze3 : cW 60 T60 := dA _ _ _ _ _ rfl (by kernel_rfl) (by kernel_rfl)
theorem ze4 : cW 63 T63 := dA _ _ _ _ _ rfl (by kernel_rfl) (by kernel_rfl)
theorem ze5 : cW 69 T69 := dA _ _ _ _ _ rfl (by kernel_rfl) (by kernel_rfl)
theorem ze6 : cW 71 T71 := dA _ _ _ _ _ rfl (by kernel_rfl) (by kernel_rfl)
theorem ze7 : cW 73 T73 := dA _ _ _ _ _ rfl (by kernel_rfl) (by kernel_rfl)
theorem ze8 : cW 76 T76 := dA _ _ _ _ _ rfl (by kernel_rfl) (by kernel_rfl)
theorem ze9 : cW 84 T84 := dA _ _ _ _ _ rfl (by kernel_rfl) (by kernel_rfl)
theorem zea : cW 85 T85 := dA _ _ _ _ _ rfl (by kernel_rfl) (by kernel_rfl)
theorem zec : cW 96 T96 := dA _ _ _ _ _ rfl (by kernel_rfl) (by kernel_rfl)
theorem zed : cW 99 T99 := dA _ _ _ _ _ rfl (by kernel_rfl) (by kernel_rfl)
theorem zd7 : cW 101 MR := dA _ _ _ _ _ rfl (by kernel_rfl) (by kernel_rfl)
theorem zd8 : cW 124 MS := dA _ _ _ _ _ rfl (by kernel_rfl) (by kernel_rfl)
theorem zd9 : cW 133 MT := dA _ _ _ _ _ rfl (by kernel_rfl) (by kernel_rfl)
theorem zda : cW 150 MU := dA _ _ _ _ _ rfl (by kernel_rfl) (by kernel_rfl)
theorem zdb : cW 155 MV := dA _ _ _ _ _ rfl (by kernel_rfl) (by kernel_rfl)
theorem zdc : cW 162 MW := dA _ _ _ _ _ rfl (by kernel_rfl) (by kernel_rfl)
theorem zdd : cW 176 MY := dA _ _ _ _ _ rfl (by kernel_rfl) (by kernel_rfl)
theorem zde : cW 177 MZ := dA _ _ _ _ _ rfl (by kernel_rfl) (by kernel_rfl)
theorem zdf : cW 180 N0 := dA _ _ _ _ _ rfl (by kernel_rfl) (by kernel_rfl)
theorem zdg : cW 181 N1 := dA _ _ _ _ _ rfl (by kernel_rfl) (by kernel_rfl)
theorem zdh : cW 182 N2 := dA _ _ _ _ _ rfl (by kernel_rfl) (by kernel_rfl)
theorem zdi : cW 186 N3 := dA _ _ _ _ _ rfl (by kernel_rfl) (by kernel_rfl)
theorem zdj : cW 195 N4 := dA _ _ _ _ _ rfl (by kernel_rfl) (by kernel_rfl)
theorem zdk : cW 197 N5 := dA _ _ _ _ _ rfl (by kernel_rfl) (by kernel_rfl)
theorem zdl : cW 201 N6 := dA _ _ _ _ _ rfl (by kernel_rfl) (by kernel_rfl)
theorem goods : ∀ p ∈ C1.ty, cW p.1 p.2 := (List.forall_mem_cons.2 ⟨zdu, (List.forall_mem_cons.2 ⟨zdx, (List.forall_mem_cons.2 ⟨zdz, (List.forall_mem_cons.2 ⟨zeb, (List.forall_mem_cons.2 ⟨zdm, (List.forall_mem_cons.2 ⟨zdn, (List.forall_mem_cons.2 ⟨zdo, (List.forall_mem_cons.2 ⟨zdp, (List.forall_mem_cons.2 ⟨zdq, (List.forall_mem_cons.2 ⟨zdr, (List.forall_mem_cons.2 ⟨zds, (List.forall_mem_cons.2 ⟨zdt, (List.forall_mem_cons.2 ⟨zdv, (List.forall_mem_cons.2 ⟨zdw, (List.forall_mem_cons.2 ⟨zdy, (List.forall_mem_cons.2 ⟨ze0, (List.forall_mem_cons.2 ⟨ze1, (List.forall_mem_cons.2 ⟨ze2, (List.forall_mem_cons.2 ⟨ze3, (List.forall_mem_cons.2 ⟨ze4, (List.forall_mem_cons.2 ⟨ze5, (List.forall_mem_cons.2 ⟨ze6, (List.forall_mem_cons.2 ⟨ze7, (List.forall_mem_cons.2 ⟨ze8, (List.forall_mem_cons.2 ⟨ze9, (List.forall_mem_cons.2 ⟨zea, (List.forall_mem_cons.2 ⟨zec, (List.forall_mem_cons.2 ⟨zed, (List.forall_mem_cons.2 ⟨zd7, (List.forall_mem_cons.2 ⟨zd8, (List.forall_mem_cons.2 ⟨zd9, (List.forall_mem_cons.2 ⟨zda, (List.forall_mem_cons.2 ⟨zdb, (List.forall_mem_cons.2 ⟨zdc, (List.forall_mem_cons.2 ⟨zdd, (List.forall_mem_cons.2 ⟨zde, (List.forall_mem_cons.2 ⟨zdf, (List.forall_mem_cons.2 ⟨zdg, (List.forall_mem_cons.2 ⟨zdh, (List.forall_mem_cons.2 ⟨zdi, (List.forall_mem_cons.2 ⟨zdj, (List.forall_mem_cons.2 ⟨zdk, (List.forall_mem_cons.2 ⟨zdl, (List.forall_mem_nil _)⟩)⟩)⟩)⟩)⟩)⟩)⟩)⟩)⟩)⟩)⟩)⟩)⟩)⟩)⟩)⟩)⟩)⟩)⟩)⟩)⟩)⟩)⟩)⟩)⟩)⟩)⟩)⟩)⟩)⟩)⟩)⟩)⟩)⟩)⟩)⟩)⟩)⟩)⟩)⟩)⟩)⟩)⟩)
theorem flats : ∀ t ∈ C1.flat, Tryz.prog.stoodInHeld t = false ∧ Tryz.prog.eqGuardType Tryz.prog.depth t = false := (List.forall_mem_cons.2 ⟨⟨by decide +kernel, by decide +kernel⟩, (List.forall_mem_cons.2 ⟨⟨by decide +kernel, by decide +kernel⟩, (List.forall_mem_cons.2 ⟨⟨by decide +kernel, by decide +kernel⟩, (List.forall_mem_cons.2 ⟨⟨by decide +kernel, by decide +kernel⟩, (List.forall_mem_cons.2 ⟨⟨by decide +kernel, by decide +kernel⟩, (List.forall_mem_nil _)⟩)⟩)⟩)⟩)⟩)
theorem bZ : C1.Ok Tryz.prog where
 mixed := by decide +kernel
 flat := flats
 ty := fun t i h => goods (t, i) (RN _ _ _ h)
theorem x7 : C1.ti 3 = some ⟨TypeDesc.int IntKind.i64, 1, 8, Value.int IntKind.i64 0⟩ := rfl
theorem z6r : C1.td 3 = some (TypeDesc.int IntKind.i64) := rfl
theorem z83 : C1.ti 4 = some ⟨TypeDesc.bool, 1, 1, Value.bool false⟩ := rfl
theorem z6u : C1.td 4 = some (TypeDesc.bool) := rfl
theorem z85 : C1.ti 5 = some ⟨TypeDesc.int IntKind.u8, 1, 1, Value.int IntKind.u8 0⟩ := rfl
theorem z6w : C1.td 5 = some (TypeDesc.int IntKind.u8) := rfl
theorem AZ : C1.ti 9 = some ⟨TypeDesc.string, 1, 16, Value.string { data := #[] }⟩ := rfl
theorem z7c : C1.td 9 = some (TypeDesc.string) := rfl
theorem z7u : C1.ti 21 = some ⟨TypeDesc.int IntKind.i32, 1, 4, Value.int IntKind.i32 0⟩ := rfl
theorem z6j : C1.td 21 = some (TypeDesc.int IntKind.i32) := rfl
theorem z7v : C1.ti 22 = some ⟨TypeDesc.func #[] #[4] false, 1, 8, Value.nilFunc⟩ := rfl
theorem z6k : C1.td 22 = some (TypeDesc.func #[] #[4] false) := rfl
theorem z7w : C1.ti 23 = some ⟨TypeDesc.slice 69, 1, 24, Value.slice none 0 0⟩ := rfl
theorem z6l : C1.td 23 = some (TypeDesc.slice 69) := rfl
theorem z7x : C1.ti 24 = some ⟨TypeDesc.slice 71, 1, 24, Value.slice none 0 0⟩ := rfl
theorem z6m : C1.td 24 = some (TypeDesc.slice 71) := rfl
theorem z7y : C1.ti 25 = some ⟨TypeDesc.slice 73, 1, 24, Value.slice none 0 0⟩ := rfl
theorem z6n : C1.td 25 = some (TypeDesc.slice 73) := rfl
theorem z7z : C1.ti 26 = some ⟨TypeDesc.map 21 53, 1, 8, Value.map none⟩ := rfl
theorem z6o : C1.td 26 = some (TypeDesc.map 21 53) := rfl
theorem z80 : C1.ti 27 = some ⟨TypeDesc.map 55 21, 1, 8, Value.map none⟩ := rfl
theorem z6p : C1.td 27 = some (TypeDesc.map 55 21) := rfl
theorem z81 : C1.ti 29 = some ⟨TypeDesc.struct #[⟨"ranges", 23, 0, false, "", "pillarbox/ucd", 0⟩, ⟨"classes", 24, 1, false, "", "pillarbox/ucd", 24⟩, ⟨"lowers", 25, 2, false, "", "pillarbox/ucd", 48⟩, ⟨"splits", 26, 3, false, "", "pillarbox/ucd", 72⟩, ⟨"pairs", 27, 4, false, "", "pillarbox/ucd", 80⟩], 5, 88, Value.agg #[Value.slice none 0 0, Value.slice none 0 0, Value.slice none 0 0, Value.map none, Value.map none]⟩ := rfl
theorem z6q : C1.td 29 = some (TypeDesc.struct #[⟨"ranges", 23, 0, false, "", "pillarbox/ucd", 0⟩, ⟨"classes", 24, 1, false, "", "pillarbox/ucd", 24⟩, ⟨"lowers", 25, 2, false, "", "pillarbox/ucd", 48⟩, ⟨"splits", 26, 3, false, "", "pillarbox/ucd", 72⟩, ⟨"pairs", 27, 4, false, "", "pillarbox/ucd", 80⟩]) := rfl
theorem z5f : C1.fld 29 0 = some (0, ⟨TypeDesc.slice 69, 1, 24, Value.slice none 0 0⟩) := rfl
theorem z5g : C1.fld 29 1 = some (1, ⟨TypeDesc.slice 71, 1, 24, Value.slice none 0 0⟩) := rfl
theorem z5h : C1.fld 29 2 = some (2, ⟨TypeDesc.slice 73, 1, 24, Value.slice none 0 0⟩) := rfl
theorem z5i : C1.fld 29 3 = some (3, ⟨TypeDesc.map 21 53, 1, 8, Value.map none⟩) := rfl
theorem z5j : C1.fld 29 4 = some (4, ⟨TypeDesc.map 55 21, 1, 8, Value.map none⟩) := rfl
theorem IH : C1.ti 31 = some ⟨TypeDesc.slice 9, 1, 24, Value.slice none 0 0⟩ := rfl
theorem z6s : C1.td 31 = some (TypeDesc.slice 9) := rfl
theorem z82 : C1.ti 32 = some ⟨TypeDesc.int IntKind.i64, 1, 8, Value.int IntKind.i64 0⟩ := rfl
theorem z6t : C1.td 32 = some (TypeDesc.int IntKind.i64) := rfl
theorem z84 : C1.ti 45 = some ⟨TypeDesc.func #[9] #[4] false, 1, 8, Value.nilFunc⟩ := rfl
theorem z6v : C1.td 45 = some (TypeDesc.func #[9] #[4] false) := rfl
theorem z86 : C1.ti 50 = some ⟨TypeDesc.slice 53, 1, 24, Value.slice none 0 0⟩ := rfl
theorem z6x : C1.td 50 = some (TypeDesc.slice 53) := rfl
theorem z87 : C1.ti 53 = some ⟨TypeDesc.struct #[⟨"Rune", 21, 0, false, "", "", 0⟩, ⟨"One", 21, 1, false, "", "", 4⟩, ⟨"Two", 21, 2, false, "", "", 8⟩, ⟨"Soft", 4, 3, false, "", "", 12⟩, ⟨"Out", 4, 4, false, "", "", 13⟩], 5, 16, Value.agg #[Value.int IntKind.i32 0, Value.int IntKind.i32 0, Value.int IntKind.i32 0, Value.bool false, Value.bool false]⟩ := rfl
theorem z6y : C1.td 53 = some (TypeDesc.struct #[⟨"Rune", 21, 0, false, "", "", 0⟩, ⟨"One", 21, 1, false, "", "", 4⟩, ⟨"Two", 21, 2, false, "", "", 8⟩, ⟨"Soft", 4, 3, false, "", "", 12⟩, ⟨"Out", 4, 4, false, "", "", 13⟩]) := rfl
theorem z5k : C1.fld 53 0 = some (0, ⟨TypeDesc.int IntKind.i32, 1, 4, Value.int IntKind.i32 0⟩) := rfl
theorem z5l : C1.fld 53 1 = some (1, ⟨TypeDesc.int IntKind.i32, 1, 4, Value.int IntKind.i32 0⟩) := rfl
theorem z5m : C1.fld 53 2 = some (2, ⟨TypeDesc.int IntKind.i32, 1, 4, Value.int IntKind.i32 0⟩) := rfl
theorem z5n : C1.fld 53 3 = some (3, ⟨TypeDesc.bool, 1, 1, Value.bool false⟩) := rfl
theorem z5o : C1.fld 53 4 = some (4, ⟨TypeDesc.bool, 1, 1, Value.bool false⟩) := rfl
theorem z88 : C1.ti 55 = some ⟨TypeDesc.struct #[⟨"one", 21, 0, false, "", "pillarbox/ucd", 0⟩, ⟨"two", 21, 1, false, "", "pillarbox/ucd", 4⟩], 2, 8, Value.agg #[Value.int IntKind.i32 0, Value.int IntKind.i32 0]⟩ := rfl
theorem z6z : C1.td 55 = some (TypeDesc.struct #[⟨"one", 21, 0, false, "", "pillarbox/ucd", 0⟩, ⟨"two", 21, 1, false, "", "pillarbox/ucd", 4⟩]) := rfl
theorem z5p : C1.fld 55 0 = some (0, ⟨TypeDesc.int IntKind.i32, 1, 4, Value.int IntKind.i32 0⟩) := rfl
theorem z5q : C1.fld 55 1 = some (1, ⟨TypeDesc.int IntKind.i32, 1, 4, Value.int IntKind.i32 0⟩) := rfl
theorem z89 : C1.ti 60 = some ⟨TypeDesc.func #[45] #[] false, 1, 8, Value.nilFunc⟩ := rfl
theorem z71 : C1.td 60 = some (TypeDesc.func #[45] #[] false) := rfl
theorem AY : C1.ti 63 = some ⟨TypeDesc.slice 21, 1, 24, Value.slice none 0 0⟩ := rfl
theorem z73 : C1.td 63 = some (TypeDesc.slice 21) := rfl
theorem z8a : C1.ti 69 = some ⟨TypeDesc.struct #[⟨"Lo", 21, 0, false, "", "", 0⟩, ⟨"Hi", 21, 1, false, "", "", 4⟩, ⟨"Cat", 3, 2, false, "", "", 8⟩, ⟨"Bidi", 3, 3, false, "", "", 16⟩, ⟨"Join", 3, 4, false, "", "", 24⟩, ⟨"Script", 3, 5, false, "", "", 32⟩], 6, 40, Value.agg #[Value.int IntKind.i32 0, Value.int IntKind.i32 0, Value.int IntKind.i64 0, Value.int IntKind.i64 0, Value.int IntKind.i64 0, Value.int IntKind.i64 0]⟩ := rfl
theorem z74 : C1.td 69 = some (TypeDesc.struct #[⟨"Lo", 21, 0, false, "", "", 0⟩, ⟨"Hi", 21, 1, false, "", "", 4⟩, ⟨"Cat", 3, 2, false, "", "", 8⟩, ⟨"Bidi", 3, 3, false, "", "", 16⟩, ⟨"Join", 3, 4, false, "", "", 24⟩, ⟨"Script", 3, 5, false, "", "", 32⟩]) := rfl
theorem z5r : C1.fld 69 0 = some (0, ⟨TypeDesc.int IntKind.i32, 1, 4, Value.int IntKind.i32 0⟩) := rfl
theorem z5s : C1.fld 69 1 = some (1, ⟨TypeDesc.int IntKind.i32, 1, 4, Value.int IntKind.i32 0⟩) := rfl
theorem z5t : C1.fld 69 2 = some (2, ⟨TypeDesc.int IntKind.i64, 1, 8, Value.int IntKind.i64 0⟩) := rfl
theorem z5u : C1.fld 69 3 = some (3, ⟨TypeDesc.int IntKind.i64, 1, 8, Value.int IntKind.i64 0⟩) := rfl
theorem z5v : C1.fld 69 4 = some (4, ⟨TypeDesc.int IntKind.i64, 1, 8, Value.int IntKind.i64 0⟩) := rfl
theorem z5w : C1.fld 69 5 = some (5, ⟨TypeDesc.int IntKind.i64, 1, 8, Value.int IntKind.i64 0⟩) := rfl
theorem z8b : C1.ti 71 = some ⟨TypeDesc.struct #[⟨"Lo", 21, 0, false, "", "", 0⟩, ⟨"Hi", 21, 1, false, "", "", 4⟩, ⟨"Class", 3, 2, false, "", "", 8⟩, ⟨"Step", 3, 3, false, "", "", 16⟩], 4, 24, Value.agg #[Value.int IntKind.i32 0, Value.int IntKind.i32 0, Value.int IntKind.i64 0, Value.int IntKind.i64 0]⟩ := rfl
theorem z77 : C1.td 71 = some (TypeDesc.struct #[⟨"Lo", 21, 0, false, "", "", 0⟩, ⟨"Hi", 21, 1, false, "", "", 4⟩, ⟨"Class", 3, 2, false, "", "", 8⟩, ⟨"Step", 3, 3, false, "", "", 16⟩]) := rfl
theorem z5x : C1.fld 71 0 = some (0, ⟨TypeDesc.int IntKind.i32, 1, 4, Value.int IntKind.i32 0⟩) := rfl
theorem z5y : C1.fld 71 1 = some (1, ⟨TypeDesc.int IntKind.i32, 1, 4, Value.int IntKind.i32 0⟩) := rfl
theorem z5z : C1.fld 71 2 = some (2, ⟨TypeDesc.int IntKind.i64, 1, 8, Value.int IntKind.i64 0⟩) := rfl
theorem z60 : C1.fld 71 3 = some (3, ⟨TypeDesc.int IntKind.i64, 1, 8, Value.int IntKind.i64 0⟩) := rfl
theorem z8c : C1.ti 73 = some ⟨TypeDesc.struct #[⟨"Lo", 21, 0, false, "", "", 0⟩, ⟨"Hi", 21, 1, false, "", "", 4⟩, ⟨"By", 21, 2, false, "", "", 8⟩], 3, 12, Value.agg #[Value.int IntKind.i32 0, Value.int IntKind.i32 0, Value.int IntKind.i32 0]⟩ := rfl
theorem z78 : C1.td 73 = some (TypeDesc.struct #[⟨"Lo", 21, 0, false, "", "", 0⟩, ⟨"Hi", 21, 1, false, "", "", 4⟩, ⟨"By", 21, 2, false, "", "", 8⟩]) := rfl
theorem z61 : C1.fld 73 0 = some (0, ⟨TypeDesc.int IntKind.i32, 1, 4, Value.int IntKind.i32 0⟩) := rfl
theorem z62 : C1.fld 73 1 = some (1, ⟨TypeDesc.int IntKind.i32, 1, 4, Value.int IntKind.i32 0⟩) := rfl
theorem z63 : C1.fld 73 2 = some (2, ⟨TypeDesc.int IntKind.i32, 1, 4, Value.int IntKind.i32 0⟩) := rfl
theorem z8d : C1.ti 76 = some ⟨TypeDesc.func #[45] #[] false, 1, 8, Value.nilFunc⟩ := rfl
theorem z79 : C1.td 76 = some (TypeDesc.func #[45] #[] false) := rfl
theorem z8e : C1.ti 84 = some ⟨TypeDesc.slice 5, 1, 24, Value.slice none 0 0⟩ := rfl
theorem z7a : C1.td 84 = some (TypeDesc.slice 5) := rfl
theorem z8f : C1.ti 85 = some ⟨TypeDesc.func #[21] #[4] false, 1, 8, Value.nilFunc⟩ := rfl
theorem z7b : C1.td 85 = some (TypeDesc.func #[21] #[4] false) := rfl
theorem z8g : C1.ti 96 = some ⟨TypeDesc.int IntKind.u64, 1, 8, Value.int IntKind.u64 0⟩ := rfl
theorem z7d : C1.td 96 = some (TypeDesc.int IntKind.u64) := rfl
theorem z8h : C1.ti 99 = some ⟨TypeDesc.func #[21] #[21] false, 1, 8, Value.nilFunc⟩ := rfl
theorem z7e : C1.td 99 = some (TypeDesc.func #[21] #[21] false) := rfl
theorem z7f : C1.ti 101 = some ⟨TypeDesc.struct #[⟨"Table", 29, 0, true, "", "", 0⟩], 5, 88, Value.agg #[Value.slice none 0 0, Value.slice none 0 0, Value.slice none 0 0, Value.map none, Value.map none]⟩ := rfl
theorem z64 : C1.td 101 = some (TypeDesc.struct #[⟨"Table", 29, 0, true, "", "", 0⟩]) := rfl
theorem z58 : C1.fld 101 0 = some (0, ⟨TypeDesc.struct #[⟨"ranges", 23, 0, false, "", "pillarbox/ucd", 0⟩, ⟨"classes", 24, 1, false, "", "pillarbox/ucd", 24⟩, ⟨"lowers", 25, 2, false, "", "pillarbox/ucd", 48⟩, ⟨"splits", 26, 3, false, "", "pillarbox/ucd", 72⟩, ⟨"pairs", 27, 4, false, "", "pillarbox/ucd", 80⟩], 5, 88, Value.agg #[Value.slice none 0 0, Value.slice none 0 0, Value.slice none 0 0, Value.map none, Value.map none]⟩) := rfl
theorem z7g : C1.ti 124 = some ⟨TypeDesc.struct #[⟨"err", 32, 0, false, "", "pillarbox/label", 0⟩, ⟨"bad", 22, 1, false, "", "pillarbox/label", 8⟩], 2, 16, Value.agg #[Value.int IntKind.i64 0, Value.nilFunc]⟩ := rfl
theorem z65 : C1.td 124 = some (TypeDesc.struct #[⟨"err", 32, 0, false, "", "pillarbox/label", 0⟩, ⟨"bad", 22, 1, false, "", "pillarbox/label", 8⟩]) := rfl
theorem z5a : C1.fld 124 0 = some (0, ⟨TypeDesc.int IntKind.i64, 1, 8, Value.int IntKind.i64 0⟩) := rfl
theorem z5b : C1.fld 124 1 = some (1, ⟨TypeDesc.func #[] #[4] false, 1, 8, Value.nilFunc⟩) := rfl
theorem z7h : C1.ti 133 = some ⟨TypeDesc.func #[73] #[4] false, 1, 8, Value.nilFunc⟩ := rfl
theorem z66 : C1.td 133 = some (TypeDesc.func #[73] #[4] false) := rfl
theorem z7i : C1.ti 150 = some ⟨TypeDesc.slice 124, 1, 24, Value.slice none 0 0⟩ := rfl
theorem z67 : C1.td 150 = some (TypeDesc.slice 124) := rfl
theorem z7j : C1.ti 155 = some ⟨TypeDesc.array 8 3, 8, 64, Value.agg #[Value.int IntKind.i64 0, Value.int IntKind.i64 0, Value.int IntKind.i64 0, Value.int IntKind.i64 0, Value.int IntKind.i64 0, Value.int IntKind.i64 0, Value.int IntKind.i64 0, Value.int IntKind.i64 0]⟩ := rfl
theorem z68 : C1.td 155 = some (TypeDesc.array 8 3) := rfl
theorem z7k : C1.ti 162 = some ⟨TypeDesc.func #[21, 21] #[3] false, 1, 8, Value.nilFunc⟩ := rfl
theorem z69 : C1.td 162 = some (TypeDesc.func #[21, 21] #[3] false) := rfl
theorem z7l : C1.ti 176 = some ⟨TypeDesc.func #[69, 21] #[3] false, 1, 8, Value.nilFunc⟩ := rfl
theorem z6a : C1.td 176 = some (TypeDesc.func #[69, 21] #[3] false) := rfl
theorem z7m : C1.ti 177 = some ⟨TypeDesc.func #[180] #[4] false, 1, 8, Value.nilFunc⟩ := rfl
theorem z6b : C1.td 177 = some (TypeDesc.func #[180] #[4] false) := rfl
theorem z7n : C1.ti 180 = some ⟨TypeDesc.struct #[⟨"t", 29, 0, false, "", "pillarbox/context", 0⟩, ⟨"l", 63, 5, false, "", "pillarbox/context", 88⟩, ⟨"at", 3, 6, false, "", "pillarbox/context", 112⟩], 7, 120, Value.agg #[Value.slice none 0 0, Value.slice none 0 0, Value.slice none 0 0, Value.map none, Value.map none, Value.slice none 0 0, Value.int IntKind.i64 0]⟩ := rfl
theorem z6c : C1.td 180 = some (TypeDesc.struct #[⟨"t", 29, 0, false, "", "pillarbox/context", 0⟩, ⟨"l", 63, 5, false, "", "pillarbox/context", 88⟩, ⟨"at", 3, 6, false, "", "pillarbox/context", 112⟩]) := rfl
theorem z5c : C1.fld 180 0 = some (0, ⟨TypeDesc.struct #[⟨"ranges", 23, 0, false, "", "pillarbox/ucd", 0⟩, ⟨"classes", 24, 1, false, "", "pillarbox/ucd", 24⟩, ⟨"lowers", 25, 2, false, "", "pillarbox/ucd", 48⟩, ⟨"splits", 26, 3, false, "", "pillarbox/ucd", 72⟩, ⟨"pairs", 27, 4, false, "", "pillarbox/ucd", 80⟩], 5, 88, Value.agg #[Value.slice none 0 0, Value.slice none 0 0, Value.slice none 0 0, Value.map none, Value.map none]⟩) := rfl
theorem z5d : C1.fld 180 1 = some (5, ⟨TypeDesc.slice 21, 1, 24, Value.slice none 0 0⟩) := rfl
theorem z5e : C1.fld 180 2 = some (6, ⟨TypeDesc.int IntKind.i64, 1, 8, Value.int IntKind.i64 0⟩) := rfl
theorem z7o : C1.ti 181 = some ⟨TypeDesc.func #[197] #[] false, 1, 8, Value.nilFunc⟩ := rfl
theorem z6d : C1.td 181 = some (TypeDesc.func #[197] #[] false) := rfl
theorem z7p : C1.ti 182 = some ⟨TypeDesc.func #[197] #[] false, 1, 8, Value.nilFunc⟩ := rfl
theorem z6e : C1.td 182 = some (TypeDesc.func #[197] #[] false) := rfl
theorem z7q : C1.ti 186 = some ⟨TypeDesc.func #[71] #[4] false, 1, 8, Value.nilFunc⟩ := rfl
theorem z6f : C1.td 186 = some (TypeDesc.func #[71] #[4] false) := rfl
theorem z7r : C1.ti 195 = some ⟨TypeDesc.map 21 177, 1, 8, Value.map none⟩ := rfl
theorem z6g : C1.td 195 = some (TypeDesc.map 21 177) := rfl
theorem z7s : C1.ti 197 = some ⟨TypeDesc.func #[3, 21] #[4] false, 1, 8, Value.nilFunc⟩ := rfl
theorem z6h : C1.td 197 = some (TypeDesc.func #[3, 21] #[4] false) := rfl
theorem z7t : C1.ti 201 = some ⟨TypeDesc.slice 63, 1, 24, Value.slice none 0 0⟩ := rfl
theorem z6i : C1.td 201 = some (TypeDesc.slice 63) := rfl
theorem z4w (a : Int) : cC C1 3 (.int .i64 a) = true := rfl
theorem z4y (a : Bool) : cC C1 4 (.bool a) = true := rfl
theorem z4z (a : Int) : cC C1 5 (.int .u8 a) = true := rfl
theorem z56 (a : ByteArray) : cC C1 9 (.string a) = true := rfl
theorem z4v (a : Int) : cC C1 21 (.int .i32 a) = true := rfl
theorem z4x (a : Int) : cC C1 32 (.int .i64 a) = true := rfl
theorem z57 (a : Int) : cC C1 96 (.int .u64 a) = true := rfl
theorem z50 (x0 : Int) (x1 : Int) (x2 : Int) (x3 : Bool) (x4 : Bool) : cC C1 53 (.agg #[.int .i32 x0, .int .i32 x1, .int .i32 x2, .bool x3, .bool x4]) = true := rfl
theorem z52 (x0 : Int) (x1 : Int) : cC C1 55 (.agg #[.int .i32 x0, .int .i32 x1]) = true := rfl
theorem z53 (x0 : Int) (x1 : Int) (x2 : Int) (x3 : Int) (x4 : Int) (x5 : Int) : cC C1 69 (.agg #[.int .i32 x0, .int .i32 x1, .int .i64 x2, .int .i64 x3, .int .i64 x4, .int .i64 x5]) = true := rfl
theorem z54 (x0 : Int) (x1 : Int) (x2 : Int) (x3 : Int) : cC C1 71 (.agg #[.int .i32 x0, .int .i32 x1, .int .i64 x2, .int .i64 x3]) = true := rfl
theorem z55 (x0 : Int) (x1 : Int) (x2 : Int) : cC C1 73 (.agg #[.int .i32 x0, .int .i32 x1, .int .i32 x2]) = true := rfl
set_option linter.defProp false in
def bT := And.intro @x7 <| And.intro @z6r <| And.intro @z4w <| And.intro @z83 <| And.intro @z6u <| And.intro @z4y <| And.intro @z85 <| And.intro @z6w <| And.intro @z4z <| And.intro @AZ <| And.intro @z7c <| And.intro @z56 <| And.intro @z7u <| And.intro @z6j <| And.intro @z4v <| And.intro @z7v <| And.intro @z6k <| And.intro @z7w <| And.intro @z6l <| And.intro @z7x <| And.intro @z6m <| And.intro @z7y <| And.intro @z6n <| And.intro @z7z <| And.intro @z6o <| And.intro @z80 <| And.intro @z6p <| And.intro @z81 <| And.intro @z6q <| And.intro @z5f <| And.intro @z5g <| And.intro @z5h <| And.intro @z5i <| And.intro @z5j <| And.intro @IH <| And.intro @z6s <| And.intro @z82 <| And.intro @z6t <| And.intro @z4x <| And.intro @z84 <| And.intro @z6v <| And.intro @z86 <| And.intro @z6x <| And.intro @z87 <| And.intro @z6y <| And.intro @z5k <| And.intro @z5l <| And.intro @z5m <| And.intro @z5n <| And.intro @z5o <| And.intro @z50 <| And.intro @z88 <| And.intro @z6z <| And.intro @z5p <| And.intro @z5q <| And.intro @z52 <| And.intro @z89 <| And.intro @z71 <| And.intro @AY <| And.intro @z73 <| And.intro @z8a <| And.intro @z74 <| And.intro @z5r <| And.intro @z5s <| And.intro @z5t <| And.intro @z5u <| And.intro @z5v <| And.intro @z5w <| And.intro @z53 <| And.intro @z8b <| And.intro @z77 <| And.intro @z5x <| And.intro @z5y <| And.intro @z5z <| And.intro @z60 <| And.intro @z54 <| And.intro @z8c <| And.intro @z78 <| And.intro @z61 <| And.intro @z62 <| And.intro @z63 <| And.intro @z55 <| And.intro @z8d <| And.intro @z79 <| And.intro @z8e <| And.intro @z7a <| And.intro @z8f <| And.intro @z7b <| And.intro @z8g <| And.intro @z7d <| And.intro @z57 <| And.intro @z8h <| And.intro @z7e <| And.intro @z7f <| And.intro @z64 <| And.intro @z58 <| And.intro @z7g <| And.intro @z65 <| And.intro @z5a <| And.intro @z5b <| And.intro @z7h <| And.intro @z66 <| And.intro @z7i <| And.intro @z67 <| And.intro @z7j <| And.intro @z68 <| And.intro @z7k <| And.intro @z69 <| And.intro @z7l <| And.intro @z6a <| And.intro @z7m <| And.intro @z6b <| And.intro @z7n <| And.intro @z6c <| And.intro @z5c <| And.intro @z5d <| And.intro @z5e <| And.intro @z7o <| And.intro @z6d <| And.intro @z7p <| And.intro @z6e <| And.intro @z7q <| And.intro @z6f <| And.intro @z7r <| And.intro @z6g <| And.intro @z7s <| And.intro @z6h <| And.intro @z7t <| @z6i
structure bD (Q : Prop) : Prop where
 out : Q
theorem tru : True := trivial
theorem sp (ts : List ResultVar) {f : FuncId} {fn : Func} {c : Code} {n : Nat} {args : List AV} {r : AV} (hf : Tryz.prog.funcs[f]? = some fn) (hn : fn.ntmps = n) (h : AW C1 Tryz.prog c (tP C1 false ts r) ⟨fY 0 args, []⟩)
 (hb : fn.body = some c := by rfl) (h1 : (fn.name == "runtime.NumGoroutine") = false := by rfl) (h2 : f9 fn.ntmps c = true := by decide +kernel) (h3 : args.length ≤ n := by simp) (h4 : fn.results.toList = ts := by rfl) : aG Tryz.prog f args r := qC bZ hf hb h1 h2 (by rw [hn]; exact h3) h4 h
theorem bN {P : Prop} (h : P := by simp [wk, aL, aI, aD, aC, get, aK, belowM, below, belows, aA, aB, Bv, U8, Sv] <;> try omega) : P := h
theorem fkx {P Q R : Prop} (a : Q) (b : R) (h : bD Q → bD R → P := by
 intro q r
 refine Fk.fk ?_ ?_ <;> intro hg <;> (try simp only [hg]) <;> (try simp only [eC] at hg) <;> try (exfalso; first | omega | exact Bool.noConfusion hg | exact hg trivial)
 all_goals revert hg
 first | done | (exact q.out; first | done | (exact r.out; first | done | fail))) : P := h ⟨a⟩ ⟨b⟩
structure Mk (P : Prop) : Prop where
 o : True
theorem Mk.use {P : Prop} (_ : Mk P) (h : P) : P := h
structure cM (σ : List Nat) (S : Prop) : Prop where
 out : S
theorem cM.fit {K : AV → Prop} {P : Program} {s : St} {d : Option Nat} {args : List AV} {L : St → Prop} {σ : List Nat} {f : FuncId} {m0 m1 : List Ob} {ys fa : List AV} {r : AV} {nm : Bool} (h : cM σ (eV P f m0 ys m1 r)) (k : LR σ m0 ys m1 r s d args L) : WE P f fa nm K (LX P s d f args L) := dG σ h.out k
end Go.AE
end
section
namespace Go.AE
open Go.Proofs
set_option maxHeartbeats 8000000
set_option maxRecDepth 20000
set_option linter.unusedSimpArgs false
theorem xX {P Q R S : Prop} (a : Q) (b : R) (c : S) (h : Mk P → bD Q → bD R → bD S → P := by
 intro m q r s
 repeat' first | refine aM (by first | assumption | (apply_assumption <;> omega)) ?_ ?_ | refine cM.fit (by assumption) ?_ | simp (maxSteps := 4000000) (disch := omega) only [aZ, aY, bun, ↓aW, ↓aV, aO, findLabel, ↓reduceIte, imp, shift, aR, aJ, unown, names, aQ, below, aD, aC, aT, aU, aS, ren, aN, aP, aX, renO, belowM, seval, -Int.reduceToNat, bT, b9, hH, gY, gZ, *] | exact bH _ | refine bG _ _ ?_ | exact bC.cl | refine bE _ ?_ | refine bF _ _ ?_ ?_ | refine bA _ ?_ | refine fkx ?_ tru <;> intro hg | refine fkx ?_ ?_ <;> intro hg | exact fkx tru tru | refine And.intro (by omega) ?_ | omega
 first
 | done
 | all_goals (repeat revert hg)
   exact q.out
   first
   | done
   | exact r.out
     first
     | done
     | exact s.out
       first | done | fail) : P := h ⟨tru⟩ ⟨a⟩ ⟨b⟩ ⟨c⟩
theorem P4 : aG Tryz.prog 22 [] (.own 71 4 10 (classes.flatMap eP)) := by
 refine sp [.tmp 0] Tryz.func22 Tryz.ntmps22 ?_
 refine xX ?_ tru tru <;> intros
 all_goals rfl
theorem VU : aG Tryz.prog 23 [] (.own 73 3 11 (lowers.flatMap fA)) := by
 refine sp [.tmp 0] Tryz.func23 Tryz.ntmps23 ?_
 refine xX ?_ tru tru <;> intros
 all_goals rfl
theorem ET : aG Tryz.prog 24 [] (.own 53 5 42 (splits.flatMap bR)) := by
 refine sp [.tmp 0] Tryz.func24 Tryz.ntmps24 ?_
 refine xX ?_ tru tru <;> intros
 all_goals rfl
theorem ZE : aG Tryz.prog 21 [] (.own 69 6 74 (ranges.flatMap eO)) := by
 refine sp [.tmp 0] Tryz.func21 Tryz.ntmps21 ?_
 refine xX ?_ tru tru <;> intros
 all_goals rfl
end Go.AE
-- types: B23 B24 B25 B50 B53 B69 B71 B73
end
section
namespace Go.AE
open Go.Proofs
set_option maxHeartbeats 8000000
set_option maxRecDepth 20000
set_option linter.unusedSimpArgs false
def cN (es ps : List (Value × AV)) : List AV := [.sl 74 (ranges.flatMap eO), .sl 10 (classes.flatMap eP), .sl 11 (lowers.flatMap fA), .mp es, .mp ps]
def sM (i : Nat) : List (Value × AV) := (splits.take i).foldl (fun m s => mput (.int .i32 s.1) (.ag (bR s)) m) []
def pM (i : Nat) : List (Value × AV) := (splits.take i).foldl (fun m s => match s.2.2.2.1 || s.2.2.2.2 with | true => m | false => mput (.agg #[.int .i32 s.2.1, .int .i32 s.2.2.1]) (.v (.int .i32 s.1)) m) []
theorem EL {i : Nat} (h : i < 42) : sM (i + 1) = mput (.int .i32 (splits.getD i dE).1) (.ag (bR (splits.getD i dE))) (sM i) := by
 unfold sM
 rw [z2l _ i dE (by rw [lY]; exact h), List.foldl_append]; rfl
theorem DK {i : Nat} (h : i < 42) : pM (i + 1) = match (splits.getD i dE).2.2.2.1 || (splits.getD i dE).2.2.2.2 with | true => pM i | false => mput (.agg #[.int .i32 (splits.getD i dE).2.1, .int .i32 (splits.getD i dE).2.2.1]) (.v (.int .i32 (splits.getD i dE).1)) (pM i) := by
 unfold pM
 rw [z2l _ i dE (by rw [lY]; exact h), List.foldl_append]; rfl
theorem D9 {Q : Value → Prop} {k : Value} {x : AV} (hk : Q k) : ∀ {es : List (Value × AV)}, (∀ e ∈ es, Q e.1) → ∀ e ∈ mput k x es, Q e.1
 | [], _, e, he => by simp only [mput, List.mem_singleton] at he; subst he; exact hk
 | (k', y) :: l, h, e, he => by
  simp only [mput] at he
  split at he
  ·rcases List.mem_cons.1 he with rfl | he
   ·exact hk
   ·exact h e (by simp [he])
  ·rcases List.mem_cons.1 he with rfl | he
   ·exact h _ (by simp)
   ·exact D9 hk (fun e he => h e (by simp [he])) e he
theorem tR (i : Nat) : (∀ e ∈ sM i, cC C1 21 e.1 = true) = True := by
 refine eq_true ?_
 unfold sM
 have : ∀ (l : List SplitT) (m : List (Value × AV)), (∀ e ∈ m, cC C1 21 e.1 = true) → ∀ e ∈ l.foldl (fun m s => mput (.int .i32 s.1) (.ag (bR s)) m) m, cC C1 21 e.1 = true := by
  intro l
  induction l with
  | nil => intro m h; exact h
  | cons a l ih => intro m h; exact ih _ (D9 (Q := fun v => cC C1 21 v = true) rfl h)
 exact this _ _ (by simp)
theorem tM (i : Nat) : (∀ e ∈ pM i, cC C1 55 e.1 = true) = True := by
 refine eq_true ?_
 unfold pM
 have : ∀ (l : List SplitT) (m : List (Value × AV)), (∀ e ∈ m, cC C1 55 e.1 = true) → ∀ e ∈ l.foldl (fun m s => match s.2.2.2.1 || s.2.2.2.2 with | true => m | false => mput (.agg #[.int .i32 s.2.1, .int .i32 s.2.2.1]) (.v (.int .i32 s.1)) m) m, cC C1 55 e.1 = true := by
  intro l
  induction l with
  | nil => intro m h; exact h
  | cons a l ih =>
   intro m h
   refine ih _ ?_
   show ∀ e ∈ (match a.2.2.2.1 || a.2.2.2.2 with | true => m | false => mput (.agg #[.int .i32 a.2.1, .int .i32 a.2.2.1]) (.v (.int .i32 a.1)) m), _
   split
   ·exact h
   ·exact D9 (Q := fun v => cC C1 55 v = true) rfl h
 exact this _ _ (by simp)
def tI (i : Nat) : St := ⟨[(0, .ptr 0 0), (1, .ptr 6 0), (10, .ref 7 0 42), (11, aA 42), (12, aA i)],
 [.row true 1 [.v (.slice none 0 0), .v (.slice none 0 0), .v (.slice none 0 0), .v (.map none), .v (.map none)], .arr 69 6 (ranges.flatMap eO), .arr 71 4 (classes.flatMap eP), .arr 73 3 (lowers.flatMap fA),
  .mp (sM i), .mp (pM i), .row true 1 [.ref 1 0 74, .ref 2 0 10, .ref 3 0 11, .mr 4, .mr 5], .arr 53 5 (splits.flatMap bR)]⟩
theorem zh3 : aG Tryz.prog 9 [] (.ag (cN (sM 42) (pM 42))) := by
 refine qC (z := true) (ts := [.cell 0 29]) bZ Tryz.func9 rfl rfl (by decide +kernel) (by simp [Tryz.ntmps9]) rfl ?_
 repeat' first | refine aM (ZE) ?_ ?_ | refine aM (P4) ?_ ?_ | refine aM (VU) ?_ ?_ | refine aM (ET) ?_ ?_ | simp (maxSteps := 4000000) (disch := omega) only [aZ, aY, bun, ↓aW, ↓aV, aO, findLabel, ↓reduceIte, imp, shift, aR, aJ, unown, names, aQ, below, aD, aC, aT, aU, aS, ren, aN, aP, aX, renO, belowM, seval, -Int.reduceToNat, bT, b9, hH, gY, gZ, bR, l6, tR, tM, Bool.not_true, Bool.not_false] | exact bH _ | refine bG _ _ ?_ | exact bC.cl | refine bE _ ?_ | refine bF _ _ ?_ ?_ | refine bA _ ?_ | refine fkx ?_ tru <;> intro hg | refine fkx ?_ ?_ <;> intro hg | exact fkx tru tru | refine And.intro (by omega) ?_ | omega
 refine bL tI (fun i => i ≤ 42) (fun i => 42 - i) 0 (by omega) ?_ ?_
 ·(simp (disch := omega) [wk, aL, aI, aD, aC, get, aK, belowM, below, belows, aA, aB, Bv, U8, Sv, tI, sM, pM, splits] <;> try omega)
 intro i hi
 unfold tI
 repeat' first | simp (maxSteps := 4000000) (disch := omega) only [aZ, aY, bun, ↓aW, ↓aV, aO, findLabel, ↓reduceIte, imp, shift, aR, aJ, unown, names, aQ, below, aD, aC, aT, aU, aS, ren, aN, aP, aX, renO, belowM, seval, -Int.reduceToNat, lX, bT, b9, hH, gY, gZ, bR, l6, tR, tM, Bool.not_true, Bool.not_false] | refine bA _ ?_ | refine fkx ?_ tru <;> intro hg | refine fkx ?_ ?_ <;> intro hg | exact fkx tru tru | refine And.intro (by omega) ?_ | omega
 ·refine ⟨i + 1, by omega, by omega, ?_⟩
  have h5 : (splits.getD i dE).2.2.2.1 = false := by assumption
  have h6 : (splits.getD i dE).2.2.2.2 = false := by assumption
  have e1 := EL (i := i) (by omega)
  have e2 := DK (i := i) (by omega)
  rw [h5, h6] at e2
  generalize splits.getD i dE = x at *
  (simp (disch := omega) [wk, aL, aI, aD, aC, get, aK, belowM, below, belows, aA, aB, Bv, U8, Sv, tI, e1, e2, bR] <;> try omega)
 ·refine ⟨i + 1, by omega, by omega, ?_⟩
  have h5 : (splits.getD i dE).2.2.2.1 = false := by assumption
  have h6 : (splits.getD i dE).2.2.2.2 = true := by assumption
  have e1 := EL (i := i) (by omega)
  have e2 := DK (i := i) (by omega)
  rw [h5, h6] at e2
  generalize splits.getD i dE = x at *
  (simp (disch := omega) [wk, aL, aI, aD, aC, get, aK, belowM, below, belows, aA, aB, Bv, U8, Sv, tI, e1, e2, bR] <;> try omega)
 ·refine ⟨i + 1, by omega, by omega, ?_⟩
  have h5 : (splits.getD i dE).2.2.2.1 = true := by assumption
  have e1 := EL (i := i) (by omega)
  have e2 := DK (i := i) (by omega)
  rw [h5] at e2
  generalize splits.getD i dE = x at *
  (simp (disch := omega) [wk, aL, aI, aD, aC, get, aK, belowM, below, belows, aA, aB, Bv, U8, Sv, tI, e1, e2, bR] <;> try omega)
 ·have : i = 42 := by omega
  subst this
  rw [List.take_of_length_le (by rw [EF (k := 6) _ (fun _ => rfl)]; decide), List.take_of_length_le (by rw [EF (k := 4) _ (fun _ => rfl)]; decide), List.take_of_length_le (by rw [EF (k := 3) _ (fun _ => rfl)]; decide)]
  rfl
end Go.AE
-- types: B0 B3 B4 B21 B23 B24 B25 B26 B27 B29 B50 B53 B55
end
section
namespace Go.AE
open Go.Proofs
set_option maxHeartbeats 8000000
set_option maxRecDepth 20000
set_option linter.unusedSimpArgs false
def tab : AV := .ag (cN (sM 42) (pM 42))
def sF (x : RangeT) (r : Int) : Int := if x.2.1 < r then -1 else if r < x.1 then 1 else 0
theorem sG (x : RangeT) (r : Int) : (sF x r < 0) = (x.2.1 < r) := by
 unfold sF
 apply propext
 split
 ·rename_i h; simp [h]
 ·rename_i h
  split <;> simp [h] <;> omega
theorem zb1 {x : RangeT} {r : Int} (h : ¬ x.2.1 < r) : (sF x r == 0) = decide (x.1 ≤ r) := by
 unfold sF; rw [if_neg h]
 split
 ·rename_i h1; have : ¬ x.1 ≤ r := by omega
  simp [this]
 ·rename_i h1; have : x.1 ≤ r := by omega
  simp [this]
theorem Q0 {P Q R S : Prop} (a : Q) (b : R) (c : S) (h : Mk P → bD Q → bD R → bD S → P := by
 intro m q r s
 repeat' first | refine aM (by first | assumption | (apply_assumption <;> omega)) ?_ ?_ | refine cM.fit (by assumption) ?_ | simp (maxSteps := 4000000) (disch := omega) only [aZ, aY, bun, ↓aW, ↓aV, aO, findLabel, ↓reduceIte, imp, shift, aR, aJ, unown, names, aQ, below, aD, aC, aT, aU, aS, ren, aN, aP, aX, renO, belowM, seval, -Int.reduceToNat, bT, b9, cN, mP, m6, mH, lX, mT, mB, mM, l6, mR, mS, m7, m8, m9, mA, mJ, mK, mL, mV, mW, mX, mY, mZ, eO, eP, fA, bR, *] | exact bH _ | refine bG _ _ ?_ | exact bC.cl | refine bE _ ?_ | refine bF _ _ ?_ ?_ | refine bA _ ?_ | (refine Fk.fk ?_ ?_ <;> intro hg <;> (try simp only [hg]) <;> (try simp only [eC, fB, dU, eK, iN, iC, sG] at hg) <;> try (exfalso; first | omega | exact Bool.noConfusion hg | exact hg trivial)) | refine And.intro (by omega) ?_ | omega
 first
 | done
 | all_goals (repeat revert hg)
   exact q.out
   first
   | done
   | exact r.out
     first
     | done
     | exact s.out
       first | done | fail) : P := h ⟨tru⟩ ⟨a⟩ ⟨b⟩ ⟨c⟩
theorem P6 (x : RangeT) (r : Int) : aG Tryz.prog 183 [.ag (eO x), aB r] (aA (sF x r)) := by
 refine sp [.tmp 4] Tryz.func183 Tryz.ntmps183 ?_
 refine Q0 ?_ ?_ ?_ <;> intros
 all_goals (simp only [sF]; congr 2; repeat' split) <;> first | rfl | omega
theorem z13 (r : Int) : aG Tryz.prog 182 [.sl 74 (ranges.flatMap eO), aB r, .fn 183 [] []] (.tup [aA (lb r ranges), Bv (lO r)]) := by
 refine sp [.tmp 6, .tmp 7] Tryz.func182 Tryz.ntmps182 ?_
 have hlb := zfn r ranges
 rw [mQ] at hlb
 (have := @P6; refine Q0 ?_ tru tru <;> intros)
 refine bL (fun p : Nat × Nat => ⟨[(0, .sl 74 (ranges.flatMap eO)), (1, aB r), (2, .fn 183 [] []), (8, aA 74), (9, aA p.1), (10, aA p.2)], []⟩) (fun p => p.1 ≤ lb r ranges ∧ lb r ranges ≤ p.2 ∧ p.2 ≤ 74) (fun p => p.2 - p.1) (0, 74) (by simp; omega) bN ?_
 rintro ⟨i, j⟩ ⟨h1, h2, h3⟩
 simp only at h1 h2 h3
 repeat' first | refine aM (P6 _ _) ?_ ?_ | simp (maxSteps := 4000000) (disch := omega) only [aZ, aY, bun, ↓aW, ↓aV, aO, findLabel, ↓reduceIte, imp, shift, aR, aJ, unown, names, aQ, below, aD, aC, aT, aU, aS, ren, aN, aP, aX, renO, belowM, seval, -Int.reduceToNat, bT, b9, cN, mP, m6, mH, lX, mT, mB, mM, l6, mR, mS, m7, m8, m9, mA, mJ, mK, mL, mV, mW, mX, mY, mZ, eO, eP, fA, bR] | exact bH _ | refine bG _ _ ?_ | exact bC.cl | refine bE _ ?_ | refine bF _ _ ?_ ?_ | refine bA _ ?_ | (refine Fk.fk ?_ ?_ <;> intro hg <;> (try simp only [hg]) <;> (try simp only [eC, fB, dU, eK, iN, iC, sG] at hg) <;> try (exfalso; first | omega | exact Bool.noConfusion hg | exact hg trivial)) | refine And.intro (by omega) ?_ | omega
 ·have := yQ r wD ((↑i + ↑j : Int) / 2).toNat (by rw [mQ]; omega)
  refine ⟨(((↑i + ↑j : Int) / 2).toNat + 1, j), ⟨by simp only; omega, by simp only; omega, h3⟩, by simp only; omega, bN⟩
 ·have := yQ r wD ((↑i + ↑j : Int) / 2).toNat (by rw [mQ]; omega)
  refine ⟨(i, ((↑i + ↑j : Int) / 2).toNat), ⟨h1, by simp only; omega, by simp only; omega⟩, by simp only; omega, bN⟩
 ·have e : i = lb r ranges := by omega
  have h5 := yQ r wD i (by rw [mQ]; omega)
  rw [CP, ← e, zb1 (by omega), decide_eq_true (show i < 74 by omega)]; rfl
 ·have e : i = lb r ranges := by omega
  rw [CP, ← e, decide_eq_false (show ¬ i < 74 by omega)]; rfl
end Go.AE
-- types: B0 B3 B4 B21 B23 B69 B96 B176
end
section
namespace Go.AE
open Go.Proofs
set_option maxHeartbeats 8000000
set_option maxRecDepth 20000
set_option linter.unusedSimpArgs false
theorem xY {P Q R S : Prop} (a : Q) (b : R) (c : S) (h : Mk P → bD Q → bD R → bD S → P := by
 intro m q r s
 repeat' first | refine aM (by first | assumption | (apply_assumption <;> omega)) ?_ ?_ | refine cM.fit (by assumption) ?_ | simp (maxSteps := 4000000) (disch := omega) only [aZ, aY, bun, ↓aW, ↓aV, aO, findLabel, ↓reduceIte, imp, shift, aR, aJ, unown, names, aQ, below, aD, aC, aT, aU, aS, ren, aN, aP, aX, renO, belowM, seval, -Int.reduceToNat, bT, b9, tab, cN, mP, m6, mH, lX, mT, mB, mM, l6, mR, mS, m7, m8, m9, mA, mJ, mK, mL, mV, mW, mX, mY, mZ, eO, eP, fA, bR, tR, tM, Int.zero_mul, Int.one_mul, zkc, Option.map_none, Option.map_some, zi3, *] | exact bH _ | refine bG _ _ ?_ | exact bC.cl | refine bE _ ?_ | refine bF _ _ ?_ ?_ | refine bA _ ?_ | (refine Fk.fk ?_ ?_ <;> intro hg <;> (try simp only [hg]) <;> (try simp only [eC, fB, dU, eK, iN, iC, sG] at hg) <;> try (exfalso; first | omega | exact Bool.noConfusion hg | exact hg trivial)) | refine And.intro (by omega) ?_ | omega
 first
 | done
 | all_goals (repeat revert hg)
   exact q.out
   first
   | done
   | exact r.out
     first
     | done
     | exact s.out
       first | done | fail) : P := h ⟨tru⟩ ⟨a⟩ ⟨b⟩ ⟨c⟩
theorem jL {P Q R S : Prop} (a : Q) (b : R) (c : S) (h : Mk P → bD Q → bD R → bD S → P := by
 intro m q r s
 repeat' first | refine aM (by first | assumption | (apply_assumption <;> omega)) ?_ ?_ | refine cM.fit (by assumption) ?_ | simp (maxSteps := 4000000) (disch := omega) only [aZ, aY, bun, ↓aW, ↓aV, aO, findLabel, ↓reduceIte, imp, shift, aR, aJ, unown, names, aQ, below, aD, aC, aT, aU, aS, ren, aN, aP, aX, renO, belowM, seval, -Int.reduceToNat, bT, b9, tab, cN, mP, m6, mH, lX, mT, mB, mM, l6, mR, mS, m7, m8, m9, mA, mJ, mK, mL, mV, mW, mX, mY, mZ, eO, eP, fA, bR, tR, tM, *] | exact bH _ | refine bG _ _ ?_ | exact bC.cl | refine bE _ ?_ | refine bF _ _ ?_ ?_ | refine bA _ ?_ | (refine Fk.fk ?_ ?_ <;> intro hg <;> (try simp only [hg]) <;> (try simp only [eC, fB, dU, eK, iN, iC, sG] at hg) <;> try (exfalso; first | omega | exact Bool.noConfusion hg | exact hg trivial)) | refine And.intro (by omega) ?_ | omega
 first
 | done
 | all_goals (repeat revert hg)
   exact q.out
   first
   | done
   | exact r.out
     first
     | done
     | exact s.out
       first | done | fail) : P := h ⟨tru⟩ ⟨a⟩ ⟨b⟩ ⟨c⟩
theorem zE (r : Int) : aG Tryz.prog 151 [tab, aB r] (.ag (eO (iW r))) := by
 refine sp [.cell 4 69] Tryz.func151 Tryz.ntmps151 ?_
 cases hin : lO r with
 | false =>
  have h0 := zer hin
  (have := @z13; refine jL ?_ tru tru <;> intros)
  rfl
 | true =>
  obtain ⟨h1, h2⟩ := zes hin
  repeat' first | refine aM (z13 _) ?_ ?_ | simp (maxSteps := 4000000) (disch := omega) only [aZ, aY, bun, ↓aW, ↓aV, aO, findLabel, ↓reduceIte, imp, shift, aR, aJ, unown, names, aQ, below, aD, aC, aT, aU, aS, ren, aN, aP, aX, renO, belowM, seval, -Int.reduceToNat, hin, bT, b9, tab, cN, mP, m6, mH, lX, mT, mB, mM, l6, mR, mS, m7, m8, m9, mA, mJ, mK, mL, mV, mW, mX, mY, mZ, eO, eP, fA, bR, tR, tM] | exact bH _ | refine bG _ _ ?_ | exact bC.cl | refine bE _ ?_ | refine bF _ _ ?_ ?_ | refine bA _ ?_ | (refine Fk.fk ?_ ?_ <;> intro hg <;> (try simp only [hg]) <;> (try simp only [eC, fB, dU, eK, iN, iC, sG] at hg) <;> try (exfalso; first | omega | exact Bool.noConfusion hg | exact hg trivial)) | refine And.intro (by omega) ?_ | omega
  rw [h2]
theorem OG (r : Int) : aG Tryz.prog 104 [tab, aB r] (aA (cat r)) := by
 refine sp [.tmp 4] Tryz.func104 Tryz.ntmps104 ?_
 (have := @zE; refine jL ?_ tru tru <;> intros)
 rfl
theorem uK (r : Int) : aG Tryz.prog 185 [tab, aB r] (aA (bidi r)) := by
 refine sp [.tmp 4] Tryz.func185 Tryz.ntmps185 ?_
 (have := @zE; refine jL ?_ tru tru <;> intros)
 rfl
theorem yM (r : Int) : aG Tryz.prog 223 [tab, aB r] (aA (join r)) := by
 refine sp [.tmp 4] Tryz.func223 Tryz.ntmps223 ?_
 (have := @zE; refine jL ?_ tru tru <;> intros)
 rfl
theorem EM (r : Int) : aG Tryz.prog 220 [tab, aB r] (aA (script r)) := by
 refine sp [.tmp 4] Tryz.func220 Tryz.ntmps220 ?_
 (have := @zE; refine jL ?_ tru tru <;> intros)
 rfl
theorem zav (x : ClassT) (r : Int) : aG Tryz.prog 190 [.ag (eP x), .cp [aB r]] (Bv (dU r x)) := by
 refine sp [.tmp 3] Tryz.func190 Tryz.ntmps190 ?_
 refine jL ?_ ?_ tru <;> intros
 all_goals (congr 2; first | rfl | (first | rw [Bool.eq_iff_iff] | skip); simp_all [dU, eK] <;> omega)
theorem BN (r : Int) : aG Tryz.prog 189 [.sl 10 (classes.flatMap eP), .fn 190 [] [.cp [aB r]]] (aA (idx 10 (classes.findIdx (dU r)))) := by
 refine sp [.tmp 4] Tryz.func189 Tryz.ntmps189 ?_
 refine jL ?_ tru tru <;> intros
 refine bL (fun i : Nat => ⟨[(0, .sl 10 (classes.flatMap eP)), (1, .fn 190 [] [.cp [aB r]]), (7, aA 10), (8, aA i)], []⟩) (fun i => i ≤ 10 ∧ ∀ j, j < i → dU r (classes.getD j dP) = false) (fun i => 10 - i) 0 (by simp) bN ?_
 intro i ⟨hi, hno⟩
 (have := @zav; refine jL ?_ ?_ ?_ <;> intros)
 ·rw [vD lG hno (by omega) (by simp only [dU, Bool.and_eq_true, decide_eq_true_eq]; assumption)]
 ·refine ⟨i + 1, ⟨by omega, iX hno ?_⟩, by omega, bN⟩
  simp only [dU, Bool.and_eq_false_iff, decide_eq_false_iff_not]; assumption
 ·rw [vE lG hno (by omega)]
theorem sE (r : Int) (h0 : -2147483648 ≤ r) (h1 : r ≤ 2147483647) : aG Tryz.prog 163 [tab, aB r] (aA (cls r)) := by
 refine sp [.tmp 4] Tryz.func163 Tryz.ntmps163 ?_
 by_cases hin : classes.findIdx (dU r) < 10
 ·obtain ⟨h2, h3, h4⟩ := zax hin
  have h5 := P3 hin
  have h6 := yG hin
  rcases h5.2.2.2.2 with h7 | h7
  ·rw [h7] at h2
   (have := @BN; exact jL tru tru tru)
   all_goals (rw [h2, Int.zero_mul])
  ·rw [h7] at h2
   (have := @BN; exact jL tru tru tru)
   all_goals (rw [h2, Int.one_mul])
 ·have h6 := yH hin
  (have := @BN; refine jL ?_ tru tru <;> intros)
  rw [zb0 hin]
theorem zga (x : LowerT) (r : Int) : aG Tryz.prog 122 [.ag (fA x), .cp [aB r]] (Bv (eK r x)) := by
 refine sp [.tmp 3] Tryz.func122 Tryz.ntmps122 ?_
 refine jL ?_ ?_ tru <;> intros
 all_goals (congr 2; first | rfl | (first | rw [Bool.eq_iff_iff] | skip); simp_all [dU, eK] <;> omega)
theorem VS (r : Int) : aG Tryz.prog 121 [.sl 11 (lowers.flatMap fA), .fn 122 [] [.cp [aB r]]] (aA (idx 11 (lowers.findIdx (eK r)))) := by
 refine sp [.tmp 4] Tryz.func121 Tryz.ntmps121 ?_
 refine jL ?_ tru tru <;> intros
 refine bL (fun i : Nat => ⟨[(0, .sl 11 (lowers.flatMap fA)), (1, .fn 122 [] [.cp [aB r]]), (7, aA 11), (8, aA i)], []⟩) (fun i => i ≤ 11 ∧ ∀ j, j < i → eK r (lowers.getD j fH) = false) (fun i => 11 - i) 0 (by simp) bN ?_
 intro i ⟨hi, hno⟩
 (have := @zga; refine jL ?_ ?_ ?_ <;> intros)
 ·rw [vD mI hno (by omega) (by simp only [eK, Bool.and_eq_true, decide_eq_true_eq]; assumption)]
 ·refine ⟨i + 1, ⟨by omega, iX hno ?_⟩, by omega, bN⟩
  simp only [eK, Bool.and_eq_false_iff, decide_eq_false_iff_not]; assumption
 ·rw [vE mI hno (by omega)]
theorem zgj (r : Int) : aG Tryz.prog 66 [tab, aB r] (aB (low r)) := by
 refine sp [.tmp 4] Tryz.func66 Tryz.ntmps66 ?_
 by_cases hin : lowers.findIdx (eK r) < 11
 ·obtain ⟨h2, h3, h4⟩ := zgd hin
  have h5 := VT hin
  have h6 := yG hin
  repeat' first | refine aM (VS _) ?_ ?_ | simp (maxSteps := 4000000) (disch := omega) only [aZ, aY, bun, ↓aW, ↓aV, aO, findLabel, ↓reduceIte, imp, shift, aR, aJ, unown, names, aQ, below, aD, aC, aT, aU, aS, ren, aN, aP, aX, renO, belowM, seval, -Int.reduceToNat, h6, bT, b9, tab, cN, mP, m6, mH, lX, mT, mB, mM, l6, mR, mS, m7, m8, m9, mA, mJ, mK, mL, mV, mW, mX, mY, mZ, eO, eP, fA, bR, tR, tM] | exact bH _ | refine bG _ _ ?_ | exact bC.cl | refine bE _ ?_ | refine bF _ _ ?_ ?_ | refine bA _ ?_ | (refine Fk.fk ?_ ?_ <;> intro hg <;> (try simp only [hg]) <;> (try simp only [eC, fB, dU, eK, iN, iC, sG] at hg) <;> try (exfalso; first | omega | exact Bool.noConfusion hg | exact hg trivial)) | refine And.intro (by omega) ?_ | omega
  rw [h2]
 ·have h6 := yH hin
  (have := @VS; refine jL ?_ tru tru <;> intros)
  rw [zgh hin]
theorem zkb : sM 42 = splits.map fun s => (.int .i32 s.1, .ag (bR s)) := rfl
theorem zi2 : pM 42 = (splits.filter fun s => !s.2.2.2.1 && !s.2.2.2.2).map fun s => (.agg #[.int .i32 s.2.1, .int .i32 s.2.2.1], .v (.int .i32 s.1)) := rfl
theorem zkc (r : Int) : mget (.int .i32 r) (sM 42) = (splits.find? (iN r)).map fun s => .ag (bR s) := by
 rw [zkb, D7 (fun s => .int .i32 s.1) (fun s => .ag (bR s))]
 congr 2
 funext s
 simp only [gM, gL, iN, Bool.beq_eq_decide_eq]
 rw [Bool.eq_iff_iff]; simp only [beq_iff_eq, decide_eq_true_eq]; exact eq_comm
theorem zi3 (a b : Int) : mget (.agg #[.int .i32 a, .int .i32 b]) (pM 42) = (splits.find? (iC a b)).map fun s => .v (.int .i32 s.1) := by
 rw [zi2, D7 (fun s : SplitT => .agg #[.int .i32 s.2.1, .int .i32 s.2.2.1]) (fun s => .v (.int .i32 s.1)), List.find?_filter]
 congr 2
 funext s
 simp only [gM, eqs, gL, iC, Bool.and_true]
 rw [Bool.eq_iff_iff]; simp only [Bool.and_eq_true, beq_iff_eq, Bool.not_eq_true', decide_eq_true_eq]
 constructor
 ·rintro ⟨⟨h1, h2⟩, h3, h4⟩; exact ⟨⟨⟨h1, h2⟩, h3.symm⟩, h4.symm⟩
 ·rintro ⟨⟨⟨h1, h2⟩, h3⟩, h4⟩; exact ⟨⟨h1, h2⟩, h3.symm, h4.symm⟩
theorem A8 (r : Int) : aG Tryz.prog 123 [tab, aB r] (.tup [.ag (bR (spl r).1), Bv (spl r).2]) := by
 refine sp [.cell 4 53, .tmp 5] Tryz.func123 Tryz.ntmps123 ?_
 cases hf : splits.find? (iN r) with
 | none =>
  refine xY ?_ ?_ ?_ <;> intros
  ·have : wide r = true := by simp only [wide, Bool.and_eq_true, decide_eq_true_eq]; omega
   simp only [spl, this]; try rfl
  all_goals
   have : wide r = false := by simp only [wide, Bool.and_eq_false_iff, decide_eq_false_iff_not]; omega
   simp only [spl, this, hf]; try rfl
 | some x =>
  refine xY ?_ ?_ ?_ <;> intros
  ·have : wide r = true := by simp only [wide, Bool.and_eq_true, decide_eq_true_eq]; omega
   simp only [spl, this]; try rfl
  all_goals
   have : wide r = false := by simp only [wide, Bool.and_eq_false_iff, decide_eq_false_iff_not]; omega
   simp only [spl, this, hf]; try rfl
theorem zi5 (a b : Int) : aG Tryz.prog 195 [tab, aB a, aB b] (.tup [aB (pr a b).1, Bv (pr a b).2]) := by
 refine sp [.tmp 6, .tmp 7] Tryz.func195 Tryz.ntmps195 ?_
 cases hf : splits.find? (iC a b) with
 | none =>
  refine xY ?_ tru tru <;> intros
  all_goals (simp only [pr, hf]; try rfl)
 | some x =>
  refine xY ?_ tru tru <;> intros
  all_goals (simp only [pr, hf]; try rfl)
end Go.AE
-- types: B0 B3 B4 B21 B23 B24 B25 B26 B27 B29 B53 B55 B69 B71 B73 B133 B134 B139 B148 B176 B186
end
section
namespace Go.AE
open Go.Proofs
set_option maxHeartbeats 8000000
set_option maxRecDepth 20000
set_option linter.unusedSimpArgs false
theorem zcb {r : Int} {i : Nat} (hno : ∀ j, j < i → fB r (ranges.getD j eN) = false) (hi : i < 74) (hp : fB r (ranges.getD i eN) = true) : iW r = ranges.getD i eN ∧ lO r = true := by
 have := (pF (l := ranges) (d := eN) hno (by rw [mQ]; exact hi) hp).2
 exact ⟨by rw [iW, this]; rfl, by rw [lO, this]; rfl⟩
theorem zca {r : Int} {i : Nat} (hno : ∀ j, j < i → fB r (ranges.getD j eN) = false) (hi : ¬ i < 74) : iW r = eN ∧ lO r = false := by
 have := (t6 (l := ranges) (d := eN) (p := fB r) (fun j hj => hno j (by rw [mQ] at hj; omega))).2
 exact ⟨by rw [iW, this]; rfl, by rw [lO, this]; rfl⟩
theorem jM {P Q R S : Prop} {H : Prop} (o : H) (a : Q) (b : R) (c : S) (h : H → Mk P → bD Q → bD R → bD S → P := by
 intro w m q r s
 repeat' first | refine aM (by first | assumption | (apply_assumption <;> omega)) ?_ ?_ | refine cM.fit (by assumption) ?_ | simp (maxSteps := 4000000) (disch := omega) only [aZ, aY, bun, ↓aW, ↓aV, aO, findLabel, ↓reduceIte, imp, shift, aR, aJ, unown, names, aQ, below, aD, aC, aT, aU, aS, ren, aN, aP, aX, renO, belowM, seval, -Int.reduceToNat, bT, b9, tab, cN, mP, m6, mH, lX, mT, mB, mM, l6, mR, mS, m7, m8, m9, mA, mJ, mK, mL, mV, mW, mX, mY, mZ, eO, eP, fA, bR, Int.zero_mul, Int.one_mul, w] | exact bH _ | refine bG _ _ ?_ | exact bC.cl | refine bE _ ?_ | refine bF _ _ ?_ ?_ | refine bA _ ?_ | refine fkx ?_ tru <;> intro hg | refine fkx ?_ ?_ <;> intro hg | exact fkx tru tru | refine And.intro (by omega) ?_ | omega
 first
 | done
 | all_goals (repeat revert hg)
   exact q.out
   first
   | done
   | exact r.out
     first
     | done
     | exact s.out
       first | done | fail) : P := h o ⟨tru⟩ ⟨a⟩ ⟨b⟩ ⟨c⟩
theorem zW (r : Int) : aG Tryz.prog 136 [aB r] (.tup [.ag (eO (iW r)), Bv (lO r)]) := by
 refine sp [.cell 2 69, .tmp 3] Tryz.func136 Tryz.ntmps136 ?_
 (have := ZE; refine jM tru ?_ tru tru <;> intros)
 refine bL (fun i : Nat => ⟨[(0, aB r), (2, .ptr 0 0), (3, Bv false), (4, .ref 1 0 74), (5, aA i)], [.row true 1 (eO eN), .arr 69 6 (ranges.flatMap eO)]⟩) (fun i => i ≤ 74 ∧ ∀ j, j < i → fB r (ranges.getD j eN) = false) (fun i => 74 - i) 0 (by simp) (by (simp (disch := omega) [wk, aL, aI, aD, aC, get, aK, belowM, below, belows, aA, aB, Bv, U8, Sv, eO, eN] <;> try omega)) ?_
 intro i ⟨hi, hno⟩
 repeat' first | simp (maxSteps := 4000000) (disch := omega) only [aZ, aY, bun, ↓aW, ↓aV, aO, findLabel, ↓reduceIte, imp, shift, aR, aJ, unown, names, aQ, below, aD, aC, aT, aU, aS, ren, aN, aP, aX, renO, belowM, seval, -Int.reduceToNat, bT, b9, tab, cN, mP, m6, mH, lX, mT, mB, mM, l6, mR, mS, m7, m8, m9, mA, mJ, mK, mL, mV, mW, mX, mY, mZ, eO, eP, fA, bR] | refine bA _ ?_ | refine fkx ?_ tru <;> intro hg | refine fkx ?_ ?_ <;> intro hg | exact fkx tru tru | refine And.intro (by omega) ?_ | omega
 ·obtain ⟨h1, h2⟩ := zcb hno (by omega) (by simp only [fB, Bool.and_eq_true, decide_eq_true_eq]; omega)
  rw [h1, h2]
 ·refine ⟨i + 1, ⟨by omega, iX hno ?_⟩, by omega, by (simp (disch := omega) [wk, aL, aI, aD, aC, get, aK, belowM, below, belows, aA, aB, Bv, U8, Sv, eO, eN] <;> try omega)⟩
  simp only [fB, Bool.and_eq_false_iff, decide_eq_false_iff_not]; omega
 ·refine ⟨i + 1, ⟨by omega, iX hno ?_⟩, by omega, by (simp (disch := omega) [wk, aL, aI, aD, aC, get, aK, belowM, below, belows, aA, aB, Bv, U8, Sv, eO, eN] <;> try omega)⟩
  simp only [fB, Bool.and_eq_false_iff, decide_eq_false_iff_not]; omega
 ·obtain ⟨h1, h2⟩ := zca hno (by omega)
  rw [h1, h2]; rfl
theorem ZF (r : Int) : aG Tryz.prog 84 [aB r] (aA (cat r)) := by
 refine sp [.tmp 2] Tryz.func84 Tryz.ntmps84 ?_
 (have := @zW; refine jM tru ?_ tru tru <;> intros)
 rfl
theorem oP (r : Int) : aG Tryz.prog 140 [aB r] (aA (bidi r)) := by
 refine sp [.tmp 2] Tryz.func140 Tryz.ntmps140 ?_
 (have := @zW; refine jM tru ?_ tru tru <;> intros)
 rfl
theorem E8 (r : Int) : aG Tryz.prog 198 [aB r] (aA (join r)) := by
 refine sp [.tmp 2] Tryz.func198 Tryz.ntmps198 ?_
 (have := @zW; refine jM tru ?_ tru tru <;> intros)
 rfl
theorem z0i (r : Int) : aG Tryz.prog 178 [aB r] (aA (script r)) := by
 refine sp [.tmp 2] Tryz.func178 Tryz.ntmps178 ?_
 (have := @zW; refine jM tru ?_ tru tru <;> intros)
 rfl
theorem P5 {r : Int} {i : Nat} (hno : ∀ j, j < i → dU r (classes.getD j dP) = false) (hi : i < 10) (hp : dU r (classes.getD i dP) = true) : cls r = (classes.getD i dP).2.2.1 + (classes.getD i dP).2.2.2 * (r - (classes.getD i dP).1) := by
 rw [cls, (pF (l := classes) (d := dP) hno (by rw [lG]; exact hi) hp).2]; rfl
theorem zaz {r : Int} {i : Nat} (hno : ∀ j, j < i → dU r (classes.getD j dP) = false) (hi : ¬ i < 10) : cls r = 0 := by
 rw [cls, (t6 (l := classes) (d := dP) (p := dU r) (fun j hj => hno j (by rw [lG] at hj; omega))).2]; rfl
theorem kV (r : Int) (h0 : -2147483648 ≤ r) (h1 : r ≤ 2147483647) : aG Tryz.prog 133 [aB r] (aA (cls r)) := by
 refine sp [.tmp 2] Tryz.func133 Tryz.ntmps133 ?_
 (have := P4; refine jM tru ?_ tru tru <;> intros)
 refine bL (fun i : Nat => ⟨[(0, aB r), (3, .ref 0 0 10), (4, aA i)], [.arr 71 4 (classes.flatMap eP)]⟩) (fun i => i ≤ 10 ∧ ∀ j, j < i → dU r (classes.getD j dP) = false) (fun i => 10 - i) 0 (by simp) (by (simp (disch := omega) [wk, aL, aI, aD, aC, get, aK, belowM, below, belows, aA, aB, Bv, U8, Sv, eP, dP] <;> try omega)) ?_
 intro i ⟨hi, hno⟩
 by_cases hlt : i < 10
 ·have h5 := P3 hlt
  rcases h5.2.2.2.2 with h7 | h7
  ·refine jM h7 ?_ ?_ ?_ <;> intros
   ·rw [P5 hno (by omega) (by simp only [dU, Bool.and_eq_true, decide_eq_true_eq]; omega), h7, Int.zero_mul]
   all_goals
    refine ⟨i + 1, ⟨by omega, iX hno ?_⟩, by omega, by (simp (disch := omega) [wk, aL, aI, aD, aC, get, aK, belowM, below, belows, aA, aB, Bv, U8, Sv, eP, dP] <;> try omega)⟩
    simp only [dU, Bool.and_eq_false_iff, decide_eq_false_iff_not]; omega
  ·repeat' first | simp (maxSteps := 4000000) (disch := omega) only [aZ, aY, bun, ↓aW, ↓aV, aO, findLabel, ↓reduceIte, imp, shift, aR, aJ, unown, names, aQ, below, aD, aC, aT, aU, aS, ren, aN, aP, aX, renO, belowM, seval, -Int.reduceToNat, h7, Int.one_mul, bT, b9, tab, cN, mP, m6, mH, lX, mT, mB, mM, l6, mR, mS, m7, m8, m9, mA, mJ, mK, mL, mV, mW, mX, mY, mZ, eO, eP, fA, bR] | refine bA _ ?_ | refine fkx ?_ tru <;> intro hg | refine fkx ?_ ?_ <;> intro hg | exact fkx tru tru | refine And.intro (by omega) ?_ | omega
   ·rw [P5 hno (by omega) (by simp only [dU, Bool.and_eq_true, decide_eq_true_eq]; omega), h7, Int.one_mul]
   all_goals
    refine ⟨i + 1, ⟨by omega, iX hno ?_⟩, by omega, by (simp (disch := omega) [wk, aL, aI, aD, aC, get, aK, belowM, below, belows, aA, aB, Bv, U8, Sv, eP, dP] <;> try omega)⟩
    simp only [dU, Bool.and_eq_false_iff, decide_eq_false_iff_not]; omega
 ·repeat' first | simp (maxSteps := 4000000) (disch := omega) only [aZ, aY, bun, ↓aW, ↓aV, aO, findLabel, ↓reduceIte, imp, shift, aR, aJ, unown, names, aQ, below, aD, aC, aT, aU, aS, ren, aN, aP, aX, renO, belowM, seval, -Int.reduceToNat, bT, b9, tab, cN, mP, m6, mH, lX, mT, mB, mM, l6, mR, mS, m7, m8, m9, mA, mJ, mK, mL, mV, mW, mX, mY, mZ, eO, eP, fA, bR] | refine bA _ ?_ | refine fkx ?_ tru <;> intro hg | refine fkx ?_ ?_ <;> intro hg | exact fkx tru tru | refine And.intro (by omega) ?_ | omega
  rw [zaz hno hlt]
theorem zgi {r : Int} {i : Nat} (hno : ∀ j, j < i → eK r (lowers.getD j fH) = false) (hi : i < 11) (hp : eK r (lowers.getD i fH) = true) : low r = r + (lowers.getD i fH).2.2 := by
 rw [low, (pF (l := lowers) (d := fH) hno (by rw [mI]; exact hi) hp).2]; rfl
theorem zgf {r : Int} {i : Nat} (hno : ∀ j, j < i → eK r (lowers.getD j fH) = false) (hi : ¬ i < 11) : low r = r := by
 rw [low, (t6 (l := lowers) (d := fH) (p := eK r) (fun j hj => hno j (by rw [mI] at hj; omega))).2]; rfl
theorem zjc (r : Int) : aG Tryz.prog 76 [aB r] (aB (low r)) := by
 refine sp [.tmp 2] Tryz.func76 Tryz.ntmps76 ?_
 (have := VU; refine jM tru ?_ tru tru <;> intros)
 refine bL (fun i : Nat => ⟨[(0, aB r), (3, .ref 0 0 11), (4, aA i)], [.arr 73 3 (lowers.flatMap fA)]⟩) (fun i => i ≤ 11 ∧ ∀ j, j < i → eK r (lowers.getD j fH) = false) (fun i => 11 - i) 0 (by simp) (by (simp (disch := omega) [wk, aL, aI, aD, aC, get, aK, belowM, below, belows, aA, aB, Bv, U8, Sv, fA, fH] <;> try omega)) ?_
 intro i ⟨hi, hno⟩
 by_cases hlt : i < 11
 ·have h5 := VT hlt
  refine jM tru ?_ ?_ ?_ <;> intros
  ·rw [zgi hno (by omega) (by simp only [eK, Bool.and_eq_true, decide_eq_true_eq]; omega)]
  all_goals
   refine ⟨i + 1, ⟨by omega, iX hno ?_⟩, by omega, by (simp (disch := omega) [wk, aL, aI, aD, aC, get, aK, belowM, below, belows, aA, aB, Bv, U8, Sv, fA, fH] <;> try omega)⟩
   simp only [eK, Bool.and_eq_false_iff, decide_eq_false_iff_not]; omega
 ·refine jM tru ?_ tru tru <;> intros
  rw [zgf hno hlt]
theorem A4 (r : Int) : aG Tryz.prog 77 [aB r] (Bv (wide r)) := by
 refine sp [.tmp 2] Tryz.func77 Tryz.ntmps77 ?_
 refine jM tru ?_ ?_ tru <;> intros
 all_goals (congr 2; first | rfl | (first | rw [Bool.eq_iff_iff] | skip); simp_all [wide] <;> omega)
theorem rN (r : Int) : aG Tryz.prog 139 [aB r] (.tup [.ag (bR (spl r).1), Bv (spl r).2]) := by
 refine sp [.cell 2 53, .tmp 3] Tryz.func139 Tryz.ntmps139 ?_
 cases hw : wide r with
 | true =>
  have hb : 65281 ≤ r ∧ r ≤ 65374 := by simpa [wide] using hw
  (have := @A4; refine jM hw ?_ tru tru <;> intros)
  simp only [spl, hw]
 | false =>
  (have := @A4; have := ET; refine jM hw ?_ tru tru <;> intros)
  refine bL (fun i : Nat => ⟨[(0, aB r), (2, .ptr 0 0), (3, Bv false), (4, .ref 1 0 42), (5, aA i)], [.row true 1 (bR dE), .arr 53 5 (splits.flatMap bR)]⟩) (fun i => i ≤ 42 ∧ ∀ j, j < i → iN r (splits.getD j dE) = false) (fun i => 42 - i) 0 (by simp) (by (simp (disch := omega) [wk, aL, aI, aD, aC, get, aK, belowM, below, belows, aA, aB, Bv, U8, Sv, bR, dE] <;> try omega)) ?_
  intro i ⟨hi, hno⟩
  refine jM tru ?_ ?_ ?_ <;> intros
  ·have hg : (splits.getD i dE).1 = r := by assumption
   have := (pF (l := splits) (d := dE) hno (by rw [lY]; omega) (by simp only [iN, beq_iff_eq]; exact hg)).2
   simp only [spl, hw, this, tU]
  ·refine ⟨i + 1, ⟨by omega, iX hno ?_⟩, by omega, by (simp (disch := omega) [wk, aL, aI, aD, aC, get, aK, belowM, below, belows, aA, aB, Bv, U8, Sv, bR, dE] <;> try omega)⟩
   simp only [iN, beq_eq_false_iff_ne, ne_eq]; assumption
  ·have := (t6 (l := splits) (d := dE) (p := iN r) (fun j hj => hno j (by rw [lY] at hj; omega))).2
   simp only [spl, hw, this, tU]; rfl
theorem zi6 (a : Int) : splits.find? (iC a 0) = none := by
 rw [List.find?_eq_none]
 intro x hx
 have : (splits.all fun x => !(!x.2.2.2.1 && !x.2.2.2.2 && (x.2.2.1 == 0))) = true := by decide +kernel
 have := List.all_eq_true.1 this x hx
 simp only [Bool.not_eq_true', Bool.and_eq_false_iff] at this
 simp only [iC, Bool.and_eq_true]
 rintro ⟨⟨h1, _⟩, h2⟩
 rcases this with h | h
 ·rcases h with h | h <;> simp_all
 ·rw [h] at h2; simp at h2
theorem q9 (a b : Int) : aG Tryz.prog 175 [aB a, aB b] (.tup [aB (pr a b).1, Bv (pr a b).2]) := by
 refine sp [.tmp 4, .tmp 5] Tryz.func175 Tryz.ntmps175 ?_
 (have := ET; refine jM tru ?_ tru tru <;> intros)
 refine bL (fun i : Nat => ⟨[(0, aB a), (1, aB b), (6, .ref 0 0 42), (7, aA i)], [.arr 53 5 (splits.flatMap bR)]⟩) (fun i => i ≤ 42 ∧ ∀ j, j < i → iC a b (splits.getD j dE) = false) (fun i => 42 - i) 0 (by simp) (by (simp (disch := omega) [wk, aL, aI, aD, aC, get, aK, belowM, below, belows, aA, aB, Bv, U8, Sv, bR, dE] <;> try omega)) ?_
 intro i ⟨hi, hno⟩
 repeat' first | simp (maxSteps := 4000000) (disch := omega) only [aZ, aY, bun, ↓aW, ↓aV, aO, findLabel, ↓reduceIte, imp, shift, aR, aJ, unown, names, aQ, below, aD, aC, aT, aU, aS, ren, aN, aP, aX, renO, belowM, seval, -Int.reduceToNat, bT, b9, tab, cN, mP, m6, mH, lX, mT, mB, mM, l6, mR, mS, m7, m8, m9, mA, mJ, mK, mL, mV, mW, mX, mY, mZ, eO, eP, fA, bR] | refine bA _ ?_ | refine fkx ?_ tru <;> intro hg | refine fkx ?_ ?_ <;> intro hg | exact fkx tru tru | refine And.intro (by omega) ?_ | omega
 ·have := (pF (l := splits) (d := dE) (p := iC a b) hno (by rw [lY]; omega) (by simp only [iC]; simp_all)).2
  simp only [pr, this, wB]
 all_goals try
  refine ⟨i + 1, ⟨by omega, iX hno ?_⟩, by omega, by (simp (disch := omega) [wk, aL, aI, aD, aC, get, aK, belowM, below, belows, aA, aB, Bv, U8, Sv, bR, dE] <;> try omega)⟩
  simp only [iC]; simp_all; done
 ·have hb : b = 0 := by assumption
  rw [hb, pr, zi6]; rfl
 ·have := (t6 (l := splits) (d := dE) (p := iC a b) (fun j hj => hno j (by rw [lY] at hj; omega))).2
  simp only [pr, this, wB]
end Go.AE
-- types: B0 B3 B4 B21 B23 B24 B25 B50 B53 B69 B71 B73 B141
end
