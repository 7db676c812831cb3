/- Contracts of functions that the laws of this seat reach, and plain laws of what they compute. No condition beyond each statement's own. -/
import Derived.Test.YtpooocpgpjimgaaDoorAEBun
import Derived.Test.YtpooocpgpjimgaaDoorProg
import Derived.Test.YtpooocpgpjimgaaDoorAENum
set_option linter.unusedVariables false
set_option linter.unusedSimpArgs false
section
/- What is known of the types of this seat's program. -/
namespace Go.AE
open Go.Proofs
set_option maxRecDepth 20000
def T3 : TI := ⟨TypeDesc.int IntKind.i64, 1, 8, Value.int IntKind.i64 0⟩
def T4 : TI := ⟨TypeDesc.bool, 1, 1, Value.bool false⟩
def T5 : TI := ⟨TypeDesc.int IntKind.u8, 1, 1, Value.int IntKind.u8 0⟩
def T9 : TI := ⟨TypeDesc.string, 1, 16, Value.string { data := #[] }⟩
def T21 : TI := ⟨TypeDesc.int IntKind.i32, 1, 4, Value.int IntKind.i32 0⟩
def T22 : TI := ⟨TypeDesc.slice 9, 1, 24, Value.slice none 0 0⟩
def T24 : TI := ⟨TypeDesc.struct #[⟨"Code", 3, 0, false, "", "", 0⟩, ⟨"Lines", 22, 1, false, "", "", 8⟩], 2, 32, Value.agg #[Value.int IntKind.i64 0, Value.slice none 0 0]⟩
def T29 : TI := ⟨TypeDesc.struct #[⟨"Reply", 24, 0, true, "", "", 0⟩], 2, 32, Value.agg #[Value.int IntKind.i64 0, Value.slice none 0 0]⟩
def T31 : TI := ⟨TypeDesc.struct #[⟨"lines", 29, 0, true, "", "pillarbox/reply", 0⟩], 2, 32, Value.agg #[Value.int IntKind.i64 0, Value.slice none 0 0]⟩
def T32 : TI := ⟨TypeDesc.slice 24, 1, 24, Value.slice none 0 0⟩
def T34 : TI := ⟨TypeDesc.int IntKind.i64, 1, 8, Value.int IntKind.i64 0⟩
def T43 : TI := ⟨TypeDesc.func #[21] #[4] false, 1, 8, Value.nilFunc⟩
def T44 : TI := ⟨TypeDesc.func #[9] #[4] false, 1, 8, Value.nilFunc⟩
def T46 : TI := ⟨TypeDesc.pointer 31, 1, 8, Value.pointer none⟩
def T55 : TI := ⟨TypeDesc.pointer 29, 1, 8, Value.pointer none⟩
def T56 : TI := ⟨TypeDesc.slice 5, 1, 24, Value.slice none 0 0⟩
def T58 : TI := ⟨TypeDesc.func #[5] #[5] false, 1, 8, Value.nilFunc⟩
def C1 : Ctx := { flat := [], ty := [(3, T3),
  (4, T4),
  (5, T5),
  (9, T9),
  (21, T21),
  (22, T22),
  (24, T24),
  (29, T29),
  (31, T31),
  (32, T32),
  (34, T34),
  (43, T43),
  (44, T44),
  (46, T46),
  (55, T55),
  (56, T56),
  (58, T58)] }
def Good (t : Nat) (i : TI) : Prop := Tryd.prog.underlying t = some i.d ∧ ∃ j, Tryd.prog.info? t = some j ∧ j.size = i.size ∧ j.bytes = i.bytes ∧ j.zero = some i.zero ∧ i.zero.cells.size = i.size
theorem ty1 (t : Nat) (d : TypeDesc) (sz b : Nat) (z : Value) (h0 : z.cells.size = sz) (h1 : Tryd.prog.underlying t = some d) (h2 : (Tryd.prog.info? t).map (fun j => (j.size, j.bytes, j.zero)) = some (sz, b, some z)) : Good t ⟨d, sz, b, z⟩ := by
  refine ⟨h1, ?_⟩
  cases e : Tryd.prog.info? t with
  | none => rw [e] at h2; simp at h2
  | some j => rw [e] at h2; simp at h2; exact ⟨j, rfl, h2.1, h2.2.1, h2.2.2, h0⟩
theorem findTy_mem : ∀ (l : List (Nat × TI)) (t : Nat) (i : TI), findTy l t = some i → (t, i) ∈ l
  | [], t, i, h => by simp [findTy] at h
  | (k, x) :: l, t, i, h => by
    simp only [findTy] at h
    split at h
    · rename_i e; subst e; simp at h; subst h; exact List.mem_cons_self ..
    · exact List.mem_cons_of_mem _ (findTy_mem l t i h)
theorem good3 : Good 3 T3 := ty1 _ _ _ _ _ rfl (by kernel_rfl) (by kernel_rfl)
theorem good4 : Good 4 T4 := ty1 _ _ _ _ _ rfl (by kernel_rfl) (by kernel_rfl)
theorem good5 : Good 5 T5 := ty1 _ _ _ _ _ rfl (by kernel_rfl) (by kernel_rfl)
theorem good9 : Good 9 T9 := ty1 _ _ _ _ _ rfl (by kernel_rfl) (by kernel_rfl)
theorem good21 : Good 21 T21 := ty1 _ _ _ _ _ rfl (by kernel_rfl) (by kernel_rfl)
theorem good22 : Good 22 T22 := ty1 _ _ _ _ _ rfl (by kernel_rfl) (by kernel_rfl)
theorem good24 : Good 24 T24 := ty1 _ _ _ _ _ rfl (by kernel_rfl) (by kernel_rfl)
theorem good29 : Good 29 T29 := ty1 _ _ _ _ _ rfl (by kernel_rfl) (by kernel_rfl)
theorem good31 : Good 31 T31 := ty1 _ _ _ _ _ rfl (by kernel_rfl) (by kernel_rfl)
theorem good32 : Good 32 T32 := ty1 _ _ _ _ _ rfl (by kernel_rfl) (by kernel_rfl)
theorem good34 : Good 34 T34 := ty1 _ _ _ _ _ rfl (by kernel_rfl) (by kernel_rfl)
theorem good43 : Good 43 T43 := ty1 _ _ _ _ _ rfl (by kernel_rfl) (by kernel_rfl)
theorem good44 : Good 44 T44 := ty1 _ _ _ _ _ rfl (by kernel_rfl) (by kernel_rfl)
theorem good46 : Good 46 T46 := ty1 _ _ _ _ _ rfl (by kernel_rfl) (by kernel_rfl)
theorem good55 : Good 55 T55 := ty1 _ _ _ _ _ rfl (by kernel_rfl) (by kernel_rfl)
theorem good56 : Good 56 T56 := ty1 _ _ _ _ _ rfl (by kernel_rfl) (by kernel_rfl)
theorem good58 : Good 58 T58 := ty1 _ _ _ _ _ rfl (by kernel_rfl) (by kernel_rfl)
theorem goods : ∀ p ∈ C1.ty, Good p.1 p.2 := (List.forall_mem_cons.2 ⟨good3, (List.forall_mem_cons.2 ⟨good4, (List.forall_mem_cons.2 ⟨good5, (List.forall_mem_cons.2 ⟨good9, (List.forall_mem_cons.2 ⟨good21, (List.forall_mem_cons.2 ⟨good22, (List.forall_mem_cons.2 ⟨good24, (List.forall_mem_cons.2 ⟨good29, (List.forall_mem_cons.2 ⟨good31, (List.forall_mem_cons.2 ⟨good32, (List.forall_mem_cons.2 ⟨good34, (List.forall_mem_cons.2 ⟨good43, (List.forall_mem_cons.2 ⟨good44, (List.forall_mem_cons.2 ⟨good46, (List.forall_mem_cons.2 ⟨good55, (List.forall_mem_cons.2 ⟨good56, (List.forall_mem_cons.2 ⟨good58, (List.forall_mem_nil _)⟩)⟩)⟩)⟩)⟩)⟩)⟩)⟩)⟩)⟩)⟩)⟩)⟩)⟩)⟩)⟩)⟩)
theorem flats : ∀ t ∈ C1.flat, Tryd.prog.stoodInHeld t = false ∧ Tryd.prog.eqGuardType Tryd.prog.depth t = false := (List.forall_mem_nil _)
theorem ok1 : C1.Ok Tryd.prog where
  mixed := by decide +kernel
  flat := flats
  ty := fun t i h => goods (t, i) (findTy_mem _ _ _ h)
theorem C1_ti3 : C1.ti 3 = some ⟨TypeDesc.int IntKind.i64, 1, 8, Value.int IntKind.i64 0⟩ := rfl
theorem C1_td3 : C1.td 3 = some (TypeDesc.int IntKind.i64) := rfl
theorem C1_ti4 : C1.ti 4 = some ⟨TypeDesc.bool, 1, 1, Value.bool false⟩ := rfl
theorem C1_td4 : C1.td 4 = some (TypeDesc.bool) := rfl
theorem C1_ti5 : C1.ti 5 = some ⟨TypeDesc.int IntKind.u8, 1, 1, Value.int IntKind.u8 0⟩ := rfl
theorem C1_td5 : C1.td 5 = some (TypeDesc.int IntKind.u8) := rfl
theorem C1_ti9 : C1.ti 9 = some ⟨TypeDesc.string, 1, 16, Value.string { data := #[] }⟩ := rfl
theorem C1_td9 : C1.td 9 = some (TypeDesc.string) := rfl
theorem C1_ti21 : C1.ti 21 = some ⟨TypeDesc.int IntKind.i32, 1, 4, Value.int IntKind.i32 0⟩ := rfl
theorem C1_td21 : C1.td 21 = some (TypeDesc.int IntKind.i32) := rfl
theorem C1_ti22 : C1.ti 22 = some ⟨TypeDesc.slice 9, 1, 24, Value.slice none 0 0⟩ := rfl
theorem C1_td22 : C1.td 22 = some (TypeDesc.slice 9) := rfl
theorem C1_ti24 : C1.ti 24 = some ⟨TypeDesc.struct #[⟨"Code", 3, 0, false, "", "", 0⟩, ⟨"Lines", 22, 1, false, "", "", 8⟩], 2, 32, Value.agg #[Value.int IntKind.i64 0, Value.slice none 0 0]⟩ := rfl
theorem C1_td24 : C1.td 24 = some (TypeDesc.struct #[⟨"Code", 3, 0, false, "", "", 0⟩, ⟨"Lines", 22, 1, false, "", "", 8⟩]) := rfl
theorem C1_fld24_0 : C1.fld 24 0 = some (0, ⟨TypeDesc.int IntKind.i64, 1, 8, Value.int IntKind.i64 0⟩) := rfl
theorem C1_fld24_1 : C1.fld 24 1 = some (1, ⟨TypeDesc.slice 9, 1, 24, Value.slice none 0 0⟩) := rfl
theorem C1_ti29 : C1.ti 29 = some ⟨TypeDesc.struct #[⟨"Reply", 24, 0, true, "", "", 0⟩], 2, 32, Value.agg #[Value.int IntKind.i64 0, Value.slice none 0 0]⟩ := rfl
theorem C1_td29 : C1.td 29 = some (TypeDesc.struct #[⟨"Reply", 24, 0, true, "", "", 0⟩]) := rfl
theorem C1_fld29_0 : C1.fld 29 0 = some (0, ⟨TypeDesc.struct #[⟨"Code", 3, 0, false, "", "", 0⟩, ⟨"Lines", 22, 1, false, "", "", 8⟩], 2, 32, Value.agg #[Value.int IntKind.i64 0, Value.slice none 0 0]⟩) := rfl
theorem C1_ti31 : C1.ti 31 = some ⟨TypeDesc.struct #[⟨"lines", 29, 0, true, "", "pillarbox/reply", 0⟩], 2, 32, Value.agg #[Value.int IntKind.i64 0, Value.slice none 0 0]⟩ := rfl
theorem C1_td31 : C1.td 31 = some (TypeDesc.struct #[⟨"lines", 29, 0, true, "", "pillarbox/reply", 0⟩]) := rfl
theorem C1_fld31_0 : C1.fld 31 0 = some (0, ⟨TypeDesc.struct #[⟨"Reply", 24, 0, true, "", "", 0⟩], 2, 32, Value.agg #[Value.int IntKind.i64 0, Value.slice none 0 0]⟩) := rfl
theorem C1_ti32 : C1.ti 32 = some ⟨TypeDesc.slice 24, 1, 24, Value.slice none 0 0⟩ := rfl
theorem C1_td32 : C1.td 32 = some (TypeDesc.slice 24) := rfl
theorem C1_ti34 : C1.ti 34 = some ⟨TypeDesc.int IntKind.i64, 1, 8, Value.int IntKind.i64 0⟩ := rfl
theorem C1_td34 : C1.td 34 = some (TypeDesc.int IntKind.i64) := rfl
theorem C1_ti43 : C1.ti 43 = some ⟨TypeDesc.func #[21] #[4] false, 1, 8, Value.nilFunc⟩ := rfl
theorem C1_td43 : C1.td 43 = some (TypeDesc.func #[21] #[4] false) := rfl
theorem C1_ti44 : C1.ti 44 = some ⟨TypeDesc.func #[9] #[4] false, 1, 8, Value.nilFunc⟩ := rfl
theorem C1_td44 : C1.td 44 = some (TypeDesc.func #[9] #[4] false) := rfl
theorem C1_ti46 : C1.ti 46 = some ⟨TypeDesc.pointer 31, 1, 8, Value.pointer none⟩ := rfl
theorem C1_td46 : C1.td 46 = some (TypeDesc.pointer 31) := rfl
theorem C1_ti55 : C1.ti 55 = some ⟨TypeDesc.pointer 29, 1, 8, Value.pointer none⟩ := rfl
theorem C1_td55 : C1.td 55 = some (TypeDesc.pointer 29) := rfl
theorem C1_ti56 : C1.ti 56 = some ⟨TypeDesc.slice 5, 1, 24, Value.slice none 0 0⟩ := rfl
theorem C1_td56 : C1.td 56 = some (TypeDesc.slice 5) := rfl
theorem C1_ti58 : C1.ti 58 = some ⟨TypeDesc.func #[5] #[5] false, 1, 8, Value.nilFunc⟩ := rfl
theorem C1_td58 : C1.td 58 = some (TypeDesc.func #[5] #[5] false) := rfl
theorem C1_fit3 (a : Int) : fitsK C1 3 (.int .i64 a) = true := rfl
theorem C1_fit4 (a : Bool) : fitsK C1 4 (.bool a) = true := rfl
theorem C1_fit5 (a : Int) : fitsK C1 5 (.int .u8 a) = true := rfl
theorem C1_fit9 (a : ByteArray) : fitsK C1 9 (.string a) = true := rfl
theorem C1_fit21 (a : Int) : fitsK C1 21 (.int .i32 a) = true := rfl
theorem C1_fit34 (a : Int) : fitsK C1 34 (.int .i64 a) = true := rfl
theorem B3 : type_of% (And.intro @C1_ti3 (And.intro @C1_td3 @C1_fit3)) := (And.intro @C1_ti3 (And.intro @C1_td3 @C1_fit3))
theorem B4 : type_of% (And.intro @C1_ti4 (And.intro @C1_td4 @C1_fit4)) := (And.intro @C1_ti4 (And.intro @C1_td4 @C1_fit4))
theorem B5 : type_of% (And.intro @C1_ti5 (And.intro @C1_td5 @C1_fit5)) := (And.intro @C1_ti5 (And.intro @C1_td5 @C1_fit5))
theorem B9 : type_of% (And.intro @C1_ti9 (And.intro @C1_td9 @C1_fit9)) := (And.intro @C1_ti9 (And.intro @C1_td9 @C1_fit9))
theorem B21 : type_of% (And.intro @C1_ti21 (And.intro @C1_td21 @C1_fit21)) := (And.intro @C1_ti21 (And.intro @C1_td21 @C1_fit21))
theorem B22 : type_of% (And.intro @C1_ti22 @C1_td22) := (And.intro @C1_ti22 @C1_td22)
theorem B24 : type_of% (And.intro @C1_ti24 (And.intro @C1_td24 (And.intro @C1_fld24_0 @C1_fld24_1))) := (And.intro @C1_ti24 (And.intro @C1_td24 (And.intro @C1_fld24_0 @C1_fld24_1)))
theorem B29 : type_of% (And.intro @C1_ti29 (And.intro @C1_td29 @C1_fld29_0)) := (And.intro @C1_ti29 (And.intro @C1_td29 @C1_fld29_0))
theorem B31 : type_of% (And.intro @C1_ti31 (And.intro @C1_td31 @C1_fld31_0)) := (And.intro @C1_ti31 (And.intro @C1_td31 @C1_fld31_0))
theorem B32 : type_of% (And.intro @C1_ti32 @C1_td32) := (And.intro @C1_ti32 @C1_td32)
theorem B34 : type_of% (And.intro @C1_ti34 (And.intro @C1_td34 @C1_fit34)) := (And.intro @C1_ti34 (And.intro @C1_td34 @C1_fit34))
theorem B43 : type_of% (And.intro @C1_ti43 @C1_td43) := (And.intro @C1_ti43 @C1_td43)
theorem B44 : type_of% (And.intro @C1_ti44 @C1_td44) := (And.intro @C1_ti44 @C1_td44)
theorem B46 : type_of% (And.intro @C1_ti46 @C1_td46) := (And.intro @C1_ti46 @C1_td46)
theorem B55 : type_of% (And.intro @C1_ti55 @C1_td55) := (And.intro @C1_ti55 @C1_td55)
theorem B56 : type_of% (And.intro @C1_ti56 @C1_td56) := (And.intro @C1_ti56 @C1_td56)
theorem B58 : type_of% (And.intro @C1_ti58 @C1_td58) := (And.intro @C1_ti58 @C1_td58)
theorem D24 : type_of% (And.intro @B3 (And.intro @B9 (And.intro @B22 @B24))) := (And.intro @B3 (And.intro @B9 (And.intro @B22 @B24)))
theorem D29 : type_of% (And.intro @B3 (And.intro @B9 (And.intro @B22 (And.intro @B24 @B29)))) := (And.intro @B3 (And.intro @B9 (And.intro @B22 (And.intro @B24 @B29))))
theorem D31 : type_of% (And.intro @B3 (And.intro @B9 (And.intro @B22 (And.intro @B24 (And.intro @B29 @B31))))) := (And.intro @B3 (And.intro @B9 (And.intro @B22 (And.intro @B24 (And.intro @B29 @B31)))))
theorem D32 : type_of% (And.intro @B3 (And.intro @B9 (And.intro @B22 (And.intro @B24 @B32)))) := (And.intro @B3 (And.intro @B9 (And.intro @B22 (And.intro @B24 @B32))))
theorem D46 : type_of% (And.intro @B3 (And.intro @B9 (And.intro @B22 (And.intro @B24 (And.intro @B29 (And.intro @B31 @B46)))))) := (And.intro @B3 (And.intro @B9 (And.intro @B22 (And.intro @B24 (And.intro @B29 (And.intro @B31 @B46))))))
theorem D55 : type_of% (And.intro @B3 (And.intro @B9 (And.intro @B22 (And.intro @B24 (And.intro @B29 @B55))))) := (And.intro @B3 (And.intro @B9 (And.intro @B22 (And.intro @B24 (And.intro @B29 @B55)))))
end Go.AE
end
section
/- Characters and their bytes: plain laws and contracts. -/
namespace Go.AE
open Go.Proofs
set_option maxRecDepth 10000
set_option linter.unusedSimpArgs false
def right (r : Int) : Bool := decide (0 ≤ r) && decide (r ≤ 1114111) && !(decide (55296 ≤ r) && decide (r ≤ 57343))
def rlen (r : Int) : Int := if right r then (if r ≤ 127 then 1 else if r ≤ 2047 then 2 else if r ≤ 65535 then 3 else 4) else 0

end Go.AE
end
section
/- Characters and their bytes: plain laws and contracts. -/
namespace Go.AE
open Go.Proofs
set_option maxRecDepth 10000
set_option linter.unusedSimpArgs false

def ofI (n : Int) : UInt8 := UInt8.ofNat n.toNat
theorem ofI_toNat {n : Int} (h : 0 ≤ n) (k : n < 256) : ((ofI n).toNat : Int) = n := by
  unfold ofI; simp; omega

/-- What a first byte tells. -/
def lead (c : Int) : Int × Int :=
  if c < 128 then (0, c) else if 194 ≤ c ∧ c < 224 then (1, c % 32) else if 224 ≤ c ∧ c < 240 then (2, c % 16) else if 240 ≤ c ∧ c < 245 then (3, c % 8) else (-1, 0)

def enc (r : Int) : List UInt8 :=
  if right r then (if r ≤ 127 then [ofI r] else if r ≤ 2047 then [ofI (192 + r / 64), ofI (128 + r % 64)] else if r ≤ 65535 then [ofI (224 + r / 4096), ofI (128 + r / 64 % 64), ofI (128 + r % 64)]
    else [ofI (240 + r / 262144), ofI (128 + r / 4096 % 64), ofI (128 + r / 64 % 64), ofI (128 + r % 64)]) else []

theorem right_iff (r : Int) : right r = true ↔ 0 ≤ r ∧ r ≤ 1114111 ∧ ¬ (55296 ≤ r ∧ r ≤ 57343) := by
  simp [right]; omega
theorem rlen_yes {r : Int} (h : right r = true) : rlen r = if r ≤ 127 then 1 else if r ≤ 2047 then 2 else if r ≤ 65535 then 3 else 4 := by simp [rlen, h]
theorem rlen_no {r : Int} (h : right r = false) : rlen r = 0 := by simp [rlen, h]
theorem rlen_all (r : Int) : (rlen r = 1 ↔ 0 ≤ r ∧ r ≤ 127) ∧ (rlen r = 2 ↔ 128 ≤ r ∧ r ≤ 2047) ∧ (rlen r = 3 ↔ 2048 ≤ r ∧ r ≤ 65535 ∧ ¬ (55296 ≤ r ∧ r ≤ 57343)) ∧ (rlen r = 4 ↔ 65536 ≤ r ∧ r ≤ 1114111) := by
  have h := right_iff r
  cases hr : right r with
  | true => rw [rlen_yes hr]; rw [hr] at h; simp only [true_iff] at h; repeat' split
            all_goals omega
  | false => rw [rlen_no hr]; rw [hr] at h; simp only [Bool.false_eq_true, false_iff] at h; omega
theorem rlen1 (r : Int) : rlen r = 1 ↔ 0 ≤ r ∧ r ≤ 127 := (rlen_all r).1
theorem rlen2 (r : Int) : rlen r = 2 ↔ 128 ≤ r ∧ r ≤ 2047 := (rlen_all r).2.1
theorem rlen3 (r : Int) : rlen r = 3 ↔ 2048 ≤ r ∧ r ≤ 65535 ∧ ¬ (55296 ≤ r ∧ r ≤ 57343) := (rlen_all r).2.2.1
theorem rlen4 (r : Int) : rlen r = 4 ↔ 65536 ≤ r ∧ r ≤ 1114111 := (rlen_all r).2.2.2
theorem rlen0 (r : Int) : rlen r = 0 ↔ right r = false := by
  cases hr : right r with
  | true => rw [rlen_yes hr]; simp; repeat' split
            all_goals omega
  | false => rw [rlen_no hr]; simp
theorem rlen_or (r : Int) : rlen r = 0 ∨ rlen r = 1 ∨ rlen r = 2 ∨ rlen r = 3 ∨ rlen r = 4 := by
  cases hr : right r with
  | true => rw [rlen_yes hr]; repeat' split
            all_goals simp
  | false => rw [rlen_no hr]; simp
theorem enc1 {r : Int} (h : 0 ≤ r ∧ r ≤ 127) : enc r = [ofI r] := by
  have hr : right r = true := by simp [right]; omega
  simp (disch := omega) only [enc, hr, if_true, if_pos, if_neg]
theorem enc2 {r : Int} (h : 128 ≤ r ∧ r ≤ 2047) : enc r = [ofI (192 + r / 64), ofI (128 + r % 64)] := by
  have hr : right r = true := by simp [right]; omega
  simp (disch := omega) only [enc, hr, if_true, if_pos, if_neg]
theorem enc3 {r : Int} (h : 2048 ≤ r ∧ r ≤ 65535 ∧ ¬ (55296 ≤ r ∧ r ≤ 57343)) : enc r = [ofI (224 + r / 4096), ofI (128 + r / 64 % 64), ofI (128 + r % 64)] := by
  have hr : right r = true := by simp [right]; omega
  simp (disch := omega) only [enc, hr, if_true, if_pos, if_neg]
theorem enc4 {r : Int} (h : 65536 ≤ r ∧ r ≤ 1114111) : enc r = [ofI (240 + r / 262144), ofI (128 + r / 4096 % 64), ofI (128 + r / 64 % 64), ofI (128 + r % 64)] := by
  have hr : right r = true := by simp [right]; omega
  simp (disch := omega) only [enc, hr, if_true, if_pos, if_neg]
theorem enc0 {r : Int} (h : right r = false) : enc r = [] := by simp [enc, h]
theorem enc_length (r : Int) : ((enc r).length : Int) = rlen r := by
  rcases rlen_or r with h | h | h | h | h
  · rw [enc0 ((rlen0 r).1 h), h]; rfl
  · rw [enc1 ((rlen1 r).1 h), h]; rfl
  · rw [enc2 ((rlen2 r).1 h), h]; rfl
  · rw [enc3 ((rlen3 r).1 h), h]; rfl
  · rw [enc4 ((rlen4 r).1 h), h]; rfl

theorem take_snocD {α : Type} (l : List α) (i : Nat) (d : α) (h : i < l.length) : l.take (i + 1) = l.take i ++ [l.getD i d] := by
  rw [List.take_add_one]
  simp [List.getD, h]

end Go.AE
end
section
/- Characters and their bytes: plain laws and contracts. -/
namespace Go.AE
open Go.Proofs
set_option maxRecDepth 10000
set_option linter.unusedSimpArgs false
theorem enc_le (r : Int) : (enc r).length ≤ 4 := by have := enc_length r; have := rlen_or r; omega

def strOk (l : List Int) : Bool := l.all right
def strS (l : List Int) : List UInt8 := if strOk l then l.flatMap enc else []

theorem strOk_bad {l : List Int} {i : Nat} (h : i < l.length) (hr : right (l.getD i 0) = false) : strOk l = false := by
  rw [strOk, List.all_eq_false]
  exact ⟨l.getD i 0, by simp [List.getD, h], by rw [hr]; simp⟩

theorem str_step {l : List Int} {i : Nat} {acc : List UInt8} (hi : i < l.length) (ha : acc = (l.take i).flatMap enc) (hn : acc.length ≤ 4 * i) (hr : (l.take i).all right = true) (hg : right (l.getD i 0) = true) :
    i + 1 ≤ l.length ∧ acc ++ enc (l.getD i 0) = (l.take (i + 1)).flatMap enc ∧ (acc ++ enc (l.getD i 0)).length ≤ 4 * (i + 1) ∧ (l.take (i + 1)).all right = true := by
  have hE := enc_le (l.getD i 0)
  refine ⟨by omega, ?_, by simp only [List.length_append]; omega, ?_⟩
  · rw [take_snocD _ _ 0 hi, List.flatMap_append, ha]; simp
  · rw [take_snocD _ _ 0 hi, List.all_append, hr]; simp only [List.all_cons, List.all_nil, hg]; rfl

end Go.AE
end
