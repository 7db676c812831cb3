/- A part of the abstract evaluator: no condition. -/
import Derived.Test.YtoppecphhiiiiaaGreatDoorAESimp
import Derived.Test.YtoppecphhiiiiaaGreatDoorAELendS
set_option linter.unusedVariables false
set_option linter.unusedSimpArgs false
namespace Go.AE
section
variable {C : Ctx} {P : Program} {Q : Exit → St → Prop} {s : St}
structure BK {ι : Type} (S : ι → St) (I : ι → Prop) (μ : ι → Nat) (i : ι) (s : St) : Prop where
 out : ∃ i', I i' ∧ μ i' < μ i ∧ wk s (S i')
def y00h {ι : Type} (S : ι → St) (I : ι → Prop) (μ : ι → Nat) (i : ι) (Q : Exit → St → Prop) : Exit → St → Prop := zu1 (BK S I μ i) Q
section
variable {ι : Type} {S : ι → St} {I : ι → Prop} {μ : ι → Nat} {i : ι}
theorem zdx : y00h S I μ i Q .normal s = BK S I μ i s := rfl
theorem zkq (j : Nat) : y00h S I μ i Q (.exit j) s = Q (.exit j) s := rfl
theorem zkr (j : Nat) : y00h S I μ i Q (.goto j) s = Q (.goto j) s := rfl
theorem zpu : y00h S I μ i Q .ret s = Q .ret s := rfl
end
theorem z0j {b : Code} {ι : Type} (S : ι → St) (I : ι → Prop) (μ : ι → Nat) (i0 : ι) (h0 : I i0) (hw : wk s (S i0))
   (h : ∀ i, I i → AW C P b (y00h S I μ i Q) (S i)) : LP C P b Q s := by
 rw [y0jy]
 refine ⟨{ i : ι // I i }, fun i => S i.1, fun i => μ i.1, ⟨i0, h0⟩, false, hw, fun i => ?_⟩
 have e : zu1 (fun s' => ∃ i' : { i : ι // I i }, wkB false s' (S i'.1) ∧ μ i'.1 < μ i.1) Q = y00h S I μ i.1 Q := by
   funext x s'
   cases x <;> first
     | rfl
     | exact propext ⟨fun ⟨i', h1, h2⟩ => ⟨i'.1, i'.2, h2, h1⟩, fun h => (let ⟨i', h1, h2, h3⟩ := h.out; ⟨⟨i', h1⟩, h3, h2⟩)⟩
 rw [e]
 exact (h i.1 i.2).out
structure BKR {ι : Type} (S : ι → St) (I : ι → Prop) (μ : ι → Nat) (i : ι) (s : St) : Prop where
 out : ∃ i', I i' ∧ μ i' < μ i ∧ ∃ σ, wkr σ s (S i')
def y0bh {ι : Type} (S : ι → St) (I : ι → Prop) (μ : ι → Nat) (i : ι) (Q : Exit → St → Prop) : Exit → St → Prop := zu1 (BKR S I μ i) Q
section
variable {ι : Type} {S : ι → St} {I : ι → Prop} {μ : ι → Nat} {i : ι}
theorem zdy : y0bh S I μ i Q .normal s = BKR S I μ i s := rfl
theorem zks (j : Nat) : y0bh S I μ i Q (.exit j) s = Q (.exit j) s := rfl
theorem zkt (j : Nat) : y0bh S I μ i Q (.goto j) s = Q (.goto j) s := rfl
theorem zpv : y0bh S I μ i Q .ret s = Q .ret s := rfl
end
@[congr] theorem WG_congr {b b' : Bool} {A B : Prop} (h : b = b') : WG b A B = WG b' A B := by rw [h]
theorem y0g4 {b : Bool} {A B : Prop} (h : b = true → A) (k : b = false → B) : WG b A B := by rw [zie]; exact ⟨h, k⟩
def I32 (n : Int) : AV := .v (.int .i32 n)
def I64 (n : Int) : AV := .v (.int .i64 n)
def Bv (b : Bool) : AV := .v (.bool b)
def U8 (b : UInt8) : AV := .v (.int .u8 b.toNat)
def Sv (l : List UInt8) : AV := .v (.string ⟨l.toArray⟩)
theorem znd {α : Type} (f : α → AV) (d : α) : ∀ (l : List α) (n : Nat), n < l.length → nth (l.map f) n = f (l.getD n d)
 | [], n, h => by simp at h
 | _ :: _, 0, _ => rfl
 | _ :: l, n + 1, h => by simpa [nth] using znd f d l n (by simpa using h)
theorem z5j (l : List Int) (n : Nat) (h : n < l.length) : nth (l.map I32) n = .v (.int .i32 (l.getD n 0)) := znd I32 0 l n h
theorem y0f8 (l : List UInt8) (n : Nat) (h : n < l.length) : nth (l.map U8) n = .v (.int .u8 (l.getD n 0).toNat) := znd U8 0 l n h
theorem zne (l : List (List UInt8)) (n : Nat) (h : n < l.length) : nth (l.map Sv) n = .v (.string ⟨(l.getD n []).toArray⟩) := znd Sv [] l n h
theorem z3k (cs : List AV) : ∀ (n k : Nat), nth (cs.drop n) k = nth cs (n + k) := by
 induction cs with
 | nil => intro n k; simp [nth]
 | cons x l ih =>
   intro n k
   cases n with
   | zero => simp
   | succ n => rw [List.drop_succ_cons, ih, show n + 1 + k = (n + k) + 1 by omega]; rfl
theorem zy0 (x : AV) (l : List AV) : nth (x :: l) 0 = x := rfl
theorem zxz (x : AV) (l : List AV) (n : Nat) : nth (x :: l) (n + 1) = nth l n := rfl
theorem zjj (l : List UInt8) : z3m (l.map U8) = some l := by
 induction l with
 | nil => rfl
 | cons a l ih => simp [z3m, U8, ih]
theorem z83 {n : Int} (h : -9223372036854775808 ≤ n) (k : n ≤ 9223372036854775807) : IntKind.i64.wrap n = n := by rw [IntKind.wrap_i64]; omega
theorem z82 {n : Int} (h : -2147483648 ≤ n) (k : n ≤ 2147483647) : IntKind.i32.wrap n = n := by rw [IntKind.wrap_i32]; omega
theorem zeu {n : Int} (h : 0 ≤ n) (k : n ≤ 255) : IntKind.u8.wrap n = n := by rw [IntKind.wrap_u8]; omega
end
theorem z8x {z : Bool} {C : Ctx} {P : Program} {f : FuncId} {fn : Func} {c : Code} {args : List AV} {r : AV} {ts : List ResultVar} (hC : C.Ok P) (hf : P.funcs[f]? = some fn) (hb : fn.body = some c) (hname : (fn.name == "runtime.NumGoroutine") = false)
   (hok : z2a fn.ntmps c = true) (hla : args.length ≤ fn.ntmps) (hts : fn.results.toList = ts) (h : AW C P c (y0jd C z ts r) ⟨z5g 0 args, []⟩) : z0q P f args r :=
 y0io hC hf hb hname hok hla (by rw [hts]; exact h)
theorem z2g {C : Ctx} {P : Program} {f : FuncId} {fn : Func} {c : Code} {m0 m1 : List Ob} {args : List AV} {r : AV} {ts : List ResultVar} (hC : C.Ok P) (hf : P.funcs[f]? = some fn) (hb : fn.body = some c) (hname : (fn.name == "runtime.NumGoroutine") = false)
   (hok : z2a fn.ntmps c = true) (hla : args.length ≤ fn.ntmps) (hts : fn.results.toList = ts) (h : AW C P c (y0c5 C ts m1 r) ⟨z5g 0 args, m0 ++ [.fence]⟩) : z4a P f m0 args m1 r :=
 y0cd hC hf hb hname hok hla (by rw [hts]; exact h)
theorem y06r (s : St) : fzs s [] = [] := rfl
theorem zx8 (s : St) (x : AV) (l : List AV) : fzs s (x :: l) = fz s x :: fzs s l := rfl
end Go.AE
