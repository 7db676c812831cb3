/- A part of the abstract evaluator: no condition. -/
import Derived.Test.YtoppecphhiiiiaaGreatDoorAESimp
import Derived.Test.YtoppecphhiiiiaaGreatDoorAELendS
set_option linter.unusedVariables false
set_option linter.unusedSimpArgs false
namespace Go.AE
section
variable {C : bI} {P : Program} {Q : Exit → St → Prop} {s : St}
structure BK {ι : Type} (S : ι → St) (I : ι → Prop) (μ : ι → Nat) (i : ι) (s : St) : Prop where
 out : ∃ i', I i' ∧ μ i' < μ i ∧ wk s (S i')
def tF {ι : Type} (S : ι → St) (I : ι → Prop) (μ : ι → Nat) (i : ι) (Q : Exit → St → Prop) : Exit → St → Prop := qG (BK S I μ i) Q
section
variable {ι : Type} {S : ι → St} {I : ι → Prop} {μ : ι → Nat} {i : ι}
theorem VH : tF S I μ i Q .normal s = BK S I μ i s := rfl
theorem VF (j : Nat) : tF S I μ i Q (.exit j) s = Q (.exit j) s := rfl
theorem VG (j : Nat) : tF S I μ i Q (.goto j) s = Q (.goto j) s := rfl
theorem VI : tF S I μ i Q .ret s = Q .ret s := rfl
end
theorem bL {b : Code} {ι : Type} (S : ι → St) (I : ι → Prop) (μ : ι → Nat) (i0 : ι) (h0 : I i0) (hw : wk s (S i0))
  (h : ∀ i, I i → AW C P b (tF S I μ i Q) (S i)) : LP C P b Q s := by
 rw [B2]
 refine ⟨{ i : ι // I i }, fun i => S i.1, fun i => μ i.1, ⟨i0, h0⟩, false, hw, fun i => ?_⟩
 have e : qG (fun s' => ∃ i' : { i : ι // I i }, wY false s' (S i'.1) ∧ μ i'.1 < μ i.1) Q = tF S I μ i.1 Q := by
  funext x s'
  cases x <;> first
   | rfl
   | exact propext ⟨fun ⟨i', h1, h2⟩ => ⟨i'.1, i'.2, h2, h1⟩, fun h => (let ⟨i', h1, h2, h3⟩ := h.out; ⟨⟨i', h1⟩, h3, h2⟩)⟩
 rw [e]
 exact (h i.1 i.2).out
structure BKR {ι : Type} (S : ι → St) (I : ι → Prop) (μ : ι → Nat) (i : ι) (s : St) : Prop where
 out : ∃ i', I i' ∧ μ i' < μ i ∧ ∃ σ, wkr σ s (S i')
def tG {ι : Type} (S : ι → St) (I : ι → Prop) (μ : ι → Nat) (i : ι) (Q : Exit → St → Prop) : Exit → St → Prop := qG (BKR S I μ i) Q
section
variable {ι : Type} {S : ι → St} {I : ι → Prop} {μ : ι → Nat} {i : ι}
theorem VM : tG S I μ i Q .normal s = BKR S I μ i s := rfl
theorem VJ (j : Nat) : tG S I μ i Q (.exit j) s = Q (.exit j) s := rfl
theorem VK (j : Nat) : tG S I μ i Q (.goto j) s = Q (.goto j) s := rfl
theorem VN : tG S I μ i Q .ret s = Q .ret s := rfl
end
theorem KF {b : Code} {ι : Type} (S : ι → St) (I : ι → Prop) (μ : ι → Nat) (i0 : ι) (h0 : I i0) (hw : wk s (S i0))
  (h : ∀ i, I i → AW C P b (tG S I μ i Q) (S i)) : LP C P b Q s := by
 rw [B2]
 refine ⟨{ i : ι // I i }, fun i => S i.1, fun i => μ i.1, ⟨i0, h0⟩, true, hw, fun i => ?_⟩
 have e : qG (fun s' => ∃ i' : { i : ι // I i }, wY true s' (S i'.1) ∧ μ i'.1 < μ i.1) Q = tG S I μ i.1 Q := by
  funext x s'
  cases x <;> first
   | rfl
   | exact propext ⟨fun ⟨i', h1, h2⟩ => ⟨i'.1, i'.2, h2, h1⟩, fun h => (let ⟨i', h1, h2, h3⟩ := h.out; ⟨⟨i', h1⟩, h3, h2⟩)⟩
 rw [e]
 exact (h i.1 i.2).out
@[congr] theorem WG_congr {b b' : Bool} {A B : Prop} (h : b = b') : WG b A B = WG b' A B := by rw [h]
theorem BB {b : Bool} {A B : Prop} (h : b = true → A) (k : b = false → B) : WG b A B := by rw [nC]; exact ⟨h, k⟩
def aB (n : Int) : AV := .v (.int .i32 n)
def aA (n : Int) : AV := .v (.int .i64 n)
def Bv (b : Bool) : AV := .v (.bool b)
def U8 (b : UInt8) : AV := .v (.int .u8 b.toNat)
def Sv (l : List UInt8) : AV := .v (.string ⟨l.toArray⟩)
theorem z8 {α : Type} (f : α → AV) (d : α) : ∀ (l : List α) (n : Nat), n < l.length → nth (l.map f) n = f (l.getD n d)
 | [], n, h => by simp at h
 | _ :: _, 0, _ => rfl
 | _ :: l, n + 1, h => by simpa [nth] using z8 f d l n (by simpa using h)
theorem eT (l : List Int) (n : Nat) (h : n < l.length) : nth (l.map aB) n = .v (.int .i32 (l.getD n 0)) := z8 aB 0 l n h
theorem WL (l : List UInt8) (n : Nat) (h : n < l.length) : nth (l.map U8) n = .v (.int .u8 (l.getD n 0).toNat) := z8 U8 0 l n h
theorem zA (l : List (List UInt8)) (n : Nat) (h : n < l.length) : nth (l.map Sv) n = .v (.string ⟨(l.getD n []).toArray⟩) := z8 Sv [] l n h
theorem eL (cs : List AV) : ∀ (n k : Nat), nth (cs.drop n) k = nth cs (n + k) := by
 induction cs with
 | nil => intro n k; simp [nth]
 | cons x l ih =>
  intro n k
  cases n with
  | zero => simp
  | succ n => rw [List.drop_succ_cons, ih, show n + 1 + k = (n + k) + 1 by omega]; rfl
theorem WM (x : AV) (l : List AV) : nth (x :: l) 0 = x := rfl
theorem WK (x : AV) (l : List AV) (n : Nat) : nth (x :: l) (n + 1) = nth l n := rfl
theorem OE (l : List UInt8) : jJ (l.map U8) = some l := by
 induction l with
 | nil => rfl
 | cons a l ih => simp [jJ, U8, ih]
theorem gZ {n : Int} (h : -9223372036854775808 ≤ n) (k : n ≤ 9223372036854775807) : IntKind.i64.wrap n = n := by rw [IntKind.wrap_i64]; omega
theorem gY {n : Int} (h : -2147483648 ≤ n) (k : n ≤ 2147483647) : IntKind.i32.wrap n = n := by rw [IntKind.wrap_i32]; omega
theorem hH {n : Int} (h : 0 ≤ n) (k : n ≤ 255) : IntKind.u8.wrap n = n := by rw [IntKind.wrap_u8]; omega
end
theorem qC {z : Bool} {C : bI} {P : Program} {f : FuncId} {fn : Func} {c : Code} {args : List AV} {r : AV} {ts : List ResultVar} (hC : C.Ok P) (hf : P.funcs[f]? = some fn) (hb : fn.body = some c) (hname : (fn.name == "runtime.NumGoroutine") = false)
  (hok : f9 fn.ntmps c = true) (hla : args.length ≤ fn.ntmps) (hts : fn.results.toList = ts) (h : AW C P c (tP C z ts r) ⟨fY 0 args, []⟩) : aG P f args r :=
 zki hC hf hb hname hok hla (by rw [hts]; exact h)
theorem jV {C : bI} {P : Program} {f : FuncId} {fn : Func} {c : Code} {m0 m1 : List Ob} {args : List AV} {r : AV} {ts : List ResultVar} (hC : C.Ok P) (hf : P.funcs[f]? = some fn) (hb : fn.body = some c) (hname : (fn.name == "runtime.NumGoroutine") = false)
  (hok : f9 fn.ntmps c = true) (hla : args.length ≤ fn.ntmps) (hts : fn.results.toList = ts) (h : AW C P c (zV C ts m1 r) ⟨fY 0 args, m0 ++ [.fence]⟩) : eV P f m0 args m1 r :=
 zkh hC hf hb hname hok hla (by rw [hts]; exact h)
theorem SQ (s : St) : fzs s [] = [] := rfl
theorem SP (s : St) (x : AV) (l : List AV) : fzs s (x :: l) = fz s x :: fzs s l := rfl
end Go.AE
