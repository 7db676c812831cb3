/- A part of the abstract evaluator: no condition. -/
import Derived.Test.YteidmpcdcfoncaaDoorAESimp
import Derived.Test.YteidmpcdcfoncaaDoorAELendS
set_option linter.unusedVariables false
set_option linter.unusedSimpArgs false
/- Loops, and what numbers and rows simp is to know. -/
namespace Go.AE

section
variable {C : Ctx} {P : Program} {Q : Exit → St → Prop} {s : St}

/-- A round is over: its state is known by a lower index. -/
structure BK {ι : Type} (S : ι → St) (I : ι → Prop) (μ : ι → Nat) (i : ι) (s : St) : Prop where
  out : ∃ i', I i' ∧ μ i' < μ i ∧ wk s (S i')

def loopC {ι : Type} (S : ι → St) (I : ι → Prop) (μ : ι → Nat) (i : ι) (Q : Exit → St → Prop) : Exit → St → Prop := thenK (BK S I μ i) Q

section
variable {ι : Type} {S : ι → St} {I : ι → Prop} {μ : ι → Nat} {i : ι}
theorem loopC_normal : loopC S I μ i Q .normal s = BK S I μ i s := rfl
theorem loopC_exit (j : Nat) : loopC S I μ i Q (.exit j) s = Q (.exit j) s := rfl
theorem loopC_goto (j : Nat) : loopC S I μ i Q (.goto j) s = Q (.goto j) s := rfl
theorem loopC_ret : loopC S I μ i Q .ret s = Q .ret s := rfl
end

theorem LP_intro {b : Code} {ι : Type} (S : ι → St) (I : ι → Prop) (μ : ι → Nat) (i0 : ι) (h0 : I i0) (hw : wk s (S i0))
    (h : ∀ i, I i → AW C P b (loopC S I μ i Q) (S i)) : LP C P b Q s := by
  rw [LP_eq]
  refine ⟨{ i : ι // I i }, fun i => S i.1, fun i => μ i.1, ⟨i0, h0⟩, false, hw, fun i => ?_⟩
  have e : thenK (fun s' => ∃ i' : { i : ι // I i }, wkB false s' (S i'.1) ∧ μ i'.1 < μ i.1) Q = loopC S I μ i.1 Q := by
    funext x s'
    cases x <;> first
      | rfl
      | exact propext ⟨fun ⟨i', h1, h2⟩ => ⟨i'.1, i'.2, h2, h1⟩, fun h => (let ⟨i', h1, h2, h3⟩ := h.out; ⟨⟨i', h1⟩, h3, h2⟩)⟩
  rw [e]
  exact (h i.1 i.2).out

/-- A round is over: its state is known, by other numbers, by a lower index. -/
structure BKR {ι : Type} (S : ι → St) (I : ι → Prop) (μ : ι → Nat) (i : ι) (s : St) : Prop where
  out : ∃ i', I i' ∧ μ i' < μ i ∧ ∃ σ, wkr σ s (S i')

def loopR {ι : Type} (S : ι → St) (I : ι → Prop) (μ : ι → Nat) (i : ι) (Q : Exit → St → Prop) : Exit → St → Prop := thenK (BKR S I μ i) Q

section
variable {ι : Type} {S : ι → St} {I : ι → Prop} {μ : ι → Nat} {i : ι}
theorem loopR_normal : loopR S I μ i Q .normal s = BKR S I μ i s := rfl
theorem loopR_exit (j : Nat) : loopR S I μ i Q (.exit j) s = Q (.exit j) s := rfl
theorem loopR_goto (j : Nat) : loopR S I μ i Q (.goto j) s = Q (.goto j) s := rfl
theorem loopR_ret : loopR S I μ i Q .ret s = Q .ret s := rfl
end

theorem LP_introR {b : Code} {ι : Type} (S : ι → St) (I : ι → Prop) (μ : ι → Nat) (i0 : ι) (h0 : I i0) (hw : wk s (S i0))
    (h : ∀ i, I i → AW C P b (loopR S I μ i Q) (S i)) : LP C P b Q s := by
  rw [LP_eq]
  refine ⟨{ i : ι // I i }, fun i => S i.1, fun i => μ i.1, ⟨i0, h0⟩, true, hw, fun i => ?_⟩
  have e : thenK (fun s' => ∃ i' : { i : ι // I i }, wkB true s' (S i'.1) ∧ μ i'.1 < μ i.1) Q = loopR S I μ i.1 Q := by
    funext x s'
    cases x <;> first
      | rfl
      | exact propext ⟨fun ⟨i', h1, h2⟩ => ⟨i'.1, i'.2, h2, h1⟩, fun h => (let ⟨i', h1, h2, h3⟩ := h.out; ⟨⟨i', h1⟩, h3, h2⟩)⟩
  rw [e]
  exact (h i.1 i.2).out

@[congr] theorem WG_congr {b b' : Bool} {A B : Prop} (h : b = b') : WG b A B = WG b' A B := by rw [h]
theorem WG_mk {b : Bool} {A B : Prop} (h : b = true → A) (k : b = false → B) : WG b A B := by rw [WG_eq]; exact ⟨h, k⟩
theorem wg_seal (b : Bool) (A B : Prop) : wg b A B = WG b A B := (WG_eq b A B).symm

/-! ### Rows -/
def I32 (n : Int) : AV := .v (.int .i32 n)
def I64 (n : Int) : AV := .v (.int .i64 n)
def Bv (b : Bool) : AV := .v (.bool b)
def U8 (b : UInt8) : AV := .v (.int .u8 b.toNat)
def Sv (l : List UInt8) : AV := .v (.string ⟨l.toArray⟩)

theorem nth_map {α : Type} (f : α → AV) (d : α) : ∀ (l : List α) (n : Nat), n < l.length → nth (l.map f) n = f (l.getD n d)
  | [], n, h => by simp at h
  | _ :: _, 0, _ => rfl
  | _ :: l, n + 1, h => by simpa [nth] using nth_map f d l n (by simpa using h)
theorem nth_i32 (l : List Int) (n : Nat) (h : n < l.length) : nth (l.map I32) n = .v (.int .i32 (l.getD n 0)) := nth_map I32 0 l n h
theorem nth_u8 (l : List UInt8) (n : Nat) (h : n < l.length) : nth (l.map U8) n = .v (.int .u8 (l.getD n 0).toNat) := nth_map U8 0 l n h
theorem nth_str (l : List (List UInt8)) (n : Nat) (h : n < l.length) : nth (l.map Sv) n = .v (.string ⟨(l.getD n []).toArray⟩) := nth_map Sv [] l n h
theorem nth_drop (cs : List AV) : ∀ (n k : Nat), nth (cs.drop n) k = nth cs (n + k) := by
  induction cs with
  | nil => intro n k; simp [nth]
  | cons x l ih =>
    intro n k
    cases n with
    | zero => simp
    | succ n => rw [List.drop_succ_cons, ih, show n + 1 + k = (n + k) + 1 by omega]; rfl
theorem nth_zero (x : AV) (l : List AV) : nth (x :: l) 0 = x := rfl
theorem nth_succ (x : AV) (l : List AV) (n : Nat) : nth (x :: l) (n + 1) = nth l n := rfl

theorem bytesOf_u8 (l : List UInt8) : bytesOf (l.map U8) = some l := by
  induction l with
  | nil => rfl
  | cons a l ih => simp [bytesOf, U8, ih]

theorem all_u8 (l : List UInt8) (f : AV → Bool) (h : ∀ b, f (U8 b) = true) : (l.map U8).all f = true := by simp [h]

theorem wrap64 {n : Int} (h : -9223372036854775808 ≤ n) (k : n ≤ 9223372036854775807) : IntKind.i64.wrap n = n := by rw [IntKind.wrap_i64]; omega
theorem wrap32 {n : Int} (h : -2147483648 ≤ n) (k : n ≤ 2147483647) : IntKind.i32.wrap n = n := by rw [IntKind.wrap_i32]; omega
theorem wrap8 {n : Int} (h : 0 ≤ n) (k : n ≤ 255) : IntKind.u8.wrap n = n := by rw [IntKind.wrap_u8]; omega
end

theorem spec_mk {z : Bool} {C : Ctx} {P : Program} {f : FuncId} {fn : Func} {c : Code} {args : List AV} {r : AV} {ts : List ResultVar} (hC : C.Ok P) (hf : P.funcs[f]? = some fn) (hb : fn.body = some c) (hname : (fn.name == "runtime.NumGoroutine") = false)
    (hok : codeOk fn.ntmps c = true) (hla : args.length ≤ fn.ntmps) (hts : fn.results.toList = ts) (h : AW C P c (retQ C z ts r) ⟨initT 0 args, []⟩) : Spec P f args r :=
  spec_of hC hf hb hname hok hla (by rw [hts]; exact h)

theorem specL_mk {C : Ctx} {P : Program} {f : FuncId} {fn : Func} {c : Code} {m0 m1 : List Ob} {args : List AV} {r : AV} {ts : List ResultVar} (hC : C.Ok P) (hf : P.funcs[f]? = some fn) (hb : fn.body = some c) (hname : (fn.name == "runtime.NumGoroutine") = false)
    (hok : codeOk fn.ntmps c = true) (hla : args.length ≤ fn.ntmps) (hts : fn.results.toList = ts) (h : AW C P c (retQL C ts m1 r) ⟨initT 0 args, m0 ++ [.fence]⟩) : SpecL P f m0 args m1 r :=
  specL_of hC hf hb hname hok hla (by rw [hts]; exact h)

theorem WC_use {P : Program} {s : St} {d : Option Nat} {f : FuncId} {args as : List AV} {r : AV} {K : St → Prop} (hs : Spec P f as r) (ha : fzs s args = as) (hc : namess args = false ∨ clean r) (hk : K (importS s d r)) : WC P s d f args K := by
  subst ha; rw [WC_eq]; exact .inl ⟨r, hs, hc, hk⟩
theorem QC_use {P : Program} {s : St} {d : Option Nat} {f : FuncId} {args as : List AV} {r : AV} {K : St → Prop} (hs : Spec P f as r) (ha : fzs s args = as) (hc : namess args = false ∨ clean r) (hb : belows s.m.length args = true) (hp : plainR (unown r) = true) (hk : K ⟨putD s.t d (unown r), s.m⟩) : QC P s d f args K := by
  subst ha; rw [QC_eq]; exact ⟨r, hs, hc, hb, hp, hk⟩
theorem fzs_nil (s : St) : fzs s [] = [] := rfl
theorem fzs_cons (s : St) (x : AV) (l : List AV) : fzs s (x :: l) = fz s x :: fzs s l := rfl
end Go.AE
