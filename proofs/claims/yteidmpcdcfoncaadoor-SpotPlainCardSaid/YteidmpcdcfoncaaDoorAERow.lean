/- A part of the abstract evaluator: no condition. -/
import Derived.Test.YteidmpcdcfoncaaDoorAESpec
import Derived.WideShapes
set_option linter.unusedVariables false
set_option linter.unusedSimpArgs false
/- From a law's contract to what the given row asks; and how a row's arguments read. -/
namespace Go.AE
theorem law_walk {P : Program} {f : FuncId} {args : List AV} (h : Spec P f args (.v (.bool true))) (w : World) (vs : List Value) (hT : Tabs P w fun b => b < w.heap.size) (hr : Reps w (fun b => b < w.heap.size) [] args vs) :
    Calls P f vs.toArray w fun e w' => e = .returned (.bool true) ∧ Go.RowKit.Below w.heap.size w w' := by
  refine (h.2 w _ vs (fun _ hb => hb) hT hr).mono ?_
  rintro e w' ⟨v, F', H, rfl, hg, _, _, hv, _, _⟩
  cases hv
  exact ⟨rfl, hg.os, hg.tape, hg.output, hg.size, hg.block⟩
theorem rep_str (w : World) (F : Nat → Prop) (a : ByteArray) : Rep w F [] (.v (.string ⟨a.data.toList.toArray⟩)) (.string a) := by
  have : (⟨a.data.toList.toArray⟩ : ByteArray) = a := by cases a; simp
  rw [this]; exact .v _
theorem rep_nil (w : World) (f : Int → AV) : Rep w (fun b => b < w.heap.size) [] (.sl ([] : List Int).length (([] : List Int).map f)) (.slice none 0 0) := .sl0
theorem reps_ints (w : World) (F : Nat → Prop) (k : IntKind) : ∀ l : List Int, Reps w F [] (l.map fun n => .v (.int k n)) (l.map fun n => .int k n)
  | [] => .nil
  | _ :: l => .cons (.v _) (reps_ints w F k l)
theorem okWide_at {P : Program} {w : World} {base : Nat} {t e : TypeId} {x : Addr} {len cap : Nat} (ht : P.underlying t = some (.slice e)) (h : Value.okWide P w .any base t (.slice (some x) len cap)) :
    x.spot = none ∧ x.block < w.heap.size := by
  simp only [Value.okWide, ht, Cell.okWide, Cell.ok, World.has] at h
  obtain ⟨_, _, _, hs, row, cells, hw, _⟩ := h
  refine ⟨hs, ?_⟩
  unfold World.shape? at hw
  split at hw
  · rename_i hh; exact (Array.getElem?_eq_some_iff.1 hh).1
  · simp at hw
theorem rep_row (w : World) (k : IntKind) (x : Addr) {len cap : Nat} {zs : List Int} (hx : x.spot = none ∧ x.block < w.heap.size) (hl : len ≤ cap) (hz : zs.length = cap) (hc : ∀ i, i < zs.length → w.cell? (x.add i) = some (.int k (zs.getD i 0))) :
    Rep w (fun b => b < w.heap.size) [] (.sl (zs.take len).length ((zs.take len).map fun n => .v (.int k n))) (.slice (some x) len cap) := by
  have hlen : (zs.take len).length = len := by simp; omega
  rw [hlen]
  refine .sl hx.2 hl (vs := (zs.take len).map fun n => .int k n) ⟨hx.1, ?_, ?_⟩ (reps_ints _ _ _ _)
  · intro i hi
    simp only [List.length_map, hlen] at hi
    have h1 := hc i (by omega)
    have e : x.add i = ⟨x.block, x.off + i, none⟩ := by
      unfold Addr.add
      split
      · rename_i h0; subst h0; cases x; simp_all
      · rfl
    rw [← e, h1]
    simp [List.getElem?_take, hi, List.getD, show i < zs.length by omega]
  · intro u hu
    obtain ⟨n, _, rfl⟩ := List.mem_map.1 hu
    rfl
theorem wf_i32 {n : Int} (h : (Go.Lit.int .i32 n).wf = true) : -2147483648 ≤ n ∧ n ≤ 2147483647 := by
  simp only [Go.Lit.wf, Bool.and_eq_true, decide_eq_true_eq] at h; exact h
theorem wf_i64 {n : Int} (h : (Go.Lit.int .i64 n).wf = true) : -9223372036854775808 ≤ n ∧ n ≤ 9223372036854775807 := by
  simp only [Go.Lit.wf, Bool.and_eq_true, decide_eq_true_eq] at h; exact h
theorem wf_u8 {n : Int} (h : (Go.Lit.int .u8 n).wf = true) : 0 ≤ n ∧ n ≤ 255 := by
  simp only [Go.Lit.wf, Bool.and_eq_true, decide_eq_true_eq] at h; exact h
theorem wf_i8 {n : Int} (h : (Go.Lit.int .i8 n).wf = true) : -128 ≤ n ∧ n ≤ 127 := by
  simp only [Go.Lit.wf, Bool.and_eq_true, decide_eq_true_eq] at h; exact h
theorem wf_u16 {n : Int} (h : (Go.Lit.int .u16 n).wf = true) : 0 ≤ n ∧ n ≤ 65535 := by
  simp only [Go.Lit.wf, Bool.and_eq_true, decide_eq_true_eq] at h; exact h
end Go.AE
