/- Contracts of functions that the laws of this seat reach, and plain laws of what they compute. No condition beyond each statement's own. -/
import Derived.Test.YthnhjaofelhbdaaV1
import Derived.WalkKit
import Derived.Lib.Walk
import Derived.Lib.SliceRun
import Derived.Lib.JoinLaws
import Derived.Lib.AppendZerosOnto
import Derived.Lib.Overlaps
import Derived.Laws.Externs
import Derived.Laws.IdiomCopy
import Derived.Laws.NewBlocks
import Derived.Shelf.RegionOpenPlain
set_option linter.unusedVariables false
set_option linter.unusedSimpArgs false
section
/- slices.Insert of one character: where there is room, in place. -/
set_option linter.unusedSimpArgs false
set_option linter.unusedVariables false
namespace Go.AE
open Go.Proofs Go.Lib
def insF : Nat := 31

/-- An operation 'copy' whose run is known. -/
theorem wpList_copy1 {P : Program} {ops : Array Oper} {rest : List Oper} {o : Oper} {a : Act} {w w' : World} {Q : Exit → Act → World → Prop} (hg : o.guard = none) (d x : Operand) (t u : TypeId)
    (ho : o.op = .call { callee := .builtin .copy, args := #[d, x], argTypes := #[t, u] }) {p q v : Value} (hd : a.eval d = p) (hx : a.eval x = q)
    (hr : (Builtin.copy_ #[t, u] o.type #[p, q]).run P w = .ok v w') (h : wpList P ops Q rest (a.put o.dst v) w') : wpList P ops Q (o :: rest) a w := by
  refine wpList_plain hg fun K hK => ?_
  unfold Oper.wp execOp
  simp only [ho, resolve, invoke, builtin, Sem.run_bind, Sem.run_pure, Result.andThen_ok, List.map_toArray, List.map_cons, List.map_nil, hd, hx, hr]
  exact hK _ _ h

theorem drawn_copy1 {P : Program} {ops : Array Oper} {o : Oper} {a : Act} {w w' : World} {K : Act → World → Prop} {Q : Exit → Act → World → Prop} {E : Prop} (hg : o.guard = none) (d x : Operand) (t u : TypeId)
    (ho : o.op = .call { callee := .builtin .copy, args := #[d, x], argTypes := #[t, u] }) {p q v : Value} (hd : a.eval d = p) (hx : a.eval x = q)
    (hr : (Builtin.copy_ #[t, u] o.type #[p, q]).run P w = .ok v w') (h : K (a.put o.dst v) w') : if Region.wanted o (yielded ops a.tmps) = true then Oper.wp P o a w K Q else E := by
  rw [if_pos (by simp [Region.wanted, hg])]
  unfold Oper.wp execOp
  simp only [ho, resolve, invoke, builtin, Sem.run_bind, Sem.run_pure, Result.andThen_ok, List.map_toArray, List.map_cons, List.map_nil, hd, hx, hr]
  exact h

set_option maxHeartbeats 4000000 in
set_option maxRecDepth 100000 in
theorem ins_room (b n c i vb voff vc : Nat) (cs : List Value) (x : Value) (w : World) (hi : i < n) (hroom : n + 1 ≤ c) (hc63 : c ≤ 9223372036854775807) (hvb : vb ≠ b) (hcl : cs.length = n)
    (hcs : ∀ j v, cs[j]? = some v → w.cell? ⟨b, j, none⟩ = some v) (hsp : ∀ j, j < n + 1 → (w.cell? ⟨b, j, none⟩).isSome = true) (hfz : ∀ j, j < n + 1 → w.frozen? ⟨b, j, none⟩ = false)
    (hvs : w.cell? ⟨vb, voff, none⟩ = some x) (h1c : ∀ v ∈ cs, v.oneCell' = true) (h1v : x.oneCell' = true)
    (tA tB : TypeId) (kA kB : Nat) (hsa : w.shape? vb = some (tA, kA)) (hsb : w.shape? b = some (tB, kB)) (hkB : kB ≠ 0) (hfa : w.frozen? ⟨vb, voff, none⟩ = false) (hfe : w.frozen? ⟨vb, kA, none⟩ = false) :
    Calls Try.prog insF #[.slice (some ⟨b, 0, none⟩) n c, .int .i64 i, .slice (some ⟨vb, voff, none⟩) 1 vc] w fun e w' =>
      e = .returned (.slice (some ⟨b, 0, none⟩) (n + 1) c) ∧ w' = (w.drew.setCells b (i + 1) (cs.drop i)).setCells b i [x] := by
  have hne : ¬ ((i : Int) = (n : Int)) := by omega
  have hsz : (Try.prog.info? 21).map (·.size) = some 1 := by kernel_rfl
  have hov : ∀ lb cb, (callFunc 40 #[.slice (some ⟨vb, voff, none⟩) 1 vc, .slice (some ⟨b, i + 1, none⟩) lb cb]).run Try.prog w = .ok (.value (.bool false)) w := fun lb cb => by
    rw [run_callFunc_extern Try.func40 (by kernel_rfl) (by kernel_rfl) (by kernel_rfl) (e := Extern.SlicesOverlaps.overlaps #[29, 29] #[4]) (by kernel_rfl),
      Lib.run_overlaps_apart w 29 4 21 Try.underlying29 1 Try.sizeOf21 ⟨vb, voff, none⟩ ⟨b, i + 1, none⟩ 1 vc lb cb hvb tA tB kA kB hsa hsb hkB hfa hfe]
    rfl
  have hdl : (cs.drop i).length = n - i := by rw [List.length_drop, hcl]
  have mixed : Try.prog.follows .mixedOrders = true := by decide +kernel
  have hw1 : IntKind.i64.wrap ((i : Int) + 1) = (i : Int) + 1 := by rw [IntKind.wrap_i64]; omega
  have hb1 : (0 : Int) ≤ (i : Int) + 1 := by omega
  have hin : i ≤ n := by omega
  have htn : ((i : Int) + 1).toNat = i + 1 := by omega
  have hb2 : ¬ (c = i + 1) := by omega
  have hb3 : (i : Int) ≤ (n : Int) + 1 := by omega
  have hb4 : ¬ (c = i) := by omega
  have hb5 : (i : Int) ≤ (n : Int) := by omega
  have hc1 : ∀ ty dc sc, (Builtin.copy_ #[29, 29] ty #[.slice (some ⟨b, i + 1, none⟩) (n + 1 - (i + 1)) dc, .slice (some ⟨b, i, none⟩) (n + 1 - i) sc]).run Try.prog w.drew = .ok (goInt (cs.drop i).length) (w.drew.setCells b (i + 1) (cs.drop i)) := fun ty dc sc =>
    run_copy_cells w.drew _ _ ty 21 b (i + 1) (n + 1 - (i + 1)) dc ⟨b, i, none⟩ (n + 1 - i) sc (cs.drop i) Try.underlying29 hsz (by rw [hdl]; simp only [Nat.min_def]; split <;> omega)
      (fun j v hj => by rw [Addr.add_lit]; exact hcs (i + j) v (by rwa [List.getElem?_drop] at hj))
      (fun j hj => hsp _ (by omega)) (fun j hj => hfz _ (by omega)) (fun v hv => h1c v (List.mem_of_mem_drop hv))
  obtain ⟨W1, hW1⟩ : ∃ W1, W1 = w.drew.setCells b (i + 1) (cs.drop i) := ⟨_, rfl⟩
  have hsp1 : ∀ k, k < n + 1 → (W1.cell? ⟨b, k, none⟩).isSome = true := fun k hk => by
    rw [hW1]
    by_cases hin : i + 1 ≤ k
    · have := World.cell?_setCells_in b (cs.drop i) (i + 1) w.drew (fun j hj => hsp _ (by omega)) (k - (i + 1)) (by omega)
      rw [show i + 1 + (k - (i + 1)) = k by omega] at this
      rw [this]; rfl
    · rw [World.cell?_setCells_out b _ _ _ ⟨b, k, none⟩ (fun _ _ => by show k < i + 1 ∨ _; omega)]
      exact hsp k hk
  have hc2 : ∀ (W : World), (∀ x, W.cell? x = W1.cell? x) → (∀ x, W.frozen? x = W1.frozen? x) → ∀ ty dc, (Builtin.copy_ #[29, 29] ty #[.slice (some ⟨b, i, none⟩) (n + 1 - i) dc, .slice (some ⟨vb, voff, none⟩) 1 vc]).run Try.prog W = .ok (goInt 1) (W.setCells b i [x]) := fun W hWc hWf ty dc =>
    run_copy_cells W _ _ ty 21 b i (n + 1 - i) dc ⟨vb, voff, none⟩ 1 vc [x] Try.underlying29 hsz (by simp only [Nat.min_def, List.length_cons, List.length_nil]; split <;> omega)
      (fun j v hj => by
        have hj0 : j = 0 := by have := (List.getElem?_eq_some_iff.1 hj).1; simpa using this
        subst hj0
        simp at hj; subst hj
        rw [Addr.add_lit, hWc, hW1, World.cell?_setCells_out b _ _ _ _ (fun h _ => absurd h hvb)]
        exact hvs)
      (fun j hj => by rw [hWc]; exact hsp1 _ (by simp at hj; omega)) (fun j hj => by rw [hWf, hW1, World.frozen?_setCells]; exact hfz _ (by simp at hj; omega)) (fun v hv => by simp at hv; subst hv; exact h1v)
  rw [← hW1] at hc1
  unfold insF
  go_enter Try.func31, Try.ntmps31
  go_wp2_with (simp only [hov])
  go_region_law_o (refine drawn_copy1 rfl _ _ 29 29 rfl (by simp [Act.eval, Act.put]; rfl) (by simp [Act.eval, Act.put]; rfl) (hc1 _ _ _) ?_)
  go_wp2_with (at_builtin; refine wpList_copy1 rfl _ _ 29 29 rfl rfl rfl (hc2 _ (fun _ => rfl) (fun _ => rfl) _ _) ?_)
  go_ret
  exact ⟨rfl, rfl⟩

set_option maxHeartbeats 4000000 in
set_option maxRecDepth 100000 in
theorem ins_grow (b n c i vb voff vc : Nat) (cs : List Value) (x : Value) (w : World) (hi : i < n) (hnc : n ≤ c) (hroom : c < n + 1) (hbig : (n + 1) * 4 ≤ 140737488355328) (hcl : cs.length = n)
    (hcs : ∀ j v, cs[j]? = some v → w.cell? ⟨b, j, none⟩ = some v)
    (hvs : w.cell? ⟨vb, voff, none⟩ = some x) (h1c : ∀ v ∈ cs, v.oneCell' = true) (h1v : x.oneCell' = true) :
    Calls Try.prog insF #[.slice (some ⟨b, 0, none⟩) n c, .int .i64 i, .slice (some ⟨vb, voff, none⟩) 1 vc] w fun e w' =>
      e = .returned (.slice (some ⟨w.heap.size, 0, none⟩) (n + 1) (grownCap w (n + 1) c 21)) ∧
      w' = (((w.alloc (.cells ((cs.take i).toArray ++ Builtin.zeroCells (Value.int .i32 0).cells (n + 1 - i) ++ Builtin.zeroCells (Value.int .i32 0).cells (grownCap w (n + 1) c 21 - (n + 1))) 21)).drew.setCells w.heap.size i [x]).drew).setCells w.heap.size (i + 1) (cs.drop i) := by
  have hne : ¬ ((i : Int) = (n : Int)) := by omega
  have hne2 : (c : Int) < (n : Int) + 1 := by omega
  obtain ⟨i0, hi0, hz0, hzs, hzb⟩ := info_parts (P := Try.prog) (e := 21) (z := .int .i32 0) (size := 1) (bytes := 4) (by kernel_rfl)
  have hsz : (Try.prog.info? 21).map (·.size) = some 1 := by rw [hi0]; simp [hzs]
  have hbw : b < w.heap.size := block_lt_of_cell (hcs 0 _ (List.getElem?_eq_getElem (by omega)))
  have hvw : vb < w.heap.size := block_lt_of_cell hvs
  have hkk : (n : Int) + 1 - (i : Int) = ((n + 1 - i : Nat) : Int) := by omega
  have hik : i + (n + 1 - i) = n + 1 := by omega
  have hold : (Builtin.firstCells i0.size i (.slice (some ⟨b, 0, none⟩) i c)).run Try.prog w.drew = .ok (cs.take i).toArray w.drew := by
    rw [hzs]
    refine run_firstCells_some w.drew 1 i ⟨b, 0, none⟩ i c (cs.take i) (by rw [List.length_take]; omega) fun j v hj => ?_
    rw [Addr.add_lit, Nat.zero_add]
    rw [List.getElem?_take] at hj
    split at hj
    · exact hcs j v hj
    · cases hj
  obtain ⟨G, hG⟩ : ∃ G, G = grownCap w (n + 1) c 21 := ⟨_, rfl⟩
  obtain ⟨ROW, hROW⟩ : ∃ ROW : Array Value, ROW = (cs.take i).toArray ++ Builtin.zeroCells (Value.int .i32 0).cells (n + 1 - i) ++ Builtin.zeroCells (Value.int .i32 0).cells (G - (n + 1)) := ⟨_, rfl⟩
  have happ : ∀ ty, (Builtin.append_ #[29, 3] ty #[.slice (some ⟨b, 0, none⟩) i c, .int .i64 ((n : Int) + 1 - (i : Int))]).run Try.prog w = .ok (.slice (some ⟨w.heap.size, 0, none⟩) (n + 1) G) (w.drew.alloc (.cells ROW 21)) := fun ty => by
    have h := Lib.run_append_grow_zeros (P := Try.prog) w 29 3 ty 21 i0 _ .i64 .i64 Try.underlying29 Try.underlying3 hi0 hz0 (some ⟨b, 0, none⟩) i c (cs.take i) hold (n + 1 - i) (by omega) (by omega) (by omega) (by omega) (by rw [hzb]; omega) (by rw [hzb, hik]; exact growslice_fits hroom hbig)
    rw [hik] at h
    rw [hkk, hROW, hG]
    exact h
  rw [← hG, ← hROW]
  have hRl : n + 1 ≤ ROW.size := by rw [hROW]; simp [Builtin.zeroCells, Value.cells]; omega
  obtain ⟨W1, hW1⟩ : ∃ W1, W1 = w.drew.alloc (.cells ROW 21) := ⟨_, rfl⟩
  have hN : ∀ j, j < n + 1 → (W1.cell? ⟨w.heap.size, j, none⟩).isSome = true := fun j hj => by
    rw [hW1, World.cell?_alloc_at (w := w.drew) ROW _ w.heap.size j rfl, Array.getElem?_eq_getElem (by omega)]; rfl
  have hNf : ∀ j, W1.frozen? ⟨w.heap.size, j, none⟩ = false := fun j => by rw [hW1]; exact World.frozen?_alloc_at (w := w.drew) ROW _ w.heap.size j rfl
  have hOb : ∀ j v, w.cell? ⟨b, j, none⟩ = some v → W1.cell? ⟨b, j, none⟩ = some v := fun j v h => by rw [hW1, World.cell?_alloc_past (w := w.drew) _ b j hbw]; exact h
  have hOv : ∀ j v, w.cell? ⟨vb, j, none⟩ = some v → W1.cell? ⟨vb, j, none⟩ = some v := fun j v h => by rw [hW1, World.cell?_alloc_past (w := w.drew) _ vb j hvw]; exact h
  have hGn : n + 1 ≤ G := by rw [hG]; exact grownCap_ge w _ _ _
  have hG63 : G ≤ 9223372036854775807 := by
    have := grownCap_le_maxLen w (n + 1) c 21 (by unfold maxLen; omega)
    rw [← hG] at this
    unfold maxLen at this
    omega
  have hcA : ∀ (W : World), (∀ x, W.cell? x = W1.cell? x) → (∀ x, W.frozen? x = W1.frozen? x) → ∀ ty dc, (Builtin.copy_ #[29, 29] ty #[.slice (some ⟨w.heap.size, i, none⟩) (n + 1 - i) dc, .slice (some ⟨vb, voff, none⟩) 1 vc]).run Try.prog W = .ok (goInt 1) (W.setCells w.heap.size i [x]) := fun W hWc hWf ty dc =>
    run_copy_cells W _ _ ty 21 w.heap.size i (n + 1 - i) dc ⟨vb, voff, none⟩ 1 vc [x] Try.underlying29 hsz (by simp only [Nat.min_def, List.length_cons, List.length_nil]; split <;> omega)
      (fun j v hj => by
        have hj0 : j = 0 := by have := (List.getElem?_eq_some_iff.1 hj).1; simpa using this
        subst hj0
        simp at hj; subst hj
        rw [Addr.add_lit, hWc]
        exact hOv _ _ hvs)
      (fun j hj => by rw [hWc]; exact hN _ (by simp at hj; omega)) (fun j hj => by rw [hWf]; exact hNf _) (fun v hv => by simp at hv; subst hv; exact h1v)
  have hdl : (cs.drop i).length = n - i := by rw [List.length_drop, hcl]
  have hbN : b ≠ w.heap.size := by omega
  obtain ⟨W2, hW2⟩ : ∃ W2, W2 = W1.setCells w.heap.size i [x] := ⟨_, rfl⟩
  have hN2 : ∀ k, k < n + 1 → (W2.cell? ⟨w.heap.size, k, none⟩).isSome = true := fun k hk => by
    rw [hW2]
    by_cases hin : k = i
    · subst hin
      have := World.cell?_setCells_in w.heap.size [x] k W1 (fun j hj => hN _ (by simp at hj; omega)) 0 (by simp)
      rw [Nat.add_zero] at this
      rw [this]; rfl
    · rw [World.cell?_setCells_out w.heap.size _ _ _ ⟨w.heap.size, k, none⟩ (fun _ _ => by show k < i ∨ i + 1 ≤ k; omega)]
      exact hN k hk
  have hcB : ∀ (W : World), (∀ x, W.cell? x = W2.cell? x) → (∀ x, W.frozen? x = W2.frozen? x) → ∀ ty dc sc, (Builtin.copy_ #[29, 29] ty #[.slice (some ⟨w.heap.size, i + 1, none⟩) (n + 1 - (i + 1)) dc, .slice (some ⟨b, i, none⟩) (n - i) sc]).run Try.prog W = .ok (goInt (cs.drop i).length) (W.setCells w.heap.size (i + 1) (cs.drop i)) := fun W hWc hWf ty dc sc =>
    run_copy_cells W _ _ ty 21 w.heap.size (i + 1) (n + 1 - (i + 1)) dc ⟨b, i, none⟩ (n - i) sc (cs.drop i) Try.underlying29 hsz (by rw [hdl]; simp only [Nat.min_def]; split <;> omega)
      (fun j v hj => by
        rw [Addr.add_lit, hWc, hW2, World.cell?_setCells_out _ _ _ _ _ (fun h _ => absurd h hbN)]
        exact hOb _ v (hcs (i + j) v (by rwa [List.getElem?_drop] at hj)))
      (fun j hj => by rw [hWc]; exact hN2 _ (by omega)) (fun j hj => by rw [hWf, hW2, World.frozen?_setCells]; exact hNf _) (fun v hv => h1c v (List.mem_of_mem_drop hv))
  have mixed : Try.prog.follows .mixedOrders = true := by decide +kernel
  have hw1 : IntKind.i64.wrap ((i : Int) + 1) = (i : Int) + 1 := by rw [IntKind.wrap_i64]; omega
  have hb1 : (0 : Int) ≤ (i : Int) + 1 := by omega
  have hin : i ≤ n := by omega
  have htn : ((i : Int) + 1).toNat = i + 1 := by omega
  have hb3 : (i : Int) ≤ (n : Int) + 1 := by omega
  have hb5 : (i : Int) ≤ (n : Int) := by omega
  have hGi : ¬ (G = i) := by omega
  have hGim : ¬ (G = i + 1) := by omega
  have hci : ¬ (c = i) := by omega
  subst hW2 hW1
  have hE1 : ∀ x, ((w.alloc (.cells ROW 21)).drew).cell? x = (w.drew.alloc (.cells ROW 21)).cell? x := fun x => rfl
  have hE2 : ∀ x, ((w.alloc (.cells ROW 21)).drew).frozen? x = (w.drew.alloc (.cells ROW 21)).frozen? x := fun x => rfl
  have hF1 : ∀ y, (((w.alloc (.cells ROW 21)).drew.setCells w.heap.size i [x]).drew).cell? y = ((w.drew.alloc (.cells ROW 21)).setCells w.heap.size i [x]).cell? y := fun y => rfl
  have hF2 : ∀ y, (((w.alloc (.cells ROW 21)).drew.setCells w.heap.size i [x]).drew).frozen? y = ((w.drew.alloc (.cells ROW 21)).setCells w.heap.size i [x]).frozen? y := fun y => rfl
  clear hkk hold hROW hRl
  unfold insF
  go_enter Try.func31, Try.ntmps31
  go_wp2_with (first
    | (at_builtin; refine Lib.wpList_append_run _ rfl _ _ _ _ rfl _ _ rfl rfl _ _ (happ _) ?_)
    | (at_builtin; refine wpList_copy1 rfl _ _ 29 29 rfl rfl rfl (hcA _ hE1 hE2 _ _) ?_))
  go_region_law_o (refine drawn_copy1 rfl _ _ 29 29 rfl (p := .slice (some ⟨w.heap.size, i + 1, none⟩) (n + 1 - (i + 1)) (G - (i + 1))) (q := .slice (some ⟨b, i, none⟩) (n - i) (c - i)) (by simp [Act.eval, Act.put] <;> omega) (by simp [Act.eval, Act.put] <;> omega) (hcB _ hF1 hF2 _ _ _) ?_)
  go_wp2
  go_ret
  exact ⟨rfl, rfl⟩

/-! ### What the blocks hold then -/
theorem heap_setCells (b : Nat) : ∀ (vs : List Value) (o : Nat) (w : World) {c : Array Value} {e : TypeId} {fz : Nat × Nat}, w.heap[b]? = some (.cells c e fz) →
    (∃ c', (w.setCells b o vs).heap[b]? = some (.cells c' e fz) ∧ c'.size = c.size ∧ ∀ j, j < c.size → c'[j]? = if o ≤ j ∧ j < o + vs.length then vs[j - o]? else c[j]?) ∧
    (∀ k, k ≠ b → (w.setCells b o vs).heap[k]? = w.heap[k]?) ∧ (w.setCells b o vs).heap.size = w.heap.size ∧ (w.setCells b o vs).os = w.os ∧ (w.setCells b o vs).tape = w.tape ∧ (w.setCells b o vs).output = w.output
  | [], o, w, c, e, fz, h => ⟨⟨c, h, rfl, fun j hj => by rw [if_neg]; simp⟩, fun _ _ => rfl, rfl, rfl, rfl, rfl⟩
  | v :: r, o, w, c, e, fz, h => by
    have hb : b < w.heap.size := (Array.getElem?_eq_some_iff.1 h).1
    have h1 : (w.setCell ⟨b, o, none⟩ v).heap[b]? = some (.cells (c.setIfInBounds o v) e fz) := by
      simp only [World.setCell, Array.getElem?_modify, if_pos, h, Option.map_some, Option.isSome_none, Bool.false_eq_true, if_false]
    obtain ⟨⟨c', q1, q2, q3⟩, q4, q5, q6, q7, q8⟩ := heap_setCells b r (o + 1) (w.setCell ⟨b, o, none⟩ v) h1
    refine ⟨⟨c', q1, by rw [q2]; simp, fun j hj => ?_⟩, fun k hk => ?_, ?_, q6, q7, q8⟩
    · rw [q3 j (by simpa using hj)]
      by_cases hjo : j = o
      · subst hjo
        rw [if_neg (by omega), if_pos (by simp)]
        simp [hj]
      · by_cases hin : o + 1 ≤ j ∧ j < o + 1 + r.length
        · rw [if_pos hin, if_pos (by simp; omega), show j - o = (j - (o + 1)) + 1 by omega]; simp
        · rw [if_neg hin, if_neg (by simp; omega)]
          simp [Array.getElem?_setIfInBounds, Ne.symm hjo]
    · rw [World.setCells, q4 k hk]
      simp only [World.setCell, Array.getElem?_modify]
      rw [if_neg (Ne.symm hk)]
    · rw [World.setCells, q5]; simp [World.setCell]
end Go.AE
end
section
/- slices.Insert of one character: its contract. -/
set_option linter.unusedSimpArgs false
set_option linter.unusedVariables false
namespace Go.AE
open Go.Proofs Go.Lib
def insL (L : List Int) (i : Nat) (x : Int) : List Int := L.take i ++ x :: L.drop i

theorem shape_cells {w : World} {b : Nat} {c : Array Value} {e : TypeId} {fz : Nat × Nat} (h : w.heap[b]? = some (.cells c e fz)) : w.shape? b = some (e, c.size) := by
  simp [World.shape?, h]

theorem map_oneCell {w : World} {F : Nat → Prop} {G : Gh} : ∀ {L : List Int} {vs : List Value}, Reps w F G (L.map I32) vs → vs = L.map (Value.int .i32)
  | [], vs, h => by cases h; rfl
  | a :: L, vs, h => by
    cases h with
    | cons h1 h2 => rw [map_oneCell h2]; cases h1; rfl

theorem reps_i32 {w : World} {F : Nat → Prop} {G : Gh} : ∀ (L : List Int), Reps w F G (L.map I32) (L.map (Value.int .i32))
  | [] => .nil
  | a :: L => .cons (.v _) (reps_i32 L)

theorem insL_len (L : List Int) (i : Nat) (x : Int) (hi : i ≤ L.length) : (insL L i x).length = L.length + 1 := by simp [insL]; omega

theorem ins_get (L : List Int) (i : Nat) (x : Int) (hi : i ≤ L.length) (j : Nat) (hj : j < L.length + 1) :
    ((insL L i x).map (Value.int .i32))[j]? = if j < i then (L.map (Value.int .i32))[j]? else if j = i then some (.int .i32 x) else (L.map (Value.int .i32))[j - 1]? := by
  simp only [insL, List.map_append, List.map_cons, List.map_take, List.map_drop]
  by_cases h1 : j < i
  · rw [if_pos h1, List.getElem?_append_left (by simp; omega), List.getElem?_take_of_lt h1]
  · rw [if_neg h1, List.getElem?_append_right (by simp; omega)]
    have e : ((L.map (Value.int .i32)).take i).length = i := by simp; omega
    rw [e]
    by_cases h2 : j = i
    · subst h2; simp
    · rw [if_neg h2, show j - i = (j - i - 1) + 1 by omega, List.getElem?_cons_succ, List.getElem?_drop, show i + (j - i - 1) = j - 1 by omega]

theorem insert_mid (L : List Int) (i : Nat) (x : Int) (hi : i < L.length) (hL : L.length ≤ 1000000000) :
    SpecL Try.prog 31 [.arr 21 1 (L.map I32), .arr 21 1 [I32 x]] [.ref 0 0 L.length, I64 i, .ref 1 0 1] [.arr 21 1 ((insL L i x).map I32), .arr 21 1 [I32 x], .fence] (.ref 0 0 (L.length + 1)) := by
  refine ⟨⟨_, Try.func31, by decide +kernel, by decide +kernel⟩, fun w F g vs hR hr => ?_⟩
  obtain ⟨v0, v1, v2, rfl, h0, h1, h2⟩ : ∃ v0 v1 v2, vs = [v0, v1, v2] ∧ Rep w F (g ++ [none]) (.ref 0 0 L.length) v0 ∧ Rep w F (g ++ [none]) (I64 i) v1 ∧ Rep w F (g ++ [none]) (.ref 1 0 1) v2 := by
    cases hr with
    | cons h0 hr => cases hr with
      | cons h1 hr => cases hr with
        | cons h2 hr => cases hr; exact ⟨_, _, _, rfl, h0, h1, h2⟩
  cases h1
  have ho0 : obj ([Ob.arr 21 1 (L.map I32), .arr 21 1 [I32 x]] ++ [Ob.fence]) 0 = .arr 21 1 (L.map I32) := rfl
  have ho1 : obj ([Ob.arr 21 1 (L.map I32), .arr 21 1 [I32 x]] ++ [Ob.fence]) 1 = .arr 21 1 [I32 x] := rfl
  obtain ⟨gg, us, hg, hv0, hown, hrs, hone, hsz⟩ := obj_whole hR (id := 0) ho0 h0 (by simp)
  obtain ⟨gk, ks, hk, hv2, hown2, hrs2, hone2, hsz2⟩ := obj_whole hR (id := 1) ho1 h2 (by simp)
  have hus := map_oneCell hrs
  subst hus
  have hks := map_oneCell (L := [x]) hrs2
  subst hks
  obtain ⟨M, rfl⟩ : ∃ M, gg = some M := by
    cases gg with
    | none =>
      rcases hown.2 with ⟨_, hn⟩ | ⟨_, _, _, h5, _⟩
      · omega
      · rw [hv0] at h5; simp [slv] at h5
    | some M => exact ⟨M, rfl⟩
  obtain ⟨K, rfl⟩ : ∃ M, gk = some M := by
    cases gk with
    | none =>
      rcases hown2.2 with ⟨_, hn⟩ | ⟨_, _, _, h5, _⟩
      · cases hn
      · rw [hv2] at h5; simp [slv] at h5
    | some M => exact ⟨M, rfl⟩
  have hM0 : M.o = 0 := by
    have := hR.obG hg
    obtain ⟨_, _, _, _, _, _, h5⟩ := this
    exact h5 M rfl
  rcases hown.2 with ⟨h5, _⟩ | ⟨gb, cap, cur, h5, _, hh, hn, hm, hs, ht⟩
  · rw [hv0] at h5; simp [slv] at h5
  rw [hv0] at h5
  simp [slv] at h5
  obtain ⟨rfl, rfl⟩ := h5
  rcases hown2.2 with ⟨h5, _⟩ | ⟨gb, cap, kc, h5, _, hkh, hkn, hkm, hks, hkt⟩
  · rw [hv2] at h5; simp [slv] at h5
  rw [hv2] at h5
  simp [slv] at h5
  obtain ⟨rfl, rfl⟩ := h5
  rw [hv0, hv2]
  have hKM : K.b ≠ M.b := fun e => by have := hR.inj 1 0 K M hk hg e; omega
  have hkx : w.cell? ⟨K.b, 0, none⟩ = some (.int .i32 x) := by
    have : (kc.toList.take (1 * 1))[0]? = some (Value.int .i32 x) := by rw [hkt]; rfl
    rw [List.getElem?_take_of_lt (by omega)] at this
    simp [World.cell?, hkh]; simpa using this
  have hcl : (L.map (Value.int .i32)).length = L.length := by simp
  have hcur : ∀ (j : Nat) (v : Value), (L.map (Value.int .i32))[j]? = some v → cur[j]? = some v := by
    intro j v hj
    have hlt : j < L.length := by have := (List.getElem?_eq_some_iff.1 hj).1; simpa using this
    rw [← ht, List.getElem?_take_of_lt (by omega)] at hj
    simpa using hj
  have hcs : ∀ (j : Nat) (v : Value), (L.map (Value.int .i32))[j]? = some v → w.cell? ⟨M.b, j, none⟩ = some v := fun j v hj => by
    simp [World.cell?, hh, hcur j v hj]
  have hil : (insL L i x).length = L.length + 1 := insL_len L i x (by omega)
  have hdl : ((L.map (Value.int .i32)).drop i).length = L.length - i := by simp
  have hone' : ∀ u ∈ (insL L i x).map (Value.int .i32), u.oneCell' = true := fun u hu => by
    obtain ⟨y, _, rfl⟩ := List.mem_map.1 hu; rfl
  have hMb := hR.live 0 M hg
  by_cases hroom : L.length + 1 ≤ M.cap
  · have hsp : ∀ j, j < L.length + 1 → (w.cell? ⟨M.b, j, none⟩).isSome = true := fun j hj => by
      simp only [World.cell?, hh]
      rw [Array.getElem?_eq_getElem (by omega)]; rfl
    have hfz : ∀ j, j < L.length + 1 → w.frozen? ⟨M.b, j, none⟩ = false := fun j hj => by simp [World.frozen?, hh]
    refine (ins_room M.b L.length M.cap i K.b 0 K.cap _ (.int .i32 x) w hi hroom (by unfold maxLen at hm; omega) hKM hcl hcs hsp hfz hkx hone rfl 21 21 kc.size cur.size (shape_cells hkh) (shape_cells hh) (by omega) ?_ ?_).mono ?_
    · simp [World.frozen?, hkh]
    · simp [World.frozen?, hkh]
    · rintro e w' ⟨rfl, rfl⟩
      obtain ⟨⟨c1, a1, a2, a3⟩, a4, a5, a6, a7, a8⟩ := heap_setCells M.b ((L.map (Value.int .i32)).drop i) (i + 1) w.drew (c := cur) hh
      obtain ⟨⟨c2, b1, b2, b3⟩, b4, b5, b6, b7, b8⟩ := heap_setCells M.b [Value.int .i32 x] i _ a1
      have hR' := hR.grow (.drew w)
      have hown' : ((w.drew.setCells M.b (i + 1) ((L.map (Value.int .i32)).drop i)).setCells M.b i [Value.int .i32 x]).ownsRow 0 21 1 (slv (some M) (L.length + 1)) (L.length + 1) ((insL L i x).map (Value.int .i32)) := by
        refine ⟨by simp [hil], .inr ⟨M.b, M.cap, c2, rfl, Nat.zero_le _, b1, hroom, hm, by omega, ?_⟩⟩
        apply List.ext_getElem?
        intro j
        by_cases hj : j < L.length + 1
        · rw [List.getElem?_take_of_lt (by omega), Array.getElem?_toList, b3 j (by omega), ins_get L i x (by omega) j hj]
          by_cases h1 : j < i
          · rw [if_neg (by omega), if_pos h1, a3 j (by omega), if_neg (by omega)]
            have : j < (L.map (Value.int .i32)).length := by simp; omega
            rw [hcur j _ (List.getElem?_eq_getElem this), List.getElem?_eq_getElem this]
          · rw [if_neg h1]
            by_cases h2 : j = i
            · subst h2; rw [if_pos (by simp), if_pos rfl]; simp
            · rw [if_neg h2, if_neg (by simp; omega), a3 j (by omega), if_pos (by omega), List.getElem?_drop, show i + (j - (i + 1)) = j - 1 by omega]
        · rw [List.getElem?_eq_none (by simp; omega), List.getElem?_eq_none (by simp [hil]; omega)]
      have hfin := hR'.turn (w' := (w.drew.setCells M.b (i + 1) ((L.map (Value.int .i32)).drop i)).setCells M.b i [Value.int .i32 x]) hg (o := .arr 21 1 ((insL L i x).map I32)) (b6.trans a6) (b7.trans a7) (b8.trans a8) (b5.trans a5)
        (fun k hk => (b4 k hk).trans (a4 k hk)) ⟨L.length + 1, _, hown', reps_i32 _, hone', by omega, fun L' hL' => by simp at hL'; subst hL'; exact hM0⟩ hMb.2.2
        (fun r hr e => by
          rcases hMb.2.2 with h3 | ⟨_, h3⟩
          · have := hMb.2.1; omega
          · exact absurd e (h3 r hr)) (fun q => by cases q)
      refine ⟨_, _, _, rfl, hfin, ?_⟩
      have := Rep.ref (w := (w.drew.setCells M.b (i + 1) ((L.map (Value.int .i32)).drop i)).setCells M.b i [Value.int .i32 x]) (F := F) (off := 0) (len := L.length + 1) (cap := M.cap) hg (fun _ => rfl) hroom
      rw [hM0] at this
      exact this
  · refine (ins_grow M.b L.length M.cap i K.b 0 K.cap _ (.int .i32 x) w hi hn (by omega) (by omega) hcl hcs hkx hone rfl).mono ?_
    rintro e w' ⟨rfl, rfl⟩
    have hG1 := grownCap_ge w (L.length + 1) M.cap 21
    have hG2 := grownCap_le_maxLen w (L.length + 1) M.cap 21 (by unfold maxLen; omega)
    generalize hGG : grownCap w (L.length + 1) M.cap 21 = GG at *
    have hROWsz : (((L.map (Value.int .i32)).take i).toArray ++ Builtin.zeroCells (Value.int .i32 0).cells (L.length + 1 - i) ++ Builtin.zeroCells (Value.int .i32 0).cells (GG - (L.length + 1))).size = GG := by
      simp [Builtin.zeroCells, Value.cells]; omega
    have hROWlt : ∀ (j : Nat), j < i → (((L.map (Value.int .i32)).take i).toArray ++ Builtin.zeroCells (Value.int .i32 0).cells (L.length + 1 - i) ++ Builtin.zeroCells (Value.int .i32 0).cells (GG - (L.length + 1)))[j]? = (L.map (Value.int .i32))[j]? := by
      intro j hj
      rw [Array.append_assoc, Array.getElem?_append_left (by simp; omega)]
      simp only [List.getElem?_toArray]
      rw [List.getElem?_take_of_lt hj]
    generalize (((L.map (Value.int .i32)).take i).toArray ++ Builtin.zeroCells (Value.int .i32 0).cells (L.length + 1 - i) ++ Builtin.zeroCells (Value.int .i32 0).cells (GG - (L.length + 1))) = ROW at *
    have hnew : ((w.alloc (.cells ROW 21)).drew).heap[w.heap.size]? = some (.cells ROW 21 (0, 0)) := by
      have := heap_new w (.cells ROW 21)
      exact this
    obtain ⟨⟨c1, a1, a2, a3⟩, a4, a5, a6, a7, a8⟩ := heap_setCells w.heap.size [Value.int .i32 x] i _ hnew
    obtain ⟨⟨c2, b1, b2, b3⟩, b4, b5, b6, b7, b8⟩ := heap_setCells w.heap.size ((L.map (Value.int .i32)).drop i) (i + 1) (((w.alloc (.cells ROW 21)).drew.setCells w.heap.size i [Value.int .i32 x]).drew) (c := c1) a1
    have hsize : (w.alloc (.cells ROW 21)).heap.size = w.heap.size + 1 := by simp
    have hgrow : Grow w ((((w.alloc (.cells ROW 21)).drew.setCells w.heap.size i [Value.int .i32 x]).drew).setCells w.heap.size (i + 1) ((L.map (Value.int .i32)).drop i)) := by
      refine ⟨b6.trans a6, b7.trans a7, b8.trans a8, ?_, fun k hk => ?_⟩
      · rw [b5]
        show w.heap.size ≤ ((w.alloc (.cells ROW 21)).drew.setCells w.heap.size i [Value.int .i32 x]).heap.size
        rw [a5]
        show w.heap.size ≤ (w.alloc (.cells ROW 21)).heap.size
        omega
      · rw [b4 k (by omega)]
        show ((w.alloc (.cells ROW 21)).drew.setCells w.heap.size i [Value.int .i32 x]).heap[k]? = _
        rw [a4 k (by omega)]
        exact (Grow.alloc w (.cells ROW 21)).block k hk
    have hsz2' : w.heap.size < ((((w.alloc (.cells ROW 21)).drew.setCells w.heap.size i [Value.int .i32 x]).drew).setCells w.heap.size (i + 1) ((L.map (Value.int .i32)).drop i)).heap.size := by
      rw [b5]
      show w.heap.size < ((w.alloc (.cells ROW 21)).drew.setCells w.heap.size i [Value.int .i32 x]).heap.size
      rw [a5]
      show w.heap.size < (w.alloc (.cells ROW 21)).heap.size
      omega
    generalize ((((w.alloc (.cells ROW 21)).drew.setCells w.heap.size i [Value.int .i32 x]).drew).setCells w.heap.size (i + 1) ((L.map (Value.int .i32)).drop i)) = w' at *
    have hown' : w'.ownsRow 0 21 1 (slv (some ⟨w.heap.size, 0, GG⟩) (L.length + 1)) (L.length + 1) ((insL L i x).map (Value.int .i32)) := by
      refine ⟨by simp [hil], .inr ⟨w.heap.size, GG, c2, rfl, Nat.zero_le _, b1, hG1, hG2, by omega, ?_⟩⟩
      apply List.ext_getElem?
      intro j
      by_cases hj : j < L.length + 1
      · rw [List.getElem?_take_of_lt (by omega), Array.getElem?_toList, b3 j (by omega), ins_get L i x (by omega) j hj]
        by_cases h1 : j < i
        · rw [if_neg (by omega), if_pos h1, a3 j (by omega), if_neg (by omega)]
          exact hROWlt j h1
        · rw [if_neg h1]
          by_cases h2 : j = i
          · subst h2; rw [if_neg (by omega), if_pos rfl, a3 j (by omega), if_pos (by simp)]; simp
          · rw [if_neg h2, if_pos (by omega), List.getElem?_drop, show i + (j - (i + 1)) = j - 1 by omega]
      · rw [List.getElem?_eq_none (by simp; omega), List.getElem?_eq_none (by simp [hil]; omega)]
    have hgl : 0 < (g ++ [none]).length := by simp
    have hren := hR.renew hg (o := .arr 21 1 ((insL L i x).map I32)) (g' := some ⟨w.heap.size, 0, GG⟩) hgrow ⟨L.length + 1, _, hown', reps_i32 _, hone', by omega, fun L' hL' => by simp at hL'; subst hL'; rfl⟩
      (fun L' hL' => by simp at hL'; subst hL'; exact ⟨Nat.le_refl _, hsz2'⟩) rfl (by intro q; cases q)
    refine ⟨_, _, _, rfl, hren, ?_⟩
    have hnw : ((g ++ [none]).set 0 (some ⟨w.heap.size, 0, GG⟩))[0]? = some (some ⟨w.heap.size, 0, GG⟩) := by simp
    exact Rep.ref (w := w') (F := F) (off := 0) (len := L.length + 1) (cap := GG) hnw (fun _ => rfl) hG1

set_option maxRecDepth 20000 in
theorem insert_end (L : List Int) (x : Int) (hL : L.length ≤ 1000000000) :
    SpecL Try.prog 31 [.arr 21 1 (L.map I32), .arr 21 1 [I32 x]] [.ref 0 0 L.length, I64 L.length, .ref 1 0 1] [.arr 21 1 ((insL L L.length x).map I32), .arr 21 1 [I32 x], .fence] (.ref 0 0 (L.length + 1)) := by
  have e : insL L L.length x = L ++ [x] := by simp [insL]
  rw [e]
  refine specL_mk (ts := [.tmp 6]) ok1 Try.func31 rfl rfl (by decide +kernel) (by simp [Try.ntmps31]) rfl ?_
  repeat' first | simp (maxSteps := 4000000) (disch := omega) only [base, baseX, Option.getD_some, ↓WG_true, ↓WG_false, labelOf, findLabel, Option.isSome_some, Option.isSome_none, dstOf, get, put, putD, List.getElem?_cons_zero, List.getElem?_cons_succ, Option.bind_some, Nat.reduceEqDiff, ↓reduceIte, importS, imp, imps, shift, shifts, List.map_nil, List.map_cons, List.nil_append, List.append_nil, List.cons_append, List.length_nil, List.length_cons, true_and, and_true, TI.agg, Option.map_some, Option.map_none, pushS, obj, setOb, killT, killM, killO, cond_true, cond_false, beq_self_eq_true, Nat.reduceBEq, killCs, hasId, hasIds, List.drop_zero, List.take_succ_cons, List.take_zero, List.take_nil, List.drop_succ_cons, Nat.mul_one, Nat.one_mul, Nat.add_zero, Nat.zero_add, Nat.zero_mul, Int.toNat_natCast, Int.toNat_zero, Int.toNat_one, List.length_map, List.length_drop, List.length_append, Nat.reduceAdd, Nat.reduceMul, Nat.reduceSub, Nat.reduceLeDiff, Nat.lt_add_one, Nat.zero_lt_succ, Nat.succ_pos, decide_true, decide_false, Bool.and_true, Bool.true_and, Bool.and_false, Bool.false_and, Bool.or_true, Bool.true_or, Bool.or_false, Bool.false_or, Bool.not_true, Bool.not_false, beq_iff_eq, List.contains_nil, initT, List.all_cons, List.all_nil, List.toList_toArray, Int.ofNat_zero, reduceCtorEq, Int.reduceNe, Int.reduceLE, Int.reduceEq, ne_eq, not_false_eq_true, Int.reducePow, Int.toNat_of_nonneg, Int.reduceAdd, Int.reduceSub, Int.reduceMul, I32, I64, Bv, U8, Sv, unown, unowns, names, namess, Bool.or_self, Bool.true_beq, Bool.false_beq, plainR, plainRs, Int.cast_ofNat_Int, Int.reduceBEq, Int.reduceLT, Int.reduceGT, Int.reduceGE, Int.reduceBNe, List.append_eq, below, belows, List.all_toArray, LR_eq, retQL_ret, retQL_normal, expL_none, expL_one, expL_many, wkM_nil, wkM_cons, noF, isF, nodupN, lendObs, lendOb, kindsOk, kindOk, rens, ren, renF, givL, killTs, killMs, updM, backO, renO, List.contains_cons, belowM, PR_done, PR_take, PR_one, PR_two, OO_some, TO_some, take_move, take_assign, take_binOp, take_pick, take_unOp, take_index, take_slice0, take_slice1, take_slice2, take_slice3, kpl_eq, plain1_v, false_or, or_true, true_or, or_false, List.map_append, C1_ti3, C1_td3, C1_fit3, C1_ti4, C1_td4, C1_fit4, C1_ti21, C1_td21, C1_fit21, C1_ti29, C1_td29, Int.tdiv_eq_ediv_of_nonneg, Int.tmod_eq_emod_of_nonneg, Int.fdiv_eq_ediv_of_nonneg] | refine DR_q _ ?_ | ((first | refine WG_mk (fun hg => ?_) (fun hg => ?_) | refine CD_mk (fun hg => ?_) (fun hg => ?_) | refine GD_mk (fun hg => ?_) (fun hg => ?_) | refine GQ_mk (fun hg => ?_) (fun hg => ?_) | refine PK_mk (fun hg => ?_) (fun hg => ?_)) <;> (try simp only [hg]) <;> (try simp only [decide_eq_true_eq, decide_eq_false_iff_not, Bool.not_eq_true', Bool.not_eq_false', Bool.not_eq_true, Bool.not_eq_false, Bool.and_eq_true, Bool.or_eq_true, Bool.and_eq_false_iff, Bool.or_eq_false_iff, beq_iff_eq, bne_iff_ne, ne_eq, beq_eq_false_iff_ne, bne_eq_false_iff_eq] at hg) <;> first | (exfalso; omega) | (exfalso; exact Bool.noConfusion hg) | (exfalso; exact hg trivial) | skip) | refine And.intro (by omega) ?_ | omega
  all_goals simp

theorem insert_spec (L : List Int) (i : Nat) (x : Int) (hi : i ≤ L.length) (hL : L.length ≤ 1000000000) :
    SpecL Try.prog 31 [.arr 21 1 (L.map I32), .arr 21 1 [I32 x]] [.ref 0 0 L.length, I64 i, .ref 1 0 1] [.arr 21 1 ((insL L i x).map I32), .arr 21 1 [I32 x], .fence] (.ref 0 0 (L.length + 1)) := by
  rcases Nat.lt_or_ge i L.length with h | h
  · exact insert_mid L i x h hL
  · have e : i = L.length := by omega
    subst e
    exact insert_end L x hL
end Go.AE
end
