/- Contracts of functions that the laws of this seat reach, and plain laws of what they compute. No condition beyond each statement's own. -/
import Derived.Test.YtfafkcnoinnokaaXR
import Derived.Test.YtfafkcnoinnokaaXP
import Derived.Shelf.Abstract
set_option linter.unusedVariables false
set_option linter.unusedSimpArgs false
section
/- The last direction: bidi.End, a loop over characters from the back. -/
namespace Go.AE
open Go.Proofs
set_option maxRecDepth 20000
set_option linter.unusedSimpArgs false
theorem bkL_snd (L : List Int) : (bkL L).map Prod.snd = L.reverse := by
  refine List.ext_getElem (by simp [bkL]) fun i h1 h2 => ?_
  simp only [bkL, List.map_map, List.getElem_map, List.getElem_range, Function.comp, List.getElem_reverse, List.getD]
  simp at h2
  rw [List.getElem?_eq_getElem (by omega)]
  rfl
theorem cells_int (k : IntKind) (n : Int) : (Value.int k n).cells = [Value.int k n].toArray := rfl
theorem backward_spec (L : List Int) : Spec Try.prog 25 [.sl L.length (L.map I32)] (.fn 28 [] [.cp [.sl L.length (L.map I32)]]) := by
  refine spec_mk (z := true) (ts := [.tmp 2]) ok1 Try.func25 rfl rfl (by decide +kernel) (by simp [Try.ntmps25]) rfl ?_
  repeat' first | simp (maxSteps := 4000000) (disch := omega) only [base, baseX, Option.getD_some, ↓WG_true, ↓WG_false, labelOf, findLabel, Option.isSome_some, Option.isSome_none, dstOf, get, put, putD, List.getElem?_cons_zero, List.getElem?_cons_succ, Option.bind_some, Nat.reduceEqDiff, ↓reduceIte, importS, imp, imps, shift, shifts, List.map_nil, List.map_cons, List.nil_append, List.append_nil, List.cons_append, List.length_nil, List.length_cons, true_and, and_true, TI.agg, Option.map_some, Option.map_none, pushS, obj, setOb, killT, killM, killO, cond_true, cond_false, beq_self_eq_true, Nat.reduceBEq, killCs, hasId, hasIds, List.drop_zero, List.take_succ_cons, List.take_zero, List.take_nil, List.drop_succ_cons, Nat.mul_one, Nat.one_mul, Nat.add_zero, Nat.zero_add, Nat.zero_mul, Int.toNat_natCast, Int.toNat_zero, Int.toNat_one, List.length_map, List.length_drop, List.length_append, Nat.reduceAdd, Nat.reduceMul, Nat.reduceSub, Nat.reduceLeDiff, Nat.lt_add_one, Nat.zero_lt_succ, Nat.succ_pos, decide_true, decide_false, Bool.and_true, Bool.true_and, Bool.and_false, Bool.false_and, Bool.or_true, Bool.true_or, Bool.or_false, Bool.false_or, Bool.not_true, Bool.not_false, beq_iff_eq, List.contains_nil, initT, List.all_cons, List.all_nil, List.toList_toArray, Int.ofNat_zero, reduceCtorEq, Int.reduceNe, Int.reduceLE, Int.reduceEq, ne_eq, not_false_eq_true, Int.reducePow, Int.toNat_of_nonneg, Int.reduceAdd, Int.reduceSub, Int.reduceMul, I32, I64, Bv, U8, Sv, unown, unowns, names, namess, Bool.or_self, Bool.true_beq, Bool.false_beq, plainR, plainRs, Int.cast_ofNat_Int, Int.reduceBEq, Int.reduceLT, Int.reduceGT, Int.reduceGE, Int.reduceBNe, List.append_eq, below, belows, List.all_toArray, C1_ti21, C1_td21, C1_fit21, C1_ti22, C1_td22, C1_ti52, C1_td52, C1_ti53, C1_td53, Int.tdiv_eq_ediv_of_nonneg, Int.tmod_eq_emod_of_nonneg, Int.fdiv_eq_ediv_of_nonneg, nth_drop, nth_i32, tab, tabC] | ((first | refine WG_mk (fun hg => ?_) (fun hg => ?_) | refine CD_mk (fun hg => ?_) (fun hg => ?_) | refine GD_mk (fun hg => ?_) (fun hg => ?_) | refine GQ_mk (fun hg => ?_) (fun hg => ?_) | refine PK_mk (fun hg => ?_) (fun hg => ?_)) <;> (try simp only [hg]) <;> (try simp only [decide_eq_true_eq, decide_eq_false_iff_not, Bool.not_eq_true', Bool.not_eq_false', Bool.not_eq_true, Bool.not_eq_false, Bool.and_eq_true, Bool.or_eq_true, Bool.and_eq_false_iff, Bool.or_eq_false_iff, beq_iff_eq, bne_iff_ne, ne_eq, beq_eq_false_iff_ne, bne_eq_false_iff_eq] at hg) <;> first | (exfalso; omega) | (exfalso; exact Bool.noConfusion hg) | (exfalso; exact hg trivial) | skip) | refine And.intro (by omega) ?_ | omega
/-- What a loop leaves behind that was left by a return. -/
def BLeft (w2 : World) (b o : Nat) (v : Value) (W : World) : Prop :=
  W.os = w2.os ∧ W.tape = w2.tape ∧ W.output = w2.output ∧ w2.heap.size ≤ W.heap.size ∧ (∀ k, k < w2.heap.size → k ≠ b → W.heap[k]? = w2.heap[k]?) ∧ RowAt W b o [v]
theorem bleft_own {β : Type} {w2 : World} {b o : Nat} {v : β → Value} (hb : b < w2.heap.size) : OwnFrom w2.heap.size (fun (s : β) W => BLeft w2 b o (v s) W) := by
  rintro s A B row ⟨h1, h2, h3, h4, h5, h6⟩ hg hr
  have hk : ∀ k, k < w2.heap.size → B.heap[k]? = A.heap[k]? := fun k hk => hg.block k (by omega) (fun e => by have := (hr k e.symm).1; omega)
  exact ⟨hg.os.trans h1, hg.tape.trans h2, hg.output.trans h3, Nat.le_trans h4 hg.size, fun k hk' hne => (hk k hk').trans (h5 k hk' hne), h6.keepAt (hk b hb)⟩
theorem end_spec (L : List Int) (hL : L.length ≤ 1000) : Spec Try.prog 14 [tab, .sl L.length (L.map I32)] (I64 (lastB L)) := by
  skip
  refine ⟨⟨_, Try.func14, rfl, by decide +kernel⟩, fun w F vs hF hr => ?_⟩
  refine (callsIn_wide (n := 10)).1 ?_
  show CallsIn (fr none) 10 _ _ _ _ _
  refine callsIn_of_wp_marks Try.func14 rfl trivial ?_
  rw [show Try.f14.ntmps = 18 from Try.ntmps14]
  have hrel := rel_init (N := 18) (ds := []) hF hr (by simp)
  refine wpIn_seq (wpIn_mono (awpR_sound none 10 ok1 _ (Q := endQ (fun s => wk s ⟨[(1, .sl L.length (L.map I32)), (2, .ptr 0 0), (4, .ptr 1 0)], [.row true 1 (tabC (sM 42) (pM 42)), .row true 1 [I64 0]]⟩) (fun _ _ => False) (fun _ => False)) rfl (by decide) hrel (AW.out ?_)) ?_)
  · repeat' first | simp (maxSteps := 4000000) (disch := omega) only [base, baseX, Option.getD_some, ↓WG_true, ↓WG_false, labelOf, findLabel, Option.isSome_some, Option.isSome_none, dstOf, get, put, putD, List.getElem?_cons_zero, List.getElem?_cons_succ, Option.bind_some, Nat.reduceEqDiff, ↓reduceIte, importS, imp, imps, shift, shifts, List.map_nil, List.map_cons, List.nil_append, List.append_nil, List.cons_append, List.length_nil, List.length_cons, true_and, and_true, TI.agg, Option.map_some, Option.map_none, pushS, obj, setOb, killT, killM, killO, cond_true, cond_false, beq_self_eq_true, Nat.reduceBEq, killCs, hasId, hasIds, List.drop_zero, List.take_succ_cons, List.take_zero, List.take_nil, List.drop_succ_cons, Nat.mul_one, Nat.one_mul, Nat.add_zero, Nat.zero_add, Nat.zero_mul, Int.toNat_natCast, Int.toNat_zero, Int.toNat_one, List.length_map, List.length_drop, List.length_append, Nat.reduceAdd, Nat.reduceMul, Nat.reduceSub, Nat.reduceLeDiff, Nat.lt_add_one, Nat.zero_lt_succ, Nat.succ_pos, decide_true, decide_false, Bool.and_true, Bool.true_and, Bool.and_false, Bool.false_and, Bool.or_true, Bool.true_or, Bool.or_false, Bool.false_or, Bool.not_true, Bool.not_false, beq_iff_eq, List.contains_nil, initT, List.all_cons, List.all_nil, List.toList_toArray, Int.ofNat_zero, reduceCtorEq, Int.reduceNe, Int.reduceLE, Int.reduceEq, ne_eq, not_false_eq_true, Int.reducePow, Int.toNat_of_nonneg, Int.reduceAdd, Int.reduceSub, Int.reduceMul, I32, I64, Bv, U8, Sv, unown, unowns, names, namess, Bool.or_self, Bool.true_beq, Bool.false_beq, plainR, plainRs, Int.cast_ofNat_Int, Int.reduceBEq, Int.reduceLT, Int.reduceGT, Int.reduceGE, Int.reduceBNe, List.append_eq, below, belows, List.all_toArray, endQ_normal, cells_int, C1_ti3, C1_td3, C1_fit3, C1_ti4, C1_td4, C1_fit4, C1_ti21, C1_td21, C1_fit21, C1_ti22, C1_td22, C1_ti24, C1_td24, C1_ti25, C1_td25, C1_ti26, C1_td26, C1_ti27, C1_td27, C1_ti28, C1_td28, C1_ti30, C1_td30, C1_fld30_0, C1_fld30_1, C1_fld30_2, C1_fld30_3, C1_fld30_4, C1_ti46, C1_td46, C1_fld46_0, C1_fld46_1, C1_fld46_2, C1_fld46_3, C1_fld46_4, C1_fit46, C1_ti48, C1_td48, C1_fld48_0, C1_fld48_1, C1_fit48, C1_ti53, C1_td53, C1_ti56, C1_td56, C1_fld56_0, C1_fld56_1, C1_fld56_2, C1_fld56_3, C1_fld56_4, C1_fld56_5, C1_fit56, C1_ti59, C1_td59, C1_fld59_0, C1_fld59_1, C1_fld59_2, C1_fld59_3, C1_fit59, C1_ti61, C1_td61, C1_fld61_0, C1_fld61_1, C1_fld61_2, C1_fit61, Int.tdiv_eq_ediv_of_nonneg, Int.tmod_eq_emod_of_nonneg, Int.fdiv_eq_ediv_of_nonneg, nth_drop, nth_i32, tab, tabC] | ((first | refine WG_mk (fun hg => ?_) (fun hg => ?_) | refine CD_mk (fun hg => ?_) (fun hg => ?_) | refine GD_mk (fun hg => ?_) (fun hg => ?_) | refine GQ_mk (fun hg => ?_) (fun hg => ?_) | refine PK_mk (fun hg => ?_) (fun hg => ?_)) <;> (try simp only [hg]) <;> (try simp only [decide_eq_true_eq, decide_eq_false_iff_not, Bool.not_eq_true', Bool.not_eq_false', Bool.not_eq_true, Bool.not_eq_false, Bool.and_eq_true, Bool.or_eq_true, Bool.and_eq_false_iff, Bool.or_eq_false_iff, beq_iff_eq, bne_iff_ne, ne_eq, beq_eq_false_iff_ne, bne_eq_false_iff_eq] at hg) <;> first | (exfalso; omega) | (exfalso; exact Bool.noConfusion hg) | (exfalso; exact hg trivial) | skip) | refine And.intro (by omega) ?_ | omega
    (simp (disch := omega) [wk, wkT, wkM, get, belowT, belowM, below, belows, I64, I32, Bv, U8, Sv, tab, tabC, Value.cells, Value.oneCell'] <;> try omega)
  rintro e1 a1 w1 ⟨s1, G1, F1, hq1, h1⟩
  cases e1 with
  | normal =>
    have h1' := h1.weak hq1
    refine wpIn_seq (wpIn_seq (wpIn_mono (awpR_sound none 10 ok1 _ (Q := endQ (fun s => wk s ⟨[(2, .ptr 0 0), (4, .ptr 1 0), (9, .fn 28 [] [.cp [.sl L.length (L.map I32)]])], [.row true 1 (tabC (sM 42) (pM 42)), .row true 1 [I64 0]]⟩) (fun _ _ => False) (fun _ => False)) rfl (by decide) h1' (AW.out ?_)) ?_))
    · repeat' first | refine WE_fit (backward_spec L) ?_ ?_ | simp (maxSteps := 4000000) (disch := omega) only [base, baseX, Option.getD_some, ↓WG_true, ↓WG_false, labelOf, findLabel, Option.isSome_some, Option.isSome_none, dstOf, get, put, putD, List.getElem?_cons_zero, List.getElem?_cons_succ, Option.bind_some, Nat.reduceEqDiff, ↓reduceIte, importS, imp, imps, shift, shifts, List.map_nil, List.map_cons, List.nil_append, List.append_nil, List.cons_append, List.length_nil, List.length_cons, true_and, and_true, TI.agg, Option.map_some, Option.map_none, pushS, obj, setOb, killT, killM, killO, cond_true, cond_false, beq_self_eq_true, Nat.reduceBEq, killCs, hasId, hasIds, List.drop_zero, List.take_succ_cons, List.take_zero, List.take_nil, List.drop_succ_cons, Nat.mul_one, Nat.one_mul, Nat.add_zero, Nat.zero_add, Nat.zero_mul, Int.toNat_natCast, Int.toNat_zero, Int.toNat_one, List.length_map, List.length_drop, List.length_append, Nat.reduceAdd, Nat.reduceMul, Nat.reduceSub, Nat.reduceLeDiff, Nat.lt_add_one, Nat.zero_lt_succ, Nat.succ_pos, decide_true, decide_false, Bool.and_true, Bool.true_and, Bool.and_false, Bool.false_and, Bool.or_true, Bool.true_or, Bool.or_false, Bool.false_or, Bool.not_true, Bool.not_false, beq_iff_eq, List.contains_nil, initT, List.all_cons, List.all_nil, List.toList_toArray, Int.ofNat_zero, reduceCtorEq, Int.reduceNe, Int.reduceLE, Int.reduceEq, ne_eq, not_false_eq_true, Int.reducePow, Int.toNat_of_nonneg, Int.reduceAdd, Int.reduceSub, Int.reduceMul, I32, I64, Bv, U8, Sv, unown, unowns, names, namess, Bool.or_self, Bool.true_beq, Bool.false_beq, plainR, plainRs, Int.cast_ofNat_Int, Int.reduceBEq, Int.reduceLT, Int.reduceGT, Int.reduceGE, Int.reduceBNe, List.append_eq, below, belows, List.all_toArray, endQ_normal, C1_ti3, C1_td3, C1_fit3, C1_ti4, C1_td4, C1_fit4, C1_ti21, C1_td21, C1_fit21, C1_ti22, C1_td22, C1_ti24, C1_td24, C1_ti25, C1_td25, C1_ti26, C1_td26, C1_ti27, C1_td27, C1_ti28, C1_td28, C1_ti30, C1_td30, C1_fld30_0, C1_fld30_1, C1_fld30_2, C1_fld30_3, C1_fld30_4, C1_ti46, C1_td46, C1_fld46_0, C1_fld46_1, C1_fld46_2, C1_fld46_3, C1_fld46_4, C1_fit46, C1_ti48, C1_td48, C1_fld48_0, C1_fld48_1, C1_fit48, C1_ti53, C1_td53, C1_ti56, C1_td56, C1_fld56_0, C1_fld56_1, C1_fld56_2, C1_fld56_3, C1_fld56_4, C1_fld56_5, C1_fit56, C1_ti59, C1_td59, C1_fld59_0, C1_fld59_1, C1_fld59_2, C1_fld59_3, C1_fit59, C1_ti61, C1_td61, C1_fld61_0, C1_fld61_1, C1_fld61_2, C1_fit61, Int.tdiv_eq_ediv_of_nonneg, Int.tmod_eq_emod_of_nonneg, Int.fdiv_eq_ediv_of_nonneg, nth_drop, nth_i32, tab, tabC] | exact NK_no _ | refine NK_cl _ _ ?_ | exact clean_v _ | exact clean_u8 _ _ _ _ | exact clean_i32 _ _ _ _ | exact clean_str _ _ _ _ | refine clean_tup _ ?_ | refine clean_ag _ ?_ | exact cleans_nil | refine cleans_cons _ _ ?_ ?_ | ((first | refine WG_mk (fun hg => ?_) (fun hg => ?_) | refine CD_mk (fun hg => ?_) (fun hg => ?_) | refine GD_mk (fun hg => ?_) (fun hg => ?_) | refine GQ_mk (fun hg => ?_) (fun hg => ?_) | refine PK_mk (fun hg => ?_) (fun hg => ?_)) <;> (try simp only [hg]) <;> (try simp only [decide_eq_true_eq, decide_eq_false_iff_not, Bool.not_eq_true', Bool.not_eq_false', Bool.not_eq_true, Bool.not_eq_false, Bool.and_eq_true, Bool.or_eq_true, Bool.and_eq_false_iff, Bool.or_eq_false_iff, beq_iff_eq, bne_iff_ne, ne_eq, beq_eq_false_iff_ne, bne_eq_false_iff_eq] at hg) <;> first | (exfalso; omega) | (exfalso; exact Bool.noConfusion hg) | (exfalso; exact hg trivial) | skip) | refine And.intro (by omega) ?_ | omega
      all_goals first
        | ((simp (disch := omega) [wk, wkT, wkM, get, belowT, belowM, below, belows, I64, I32, Bv, U8, Sv, tab, tabC, Value.cells, Value.oneCell'] <;> try omega); done)
        | rfl
    rintro e2 a2 w2 ⟨s2, G2, F2, hq2, h2⟩
    cases e2 with
    | normal =>
      have h3 := h2.weak hq2
      obtain ⟨G, hG⟩ : ∃ G, G2.take 2 = G := ⟨_, rfl⟩
      simp only [List.length_cons, List.length_nil, Nat.zero_add, Nat.reduceAdd] at h3
      rw [hG] at h3
      -- the result's cell
      obtain ⟨L1, hL1, hp4⟩ := (show Rep w2 F2 G (.ptr 1 0) (a2.tmps.getD 4 undef) from h3.tm 4).ptr_inv
      rw [Nat.add_zero] at hp4
      obtain ⟨L1', vs1, e1, hrow, hrs⟩ := (show ObRel w2 F2 G (some L1) (.row true 1 [I64 0]) from h3.ob 1 _ hL1)
      cases e1
      obtain ⟨hL1F, hL1w, hL1p⟩ := h3.live 1 L1 hL1
      have hL1n : w.heap.size ≤ L1.b := by
        rcases (show _ ∨ _ from hL1p) with h | h
        · exact h
        · simp at h
      have hvs : vs1 = [.int .i64 0] := by
        cases hrs with
        | cons h h' => cases h'; cases h; rfl
      subst hvs
      -- the iterator
      obtain ⟨p, h9, hp⟩ : ∃ p, a2.tmps.getD 9 undef = .func (.func 28) #[] #[p] ∧ Rep w2 F2 [] (.cp [.sl L.length (L.map I32)]) p := by
        have h := fz_noname h3 rfl (show Rep w2 F2 G (.fn 28 [] [.cp [.sl L.length (L.map I32)]]) (a2.tmps.getD 9 undef) from h3.tm 9)
        simp only [fz, fzs] at h
        cases hv : a2.tmps.getD 9 undef <;> rw [hv] at h <;> cases h
        rename_i h1 h2
        cases h1
        cases h2 with
        | cons h2 h4 => cases h4; exact ⟨_, rfl, h2⟩
      -- the table, to be read
      have h5 := h3.weak (s' := ⟨[(2, .ptr 0 0)], [.row true 1 (tabC (sM 42) (pM 42))]⟩) (by (simp (disch := omega) [wk, wkT, wkM, get, belowT, belowM, below, belows, I64, I32, Bv, U8, Sv, tab, tabC] <;> try omega))
      simp only [List.length_cons, List.length_nil, Nat.zero_add, Nat.reduceAdd] at h5
      have htb := fz_sound h5 (show Rep w2 F2 (G.take 1) (.ptr 0 0) (a2.tmps.getD 2 undef) from h5.tm 2)
      simp only [fz, obj, tabC, List.map_cons, List.map_nil, fz1, List.drop_zero] at htb
      obtain ⟨FR, hFR⟩ : ∃ FR, Lent F2 (G.take 1) = FR := ⟨_, rfl⟩
      rw [hFR] at htb
      have hFRw : ∀ b, FR b → b < w2.heap.size := by
        intro b hb
        rw [← hFR] at hb
        rcases hb with hb | ⟨id, M, hM, rfl⟩
        · exact (h3.fb b hb).1
        · exact (h5.live id M hM).2.1
      have hF2w : ∀ b, F2 b → b < w2.heap.size := fun b hb => (h3.fb b hb).1
      have hgr2 := h3.grown
      have hd2 : a2.defers = [] := h3.defers
      -- the end of the function
      have fin : ∀ (v : Int) (D : Nat) (W : World), v = lastB L → w2.heap.size ≤ D → BLeft w2 L1.b L1.o (.int .i64 v) W → W.heap[D]? = some (.deferred (some [])) →
          LeavesInM (fr none) 10 Try.prog Try.f14 a2.tmps (Post w F (I64 (lastB L))) ({ target := .collected D, args := #[] } :: a2.defers) .returning W := by
        rintro v D W rfl hD ⟨b1, b2, b3, b4, b5, b6⟩ hK
        refine ⟨by simp, .inl ⟨D, _, rfl, run_takeDeferred hK, ?_⟩⟩
        rw [hd2]
        have hDl : D < W.heap.size := (Array.getElem?_eq_some_iff.1 hK).1
        have hne : L1.b ≠ D := by omega
        have h6 : RowAt (W.putObj D (.deferred none)) L1.b L1.o [.int .i64 (lastB L)] := b6.keepAt (World.putObj_heap_other hne)
        refine ⟨_, results_cell ok1 C1_ti3 rfl rfl hp4 h6, ?_⟩
        have hg := grownBy_putObj' W D (.deferred none)
        refine ⟨_, F, [], rfl, ⟨hg.os.trans (b1.trans hgr2.os), hg.tape.trans (b2.trans hgr2.tape), hg.output.trans (b3.trans hgr2.output), Nat.le_trans hgr2.size (Nat.le_trans b4 hg.size), fun k hk => ?_⟩, fun _ h => h, fun b hb => ⟨.inl hb, ?_⟩, .v _, ⟨rfl, by simp, by simp, by simp⟩, by simp⟩
        · have h0 := hgr2.size
          exact (World.putObj_heap_other (by omega)).trans ((b5 k (by omega) (by omega)).trans (hgr2.block k hk))
        · have h0 := hF b hb
          have h1 := hgr2.size
          have h2 := hg.size
          omega
      have hbelow : ∀ {W : World}, RowKit.Below w2.heap.size w2 W → RowAt W L1.b L1.o [.int .i64 0] := fun hB => hrow.keepAt (hB.block _ hL1w)
      have hTm : ∀ x : Int × Int, ((#[10, 11].zip (encB x)).foldl (fun t (p, v) => t.setIfInBounds p v) a2.tmps).size = 18 ∧ ((#[10, 11].zip (encB x)).foldl (fun t (p, v) => t.setIfInBounds p v) a2.tmps).getD 2 undef = a2.tmps.getD 2 undef ∧
          ((#[10, 11].zip (encB x)).foldl (fun t (p, v) => t.setIfInBounds p v) a2.tmps).getD 4 undef = a2.tmps.getD 4 undef ∧ ((#[10, 11].zip (encB x)).foldl (fun t (p, v) => t.setIfInBounds p v) a2.tmps).getD 11 undef = .int .i32 x.2 := by
        intro x
        have hsz := h3.tsize
        have e : (#[10, 11].zip (encB x)).foldl (fun t (p, v) => t.setIfInBounds p v) a2.tmps = (a2.tmps.setIfInBounds 10 (.int .i64 x.1)).setIfInBounds 11 (.int .i32 x.2) := by
          simp [encB]
        rw [e]
        refine ⟨by simp [hsz], ?_, ?_, ?_⟩
        · simp [Array.getD_eq_getD_getElem?]
        · simp [Array.getD_eq_getD_getElem?]
        · simp [Array.getD_eq_getD_getElem?, hsz]
      refine wpIn_block (wpIn_rangeFunc_ownF (F := fr none) (n := 10) (w0 := w2) rfl (by decide) (gf := 28) (lb := #[p]) h9 trivial (enters_of Try.func28 (by kernel_rfl) rfl)
        (back_stops L hL 9 w2 F2 hF2w p hp) (fun h k b hb => (k b hb).trans (h b hb)) (fun W l o o' hl _ _ _ b hb => World.putObj_heap_other (by have := hF2w b hb; omega)) (RowKit.Below.refl _ _) (fun _ => rfl)
        (fun pre W => RowKit.Below w2.heap.size w2 W ∧ ∀ c ∈ pre, bidi c.2 = 6)
        (fun c pre W => c = .ret ∧ (∃ (q : List (Int × Int)) (x : Int × Int), pre = q ++ [x] ∧ (∀ c ∈ q, bidi c.2 = 6) ∧ bidi x.2 ≠ 6) ∧ BLeft w2 L1.b L1.o (.int .i64 (bidi ((pre.getLast?).getD (0, 0)).2)) W)
        (OwnFrom.and (ownFrom_below (Nat.le_refl _) (Nat.le_refl _)) (fun s W W' row hs _ _ => hs))
        (fun c => OwnFrom.and (fun s W W' row hs _ _ => hs) (OwnFrom.and (fun s W W' row hs _ _ => hs) (bleft_own hL1w)))
        ⟨RowKit.Below.refl _ _, by simp⟩ (fun x => ({ tmps := (#[10, 11].zip (encB x)).foldl (fun t (p, v) => t.setIfInBounds p v) a2.tmps, defers := [] } : Act).put (some 6) (.int .i32 x.2)) ?assign ?body ?done ?stop)
      case assign =>
        intro l x W K hK
        have hT := hTm x
        refine wpIn_region_lit (wpListIn_plain rfl fun K' hK' => ⟨fun _ _ => trivial, ?_⟩)
        rw [show ((fr none).inRound l) = fr (some l) from rfl, semAt_run (some l) _ _ (fun c e => by cases e)]
        have hv : (Act.eval ({ tmps := (#[10, 11].zip (encB x)).foldl (fun t (p, v) => t.setIfInBounds p v) a2.tmps, defers := [] } : Act) (.tmp 11)) = .int .i32 x.2 := hT.2.2.2
        simp only [execOp, hv]
        exact hK' _ _ hK
      case body =>
        rintro l pre x W ⟨hB, hpre⟩ hlen
        obtain ⟨q1, q2, q3, q4⟩ := hTm x
        obtain ⟨T, hT⟩ : ∃ T, (#[10, 11].zip (encB x)).foldl (fun t (p, v) => t.setIfInBounds p v) a2.tmps = T := ⟨_, rfl⟩
        rw [hT] at q1 q2 q3 q4 ⊢
        have hFRW : ∀ b, FR b → b < W.heap.size := fun b hb => Nat.lt_of_lt_of_le (hFRw b hb) hB.size
        have hsame : Same FR FR w2 W := ⟨fun _ h => h, fun b hb => hB.block b (hFRw b hb)⟩
        have hb0 : Rel 18 ⟨FR, [], [], []⟩ W ⟨[(2, .cp (tabC (sM 42) (pM 42))), (4, .v (.pointer (some ⟨L1.b, L1.o, none⟩)))], []⟩ [] FR { tmps := T, defers := [] } W := by
          refine rel_of (a := { tmps := T, defers := [] }) hFRW q1 fun k => ?_
          simp only [get]
          split
          · rename_i e; subst e; show Rep W FR [] _ (T.getD 2 undef); rw [q2]; exact Rep.mono hsame (GSub.nil _) htb
          split
          · rename_i e; subst e; show Rep W FR [] _ (T.getD 4 undef); rw [q3, hp4]; exact .v _
          exact .junk _
        have h6 := hb0.putD (d := some 6) (x := I32 x.2) (v := .int .i32 x.2) rfl (.v _)
        show Code.wpIn (fr (some l)) 8 _ _ _ _ _
        refine wpIn_block (wpIn_seq (wpIn_mono (awpR_sound (some l) 8 ok1 _ (Q := endQ (fun s => wk s ⟨[(4, .v (.pointer (some ⟨L1.b, L1.o, none⟩))), (7, I64 (bidi x.2))], []⟩) (fun _ _ => False) (fun _ => False)) rfl (by decide) h6 (AW.out ?_)) ?_))
        · repeat' first | refine WE_fit (bidi_spec _) ?_ ?_ | simp (maxSteps := 4000000) (disch := omega) only [base, baseX, Option.getD_some, ↓WG_true, ↓WG_false, labelOf, findLabel, Option.isSome_some, Option.isSome_none, dstOf, get, put, putD, List.getElem?_cons_zero, List.getElem?_cons_succ, Option.bind_some, Nat.reduceEqDiff, ↓reduceIte, importS, imp, imps, shift, shifts, List.map_nil, List.map_cons, List.nil_append, List.append_nil, List.cons_append, List.length_nil, List.length_cons, true_and, and_true, TI.agg, Option.map_some, Option.map_none, pushS, obj, setOb, killT, killM, killO, cond_true, cond_false, beq_self_eq_true, Nat.reduceBEq, killCs, hasId, hasIds, List.drop_zero, List.take_succ_cons, List.take_zero, List.take_nil, List.drop_succ_cons, Nat.mul_one, Nat.one_mul, Nat.add_zero, Nat.zero_add, Nat.zero_mul, Int.toNat_natCast, Int.toNat_zero, Int.toNat_one, List.length_map, List.length_drop, List.length_append, Nat.reduceAdd, Nat.reduceMul, Nat.reduceSub, Nat.reduceLeDiff, Nat.lt_add_one, Nat.zero_lt_succ, Nat.succ_pos, decide_true, decide_false, Bool.and_true, Bool.true_and, Bool.and_false, Bool.false_and, Bool.or_true, Bool.true_or, Bool.or_false, Bool.false_or, Bool.not_true, Bool.not_false, beq_iff_eq, List.contains_nil, initT, List.all_cons, List.all_nil, List.toList_toArray, Int.ofNat_zero, reduceCtorEq, Int.reduceNe, Int.reduceLE, Int.reduceEq, ne_eq, not_false_eq_true, Int.reducePow, Int.toNat_of_nonneg, Int.reduceAdd, Int.reduceSub, Int.reduceMul, I32, I64, Bv, U8, Sv, unown, unowns, names, namess, Bool.or_self, Bool.true_beq, Bool.false_beq, plainR, plainRs, Int.cast_ofNat_Int, Int.reduceBEq, Int.reduceLT, Int.reduceGT, Int.reduceGE, Int.reduceBNe, List.append_eq, below, belows, List.all_toArray, endQ_normal, C1_ti3, C1_td3, C1_fit3, C1_ti4, C1_td4, C1_fit4, C1_ti21, C1_td21, C1_fit21, C1_ti22, C1_td22, C1_ti24, C1_td24, C1_ti25, C1_td25, C1_ti26, C1_td26, C1_ti27, C1_td27, C1_ti28, C1_td28, C1_ti30, C1_td30, C1_fld30_0, C1_fld30_1, C1_fld30_2, C1_fld30_3, C1_fld30_4, C1_ti46, C1_td46, C1_fld46_0, C1_fld46_1, C1_fld46_2, C1_fld46_3, C1_fld46_4, C1_fit46, C1_ti48, C1_td48, C1_fld48_0, C1_fld48_1, C1_fit48, C1_ti53, C1_td53, C1_ti56, C1_td56, C1_fld56_0, C1_fld56_1, C1_fld56_2, C1_fld56_3, C1_fld56_4, C1_fld56_5, C1_fit56, C1_ti59, C1_td59, C1_fld59_0, C1_fld59_1, C1_fld59_2, C1_fld59_3, C1_fit59, C1_ti61, C1_td61, C1_fld61_0, C1_fld61_1, C1_fld61_2, C1_fit61, Int.tdiv_eq_ediv_of_nonneg, Int.tmod_eq_emod_of_nonneg, Int.fdiv_eq_ediv_of_nonneg, nth_drop, nth_i32, tab, tabC] | exact NK_no _ | refine NK_cl _ _ ?_ | exact clean_v _ | exact clean_u8 _ _ _ _ | exact clean_i32 _ _ _ _ | exact clean_str _ _ _ _ | refine clean_tup _ ?_ | refine clean_ag _ ?_ | exact cleans_nil | refine cleans_cons _ _ ?_ ?_ | ((first | refine WG_mk (fun hg => ?_) (fun hg => ?_) | refine CD_mk (fun hg => ?_) (fun hg => ?_) | refine GD_mk (fun hg => ?_) (fun hg => ?_) | refine GQ_mk (fun hg => ?_) (fun hg => ?_) | refine PK_mk (fun hg => ?_) (fun hg => ?_)) <;> (try simp only [hg]) <;> (try simp only [decide_eq_true_eq, decide_eq_false_iff_not, Bool.not_eq_true', Bool.not_eq_false', Bool.not_eq_true, Bool.not_eq_false, Bool.and_eq_true, Bool.or_eq_true, Bool.and_eq_false_iff, Bool.or_eq_false_iff, beq_iff_eq, bne_iff_ne, ne_eq, beq_eq_false_iff_ne, bne_eq_false_iff_eq] at hg) <;> first | (exfalso; omega) | (exfalso; exact Bool.noConfusion hg) | (exfalso; exact hg trivial) | skip) | refine And.intro (by omega) ?_ | omega
          exact (by simp [wk, wkT, wkM, get, belowT, belowM, below, belows, I64, I32, Bv, U8, Sv] <;> try omega)
        rintro e3 a3 w3 ⟨s3, G3, F3, hq3, h7⟩
        cases e3 with
        | normal =>
          have h7' := h7.weak hq3
          refine wpIn_seq (wpIn_mono (awpR_sound (some l) 8 ok1 _ (Q := endQ (fun s => wk s ⟨[(4, .v (.pointer (some ⟨L1.b, L1.o, none⟩))), (7, I64 (bidi x.2)), (16, Bv (bidi x.2 != 6))], []⟩) (fun _ _ => False) (fun _ => False)) rfl (by decide) h7' (AW.out ?_)) ?_)
          · repeat' first | simp (maxSteps := 4000000) (disch := omega) only [base, baseX, Option.getD_some, ↓WG_true, ↓WG_false, labelOf, findLabel, Option.isSome_some, Option.isSome_none, dstOf, get, put, putD, List.getElem?_cons_zero, List.getElem?_cons_succ, Option.bind_some, Nat.reduceEqDiff, ↓reduceIte, importS, imp, imps, shift, shifts, List.map_nil, List.map_cons, List.nil_append, List.append_nil, List.cons_append, List.length_nil, List.length_cons, true_and, and_true, TI.agg, Option.map_some, Option.map_none, pushS, obj, setOb, killT, killM, killO, cond_true, cond_false, beq_self_eq_true, Nat.reduceBEq, killCs, hasId, hasIds, List.drop_zero, List.take_succ_cons, List.take_zero, List.take_nil, List.drop_succ_cons, Nat.mul_one, Nat.one_mul, Nat.add_zero, Nat.zero_add, Nat.zero_mul, Int.toNat_natCast, Int.toNat_zero, Int.toNat_one, List.length_map, List.length_drop, List.length_append, Nat.reduceAdd, Nat.reduceMul, Nat.reduceSub, Nat.reduceLeDiff, Nat.lt_add_one, Nat.zero_lt_succ, Nat.succ_pos, decide_true, decide_false, Bool.and_true, Bool.true_and, Bool.and_false, Bool.false_and, Bool.or_true, Bool.true_or, Bool.or_false, Bool.false_or, Bool.not_true, Bool.not_false, beq_iff_eq, List.contains_nil, initT, List.all_cons, List.all_nil, List.toList_toArray, Int.ofNat_zero, reduceCtorEq, Int.reduceNe, Int.reduceLE, Int.reduceEq, ne_eq, not_false_eq_true, Int.reducePow, Int.toNat_of_nonneg, Int.reduceAdd, Int.reduceSub, Int.reduceMul, I32, I64, Bv, U8, Sv, unown, unowns, names, namess, Bool.or_self, Bool.true_beq, Bool.false_beq, plainR, plainRs, Int.cast_ofNat_Int, Int.reduceBEq, Int.reduceLT, Int.reduceGT, Int.reduceGE, Int.reduceBNe, List.append_eq, below, belows, List.all_toArray, endQ_normal, C1_ti3, C1_td3, C1_fit3, C1_ti4, C1_td4, C1_fit4, C1_ti21, C1_td21, C1_fit21, C1_ti22, C1_td22, C1_ti24, C1_td24, C1_ti25, C1_td25, C1_ti26, C1_td26, C1_ti27, C1_td27, C1_ti28, C1_td28, C1_ti30, C1_td30, C1_fld30_0, C1_fld30_1, C1_fld30_2, C1_fld30_3, C1_fld30_4, C1_ti46, C1_td46, C1_fld46_0, C1_fld46_1, C1_fld46_2, C1_fld46_3, C1_fld46_4, C1_fit46, C1_ti48, C1_td48, C1_fld48_0, C1_fld48_1, C1_fit48, C1_ti53, C1_td53, C1_ti56, C1_td56, C1_fld56_0, C1_fld56_1, C1_fld56_2, C1_fld56_3, C1_fld56_4, C1_fld56_5, C1_fit56, C1_ti59, C1_td59, C1_fld59_0, C1_fld59_1, C1_fld59_2, C1_fld59_3, C1_fit59, C1_ti61, C1_td61, C1_fld61_0, C1_fld61_1, C1_fld61_2, C1_fit61, Int.tdiv_eq_ediv_of_nonneg, Int.tmod_eq_emod_of_nonneg, Int.fdiv_eq_ediv_of_nonneg, nth_drop, nth_i32, tab, tabC] | ((first | refine WG_mk (fun hg => ?_) (fun hg => ?_) | refine CD_mk (fun hg => ?_) (fun hg => ?_) | refine GD_mk (fun hg => ?_) (fun hg => ?_) | refine GQ_mk (fun hg => ?_) (fun hg => ?_) | refine PK_mk (fun hg => ?_) (fun hg => ?_)) <;> (try simp only [hg]) <;> (try simp only [decide_eq_true_eq, decide_eq_false_iff_not, Bool.not_eq_true', Bool.not_eq_false', Bool.not_eq_true, Bool.not_eq_false, Bool.and_eq_true, Bool.or_eq_true, Bool.and_eq_false_iff, Bool.or_eq_false_iff, beq_iff_eq, bne_iff_ne, ne_eq, beq_eq_false_iff_ne, bne_eq_false_iff_eq] at hg) <;> first | (exfalso; omega) | (exfalso; exact Bool.noConfusion hg) | (exfalso; exact hg trivial) | skip) | refine And.intro (by omega) ?_ | omega
            exact (by simp [wk, wkT, wkM, get, belowT, belowM, below, belows, I64, I32, Bv, U8, Sv] <;> try omega)
          rintro e4 a4 w4 ⟨s4, G4, F4, hq4, h8⟩
          cases e4 with
          | normal =>
            have h8' := h8.weak hq4
            have hg8 := h8.grown
            have lt : ∀ {k : Nat} {o : Obj}, W.heap[k]? = some o → k < W.heap.size := fun h => (Array.getElem?_eq_some_iff.1 h).1
            by_cases hx : bidi x.2 = 6
            · refine wpIn_cond_false ((h8'.atv (k := 16) rfl).trans (by rw [hx]; rfl)) (wpIn_skip ?_)
              refine ⟨⟨hg8.size, fun k o hk _ => (hg8.block k (lt hk)).trans hk⟩, fun b hb => hg8.block b (Nat.lt_of_lt_of_le (hF2w b hb) hB.size), ⟨hg8.os.trans hB.os, hg8.tape.trans hB.tape, hg8.output.trans hB.output, Nat.le_trans hB.size hg8.size, fun k hk => (hg8.block k (Nat.lt_of_lt_of_le hk hB.size)).trans (hB.block k hk)⟩, fun c hc => ?_⟩
              rcases List.mem_append.1 hc with h | h
              · exact hpre c h
              · rw [List.mem_singleton.1 h]; exact hx
            · have hxb : (bidi x.2 != 6) = true := by simpa using hx
              refine wpIn_cond_true ((h8'.atv (k := 16) rfl).trans (by rw [hxb])) ?_
              refine wpIn_seq (wpIn_region_lit (list_pre (some l) 8 1 ok1 (endQ (fun s => wk s ⟨[(4, .v (.pointer (some ⟨L1.b, L1.o, none⟩))), (17, I64 (bidi x.2))], []⟩) (fun _ _ => False) (fun _ => False)) (by decide) h8' ?_ ?_))
              · repeat' first | simp (maxSteps := 4000000) (disch := omega) only [base, baseX, Option.getD_some, ↓WG_true, ↓WG_false, labelOf, findLabel, Option.isSome_some, Option.isSome_none, dstOf, get, put, putD, List.getElem?_cons_zero, List.getElem?_cons_succ, Option.bind_some, Nat.reduceEqDiff, ↓reduceIte, importS, imp, imps, shift, shifts, List.map_nil, List.map_cons, List.nil_append, List.append_nil, List.cons_append, List.length_nil, List.length_cons, true_and, and_true, TI.agg, Option.map_some, Option.map_none, pushS, obj, setOb, killT, killM, killO, cond_true, cond_false, beq_self_eq_true, Nat.reduceBEq, killCs, hasId, hasIds, List.drop_zero, List.take_succ_cons, List.take_zero, List.take_nil, List.drop_succ_cons, Nat.mul_one, Nat.one_mul, Nat.add_zero, Nat.zero_add, Nat.zero_mul, Int.toNat_natCast, Int.toNat_zero, Int.toNat_one, List.length_map, List.length_drop, List.length_append, Nat.reduceAdd, Nat.reduceMul, Nat.reduceSub, Nat.reduceLeDiff, Nat.lt_add_one, Nat.zero_lt_succ, Nat.succ_pos, decide_true, decide_false, Bool.and_true, Bool.true_and, Bool.and_false, Bool.false_and, Bool.or_true, Bool.true_or, Bool.or_false, Bool.false_or, Bool.not_true, Bool.not_false, beq_iff_eq, List.contains_nil, initT, List.all_cons, List.all_nil, List.toList_toArray, Int.ofNat_zero, reduceCtorEq, Int.reduceNe, Int.reduceLE, Int.reduceEq, ne_eq, not_false_eq_true, Int.reducePow, Int.toNat_of_nonneg, Int.reduceAdd, Int.reduceSub, Int.reduceMul, I32, I64, Bv, U8, Sv, unown, unowns, names, namess, Bool.or_self, Bool.true_beq, Bool.false_beq, plainR, plainRs, Int.cast_ofNat_Int, Int.reduceBEq, Int.reduceLT, Int.reduceGT, Int.reduceGE, Int.reduceBNe, List.append_eq, below, belows, List.all_toArray, endQ_normal, C1_ti3, C1_td3, C1_fit3, C1_ti4, C1_td4, C1_fit4, C1_ti21, C1_td21, C1_fit21, C1_ti22, C1_td22, C1_ti24, C1_td24, C1_ti25, C1_td25, C1_ti26, C1_td26, C1_ti27, C1_td27, C1_ti28, C1_td28, C1_ti30, C1_td30, C1_fld30_0, C1_fld30_1, C1_fld30_2, C1_fld30_3, C1_fld30_4, C1_ti46, C1_td46, C1_fld46_0, C1_fld46_1, C1_fld46_2, C1_fld46_3, C1_fld46_4, C1_fit46, C1_ti48, C1_td48, C1_fld48_0, C1_fld48_1, C1_fit48, C1_ti53, C1_td53, C1_ti56, C1_td56, C1_fld56_0, C1_fld56_1, C1_fld56_2, C1_fld56_3, C1_fld56_4, C1_fld56_5, C1_fit56, C1_ti59, C1_td59, C1_fld59_0, C1_fld59_1, C1_fld59_2, C1_fld59_3, C1_fit59, C1_ti61, C1_td61, C1_fld61_0, C1_fld61_1, C1_fld61_2, C1_fit61, Int.tdiv_eq_ediv_of_nonneg, Int.tmod_eq_emod_of_nonneg, Int.fdiv_eq_ediv_of_nonneg, nth_drop, nth_i32, tab, tabC] | ((first | refine WG_mk (fun hg => ?_) (fun hg => ?_) | refine CD_mk (fun hg => ?_) (fun hg => ?_) | refine GD_mk (fun hg => ?_) (fun hg => ?_) | refine GQ_mk (fun hg => ?_) (fun hg => ?_) | refine PK_mk (fun hg => ?_) (fun hg => ?_)) <;> (try simp only [hg]) <;> (try simp only [decide_eq_true_eq, decide_eq_false_iff_not, Bool.not_eq_true', Bool.not_eq_false', Bool.not_eq_true, Bool.not_eq_false, Bool.and_eq_true, Bool.or_eq_true, Bool.and_eq_false_iff, Bool.or_eq_false_iff, beq_iff_eq, bne_iff_ne, ne_eq, beq_eq_false_iff_ne, bne_eq_false_iff_eq] at hg) <;> first | (exfalso; omega) | (exfalso; exact Bool.noConfusion hg) | (exfalso; exact hg trivial) | skip) | refine And.intro (by omega) ?_ | omega
                exact (by simp [wk, wkT, wkM, get, belowT, belowM, below, belows, I64, I32, Bv, U8, Sv] <;> try omega)
              rintro a5 w5 ⟨s5, G5, F5, hq5, h9'⟩
              have h10 := h9'.weak hq5
              have hg9 := h9'.grown
              have hr5 : RowAt w5 L1.b L1.o [.int .i64 0] := (hbelow hB).keepAt (hg9.block _ (Nat.lt_of_lt_of_le hL1w hB.size))
              refine list_store (some l) 8 ok1 (t := 3) C1_ti3 rfl rfl rfl rfl (h10.atv (k := 4) rfl) (x := .tmp 17) (h10.atv (k := 17) rfl) rfl rfl hr5 ?_
              intro w6 hW
              refine wpIn_ret ?_
              have hne : ∀ {k : Nat} {o : Obj}, W.heap[k]? = some o → o.isCells = false → k ≠ L1.b := by
                rintro k o hk ho rfl
                obtain ⟨c, e, fz, hc, _⟩ := hbelow hB
                rw [hc] at hk; cases hk; simp [Obj.isCells] at ho
              refine ⟨⟨by rw [hW.size]; exact hg9.size, fun k o hk ho => (hW.block k (hne hk ho)).trans ((hg9.block k (lt hk)).trans hk)⟩, rfl, ⟨pre, x, rfl, hpre, hx⟩, ?_⟩
              refine ⟨hW.os.trans (hg9.os.trans hB.os), hW.tape.trans (hg9.tape.trans hB.tape), hW.output.trans (hg9.output.trans hB.output), by rw [hW.size]; exact Nat.le_trans hB.size hg9.size, fun k hk hk' => (hW.block k hk').trans ((hg9.block k (Nat.lt_of_lt_of_le hk hB.size)).trans (hB.block k hk)), ?_⟩
              have := hW.row
              simpa using this
          | _ => exact hq4.elim
        | _ => exact hq3.elim
      case done =>
        rintro D xs W hD rfl ⟨hB, hall⟩ hK
        have hl0 : lastB L = 0 := by
          have := endB_skip (q := L.reverse) (fun c hc => by
            rw [← bkL_snd] at hc
            obtain ⟨y, hy, rfl⟩ := List.mem_map.1 hc
            exact hall y hy) []
          rw [List.append_nil] at this
          exact this
        refine wpIn_seq (wpIn_region_lit (list_store none 10 ok1 (t := 3) C1_ti3 rfl rfl rfl rfl (by exact hp4) (x := .const (.int .i64 0)) rfl rfl rfl (hbelow hB) ?_))
        intro W' hW
        refine wpIn_ret (fin 0 D W' hl0.symm hD ⟨hW.os.trans hB.os, hW.tape.trans hB.tape, hW.output.trans hB.output, by rw [hW.size]; exact hB.size, fun k hk hne => (hW.block k hne).trans (hB.block k hk), hW.row⟩ ((hW.block D (by omega)).trans hK))
      case stop =>
        rintro D c pre W hD hpre ⟨rfl, ⟨q, x, rfl, hq, hx⟩, hX⟩ hK
        refine wpIn_ret ?_
        simp only [List.getLast?_append, List.getLast?_singleton, Option.some_or, Option.getD_some] at hX
        refine fin (bidi x.2) D W ?_ hD hX hK
        obtain ⟨r, hr⟩ := hpre
        unfold lastB
        rw [← bkL_snd, ← hr, List.map_append, List.map_append, List.append_assoc, endB_skip (fun c hc => by
          obtain ⟨y, hy, rfl⟩ := List.mem_map.1 hc
          exact hq y hy)]
        simp only [List.map_cons, List.map_nil, List.cons_append, List.nil_append, endB]
        rw [if_neg hx]
    | _ => exact hq2.elim
  | _ => exact hq1.elim
end Go.AE
end
