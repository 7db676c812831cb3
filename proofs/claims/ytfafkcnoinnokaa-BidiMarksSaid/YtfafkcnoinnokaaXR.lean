/- Contracts of functions that the laws of this seat reach, and plain laws of what they compute. No condition beyond each statement's own. -/
import Derived.Test.YtfafkcnoinnokaaK1
import Derived.Test.YtfafkcnoinnokaaAERange
set_option linter.unusedVariables false
set_option linter.unusedSimpArgs false
section
/- Over characters from the back: the library's iterator. -/
namespace Go.AE
open Go.Proofs
set_option maxRecDepth 20000
set_option linter.unusedSimpArgs false
def bkL (L : List Int) : List (Int × Int) := (List.range L.length).map fun j : Nat => ((L.length : Int) - 1 - (j : Int), L.getD (L.length - 1 - j) 0)
def encB (x : Int × Int) : Array Value := #[.int .i64 x.1, .int .i32 x.2]
def KpF (F : Nat → Prop) (W W' : World) : Prop := ∀ b, F b → W'.heap[b]? = W.heap[b]?
theorem bkL_take {L : List Int} {j : Nat} (h : j < L.length) : (bkL L).take (j + 1) = (bkL L).take j ++ [((L.length : Int) - 1 - j, L.getD (L.length - 1 - j) 0)] := by
  unfold bkL; rw [List.take_add_one]; simp [h]
theorem bkL_all {L : List Int} : (bkL L).take L.length = bkL L := List.take_of_length_le (by simp [bkL])
def bkS (L : List Int) (yv p : Value) (j : Nat) : St := ⟨[(0, .v yv), (1, .v p), (3, I64 ((L.length : Int) - 1 - j))], []⟩
theorem bkS_wk {L : List Int} {yv p : Value} {j : Nat} {s : St} (h : wk s (bkS L yv p j)) : get s.t 0 = .v yv ∧ get s.t 1 = .v p ∧ get s.t 3 = I64 ((L.length : Int) - 1 - j) := by
  obtain ⟨h, _⟩ := h
  simp only [bkS, wkT, and_true] at h
  exact h
theorem back_stops (L : List Int) (hL : L.length ≤ 1000) (n : Nat) (w : World) (F : Nat → Prop) (hF : ∀ b, F b → b < w.heap.size) (p : Value) (hp : Rep w F [] (.cp [.sl L.length (L.map I32)]) p) :
    SeqStopsK (fr none) n Try.prog 28 #[p] encB (KpF F) (fun xs => xs = bkL L) (fun pre => pre <+: bkL L) L.length w := by
  skip
  intro l J Jx W hW hJ hJx hY h0
  have hFW : ∀ b, F b → b < W.heap.size := fun b hb => Nat.lt_of_lt_of_le (hF b hb) hW.size
  have same : ∀ W', (∀ b, F b → W'.heap[b]? = W.heap[b]?) → Rep W' F [] (.cp [.sl L.length (L.map I32)]) p := fun W' h => Rep.mono ⟨fun _ h => h, fun b hb => (h b hb).trans (hW.block b (hF b hb))⟩ (GSub.refl _) hp
  obtain ⟨yv, hyv⟩ : ∃ yv : Value, yv = .func (.yield l) #[] #[] := ⟨_, rfl⟩
  refine callsIn_of_wp Try.func28 rfl trivial ?_
  rw [show Try.f28.ntmps = 19 from Try.ntmps28]
  have hrel := rel_init (N := 19) (ds := []) (args := [.v yv, .v p]) (vs := [yv, p]) hFW (.cons (.v _) (.cons (.v _) .nil)) (by simp)
  rw [show (#[Value.func (.yield l) #[] #[]] ++ #[p] : Array Value) = [yv, p].toArray by rw [hyv]; rfl]
  have grow : ∀ {w1 w2 : World} {s : List (Int × Int)}, Grow w1 w2 → J s w1 → J s w2 := fun h hj => hJ _ _ _ none hj ⟨h.os, h.tape, h.output, h.size, fun k hk _ => h.block k hk⟩ (fun r e => by cases e)
  have hinv : ∀ {V : Given} {w0 w1 : World} {G1 : Gh} {F1 : Nat → Prop} {a1 : Act} {s1 : St} {j : Nat}, Rel 19 V w0 s1 G1 F1 a1 w1 → wk s1 (bkS L yv p j) → a1.defers = V.ds ∧ a1.tmps.size = 19 ∧ a1.tmps.getD 0 undef = yv ∧ a1.tmps.getD 1 undef = p ∧ a1.tmps.getD 3 undef = .int .i64 ((L.length : Int) - 1 - j) := by
    intro V w0 w1 G1 F1 a1 s1 j h hk
    obtain ⟨k0, k1, k3⟩ := bkS_wk hk
    exact ⟨h.defers, h.tsize, h.atv k0, h.atv k1, h.atv k3⟩
  have hrelj : ∀ {a1 : Act} {w1 : World} {j : Nat}, (∀ b, F b → w1.heap[b]? = W.heap[b]?) → a1.tmps.size = 19 → a1.tmps.getD 0 undef = yv → a1.tmps.getD 1 undef = p → a1.tmps.getD 3 undef = .int .i64 ((L.length : Int) - 1 - j) → Rel 19 ⟨F, [], [], a1.defers⟩ w1 (bkS L yv p j) [] F a1 w1 := by
    intro a1 w1 j hs hn g0 g1 g3
    refine rel_of (fun b hb => ?_) hn fun k => ?_
    · have := hFW b hb
      have h1 := hs b hb
      rw [Array.getElem?_eq_getElem this] at h1
      exact (Array.getElem?_eq_some_iff.1 h1).1
    · simp only [bkS, get]
      split
      · rename_i e; subst e; rw [g0]; exact .v _
      split
      · rename_i e; subst e; rw [g1]; exact .v _
      split
      · rename_i e; subst e; rw [g3]; exact .v _
      exact .junk _
  refine wpIn_seq (wpIn_region_lit ?_)
  refine list_load none n ok1 (t := 22) C1_ti22 rfl rfl rfl rfl hrel (by rw [hrel.atv (k := 1) (v := p) rfl]; exact same W (fun _ _ => rfl)) ?_
  intro a1 h1
  refine list_end none n ok1 (endQ (fun s => wk s (bkS L yv p 0)) (fun _ _ => False) (fun _ => False)) (by decide) h1 ?_ ?_
  · repeat' first | simp (maxSteps := 4000000) (disch := omega) only [base, baseX, Option.getD_some, ↓WG_true, ↓WG_false, labelOf, findLabel, Option.isSome_some, Option.isSome_none, dstOf, get, put, putD, List.getElem?_cons_zero, List.getElem?_cons_succ, Option.bind_some, Nat.reduceEqDiff, ↓reduceIte, importS, imp, imps, shift, shifts, List.map_nil, List.map_cons, List.nil_append, List.append_nil, List.cons_append, List.length_nil, List.length_cons, true_and, and_true, TI.agg, Option.map_some, Option.map_none, pushS, obj, setOb, killT, killM, killO, cond_true, cond_false, beq_self_eq_true, Nat.reduceBEq, killCs, hasId, hasIds, List.drop_zero, List.take_succ_cons, List.take_zero, List.take_nil, List.drop_succ_cons, Nat.mul_one, Nat.one_mul, Nat.add_zero, Nat.zero_add, Nat.zero_mul, Int.toNat_natCast, Int.toNat_zero, Int.toNat_one, List.length_map, List.length_drop, List.length_append, Nat.reduceAdd, Nat.reduceMul, Nat.reduceSub, Nat.reduceLeDiff, Nat.lt_add_one, Nat.zero_lt_succ, Nat.succ_pos, decide_true, decide_false, Bool.and_true, Bool.true_and, Bool.and_false, Bool.false_and, Bool.or_true, Bool.true_or, Bool.or_false, Bool.false_or, Bool.not_true, Bool.not_false, beq_iff_eq, List.contains_nil, initT, List.all_cons, List.all_nil, List.toList_toArray, Int.ofNat_zero, reduceCtorEq, Int.reduceNe, Int.reduceLE, Int.reduceEq, ne_eq, not_false_eq_true, Int.reducePow, Int.toNat_of_nonneg, Int.reduceAdd, Int.reduceSub, Int.reduceMul, I32, I64, Bv, U8, Sv, unown, unowns, names, namess, Bool.or_self, Bool.true_beq, Bool.false_beq, plainR, plainRs, Int.cast_ofNat_Int, Int.reduceBEq, Int.reduceLT, Int.reduceGT, Int.reduceGE, Int.reduceBNe, List.append_eq, below, belows, List.all_toArray, endQ_normal, C1_ti3, C1_td3, C1_fit3, C1_ti4, C1_td4, C1_fit4, C1_ti21, C1_td21, C1_fit21, C1_ti22, C1_td22, C1_ti64, C1_td64, Int.tdiv_eq_ediv_of_nonneg, Int.tmod_eq_emod_of_nonneg, Int.fdiv_eq_ediv_of_nonneg, nth_drop, nth_i32] | ((first | refine WG_mk (fun hg => ?_) (fun hg => ?_) | refine CD_mk (fun hg => ?_) (fun hg => ?_) | refine GD_mk (fun hg => ?_) (fun hg => ?_) | refine GQ_mk (fun hg => ?_) (fun hg => ?_) | refine PK_mk (fun hg => ?_) (fun hg => ?_)) <;> (try simp only [hg]) <;> (try simp only [decide_eq_true_eq, decide_eq_false_iff_not, Bool.not_eq_true', Bool.not_eq_false', Bool.not_eq_true, Bool.not_eq_false, Bool.and_eq_true, Bool.or_eq_true, Bool.and_eq_false_iff, Bool.or_eq_false_iff, beq_iff_eq, bne_iff_ne, ne_eq, beq_eq_false_iff_ne, bne_eq_false_iff_eq] at hg) <;> first | (exfalso; omega) | (exfalso; exact Bool.noConfusion hg) | (exfalso; exact hg trivial) | skip) | refine And.intro (by omega) ?_ | omega
    unfold bkS
    exact (by simp [wk, wkT, wkM, get, belowT, belowM, below, belows, I64, I32, Bv, U8, Sv] <;> try omega)
  rintro a2 w2 ⟨s2, G2, F2, hk2, h2⟩
  obtain ⟨d2, n2, g20, g21, g23⟩ := hinv h2 hk2
  have hgr := h2.grown
  refine wpIn_block (wpIn_loop (fun a w1 => ∃ j, j ≤ L.length ∧ a.defers = [] ∧ a.tmps.size = 19 ∧ a.tmps.getD 0 undef = yv ∧ a.tmps.getD 1 undef = p ∧ a.tmps.getD 3 undef = .int .i64 ((L.length : Int) - 1 - j) ∧ J ((bkL L).take j) w1 ∧ (∀ b, F b → w1.heap[b]? = W.heap[b]?))
    (fun a _ => match a.tmps.getD 3 undef with | .int _ x => (x + 1).toNat | _ => 0) ⟨0, by omega, d2, n2, g20, g21, by simpa using g23, grow hgr h0, fun b hb => hgr.block b (hFW b hb)⟩ ?_)
  rintro a3 w3 ⟨j, hj, d3, n3, g30, g31, g33, hj3, hs3⟩
  have h3 := hrelj hs3 n3 g30 g31 g33
  refine wpIn_seq (wpIn_mono (awpR_sound none n ok1 _ (Q := endQ (fun s => j < L.length ∧ wk s (bkS L yv p j)) (fun i _ => i = 0 ∧ ¬ j < L.length) (fun _ => False)) rfl (by decide) h3 (AW.out ?_)) ?_)
  · unfold bkS
    by_cases hlt : j < L.length
    · repeat' first | simp (maxSteps := 4000000) (disch := omega) only [base, baseX, Option.getD_some, ↓WG_true, ↓WG_false, labelOf, findLabel, Option.isSome_some, Option.isSome_none, dstOf, get, put, putD, List.getElem?_cons_zero, List.getElem?_cons_succ, Option.bind_some, Nat.reduceEqDiff, ↓reduceIte, importS, imp, imps, shift, shifts, List.map_nil, List.map_cons, List.nil_append, List.append_nil, List.cons_append, List.length_nil, List.length_cons, true_and, and_true, TI.agg, Option.map_some, Option.map_none, pushS, obj, setOb, killT, killM, killO, cond_true, cond_false, beq_self_eq_true, Nat.reduceBEq, killCs, hasId, hasIds, List.drop_zero, List.take_succ_cons, List.take_zero, List.take_nil, List.drop_succ_cons, Nat.mul_one, Nat.one_mul, Nat.add_zero, Nat.zero_add, Nat.zero_mul, Int.toNat_natCast, Int.toNat_zero, Int.toNat_one, List.length_map, List.length_drop, List.length_append, Nat.reduceAdd, Nat.reduceMul, Nat.reduceSub, Nat.reduceLeDiff, Nat.lt_add_one, Nat.zero_lt_succ, Nat.succ_pos, decide_true, decide_false, Bool.and_true, Bool.true_and, Bool.and_false, Bool.false_and, Bool.or_true, Bool.true_or, Bool.or_false, Bool.false_or, Bool.not_true, Bool.not_false, beq_iff_eq, List.contains_nil, initT, List.all_cons, List.all_nil, List.toList_toArray, Int.ofNat_zero, reduceCtorEq, Int.reduceNe, Int.reduceLE, Int.reduceEq, ne_eq, not_false_eq_true, Int.reducePow, Int.toNat_of_nonneg, Int.reduceAdd, Int.reduceSub, Int.reduceMul, I32, I64, Bv, U8, Sv, unown, unowns, names, namess, Bool.or_self, Bool.true_beq, Bool.false_beq, plainR, plainRs, Int.cast_ofNat_Int, Int.reduceBEq, Int.reduceLT, Int.reduceGT, Int.reduceGE, Int.reduceBNe, List.append_eq, below, belows, List.all_toArray, endQ_normal, endQ_exit, hlt, C1_ti3, C1_td3, C1_fit3, C1_ti4, C1_td4, C1_fit4, C1_ti21, C1_td21, C1_fit21, C1_ti22, C1_td22, C1_ti64, C1_td64, Int.tdiv_eq_ediv_of_nonneg, Int.tmod_eq_emod_of_nonneg, Int.fdiv_eq_ediv_of_nonneg, nth_drop, nth_i32] | ((first | refine WG_mk (fun hg => ?_) (fun hg => ?_) | refine CD_mk (fun hg => ?_) (fun hg => ?_) | refine GD_mk (fun hg => ?_) (fun hg => ?_) | refine GQ_mk (fun hg => ?_) (fun hg => ?_) | refine PK_mk (fun hg => ?_) (fun hg => ?_)) <;> (try simp only [hg]) <;> (try simp only [decide_eq_true_eq, decide_eq_false_iff_not, Bool.not_eq_true', Bool.not_eq_false', Bool.not_eq_true, Bool.not_eq_false, Bool.and_eq_true, Bool.or_eq_true, Bool.and_eq_false_iff, Bool.or_eq_false_iff, beq_iff_eq, bne_iff_ne, ne_eq, beq_eq_false_iff_ne, bne_eq_false_iff_eq] at hg) <;> first | (exfalso; omega) | (exfalso; exact Bool.noConfusion hg) | (exfalso; exact hg trivial) | skip) | refine And.intro (by omega) ?_ | omega
      exact (by simp [wk, wkT, wkM, get, belowT, belowM, below, belows, I64, I32, Bv, U8, Sv] <;> try omega)
    · repeat' first | simp (maxSteps := 4000000) (disch := omega) only [base, baseX, Option.getD_some, ↓WG_true, ↓WG_false, labelOf, findLabel, Option.isSome_some, Option.isSome_none, dstOf, get, put, putD, List.getElem?_cons_zero, List.getElem?_cons_succ, Option.bind_some, Nat.reduceEqDiff, ↓reduceIte, importS, imp, imps, shift, shifts, List.map_nil, List.map_cons, List.nil_append, List.append_nil, List.cons_append, List.length_nil, List.length_cons, true_and, and_true, TI.agg, Option.map_some, Option.map_none, pushS, obj, setOb, killT, killM, killO, cond_true, cond_false, beq_self_eq_true, Nat.reduceBEq, killCs, hasId, hasIds, List.drop_zero, List.take_succ_cons, List.take_zero, List.take_nil, List.drop_succ_cons, Nat.mul_one, Nat.one_mul, Nat.add_zero, Nat.zero_add, Nat.zero_mul, Int.toNat_natCast, Int.toNat_zero, Int.toNat_one, List.length_map, List.length_drop, List.length_append, Nat.reduceAdd, Nat.reduceMul, Nat.reduceSub, Nat.reduceLeDiff, Nat.lt_add_one, Nat.zero_lt_succ, Nat.succ_pos, decide_true, decide_false, Bool.and_true, Bool.true_and, Bool.and_false, Bool.false_and, Bool.or_true, Bool.true_or, Bool.or_false, Bool.false_or, Bool.not_true, Bool.not_false, beq_iff_eq, List.contains_nil, initT, List.all_cons, List.all_nil, List.toList_toArray, Int.ofNat_zero, reduceCtorEq, Int.reduceNe, Int.reduceLE, Int.reduceEq, ne_eq, not_false_eq_true, Int.reducePow, Int.toNat_of_nonneg, Int.reduceAdd, Int.reduceSub, Int.reduceMul, I32, I64, Bv, U8, Sv, unown, unowns, names, namess, Bool.or_self, Bool.true_beq, Bool.false_beq, plainR, plainRs, Int.cast_ofNat_Int, Int.reduceBEq, Int.reduceLT, Int.reduceGT, Int.reduceGE, Int.reduceBNe, List.append_eq, below, belows, List.all_toArray, endQ_normal, endQ_exit, hlt, C1_ti3, C1_td3, C1_fit3, C1_ti4, C1_td4, C1_fit4, C1_ti21, C1_td21, C1_fit21, C1_ti22, C1_td22, C1_ti64, C1_td64, Int.tdiv_eq_ediv_of_nonneg, Int.tmod_eq_emod_of_nonneg, Int.fdiv_eq_ediv_of_nonneg, nth_drop, nth_i32] | ((first | refine WG_mk (fun hg => ?_) (fun hg => ?_) | refine CD_mk (fun hg => ?_) (fun hg => ?_) | refine GD_mk (fun hg => ?_) (fun hg => ?_) | refine GQ_mk (fun hg => ?_) (fun hg => ?_) | refine PK_mk (fun hg => ?_) (fun hg => ?_)) <;> (try simp only [hg]) <;> (try simp only [decide_eq_true_eq, decide_eq_false_iff_not, Bool.not_eq_true', Bool.not_eq_false', Bool.not_eq_true, Bool.not_eq_false, Bool.and_eq_true, Bool.or_eq_true, Bool.and_eq_false_iff, Bool.or_eq_false_iff, beq_iff_eq, bne_iff_ne, ne_eq, beq_eq_false_iff_ne, bne_eq_false_iff_eq] at hg) <;> first | (exfalso; omega) | (exfalso; exact Bool.noConfusion hg) | (exfalso; exact hg trivial) | skip) | refine And.intro (by omega) ?_ | omega
  rintro e a4 w4 ⟨s4, G4, F4, hq4, h4⟩
  have hg4 := h4.grown
  have hs4 : ∀ b, F b → w4.heap[b]? = W.heap[b]? := fun b hb => (hg4.block b (by
    have h1 := hs3 b hb
    rw [Array.getElem?_eq_getElem (hFW b hb)] at h1
    exact (Array.getElem?_eq_some_iff.1 h1).1)).trans (hs3 b hb)
  have hj4 := grow hg4 hj3
  cases e with
  | exit i =>
    obtain ⟨rfl, hge⟩ := hq4
    obtain rfl : j = L.length := by omega
    rw [bkL_all] at hj4
    exact ⟨h4.defers.trans d3, _, results_none rfl _ _ _, ⟨_, rfl⟩, .inl ⟨_, rfl, hj4⟩⟩
  | normal =>
    obtain ⟨hlt, hk4⟩ := hq4
    obtain ⟨d4, n4, g40, g41, g43⟩ := hinv h4 hk4
    have h5 := hrelj hs4 n4 g40 g41 g43
    refine wpIn_seq (wpIn_block (wpIn_seq (wpIn_region_lit ?_)))
    refine list_pre none n 2 ok1 (endQ (fun s => wk s ⟨[(0, .v yv), (1, .v p), (3, I64 ((L.length : Int) - 1 - j)), (11, .v yv), (12, I64 ((L.length : Int) - 1 - j))], []⟩) (fun _ _ => False) (fun _ => False)) (by decide) h5 ?_ ?_
    · unfold bkS
      repeat' first | simp (maxSteps := 4000000) (disch := omega) only [base, baseX, Option.getD_some, ↓WG_true, ↓WG_false, labelOf, findLabel, Option.isSome_some, Option.isSome_none, dstOf, get, put, putD, List.getElem?_cons_zero, List.getElem?_cons_succ, Option.bind_some, Nat.reduceEqDiff, ↓reduceIte, importS, imp, imps, shift, shifts, List.map_nil, List.map_cons, List.nil_append, List.append_nil, List.cons_append, List.length_nil, List.length_cons, true_and, and_true, TI.agg, Option.map_some, Option.map_none, pushS, obj, setOb, killT, killM, killO, cond_true, cond_false, beq_self_eq_true, Nat.reduceBEq, killCs, hasId, hasIds, List.drop_zero, List.take_succ_cons, List.take_zero, List.take_nil, List.drop_succ_cons, Nat.mul_one, Nat.one_mul, Nat.add_zero, Nat.zero_add, Nat.zero_mul, Int.toNat_natCast, Int.toNat_zero, Int.toNat_one, List.length_map, List.length_drop, List.length_append, Nat.reduceAdd, Nat.reduceMul, Nat.reduceSub, Nat.reduceLeDiff, Nat.lt_add_one, Nat.zero_lt_succ, Nat.succ_pos, decide_true, decide_false, Bool.and_true, Bool.true_and, Bool.and_false, Bool.false_and, Bool.or_true, Bool.true_or, Bool.or_false, Bool.false_or, Bool.not_true, Bool.not_false, beq_iff_eq, List.contains_nil, initT, List.all_cons, List.all_nil, List.toList_toArray, Int.ofNat_zero, reduceCtorEq, Int.reduceNe, Int.reduceLE, Int.reduceEq, ne_eq, not_false_eq_true, Int.reducePow, Int.toNat_of_nonneg, Int.reduceAdd, Int.reduceSub, Int.reduceMul, I32, I64, Bv, U8, Sv, unown, unowns, names, namess, Bool.or_self, Bool.true_beq, Bool.false_beq, plainR, plainRs, Int.cast_ofNat_Int, Int.reduceBEq, Int.reduceLT, Int.reduceGT, Int.reduceGE, Int.reduceBNe, List.append_eq, below, belows, List.all_toArray, endQ_normal, C1_ti3, C1_td3, C1_fit3, C1_ti4, C1_td4, C1_fit4, C1_ti21, C1_td21, C1_fit21, C1_ti22, C1_td22, C1_ti64, C1_td64, Int.tdiv_eq_ediv_of_nonneg, Int.tmod_eq_emod_of_nonneg, Int.fdiv_eq_ediv_of_nonneg, nth_drop, nth_i32] | ((first | refine WG_mk (fun hg => ?_) (fun hg => ?_) | refine CD_mk (fun hg => ?_) (fun hg => ?_) | refine GD_mk (fun hg => ?_) (fun hg => ?_) | refine GQ_mk (fun hg => ?_) (fun hg => ?_) | refine PK_mk (fun hg => ?_) (fun hg => ?_)) <;> (try simp only [hg]) <;> (try simp only [decide_eq_true_eq, decide_eq_false_iff_not, Bool.not_eq_true', Bool.not_eq_false', Bool.not_eq_true, Bool.not_eq_false, Bool.and_eq_true, Bool.or_eq_true, Bool.and_eq_false_iff, Bool.or_eq_false_iff, beq_iff_eq, bne_iff_ne, ne_eq, beq_eq_false_iff_ne, bne_eq_false_iff_eq] at hg) <;> first | (exfalso; omega) | (exfalso; exact Bool.noConfusion hg) | (exfalso; exact hg trivial) | skip) | refine And.intro (by omega) ?_ | omega
      exact (by simp [wk, wkT, wkM, get, belowT, belowM, below, belows, I64, I32, Bv, U8, Sv] <;> try omega)
    rintro a6 w6 ⟨s6, G6, F6, hk6, h6⟩
    have hg6 := h6.grown
    have hlt6 : ∀ {b : Nat} {w1 : World}, (∀ b, F b → w1.heap[b]? = W.heap[b]?) → F b → b < w1.heap.size := fun {b w1} h hb => by
      have h1 := h b hb
      rw [Array.getElem?_eq_getElem (hFW b hb)] at h1
      exact (Array.getElem?_eq_some_iff.1 h1).1
    have hs6 : ∀ b, F b → w6.heap[b]? = W.heap[b]? := fun b hb => (hg6.block b (hlt6 hs4 hb)).trans (hs4 b hb)
    have hj6 := grow hg6 hj4
    have h6' := h6.weak hk6
    refine list_load none n ok1 (t := 22) C1_ti22 rfl rfl rfl rfl h6' (by rw [h6'.atv (k := 1) (v := p) rfl]; exact Rep.mono ⟨h6.f0.1, fun _ _ => rfl⟩ (GSub.nil _) (same w6 hs6)) ?_
    intro a7 h7
    have hix : ((L.length : Int) - 1 - j).toNat = L.length - 1 - j := by omega
    refine list_pre none n 3 ok1 (endQ (fun s => wk s ⟨[(0, .v yv), (1, .v p), (3, I64 ((L.length : Int) - 1 - j)), (11, .v yv), (12, I64 ((L.length : Int) - 1 - j)), (16, I32 (L.getD (L.length - 1 - j) 0))], []⟩) (fun _ _ => False) (fun _ => False)) (by decide) h7 ?_ ?_
    · repeat' first | simp (maxSteps := 4000000) (disch := omega) only [base, baseX, Option.getD_some, ↓WG_true, ↓WG_false, labelOf, findLabel, Option.isSome_some, Option.isSome_none, dstOf, get, put, putD, List.getElem?_cons_zero, List.getElem?_cons_succ, Option.bind_some, Nat.reduceEqDiff, ↓reduceIte, importS, imp, imps, shift, shifts, List.map_nil, List.map_cons, List.nil_append, List.append_nil, List.cons_append, List.length_nil, List.length_cons, true_and, and_true, TI.agg, Option.map_some, Option.map_none, pushS, obj, setOb, killT, killM, killO, cond_true, cond_false, beq_self_eq_true, Nat.reduceBEq, killCs, hasId, hasIds, List.drop_zero, List.take_succ_cons, List.take_zero, List.take_nil, List.drop_succ_cons, Nat.mul_one, Nat.one_mul, Nat.add_zero, Nat.zero_add, Nat.zero_mul, Int.toNat_natCast, Int.toNat_zero, Int.toNat_one, List.length_map, List.length_drop, List.length_append, Nat.reduceAdd, Nat.reduceMul, Nat.reduceSub, Nat.reduceLeDiff, Nat.lt_add_one, Nat.zero_lt_succ, Nat.succ_pos, decide_true, decide_false, Bool.and_true, Bool.true_and, Bool.and_false, Bool.false_and, Bool.or_true, Bool.true_or, Bool.or_false, Bool.false_or, Bool.not_true, Bool.not_false, beq_iff_eq, List.contains_nil, initT, List.all_cons, List.all_nil, List.toList_toArray, Int.ofNat_zero, reduceCtorEq, Int.reduceNe, Int.reduceLE, Int.reduceEq, ne_eq, not_false_eq_true, Int.reducePow, Int.toNat_of_nonneg, Int.reduceAdd, Int.reduceSub, Int.reduceMul, I32, I64, Bv, U8, Sv, unown, unowns, names, namess, Bool.or_self, Bool.true_beq, Bool.false_beq, plainR, plainRs, Int.cast_ofNat_Int, Int.reduceBEq, Int.reduceLT, Int.reduceGT, Int.reduceGE, Int.reduceBNe, List.append_eq, below, belows, List.all_toArray, endQ_normal, hix, C1_ti3, C1_td3, C1_fit3, C1_ti4, C1_td4, C1_fit4, C1_ti21, C1_td21, C1_fit21, C1_ti22, C1_td22, C1_ti64, C1_td64, Int.tdiv_eq_ediv_of_nonneg, Int.tmod_eq_emod_of_nonneg, Int.fdiv_eq_ediv_of_nonneg, nth_drop, nth_i32] | ((first | refine WG_mk (fun hg => ?_) (fun hg => ?_) | refine CD_mk (fun hg => ?_) (fun hg => ?_) | refine GD_mk (fun hg => ?_) (fun hg => ?_) | refine GQ_mk (fun hg => ?_) (fun hg => ?_) | refine PK_mk (fun hg => ?_) (fun hg => ?_)) <;> (try simp only [hg]) <;> (try simp only [decide_eq_true_eq, decide_eq_false_iff_not, Bool.not_eq_true', Bool.not_eq_false', Bool.not_eq_true, Bool.not_eq_false, Bool.and_eq_true, Bool.or_eq_true, Bool.and_eq_false_iff, Bool.or_eq_false_iff, beq_iff_eq, bne_iff_ne, ne_eq, beq_eq_false_iff_ne, bne_eq_false_iff_eq] at hg) <;> first | (exfalso; omega) | (exfalso; exact Bool.noConfusion hg) | (exfalso; exact hg trivial) | skip) | refine And.intro (by omega) ?_ | omega
      exact (by simp [wk, wkT, wkM, get, belowT, belowM, below, belows, I64, I32, Bv, U8, Sv] <;> try omega)
    rintro a8 w8 ⟨s8, G8, F8, hk8, h8⟩
    have h8' := h8.weak hk8
    have hg8 := h8.grown
    have hs8 : ∀ b, F b → w8.heap[b]? = W.heap[b]? := fun b hb => (hg8.block b (hlt6 hs4 hb)).trans (hs4 b hb)
    have hj8 := grow hg8 hj4
    have hargs : #[Operand.tmp 12, Operand.tmp 16].map a8.eval = encB ((L.length : Int) - 1 - j, L.getD (L.length - 1 - j) 0) := by
      have e1 := h8'.atv (k := 12) rfl
      have e2 := h8'.atv (k := 16) rfl
      simp only [encB, Act.eval, List.map_toArray, List.map_cons, List.map_nil, e1, e2]
    refine list_yield none n rfl rfl (l := l) ((h8'.atv (k := 11) rfl).trans hyv) hargs (hY _ _ w8 hj8 (by simp [bkL]; omega)) ?_
    have hbt := bkL_take hlt
    have hput : ∀ v, (a8.put (some 17) v).defers = [] ∧ (a8.put (some 17) v).tmps.size = 19 ∧ ∀ kv ∈ [(0, yv), (1, p), (3, Value.int .i64 ((L.length : Int) - 1 - j)), (17, v)], (a8.put (some 17) v).tmps.getD kv.1 undef = kv.2 := by
      intro v
      have h9 := h8'.putD (d := some 17) (x := .v v) (v := v) rfl (.v _)
      refine ⟨h9.defers.trans (d4.trans d3), h9.tsize, ?_⟩
      intro kv hkv
      simp only [List.mem_cons, List.not_mem_nil, or_false] at hkv
      rcases hkv with rfl | rfl | rfl | rfl <;> exact h9.atv rfl
    rintro e9 w9 (⟨rfl, hJ9, hk9⟩ | ⟨rfl, hJx9⟩)
    · refine ⟨_, rfl, ?_⟩
      obtain ⟨d9, n9, g9⟩ := hput (.bool true)
      have hs9 : ∀ b, F b → w9.heap[b]? = W.heap[b]? := fun b hb => (hk9 b hb).trans (hs8 b hb)
      have h9 := rel_vs (N := 19) _ (fun b hb => hlt6 hs9 hb) n9 g9
      refine list_end none n ok1 (endQ (fun s => wk s ⟨[(0, .v yv), (1, .v p), (3, I64 ((L.length : Int) - 1 - j)), (18, Bv false)], []⟩) (fun _ _ => False) (fun _ => False)) (by decide) h9 ?_ ?_
      · repeat' first | simp (maxSteps := 4000000) (disch := omega) only [base, baseX, Option.getD_some, ↓WG_true, ↓WG_false, labelOf, findLabel, Option.isSome_some, Option.isSome_none, dstOf, get, put, putD, List.getElem?_cons_zero, List.getElem?_cons_succ, Option.bind_some, Nat.reduceEqDiff, ↓reduceIte, importS, imp, imps, shift, shifts, List.map_nil, List.map_cons, List.nil_append, List.append_nil, List.cons_append, List.length_nil, List.length_cons, true_and, and_true, TI.agg, Option.map_some, Option.map_none, pushS, obj, setOb, killT, killM, killO, cond_true, cond_false, beq_self_eq_true, Nat.reduceBEq, killCs, hasId, hasIds, List.drop_zero, List.take_succ_cons, List.take_zero, List.take_nil, List.drop_succ_cons, Nat.mul_one, Nat.one_mul, Nat.add_zero, Nat.zero_add, Nat.zero_mul, Int.toNat_natCast, Int.toNat_zero, Int.toNat_one, List.length_map, List.length_drop, List.length_append, Nat.reduceAdd, Nat.reduceMul, Nat.reduceSub, Nat.reduceLeDiff, Nat.lt_add_one, Nat.zero_lt_succ, Nat.succ_pos, decide_true, decide_false, Bool.and_true, Bool.true_and, Bool.and_false, Bool.false_and, Bool.or_true, Bool.true_or, Bool.or_false, Bool.false_or, Bool.not_true, Bool.not_false, beq_iff_eq, List.contains_nil, initT, List.all_cons, List.all_nil, List.toList_toArray, Int.ofNat_zero, reduceCtorEq, Int.reduceNe, Int.reduceLE, Int.reduceEq, ne_eq, not_false_eq_true, Int.reducePow, Int.toNat_of_nonneg, Int.reduceAdd, Int.reduceSub, Int.reduceMul, I32, I64, Bv, U8, Sv, unown, unowns, names, namess, Bool.or_self, Bool.true_beq, Bool.false_beq, plainR, plainRs, Int.cast_ofNat_Int, Int.reduceBEq, Int.reduceLT, Int.reduceGT, Int.reduceGE, Int.reduceBNe, List.append_eq, below, belows, List.all_toArray, endQ_normal, C1_ti3, C1_td3, C1_fit3, C1_ti4, C1_td4, C1_fit4, C1_ti21, C1_td21, C1_fit21, C1_ti22, C1_td22, C1_ti64, C1_td64, Int.tdiv_eq_ediv_of_nonneg, Int.tmod_eq_emod_of_nonneg, Int.fdiv_eq_ediv_of_nonneg, nth_drop, nth_i32] | ((first | refine WG_mk (fun hg => ?_) (fun hg => ?_) | refine CD_mk (fun hg => ?_) (fun hg => ?_) | refine GD_mk (fun hg => ?_) (fun hg => ?_) | refine GQ_mk (fun hg => ?_) (fun hg => ?_) | refine PK_mk (fun hg => ?_) (fun hg => ?_)) <;> (try simp only [hg]) <;> (try simp only [decide_eq_true_eq, decide_eq_false_iff_not, Bool.not_eq_true', Bool.not_eq_false', Bool.not_eq_true, Bool.not_eq_false, Bool.and_eq_true, Bool.or_eq_true, Bool.and_eq_false_iff, Bool.or_eq_false_iff, beq_iff_eq, bne_iff_ne, ne_eq, beq_eq_false_iff_ne, bne_eq_false_iff_eq] at hg) <;> first | (exfalso; omega) | (exfalso; exact Bool.noConfusion hg) | (exfalso; exact hg trivial) | skip) | refine And.intro (by omega) ?_ | omega
        exact (by simp [wk, wkT, wkM, get, belowT, belowM, below, belows, I64, I32, Bv, U8, Sv] <;> try omega)
      rintro a10 w10 ⟨s10, G10, F10, hk10, h10⟩
      have h10' := h10.weak hk10
      have hg10 := h10.grown
      refine wpIn_cond_false (h10'.atv (k := 18) rfl) (wpIn_skip ?_)
      have hs10 : ∀ b, F b → w10.heap[b]? = W.heap[b]? := fun b hb => (hg10.block b (hlt6 hs9 hb)).trans (hs9 b hb)
      refine wpIn_mono (awpR_sound none n ok1 _ (Q := endQ (fun s => wk s (bkS L yv p (j + 1))) (fun _ _ => False) (fun _ => False)) rfl (by decide) h10' (AW.out ?_)) ?_
      · repeat' first | simp (maxSteps := 4000000) (disch := omega) only [base, baseX, Option.getD_some, ↓WG_true, ↓WG_false, labelOf, findLabel, Option.isSome_some, Option.isSome_none, dstOf, get, put, putD, List.getElem?_cons_zero, List.getElem?_cons_succ, Option.bind_some, Nat.reduceEqDiff, ↓reduceIte, importS, imp, imps, shift, shifts, List.map_nil, List.map_cons, List.nil_append, List.append_nil, List.cons_append, List.length_nil, List.length_cons, true_and, and_true, TI.agg, Option.map_some, Option.map_none, pushS, obj, setOb, killT, killM, killO, cond_true, cond_false, beq_self_eq_true, Nat.reduceBEq, killCs, hasId, hasIds, List.drop_zero, List.take_succ_cons, List.take_zero, List.take_nil, List.drop_succ_cons, Nat.mul_one, Nat.one_mul, Nat.add_zero, Nat.zero_add, Nat.zero_mul, Int.toNat_natCast, Int.toNat_zero, Int.toNat_one, List.length_map, List.length_drop, List.length_append, Nat.reduceAdd, Nat.reduceMul, Nat.reduceSub, Nat.reduceLeDiff, Nat.lt_add_one, Nat.zero_lt_succ, Nat.succ_pos, decide_true, decide_false, Bool.and_true, Bool.true_and, Bool.and_false, Bool.false_and, Bool.or_true, Bool.true_or, Bool.or_false, Bool.false_or, Bool.not_true, Bool.not_false, beq_iff_eq, List.contains_nil, initT, List.all_cons, List.all_nil, List.toList_toArray, Int.ofNat_zero, reduceCtorEq, Int.reduceNe, Int.reduceLE, Int.reduceEq, ne_eq, not_false_eq_true, Int.reducePow, Int.toNat_of_nonneg, Int.reduceAdd, Int.reduceSub, Int.reduceMul, I32, I64, Bv, U8, Sv, unown, unowns, names, namess, Bool.or_self, Bool.true_beq, Bool.false_beq, plainR, plainRs, Int.cast_ofNat_Int, Int.reduceBEq, Int.reduceLT, Int.reduceGT, Int.reduceGE, Int.reduceBNe, List.append_eq, below, belows, List.all_toArray, endQ_normal, C1_ti3, C1_td3, C1_fit3, C1_ti4, C1_td4, C1_fit4, C1_ti21, C1_td21, C1_fit21, C1_ti22, C1_td22, C1_ti64, C1_td64, Int.tdiv_eq_ediv_of_nonneg, Int.tmod_eq_emod_of_nonneg, Int.fdiv_eq_ediv_of_nonneg, nth_drop, nth_i32] | ((first | refine WG_mk (fun hg => ?_) (fun hg => ?_) | refine CD_mk (fun hg => ?_) (fun hg => ?_) | refine GD_mk (fun hg => ?_) (fun hg => ?_) | refine GQ_mk (fun hg => ?_) (fun hg => ?_) | refine PK_mk (fun hg => ?_) (fun hg => ?_)) <;> (try simp only [hg]) <;> (try simp only [decide_eq_true_eq, decide_eq_false_iff_not, Bool.not_eq_true', Bool.not_eq_false', Bool.not_eq_true, Bool.not_eq_false, Bool.and_eq_true, Bool.or_eq_true, Bool.and_eq_false_iff, Bool.or_eq_false_iff, beq_iff_eq, bne_iff_ne, ne_eq, beq_eq_false_iff_ne, bne_eq_false_iff_eq] at hg) <;> first | (exfalso; omega) | (exfalso; exact Bool.noConfusion hg) | (exfalso; exact hg trivial) | skip) | refine And.intro (by omega) ?_ | omega
        unfold bkS
        exact (by simp [wk, wkT, wkM, get, belowT, belowM, below, belows, I64, I32, Bv, U8, Sv] <;> try omega)
      rintro e11 a11 w11 ⟨s11, G11, F11, hq11, h11⟩
      cases e11 with
      | normal =>
        obtain ⟨d11, n11, g110, g111, g113⟩ := hinv h11 hq11
        have hg11 := h11.grown
        refine ⟨⟨j + 1, by omega, d11.trans d9, n11, g110, g111, g113, ?_, fun b hb => (hg11.block b (hlt6 hs9 hb)).trans (hs9 b hb)⟩, ?_⟩
        · rw [hbt]; exact grow hg11 hJ9
        · show (match a11.tmps.getD 3 undef with | .int _ x => (x + 1).toNat | _ => 0) < (match a3.tmps.getD 3 undef with | .int _ x => (x + 1).toNat | _ => 0)
          rw [g113, g33]
          show ((L.length : Int) - 1 - ((j + 1 : Nat) : Int) + 1).toNat < ((L.length : Int) - 1 - j + 1).toNat
          omega
      | _ => exact hq11.elim
    · refine ⟨_, rfl, ?_⟩
      obtain ⟨d9, n9, g9⟩ := hput (.bool false)
      have hF9 : ∀ b, (fun _ : Nat => False) b → b < w9.heap.size := fun b h => h.elim
      have h9 := rel_vs (N := 19) _ hF9 n9 g9
      refine list_end none n ok1 (endQ (fun s => wk s ⟨[(18, Bv true)], []⟩) (fun _ _ => False) (fun _ => False)) (by decide) h9 ?_ ?_
      · repeat' first | simp (maxSteps := 4000000) (disch := omega) only [base, baseX, Option.getD_some, ↓WG_true, ↓WG_false, labelOf, findLabel, Option.isSome_some, Option.isSome_none, dstOf, get, put, putD, List.getElem?_cons_zero, List.getElem?_cons_succ, Option.bind_some, Nat.reduceEqDiff, ↓reduceIte, importS, imp, imps, shift, shifts, List.map_nil, List.map_cons, List.nil_append, List.append_nil, List.cons_append, List.length_nil, List.length_cons, true_and, and_true, TI.agg, Option.map_some, Option.map_none, pushS, obj, setOb, killT, killM, killO, cond_true, cond_false, beq_self_eq_true, Nat.reduceBEq, killCs, hasId, hasIds, List.drop_zero, List.take_succ_cons, List.take_zero, List.take_nil, List.drop_succ_cons, Nat.mul_one, Nat.one_mul, Nat.add_zero, Nat.zero_add, Nat.zero_mul, Int.toNat_natCast, Int.toNat_zero, Int.toNat_one, List.length_map, List.length_drop, List.length_append, Nat.reduceAdd, Nat.reduceMul, Nat.reduceSub, Nat.reduceLeDiff, Nat.lt_add_one, Nat.zero_lt_succ, Nat.succ_pos, decide_true, decide_false, Bool.and_true, Bool.true_and, Bool.and_false, Bool.false_and, Bool.or_true, Bool.true_or, Bool.or_false, Bool.false_or, Bool.not_true, Bool.not_false, beq_iff_eq, List.contains_nil, initT, List.all_cons, List.all_nil, List.toList_toArray, Int.ofNat_zero, reduceCtorEq, Int.reduceNe, Int.reduceLE, Int.reduceEq, ne_eq, not_false_eq_true, Int.reducePow, Int.toNat_of_nonneg, Int.reduceAdd, Int.reduceSub, Int.reduceMul, I32, I64, Bv, U8, Sv, unown, unowns, names, namess, Bool.or_self, Bool.true_beq, Bool.false_beq, plainR, plainRs, Int.cast_ofNat_Int, Int.reduceBEq, Int.reduceLT, Int.reduceGT, Int.reduceGE, Int.reduceBNe, List.append_eq, below, belows, List.all_toArray, endQ_normal, C1_ti3, C1_td3, C1_fit3, C1_ti4, C1_td4, C1_fit4, C1_ti21, C1_td21, C1_fit21, C1_ti22, C1_td22, C1_ti64, C1_td64, Int.tdiv_eq_ediv_of_nonneg, Int.tmod_eq_emod_of_nonneg, Int.fdiv_eq_ediv_of_nonneg, nth_drop, nth_i32] | ((first | refine WG_mk (fun hg => ?_) (fun hg => ?_) | refine CD_mk (fun hg => ?_) (fun hg => ?_) | refine GD_mk (fun hg => ?_) (fun hg => ?_) | refine GQ_mk (fun hg => ?_) (fun hg => ?_) | refine PK_mk (fun hg => ?_) (fun hg => ?_)) <;> (try simp only [hg]) <;> (try simp only [decide_eq_true_eq, decide_eq_false_iff_not, Bool.not_eq_true', Bool.not_eq_false', Bool.not_eq_true, Bool.not_eq_false, Bool.and_eq_true, Bool.or_eq_true, Bool.and_eq_false_iff, Bool.or_eq_false_iff, beq_iff_eq, bne_iff_ne, ne_eq, beq_eq_false_iff_ne, bne_eq_false_iff_eq] at hg) <;> first | (exfalso; omega) | (exfalso; exact Bool.noConfusion hg) | (exfalso; exact hg trivial) | skip) | refine And.intro (by omega) ?_ | omega
        exact (by simp [wk, wkT, wkM, get, belowT, belowM, below, belows, I64, I32, Bv, U8, Sv] <;> try omega)
      rintro a10 w10 ⟨s10, G10, F10, hk10, h10⟩
      have h10' := h10.weak hk10
      have hg10 := h10.grown
      refine wpIn_cond_true (h10'.atv (k := 18) rfl) (wpIn_ret ?_)
      refine ⟨h10.defers.trans d9, _, results_none rfl _ _ _, ⟨_, rfl⟩, .inr ⟨_, ?_, hJx _ _ _ none hJx9 ⟨hg10.os, hg10.tape, hg10.output, hg10.size, fun k hk _ => hg10.block k hk⟩ (fun r e => by cases e)⟩⟩
      · rw [← hbt]; exact List.take_prefix _ _
  | _ => exact hq4.elim
end Go.AE
end
