/- Contracts of functions that the laws of this seat reach, and plain laws of what they compute. No condition beyond each statement's own. -/
import Derived.Test.YtpooocpgpjimgaaDoorR1
set_option linter.unusedVariables false
set_option linter.unusedSimpArgs false
section
/- Replies: Keys; what Take answers, code and text named. -/
namespace Go.AE
open Go.Proofs
set_option maxRecDepth 20000
set_option maxHeartbeats 8000000
set_option linter.unusedSimpArgs false
theorem u8_ltR (c : UInt8) : c.toNat < 256 := c.toNat_lt
def plC (c : UInt8) : UInt8 := if 65 ≤ c.toNat ∧ c.toNat ≤ 90 then c + 32 else c
def plS (s : List UInt8) : List UInt8 := s.map plC
theorem plC_yes {c : UInt8} (h : 65 ≤ c.toNat ∧ c.toNat ≤ 90) : (plC c).toNat = c.toNat + 32 := by
  have e : (32 : UInt8).toNat = 32 := rfl
  unfold plC; rw [if_pos h, UInt8.toNat_add, e]; omega
theorem plC_no {c : UInt8} (h : ¬ (65 ≤ c.toNat ∧ c.toNat ≤ 90)) : plC c = c := by unfold plC; rw [if_neg h]
theorem plain1_spec (c : UInt8) : Spec Tryd.prog 31 [U8 c] (U8 (plC c)) := by
  refine spec_mk (z := false) (ts := [.tmp 2]) ok1 Tryd.func31 rfl rfl (by decide +kernel) (by simp [Tryd.ntmps31]) rfl ?_
  have hc := u8_ltR c
  by_cases h : 65 ≤ c.toNat ∧ c.toNat ≤ 90
  · have e := plC_yes h
    repeat' first | simp (maxSteps := 4000000) (disch := omega) only [bunL, bunD, bun, ↓WG_true, ↓WG_false, labelOf, findLabel, ↓reduceIte, imp, shift, killO, hasId, unown, names, plainR, below, noF, isF, lendObs, lendOb, kindOk, ren, givL, updM, backO, renO, belowM, seval, -Int.reduceToNat, B4, B5, bunN, Int.reduceToNat, List.map_nil, List.nil_append] | refine DR_q _ ?_ | (refine Fk.fk ?_ ?_ <;> intro hg <;> (try simp only [hg]) <;> (try simp only [bunB] at hg) <;> try (exfalso; first | omega | exact Bool.noConfusion hg | exact hg trivial)) | refine And.intro (by omega) ?_ | omega
    all_goals first | omega | (congr 3; omega) | trace_state
  · rw [plC_no h]
    repeat' first | simp (maxSteps := 4000000) (disch := omega) only [bunL, bunD, bun, ↓WG_true, ↓WG_false, labelOf, findLabel, ↓reduceIte, imp, shift, killO, hasId, unown, names, plainR, below, noF, isF, lendObs, lendOb, kindOk, ren, givL, updM, backO, renO, belowM, seval, -Int.reduceToNat, B4, B5, bunN, Int.reduceToNat, List.map_nil, List.nil_append] | refine DR_q _ ?_ | (refine Fk.fk ?_ ?_ <;> intro hg <;> (try simp only [hg]) <;> (try simp only [bunB] at hg) <;> try (exfalso; first | omega | exact Bool.noConfusion hg | exact hg trivial)) | refine And.intro (by omega) ?_ | omega
    all_goals first | omega | trace_state
theorem take_snocR {α : Type} (s : List α) (i : Nat) (d : α) (h : i < s.length) : s.take (i + 1) = s.take i ++ [s.getD i d] := by
  rw [List.take_add_one]; simp [List.getD, h]
theorem eachB4_spec (s : List UInt8) (hl : s.length ≤ 100000) : Spec Tryd.prog 30 [.sl s.length (s.map U8), .fn 31 [] []] (.own 5 1 s.length ((plS s).map U8)) := by
  refine spec_mk (z := false) (ts := [.tmp 4]) ok1 Tryd.func30 rfl rfl (by decide +kernel) (by simp [Tryd.ntmps30]) rfl ?_
  repeat' first | simp (maxSteps := 4000000) (disch := omega) only [bunL, bunD, bun, ↓WG_true, ↓WG_false, labelOf, findLabel, ↓reduceIte, imp, shift, killO, hasId, unown, names, plainR, below, noF, isF, lendObs, lendOb, kindOk, ren, givL, updM, backO, renO, belowM, seval, -Int.reduceToNat, B3, B5, B56, B58, bunN, Int.reduceToNat, List.map_nil, List.nil_append] | refine DR_q _ ?_ | (refine Fk.fk ?_ ?_ <;> intro hg <;> (try simp only [hg]) <;> (try simp only [bunB] at hg) <;> try (exfalso; first | omega | exact Bool.noConfusion hg | exact hg trivial)) | refine And.intro (by omega) ?_ | omega
  refine LP_intro (fun i : Nat => ⟨[(1, .fn 31 [] []), (5, .ref 1 0 i), (8, .sl s.length (s.map U8)), (9, I64 s.length), (10, I64 i)], [.dead, .arr 5 1 ((plS (s.take i)).map U8)]⟩) (fun i => i ≤ s.length) (fun i => s.length - i) 0 (by simp) (by (simp (disch := omega) [wk, wkT, wkM, noF, isF, get, belowT, belowM, below, belows, I64, I32, Bv, U8, Sv, plS] <;> try omega)) ?_
  intro i hi
  have hlt0 : (s.take i).length = i := by simp; omega
  have hlp : (plS (s.take i)).length = i := by simp [plS]; omega
  by_cases hlt : i < s.length
  · have ht : plS (s.take (i + 1)) = plS (s.take i) ++ [plC (s.getD i 0)] := by unfold plS; rw [take_snocR s i 0 hlt, List.map_append]; rfl
    have hs := plain1_spec (s.getD i 0)
    repeat' first | refine WE_fit (hs) ?_ ?_ | simp (maxSteps := 4000000) (disch := omega) only [bunL, bunD, bun, ↓WG_true, ↓WG_false, labelOf, findLabel, ↓reduceIte, imp, shift, killO, hasId, unown, names, plainR, below, noF, isF, lendObs, lendOb, kindOk, ren, givL, updM, backO, renO, belowM, seval, -Int.reduceToNat, hlp, B3, B5, B56, B58, bunN, Int.reduceToNat, List.map_nil, List.nil_append] | exact NK_no _ | refine NK_cl _ _ ?_ | exact Cln.cl | refine clean_tup _ ?_ | refine cleans_cons _ _ ?_ ?_ | refine DR_q _ ?_ | (refine Fk.fk ?_ ?_ <;> intro hg <;> (try simp only [hg]) <;> (try simp only [bunB] at hg) <;> try (exfalso; first | omega | exact Bool.noConfusion hg | exact hg trivial)) | refine And.intro (by omega) ?_ | omega
    refine ⟨i + 1, by omega, by omega, ?_⟩
    rw [ht]
    (simp (disch := omega) [wk, wkT, wkM, noF, isF, get, belowT, belowM, below, belows, I64, I32, Bv, U8, Sv, List.map_append] <;> try omega)
  · have e : i = s.length := by omega
    subst e
    rw [List.take_length] at *
    repeat' first | simp (maxSteps := 4000000) (disch := omega) only [bunL, bunD, bun, ↓WG_true, ↓WG_false, labelOf, findLabel, ↓reduceIte, imp, shift, killO, hasId, unown, names, plainR, below, noF, isF, lendObs, lendOb, kindOk, ren, givL, updM, backO, renO, belowM, seval, -Int.reduceToNat, hlp, B3, B5, B56, B58, bunN, Int.reduceToNat, List.map_nil, List.nil_append] | refine DR_q _ ?_ | (refine Fk.fk ?_ ?_ <;> intro hg <;> (try simp only [hg]) <;> (try simp only [bunB] at hg) <;> try (exfalso; first | omega | exact Bool.noConfusion hg | exact hg trivial)) | refine And.intro (by omega) ?_ | omega
theorem plain4_spec (s : List UInt8) (hl : s.length ≤ 100000) : Spec Tryd.prog 24 [Sv s] (Sv (plS s)) := by
  have h := eachB4_spec s hl
  have hlp : (plS s).length = s.length := by simp [plS]
  have htk : List.take s.length ((plS s).map U8) = (plS s).map U8 := List.take_of_length_le (by simp [plS])
  refine spec_mk (z := false) (ts := [.tmp 2]) ok1 Tryd.func24 rfl rfl (by decide +kernel) (by simp [Tryd.ntmps24]) rfl ?_
  repeat' first | refine WE_fit (h) ?_ ?_ | simp (maxSteps := 4000000) (disch := omega) only [bunL, bunD, bun, ↓WG_true, ↓WG_false, labelOf, findLabel, ↓reduceIte, imp, shift, killO, hasId, unown, names, plainR, below, noF, isF, lendObs, lendOb, kindOk, ren, givL, updM, backO, renO, belowM, seval, -Int.reduceToNat, hlp, htk, B9, B5, B56, B58, bunN, Int.reduceToNat, List.map_nil, List.nil_append] | exact NK_no _ | refine NK_cl _ _ ?_ | exact Cln.cl | refine clean_tup _ ?_ | refine cleans_cons _ _ ?_ ?_ | refine DR_q _ ?_ | (refine Fk.fk ?_ ?_ <;> intro hg <;> (try simp only [hg]) <;> (try simp only [bunB] at hg) <;> try (exfalso; first | omega | exact Bool.noConfusion hg | exact hg trivial)) | refine And.intro (by omega) ?_ | omega
def keyS (s : List UInt8) : List UInt8 := plS (Lib.cut s [32]).1
def kyF (L : List (List UInt8)) (k : Nat) : List (List UInt8) := ((L.take k).drop 1).map keyS
theorem kyF_succ {L : List (List UInt8)} {k : Nat} (h0 : 0 < k) (h : k < L.length) : kyF L (k + 1) = kyF L k ++ [keyS (L.getD k [])] := by
  unfold kyF
  rw [take_snocR L k [] h, List.drop_append_of_le_length (by rw [List.length_take]; omega), List.map_append]; rfl
theorem kyF_len {L : List (List UInt8)} {k : Nat} (h : k ≤ L.length) : (kyF L k).length = k - 1 := by
  simp [kyF]; omega
theorem cut_len (s : List UInt8) : (Lib.cut s [32]).1.length ≤ s.length := by
  unfold Lib.cut
  split
  · simp; omega
  · exact Nat.le_refl _
theorem keys_spec (c : Int) (L : List (List UInt8)) (hn : L.length ≤ 60) (hL : ∀ s ∈ L, s.length ≤ 600) :
    Spec Tryd.prog 13 [.ag [I64 c, .sl L.length (L.map Sv)]] (.own 9 1 (L.length - 1) ((kyF L L.length).map Sv)) := by
  refine spec_mk (z := false) (ts := [.tmp 2]) ok1 Tryd.func13 rfl rfl (by decide +kernel) (by simp [Tryd.ntmps13]) rfl ?_
  repeat' first | simp (maxSteps := 4000000) (disch := omega) only [bunL, bunD, bun, ↓WG_true, ↓WG_false, labelOf, findLabel, ↓reduceIte, imp, shift, killO, hasId, unown, names, plainR, below, noF, isF, lendObs, lendOb, kindOk, ren, givL, updM, backO, renO, belowM, seval, -Int.reduceToNat, B4, D24, bunN, Int.reduceToNat, List.map_nil, List.nil_append] | refine DR_q _ ?_ | (refine Fk.fk ?_ ?_ <;> intro hg <;> (try simp only [hg]) <;> (try simp only [bunB] at hg) <;> try (exfalso; first | omega | exact Bool.noConfusion hg | exact hg trivial)) | refine And.intro (by omega) ?_ | omega
  refine LP_intro (fun k : Nat => ⟨[(3, .ref 2 0 (k - 1)), (10, .sl L.length (L.map Sv)), (11, I64 L.length), (12, I64 k)], [.dead, .dead, .arr 9 1 ((kyF L k).map Sv)]⟩) (fun k => k ≤ L.length) (fun k => L.length - k) 0 (by simp) (by (simp (disch := omega) [wk, wkT, wkM, noF, isF, get, belowT, belowM, below, belows, I64, I32, Bv, U8, Sv, kyF] <;> try omega)) ?_
  intro k hk
  have hkl := kyF_len hk
  by_cases hlt : k < L.length
  · have hk6 : (L.getD k []).length ≤ 600 := hL _ (by simp [List.getD, hlt])
    by_cases h0 : 0 < k
    · have h1 := cut_spec (L.getD k []) [32] (by omega)
      have hcl := cut_len (L.getD k [])
      have h2 := plain4_spec (Lib.cut (L.getD k []) [32]).1 (by omega)
      have ek : (k : Int) ≠ 0 := by omega
      repeat' first | refine WE_fit (h1) ?_ ?_ | refine WE_fit (h2) ?_ ?_ | simp (maxSteps := 4000000) (disch := omega) only [bunL, bunD, bun, ↓WG_true, ↓WG_false, labelOf, findLabel, ↓reduceIte, imp, shift, killO, hasId, unown, names, plainR, below, noF, isF, lendObs, lendOb, kindOk, ren, givL, updM, backO, renO, belowM, seval, -Int.reduceToNat, hkl, B4, D24, bunN, Int.reduceToNat, List.map_nil, List.nil_append] | exact NK_no _ | refine NK_cl _ _ ?_ | exact Cln.cl | refine clean_tup _ ?_ | refine cleans_cons _ _ ?_ ?_ | refine DR_q _ ?_ | (refine Fk.fk ?_ ?_ <;> intro hg <;> (try simp only [hg]) <;> (try simp only [bunB] at hg) <;> try (exfalso; first | omega | exact Bool.noConfusion hg | exact hg trivial)) | refine And.intro (by omega) ?_ | omega
      refine ⟨k + 1, by omega, by omega, ?_⟩
      rw [kyF_succ h0 hlt]
      have e1 : k + 1 - 1 = k - 1 + 1 := by omega
      rw [e1]
      unfold keyS
      (simp (disch := omega) [wk, wkT, wkM, noF, isF, get, belowT, belowM, below, belows, I64, I32, Bv, U8, Sv, List.map_append] <;> try omega)
    · have e : k = 0 := by omega
      subst e
      repeat' first | simp (maxSteps := 4000000) (disch := omega) only [bunL, bunD, bun, ↓WG_true, ↓WG_false, labelOf, findLabel, ↓reduceIte, imp, shift, killO, hasId, unown, names, plainR, below, noF, isF, lendObs, lendOb, kindOk, ren, givL, updM, backO, renO, belowM, seval, -Int.reduceToNat, B4, D24, bunN, Int.reduceToNat, List.map_nil, List.nil_append] | refine DR_q _ ?_ | (refine Fk.fk ?_ ?_ <;> intro hg <;> (try simp only [hg]) <;> (try simp only [bunB] at hg) <;> try (exfalso; first | omega | exact Bool.noConfusion hg | exact hg trivial)) | refine And.intro (by omega) ?_ | omega
      refine ⟨1, by omega, by omega, ?_⟩
      have e1 : kyF L 1 = [] := by unfold kyF; rw [show (L.take 1).drop 1 = [] from List.drop_eq_nil_iff.2 (by simp; omega)]; rfl
      have e2 : kyF L 0 = [] := by simp [kyF]
      rw [e1]
      (simp (disch := omega) [wk, wkT, wkM, noF, isF, get, belowT, belowM, below, belows, I64, I32, Bv, U8, Sv, e2] <;> try omega)
  · have e : k = L.length := by omega
    subst e
    repeat' first | simp (maxSteps := 4000000) (disch := omega) only [bunL, bunD, bun, ↓WG_true, ↓WG_false, labelOf, findLabel, ↓reduceIte, imp, shift, killO, hasId, unown, names, plainR, below, noF, isF, lendObs, lendOb, kindOk, ren, givL, updM, backO, renO, belowM, seval, -Int.reduceToNat, hkl, B4, D24, bunN, Int.reduceToNat, List.map_nil, List.nil_append] | refine DR_q _ ?_ | (refine Fk.fk ?_ ?_ <;> intro hg <;> (try simp only [hg]) <;> (try simp only [bunB] at hg) <;> try (exfalso; first | omega | exact Bool.noConfusion hg | exact hg trivial)) | refine And.intro (by omega) ?_ | omega
    all_goals trace_state
/-! ### What Take answers, its line's code and text named. -/
theorem takeNm (s : List UInt8) (c : Int) (t : List UInt8) (hs : s.length ≤ 1000000) (h : rdK s = true) (hm : rdMo s = true) (hc : codk s 3 = c) (ht : s.drop 4 = t) :
    SpecL Tryd.prog 10 [.row true 1 [I64 0, nilA]] [.ptr 0 0, Sv s] [.row true 1 [I64 c, .ref 5 0 1], .fence, .dead, .dead, .dead, .arr 9 1 [Sv t]] (.tup [zRep, Bv false, I64 0]) := by
  subst hc ht; exact takeN_more s hs h hm
theorem takeNd (s : List UInt8) (c : Int) (t : List UInt8) (hs : s.length ≤ 1000000) (h : rdK s = true) (hm : rdMo s = false) (hc : codk s 3 = c) (ht : s.drop 4 = t) :
    SpecL Tryd.prog 10 [.row true 1 [I64 0, nilA]] [.ptr 0 0, Sv s] [.row true 1 [I64 0, nilA], .fence, .dead, .dead, .dead, .arr 9 1 [Sv t]] (.tup [.ag [I64 c, .ref 5 0 1], Bv true, I64 0]) := by
  subst hc ht; exact takeN_done s hs h hm
theorem takeAm (c : Int) (L : List (List UInt8)) (s t : List UInt8) (h0 : 0 < L.length) (h32 : L.length < 32) (hs : s.length ≤ 1000000) (h : rdK s = true) (hm : rdMo s = true) (hc : codk s 3 = c) (ht : s.drop 4 = t) :
    SpecL Tryd.prog 10 [.row true 1 [I64 c, .ref 1 0 L.length], .arr 9 1 (L.map Sv)] [.ptr 0 0, Sv s] [.row true 1 [I64 c, .ref 1 0 (L.length + 1)], .arr 9 1 ((L ++ [t]).map Sv), .fence] (.tup [zRep, Bv false, I64 0]) := by
  subst ht; exact takeA_more c L h0 h32 s hs h hc hm
theorem takeAd (c : Int) (L : List (List UInt8)) (s t : List UInt8) (h0 : 0 < L.length) (h32 : L.length < 32) (hs : s.length ≤ 1000000) (h : rdK s = true) (hm : rdMo s = false) (hc : codk s 3 = c) (ht : s.drop 4 = t) :
    SpecL Tryd.prog 10 [.row true 1 [I64 c, .ref 1 0 L.length], .arr 9 1 (L.map Sv)] [.ptr 0 0, Sv s] [.row true 1 [I64 0, nilA], .arr 9 1 ((L ++ [t]).map Sv), .fence] (.tup [.ag [I64 c, .ref 1 0 (L.length + 1)], Bv true, I64 0]) := by
  subst ht; exact takeA_done c L h0 h32 s hs h hc hm
end Go.AE
end
section
/- Replies: the small case of the laws. -/
namespace Go.AE
open Go.Proofs
set_option maxRecDepth 20000
set_option maxHeartbeats 8000000
set_option linter.unusedSimpArgs false
theorem rsmall_spec : Spec Tryd.prog 6 [] (Bv true) := by
  have t1 := takeNm [50, 53, 48, 45, 97, 32, 98] 250 [97, 32, 98] (by decide) (by decide) (by decide) (by decide) (by decide)
  have t2 := takeAd 250 [[97, 32, 98]] [50, 53, 48, 32, 99] [99] (by decide) (by decide) (by decide) (by decide) (by decide) (by decide) (by decide)
  have t3 := takeN_no [50, 53, 48, 48] (by decide) (by decide)
  have t4 := takeNm [50, 53, 48, 45, 120] 250 [120] (by decide) (by decide) (by decide) (by decide) (by decide)
  have t5 := takeA_no 250 [[120]] (by decide) (by decide) [50, 53, 49, 32, 121] (by decide) (by decide)
  have t6 := takeNd [50, 50, 48] 220 [] (by decide) (by decide) (by decide) (by decide) (by decide)
  have o1 := open_spec 250 [Sv [97, 32, 98]] 1 (by decide)
  have o2 := openN_spec 0
  have p1 := print_spec 250 [[120], [121]] (by decide) (by decide) (by decide) (by decide) (by decide)
  have k1 := keys_spec 250 [[120], [83, 73, 90, 69, 32, 57], [83, 109, 116, 112, 85, 116, 102, 56]] (by decide) (by decide)
  have c1 := class_spec 451 (by decide) (by decide)
  have c2 := class_spec 199 (by decide) (by decide)
  have r1 := right_spec 250 [[97, 32, 98], [99]] (by decide) (by unfold lenL; decide)
  have r2 := rightN_spec 250
  rw [show (if codB 451 then (451 : Int) / 100 else 0) = 4 by decide] at c1
  rw [show (if codB 199 then (199 : Int) / 100 else 0) = 0 by decide] at c2
  rw [show rightB 250 [[97, 32, 98], [99]] = true by decide] at r1
  simp only [zRep, nilA, List.length_cons, List.length_nil, List.cons_append, List.nil_append, Nat.zero_add, Nat.reduceAdd, Nat.reduceSub] at t1 t2 t3 t4 t5 t6 o1 o2 p1 k1 r1 r2
  rw [show prF 250 [[120], [121]] 2 = [[50, 53, 48, 45, 120], [50, 53, 48, 32, 121]] by decide +kernel] at p1
  rw [show kyF [[120], [83, 73, 90, 69, 32, 57], [83, 109, 116, 112, 85, 116, 102, 56]] 3 = [[115, 105, 122, 101], [115, 109, 116, 112, 117, 116, 102, 56]] by decide +kernel] at k1
  rw [show decide (0 < 1) = true by decide] at o1
  simp only [List.map_cons, List.map_nil] at t2 t5 p1 k1 r1
  refine spec_mk (z := false) (ts := [.tmp 0]) ok1 Tryd.func6 rfl rfl (by decide +kernel) (by simp [Tryd.ntmps6]) rfl ?_
  repeat' first | (refine WL_fit [0] (t1) ?_; clear t1) | (refine WL_fit [0, 5] (t2) ?_; clear t2) | (refine WL_fit [0] (t3) ?_; clear t3) | (refine WL_fit [0] (t4) ?_; clear t4) | (refine WL_fit [0, 15] (t5) ?_; clear t5) | (refine WL_fit [0] (t6) ?_; clear t6) | refine WE_fit (o1) ?_ ?_ | refine WE_fit (o2) ?_ ?_ | refine WE_fit (p1) ?_ ?_ | refine WE_fit (k1) ?_ ?_ | refine WE_fit (c1) ?_ ?_ | refine WE_fit (c2) ?_ ?_ | refine WE_fit (r1) ?_ ?_ | refine WE_fit (r2) ?_ ?_ | simp (maxSteps := 4000000) (disch := omega) only [bunL, bunD, bun, ↓WG_true, ↓WG_false, labelOf, findLabel, ↓reduceIte, imp, shift, killO, hasId, unown, names, plainR, below, noF, isF, lendObs, lendOb, kindOk, ren, givL, updM, backO, renO, belowM, seval, -Int.reduceToNat, B4, D31, B34, bunN, Int.reduceToNat, List.map_nil, List.nil_append] | exact NK_no _ | refine NK_cl _ _ ?_ | exact Cln.cl | refine clean_tup _ ?_ | refine cleans_cons _ _ ?_ ?_ | refine DR_q _ ?_ | (refine Fk.fk ?_ ?_ <;> intro hg <;> (try simp only [hg]) <;> (try simp only [bunB] at hg) <;> try (exfalso; first | omega | exact Bool.noConfusion hg | exact hg trivial)) | refine And.intro (by omega) ?_ | omega
  · exact clean_str _ _ _ [[50, 53, 48, 45, 120], [50, 53, 48, 32, 121]]
  · exact clean_str _ _ _ [[115, 105, 122, 101], [115, 109, 116, 112, 117, 116, 102, 56]]
end Go.AE
end
section
/- Replies: many lines. -/
namespace Go.AE
open Go.Proofs
set_option maxRecDepth 20000
set_option maxHeartbeats 8000000
set_option linter.unusedSimpArgs false
def xL (k : Nat) : List (List UInt8) := List.replicate k [120]
theorem xL_len (k : Nat) : (xL k).length = k := by simp [xL]
theorem xL_succ (k : Nat) : xL (k + 1) = xL k ++ [[120]] := by
  unfold xL; rw [List.replicate_succ']
def pS : Nat → List Ob
  | 0 => [.row true 1 [I64 0, nilA]]
  | k + 1 => [.row true 1 [I64 250, .ref 1 0 (k + 1)], .arr 9 1 ((xL (k + 1)).map Sv)]
theorem many_spec (n : Int) (h0 : -9223372036854775808 ≤ n) (h1 : n ≤ 9223372036854775807) : Spec Tryd.prog 5 [I64 n] (Bv true) := by
  refine spec_mk (z := false) (ts := [.tmp 2]) ok1 Tryd.func5 rfl rfl (by decide +kernel) (by simp [Tryd.ntmps5]) rfl ?_
  by_cases hn : n < 0 ∨ n > 80
  · rcases hn with hn | hn
    · repeat' first | refine WE_fit (rsmall_spec) ?_ ?_ | simp (maxSteps := 4000000) (disch := omega) only [bunL, bunD, bun, ↓WG_true, ↓WG_false, labelOf, findLabel, ↓reduceIte, imp, shift, killO, hasId, unown, names, plainR, below, noF, isF, lendObs, lendOb, kindOk, ren, givL, updM, backO, renO, belowM, seval, -Int.reduceToNat, B4, D31, B34, bunN, Int.reduceToNat, List.map_nil, List.nil_append] | exact NK_no _ | refine NK_cl _ _ ?_ | exact Cln.cl | refine clean_tup _ ?_ | refine cleans_cons _ _ ?_ ?_ | refine DR_q _ ?_ | (refine Fk.fk ?_ ?_ <;> intro hg <;> (try simp only [hg]) <;> (try simp only [bunB] at hg) <;> try (exfalso; first | omega | exact Bool.noConfusion hg | exact hg trivial)) | refine And.intro (by omega) ?_ | omega
    · have hn2 : ¬ n < 0 := by omega
      repeat' first | refine WE_fit (rsmall_spec) ?_ ?_ | simp (maxSteps := 4000000) (disch := omega) only [bunL, bunD, bun, ↓WG_true, ↓WG_false, labelOf, findLabel, ↓reduceIte, imp, shift, killO, hasId, unown, names, plainR, below, noF, isF, lendObs, lendOb, kindOk, ren, givL, updM, backO, renO, belowM, seval, -Int.reduceToNat, B4, D31, B34, bunN, Int.reduceToNat, List.map_nil, List.nil_append] | exact NK_no _ | refine NK_cl _ _ ?_ | exact Cln.cl | refine clean_tup _ ?_ | refine cleans_cons _ _ ?_ ?_ | refine DR_q _ ?_ | (refine Fk.fk ?_ ?_ <;> intro hg <;> (try simp only [hg]) <;> (try simp only [bunB] at hg) <;> try (exfalso; first | omega | exact Bool.noConfusion hg | exact hg trivial)) | refine And.intro (by omega) ?_ | omega
  · repeat' first | refine WE_fit (rsmall_spec) ?_ ?_ | simp (maxSteps := 4000000) (disch := omega) only [bunL, bunD, bun, ↓WG_true, ↓WG_false, labelOf, findLabel, ↓reduceIte, imp, shift, killO, hasId, unown, names, plainR, below, noF, isF, lendObs, lendOb, kindOk, ren, givL, updM, backO, renO, belowM, seval, -Int.reduceToNat, B4, D31, B34, bunN, Int.reduceToNat, List.map_nil, List.nil_append] | exact NK_no _ | refine NK_cl _ _ ?_ | exact Cln.cl | refine clean_tup _ ?_ | refine cleans_cons _ _ ?_ ?_ | refine DR_q _ ?_ | (refine Fk.fk ?_ ?_ <;> intro hg <;> (try simp only [hg]) <;> (try simp only [bunB] at hg) <;> try (exfalso; first | omega | exact Bool.noConfusion hg | exact hg trivial)) | refine And.intro (by omega) ?_ | omega
    all_goals first | omega | skip
    refine LP_introR (fun i : Nat => ⟨[(0, I64 n), (3, Bv true), (4, .ptr 0 0), (5, I64 i)], pS (i % 33)⟩) (fun i => (i : Int) ≤ n) (fun i => n.toNat - i) 0 (by omega) (by (simp (disch := omega) [wk, wkT, wkM, noF, isF, get, belowT, belowM, below, belows, I64, I32, Bv, U8, Sv, pS, nilA] <;> try omega)) ?_
    intro i hi
    have em : (i : Int).tmod 33 = ((i % 33 : Nat) : Int) := by rw [Int.tmod_eq_emod_of_nonneg (by omega)]; omega
    have en : ((i : Int) = n) → n.tmod 33 = ((i % 33 : Nat) : Int) := fun e => by rw [← e]; exact em
    have e0 : pS 0 = [.row true 1 [I64 0, .v (.slice none 0 0)]] := rfl
    have eS : ∀ k, 0 < k → pS k = [.row true 1 [I64 250, .ref 1 0 (xL k).length], .arr 9 1 ((xL k).map Sv)] := fun k hk => by
      cases k with
      | zero => omega
      | succ k => rw [xL_len]; rfl
    by_cases hlt : (i : Int) < n
    · by_cases hk : i % 33 = 0
      · have e2 : (i + 1) % 33 = 1 := by omega
        have t1 := takeNm [50, 53, 48, 45, 120] 250 [120] (by decide) (by decide) (by decide) (by decide) (by decide)
        simp only [zRep, nilA] at t1
        rw [hk] at em ⊢
        rw [e0]
        repeat' first | (refine WL_fit [0] (t1) ?_; clear t1) | simp (maxSteps := 4000000) (disch := omega) only [bunL, bunD, bun, ↓WG_true, ↓WG_false, labelOf, findLabel, ↓reduceIte, imp, shift, killO, hasId, unown, names, plainR, below, noF, isF, lendObs, lendOb, kindOk, ren, givL, updM, backO, renO, belowM, seval, -Int.reduceToNat, em, B4, D31, B34, bunN, Int.reduceToNat, List.map_nil, List.nil_append] | exact NK_no _ | refine NK_cl _ _ ?_ | exact Cln.cl | refine clean_tup _ ?_ | refine cleans_cons _ _ ?_ ?_ | refine DR_q _ ?_ | (refine Fk.fk ?_ ?_ <;> intro hg <;> (try simp only [hg]) <;> (try simp only [bunB] at hg) <;> try (exfalso; first | omega | exact Bool.noConfusion hg | exact hg trivial)) | refine And.intro (by omega) ?_ | omega
        refine ⟨i + 1, by omega, by omega, [0, 5], ?_⟩
        rw [e2, eS 1 (by omega)]
        simp only [wkr, renT, ren, renF, wkrM, renO, nodupN, rens]
        (simp (disch := omega) [wk, wkT, wkM, noF, isF, get, belowT, belowM, below, belows, I64, I32, Bv, U8, Sv, isF, obj, xL, List.replicate, List.map_nil] <;> try omega)
        rfl
      · rw [eS _ (by omega)]
        by_cases hf : i % 33 = 32
        · have e2 : (i + 1) % 33 = 0 := by omega
          have t1 := takeA_full 250 (xL (i % 33)) (by rw [xL_len]; omega) (by rw [xL_len]; omega) [50, 53, 48, 45, 120] (by decide) (by decide) (by decide)
          simp only [zRep, nilA] at t1
          rw [hf] at em t1 ⊢
          have hl := xL_len 32
          generalize xL 32 = X at *
          repeat' first | (refine WL_fit [0, 1] (t1) ?_; clear t1) | simp (maxSteps := 4000000) (disch := omega) only [bunL, bunD, bun, ↓WG_true, ↓WG_false, labelOf, findLabel, ↓reduceIte, imp, shift, killO, hasId, unown, names, plainR, below, noF, isF, lendObs, lendOb, kindOk, ren, givL, updM, backO, renO, belowM, seval, -Int.reduceToNat, em, B4, D31, B34, bunN, Int.reduceToNat, List.map_nil, List.nil_append] | exact NK_no _ | refine NK_cl _ _ ?_ | exact Cln.cl | refine clean_tup _ ?_ | refine cleans_cons _ _ ?_ ?_ | refine DR_q _ ?_ | (refine Fk.fk ?_ ?_ <;> intro hg <;> (try simp only [hg]) <;> (try simp only [bunB] at hg) <;> try (exfalso; first | omega | exact Bool.noConfusion hg | exact hg trivial)) | refine And.intro (by omega) ?_ | omega
          refine ⟨i + 1, by omega, by omega, [0], ?_⟩
          rw [e2, e0]
          simp only [wkr, renT, ren, renF, wkrM, renO, nodupN, rens]
          (simp (disch := omega) [wk, wkT, wkM, noF, isF, get, belowT, belowM, below, belows, I64, I32, Bv, U8, Sv, isF, obj, List.map_nil] <;> try omega)
          rfl
        · have e2 : (i + 1) % 33 = i % 33 + 1 := by omega
          have t1 := takeAm 250 (xL (i % 33)) [50, 53, 48, 45, 120] [120] (by rw [xL_len]; omega) (by rw [xL_len]; omega) (by decide) (by decide) (by decide) (by decide) (by decide)
          rw [← xL_succ] at t1
          have hl : (xL (i % 33)).length + 1 = (xL (i % 33 + 1)).length := by rw [xL_len, xL_len]
          rw [hl] at t1
          simp only [zRep, nilA] at t1
          have e3 : ¬ (((i % 33 : Nat) : Int) = 32) := by omega
          have eS2 := eS (i % 33 + 1) (by omega)
          generalize xL (i % 33) = X at *
          generalize xL (i % 33 + 1) = Y at *
          repeat' first | (refine WL_fit [0, 1] (t1) ?_; clear t1) | simp (maxSteps := 4000000) (disch := omega) only [bunL, bunD, bun, ↓WG_true, ↓WG_false, labelOf, findLabel, ↓reduceIte, imp, shift, killO, hasId, unown, names, plainR, below, noF, isF, lendObs, lendOb, kindOk, ren, givL, updM, backO, renO, belowM, seval, -Int.reduceToNat, em, e3, B4, D31, B34, bunN, Int.reduceToNat, List.map_nil, List.nil_append] | exact NK_no _ | refine NK_cl _ _ ?_ | exact Cln.cl | refine clean_tup _ ?_ | refine cleans_cons _ _ ?_ ?_ | refine DR_q _ ?_ | (refine Fk.fk ?_ ?_ <;> intro hg <;> (try simp only [hg]) <;> (try simp only [bunB] at hg) <;> try (exfalso; first | omega | exact Bool.noConfusion hg | exact hg trivial)) | refine And.intro (by omega) ?_ | omega
          refine ⟨i + 1, by omega, by omega, [0, 1], ?_⟩
          rw [e2, eS2]
          simp only [wkr, renT, ren, renF, wkrM, renO, nodupN, rens]
          (simp (disch := omega) [wk, wkT, wkM, noF, isF, get, belowT, belowM, below, belows, I64, I32, Bv, U8, Sv, isF, obj, List.map_nil] <;> try omega)
          rfl
    · have hin : (i : Int) = n := by omega
      have em := en hin
      by_cases hk : i % 33 = 0
      · have t1 := takeNd [50, 53, 48, 32, 121] 250 [121] (by decide) (by decide) (by decide) (by decide) (by decide)
        simp only [zRep, nilA] at t1
        rw [hk] at em ⊢
        rw [e0]
        repeat' first | (refine WL_fit [0] (t1) ?_; clear t1) | simp (maxSteps := 4000000) (disch := omega) only [bunL, bunD, bun, ↓WG_true, ↓WG_false, labelOf, findLabel, ↓reduceIte, imp, shift, killO, hasId, unown, names, plainR, below, noF, isF, lendObs, lendOb, kindOk, ren, givL, updM, backO, renO, belowM, seval, -Int.reduceToNat, em, B4, D31, B34, bunN, Int.reduceToNat, List.map_nil, List.nil_append] | exact NK_no _ | refine NK_cl _ _ ?_ | exact Cln.cl | refine clean_tup _ ?_ | refine cleans_cons _ _ ?_ ?_ | refine DR_q _ ?_ | (refine Fk.fk ?_ ?_ <;> intro hg <;> (try simp only [hg]) <;> (try simp only [bunB] at hg) <;> try (exfalso; first | omega | exact Bool.noConfusion hg | exact hg trivial)) | refine And.intro (by omega) ?_ | omega
      · rw [eS _ (by omega)]
        by_cases hf : i % 33 = 32
        · have t1 := takeA_full 250 (xL (i % 33)) (by rw [xL_len]; omega) (by rw [xL_len]; omega) [50, 53, 48, 32, 121] (by decide) (by decide) (by decide)
          simp only [zRep, nilA] at t1
          rw [hf] at em t1 ⊢
          have hl := xL_len 32
          generalize xL 32 = X at *
          repeat' first | (refine WL_fit [0, 1] (t1) ?_; clear t1) | simp (maxSteps := 4000000) (disch := omega) only [bunL, bunD, bun, ↓WG_true, ↓WG_false, labelOf, findLabel, ↓reduceIte, imp, shift, killO, hasId, unown, names, plainR, below, noF, isF, lendObs, lendOb, kindOk, ren, givL, updM, backO, renO, belowM, seval, -Int.reduceToNat, em, B4, D31, B34, bunN, Int.reduceToNat, List.map_nil, List.nil_append] | exact NK_no _ | refine NK_cl _ _ ?_ | exact Cln.cl | refine clean_tup _ ?_ | refine cleans_cons _ _ ?_ ?_ | refine DR_q _ ?_ | (refine Fk.fk ?_ ?_ <;> intro hg <;> (try simp only [hg]) <;> (try simp only [bunB] at hg) <;> try (exfalso; first | omega | exact Bool.noConfusion hg | exact hg trivial)) | refine And.intro (by omega) ?_ | omega
        · have t1 := takeAd 250 (xL (i % 33)) [50, 53, 48, 32, 121] [121] (by rw [xL_len]; omega) (by rw [xL_len]; omega) (by decide) (by decide) (by decide) (by decide) (by decide)
          simp only [zRep, nilA] at t1
          have e3 : ¬ (((i % 33 : Nat) : Int) = 32) := by omega
          have hl := xL_len (i % 33)
          generalize xL (i % 33) = X at *
          repeat' first | (refine WL_fit [0, 1] (t1) ?_; clear t1) | simp (maxSteps := 4000000) (disch := omega) only [bunL, bunD, bun, ↓WG_true, ↓WG_false, labelOf, findLabel, ↓reduceIte, imp, shift, killO, hasId, unown, names, plainR, below, noF, isF, lendObs, lendOb, kindOk, ren, givL, updM, backO, renO, belowM, seval, -Int.reduceToNat, em, e3, hl, B4, D31, B34, bunN, Int.reduceToNat, List.map_nil, List.nil_append] | exact NK_no _ | refine NK_cl _ _ ?_ | exact Cln.cl | refine clean_tup _ ?_ | refine cleans_cons _ _ ?_ ?_ | refine DR_q _ ?_ | (refine Fk.fk ?_ ?_ <;> intro hg <;> (try simp only [hg]) <;> (try simp only [bunB] at hg) <;> try (exfalso; first | omega | exact Bool.noConfusion hg | exact hg trivial)) | refine And.intro (by omega) ?_ | omega
          have e5 : (((i % 33 + 1 : Nat) : Int) == ((i % 33 : Nat) : Int) + 1) = true := by rw [beq_iff_eq]; omega
          rw [e5]
end Go.AE
end
