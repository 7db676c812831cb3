/- Contracts of functions that the laws of this seat reach, and plain laws of what they compute. No condition beyond each statement's own. -/
import Derived.Test.YtpooocpgpjimgaaDoorRB
set_option linter.unusedVariables false
set_option linter.unusedSimpArgs false
section
/- Replies: a printed line is read as it was; a reply behind a reply. -/
namespace Go.AE
open Go.Proofs
set_option maxRecDepth 20000
set_option maxHeartbeats 8000000
set_option linter.unusedSimpArgs false
theorem right_B {c : Int} {L : List (List UInt8)} (h : rightB c L = true) : (200 ≤ c ∧ c < 600) ∧ (0 < L.length ∧ L.length ≤ 32) ∧ ∀ k, k < L.length → (L.getD k []).any sgB = false := by
  unfold rightB codB at h
  simp only [Bool.and_eq_true, decide_eq_true_eq, Bool.not_eq_true'] at h
  obtain ⟨⟨h1, h2⟩, h3, h4, h5⟩ := h
  refine ⟨⟨h1, by omega⟩, ⟨h3, h4⟩, fun k hk => ?_⟩
  have := List.any_eq_false.1 h5 (L.getD k []) (by simp [List.getD, hk])
  simpa using this
section
variable {c : Int} {n k : Nat} {t : List UInt8}
def pd (c : Int) : UInt8 := UInt8.ofNat (48 + c.toNat / 100)
def pe (c : Int) : UInt8 := UInt8.ofNat (48 + c.toNat / 10 % 10)
def pf (c : Int) : UInt8 := UInt8.ofNat (48 + c.toNat % 10)
def ps (n k : Nat) : UInt8 := if k + 1 = n then 32 else 45
theorem pr_eq (h1 : c < 600) (h2 : 200 ≤ c) : prK c n k t = pd c :: pe c :: pf c :: ps n k :: t := by
  unfold prK; rw [itoa3 h1 h2]; rfl
theorem ofN (m : Nat) (h : m < 256) : (UInt8.ofNat m).toNat = m := by
  rw [UInt8.toNat_ofNat']; exact Nat.mod_eq_of_lt h
theorem pd_eq (h1 : c < 600) (h2 : 200 ≤ c) : (pd c).toNat = 48 + c.toNat / 100 := ofN _ (by omega)
theorem pe_eq : (pe c).toNat = 48 + c.toNat / 10 % 10 := ofN _ (by omega)
theorem pf_eq : (pf c).toNat = 48 + c.toNat % 10 := ofN _ (by omega)
theorem pr_len (h1 : c < 600) (h2 : 200 ≤ c) : (prK c n k t).length = t.length + 4 := by rw [pr_eq h1 h2]; rfl
theorem pr_drop (h1 : c < 600) (h2 : 200 ≤ c) : (prK c n k t).drop 4 = t := by rw [pr_eq h1 h2]; rfl
theorem pr_cod (h1 : c < 600) (h2 : 200 ≤ c) : codk (prK c n k t) 3 = c := by
  rw [pr_eq h1 h2]
  show 10 * (10 * (10 * 0 + (((pd c).toNat : Int) - 48)) + (((pe c).toNat : Int) - 48)) + (((pf c).toNat : Int) - 48) = c
  rw [pd_eq h1 h2, pe_eq, pf_eq]
  omega
theorem pr_G (h1 : c < 600) (h2 : 200 ≤ c) : rdG (prK c n k t) = true := by
  have e1 : dgB (pd c) = true := by unfold dgB; rw [pd_eq h1 h2, decide_eq_true (by omega), decide_eq_true (by omega)]; rfl
  have e2 : dgB (pe c) = true := by unfold dgB; rw [pe_eq, decide_eq_true (by omega), decide_eq_true (by omega)]; rfl
  have e3 : dgB (pf c) = true := by unfold dgB; rw [pf_eq, decide_eq_true (by omega), decide_eq_true (by omega)]; rfl
  unfold rdG dgs rdS
  rw [pr_len h1 h2, pr_eq h1 h2]
  show (decide (3 ≤ t.length + 4) && (dgB (pd c) && (dgB (pe c) && dgB (pf c))) && (decide (t.length + 4 = 3) || (ps n k == 45 || ps n k == 32))) = true
  rw [e1, e2, e3, decide_eq_true (by omega)]
  unfold ps
  split <;> simp
theorem pr_K (h1 : c < 600) (h2 : 200 ≤ c) (h : t.any sgB = false) : rdK (prK c n k t) = true := by
  have e : codB c = true := by unfold codB; rw [decide_eq_true h2, decide_eq_true (by omega)]; rfl
  unfold rdK
  rw [pr_G h1 h2, pr_cod h1 h2, pr_drop h1 h2, h, e]; rfl
theorem pr_Mo (h1 : c < 600) (h2 : 200 ≤ c) : rdMo (prK c n k t) = !decide (k + 1 = n) := by
  unfold rdMo rdM
  rw [pr_G h1 h2, pr_len h1 h2, pr_eq h1 h2]
  show (true && (decide (3 < t.length + 4) && (ps n k == 45))) = _
  rw [decide_eq_true (by omega)]
  unfold ps
  split
  · rename_i h; rw [decide_eq_true h]; rfl
  · rename_i h; rw [decide_eq_false h]; rfl
end
theorem takeNd2 (c : Int) (L : List (List UInt8)) (s : List UInt8) (hl : L.length = 0 + 1) (hs : s.length ≤ 1000000) (h : rdK s = true) (hm : rdMo s = false) (hc : codk s 3 = c) (ht : s.drop 4 = L.getD 0 []) :
    SpecL Tryd.prog 10 [.row true 1 [I64 0, .v (.slice none 0 0)]] [.ptr 0 0, Sv s] [.row true 1 [I64 0, .v (.slice none 0 0)], .fence, .dead, .dead, .dead, .arr 9 1 (L.map Sv)] (.tup [.ag [I64 c, .ref 5 0 L.length], Bv true, I64 0]) := by
  obtain ⟨t, rfl⟩ := List.length_eq_one_iff.1 hl
  exact takeNd s c t hs h hm hc ht
theorem takeNm2 (c : Int) (L : List (List UInt8)) (s : List UInt8) (hl : 0 < L.length) (hs : s.length ≤ 1000000) (h : rdK s = true) (hm : rdMo s = true) (hc : codk s 3 = c) (ht : s.drop 4 = L.getD 0 []) :
    SpecL Tryd.prog 10 [.row true 1 [I64 0, .v (.slice none 0 0)]] [.ptr 0 0, Sv s] [.row true 1 [I64 c, .ref 5 0 (0 + 1)], .fence, .dead, .dead, .dead, .arr 9 1 ((L.take (0 + 1)).map Sv)] (.tup [.ag [I64 0, .v (.slice none 0 0)], Bv false, I64 0]) := by
  rw [take_snocR L 0 [] hl]
  exact takeNm s c _ hs h hm hc ht
theorem takeAm2 (c : Int) (L : List (List UInt8)) (k : Nat) (s : List UInt8) (h0 : 0 < k) (hl : k < L.length) (h32 : k < 32) (hs : s.length ≤ 1000000) (h : rdK s = true) (hm : rdMo s = true) (hc : codk s 3 = c) (ht : s.drop 4 = L.getD k []) :
    SpecL Tryd.prog 10 [.row true 1 [I64 c, .ref 1 0 k], .arr 9 1 ((L.take k).map Sv)] [.ptr 0 0, Sv s] [.row true 1 [I64 c, .ref 1 0 (k + 1)], .arr 9 1 ((L.take (k + 1)).map Sv), .fence] (.tup [.ag [I64 0, .v (.slice none 0 0)], Bv false, I64 0]) := by
  have hTl : (L.take k).length = k := by simp; omega
  have t1 := takeAm c (L.take k) s (L.getD k []) (by omega) (by omega) hs h hm hc ht
  rw [← take_snocR L k [] hl, hTl] at t1
  exact t1
theorem takeAd2 (c : Int) (L : List (List UInt8)) {k : Nat} (s : List UInt8) (h0 : 0 < k) (h32 : k < 32) (hl : k + 1 = L.length) (hs : s.length ≤ 1000000) (h : rdK s = true) (hm : rdMo s = false) (hc : codk s 3 = c) (ht : s.drop 4 = L.getD k []) :
    SpecL Tryd.prog 10 [.row true 1 [I64 c, .ref 1 0 k], .arr 9 1 ((L.take k).map Sv)] [.ptr 0 0, Sv s] [.row true 1 [I64 0, .v (.slice none 0 0)], .arr 9 1 (L.map Sv), .fence] (.tup [.ag [I64 c, .ref 1 0 L.length], Bv true, I64 0]) := by
  have hTl : (L.take k).length = k := by simp; omega
  have t1 := takeAd c (L.take k) s (L.getD k []) (by omega) (by omega) hs h hm hc ht
  rw [← take_snocR L k [] (by omega), hTl, hl, List.take_length] at t1
  exact t1
theorem prF_get {c : Int} {L : List (List UInt8)} {k : Nat} (h : k < L.length) : (prF c L L.length).getD k [] = prK c L.length k (L.getD k []) := by
  unfold prF
  simp [List.getD, h]
/-- The parser while the lines of a reply are read. -/
def bS (c : Int) (L : List (List UInt8)) (o : Ob) (k : Nat) : List Ob :=
  if k = 0 ∨ k = L.length then [.dead, .dead, .row true 1 [I64 0, nilA], o, .arr 9 1 ((prF c L L.length).map Sv)]
  else [.dead, .dead, .row true 1 [I64 c, .ref 5 0 k], o, .arr 9 1 ((prF c L L.length).map Sv), .arr 9 1 ((L.take k).map Sv)]
theorem bS_0 (c : Int) (L : List (List UInt8)) (o : Ob) {k : Nat} (h : k = 0 ∨ k = L.length) : bS c L o k = [.dead, .dead, .row true 1 [I64 0, .v (.slice none 0 0)], o, .arr 9 1 ((prF c L L.length).map Sv)] := if_pos h
theorem bS_1 (c : Int) (L : List (List UInt8)) (o : Ob) {k : Nat} (h : ¬ (k = 0 ∨ k = L.length)) : bS c L o k = [.dead, .dead, .row true 1 [I64 c, .ref 5 0 k], o, .arr 9 1 ((prF c L L.length).map Sv), .arr 9 1 ((L.take k).map Sv)] := if_neg h
theorem back_spec (c : Int) (L : List (List UInt8)) (d : Int) (M : List (List UInt8)) (hL : ∀ s ∈ L, s.length ≤ 9223372036854775807) (hn : L.length ≤ 9223372036854775807) (hM : ∀ s ∈ M, s.length ≤ 9223372036854775807) (hm : M.length ≤ 9223372036854775807) :
    Spec Tryd.prog 3 [.ag [I64 c, .sl L.length (L.map Sv)], .ag [I64 d, .sl M.length (M.map Sv)]] (Bv true) := by
  have f1 := few_spec L (fun s hs => by have := hL s hs; omega) (by omega)
  have f2 := few_spec M (fun s hs => by have := hM s hs; omega) (by omega)
  refine spec_mk (z := false) (ts := [.tmp 4]) ok1 Tryd.func3 rfl rfl (by decide +kernel) (by simp [Tryd.ntmps3]) rfl ?_
  cases hf1 : fewB L with
  | false =>
    rw [hf1] at f1
    repeat' first | refine WE_fit (rsmall_spec) ?_ ?_ | refine WE_fit (f1) ?_ ?_ | refine WE_fit (f2) ?_ ?_ | simp (maxSteps := 4000000) (disch := omega) only [bunL, bunD, bun, ↓WG_true, ↓WG_false, labelOf, findLabel, ↓reduceIte, imp, shift, killO, hasId, unown, names, plainR, below, noF, isF, lendObs, lendOb, kindOk, ren, givL, updM, backO, renO, belowM, seval, -Int.reduceToNat, B4, D31, D32, B34, bunN, Int.reduceToNat, List.map_nil, List.nil_append] | exact NK_no _ | refine NK_cl _ _ ?_ | exact Cln.cl | refine clean_tup _ ?_ | refine cleans_cons _ _ ?_ ?_ | refine DR_q _ ?_ | (refine Fk.fk ?_ ?_ <;> intro hg <;> (try simp only [hg]) <;> (try simp only [bunB] at hg) <;> try (exfalso; first | omega | exact Bool.noConfusion hg | exact hg trivial)) | refine And.intro (by omega) ?_ | omega
    all_goals trace_state
  | true =>
    rw [hf1] at f1
    cases hf2 : fewB M with
    | false =>
      rw [hf2] at f2
      repeat' first | refine WE_fit (rsmall_spec) ?_ ?_ | refine WE_fit (f1) ?_ ?_ | refine WE_fit (f2) ?_ ?_ | simp (maxSteps := 4000000) (disch := omega) only [bunL, bunD, bun, ↓WG_true, ↓WG_false, labelOf, findLabel, ↓reduceIte, imp, shift, killO, hasId, unown, names, plainR, below, noF, isF, lendObs, lendOb, kindOk, ren, givL, updM, backO, renO, belowM, seval, -Int.reduceToNat, B4, D31, D32, B34, bunN, Int.reduceToNat, List.map_nil, List.nil_append] | exact NK_no _ | refine NK_cl _ _ ?_ | exact Cln.cl | refine clean_tup _ ?_ | refine cleans_cons _ _ ?_ ?_ | refine DR_q _ ?_ | (refine Fk.fk ?_ ?_ <;> intro hg <;> (try simp only [hg]) <;> (try simp only [bunB] at hg) <;> try (exfalso; first | omega | exact Bool.noConfusion hg | exact hg trivial)) | refine And.intro (by omega) ?_ | omega
      all_goals trace_state
    | true =>
      rw [hf2] at f2
      obtain ⟨ln, ll⟩ := few_len hf1
      obtain ⟨mn, ml⟩ := few_len hf2
      have r1 := right_spec c L (by omega) (fun s hs => by have := ll s hs; omega)
      have r2 := right_spec d M (by omega) (fun s hs => by have := ml s hs; omega)
      cases hr1 : rightB c L with
      | false =>
        rw [hr1] at r1
        repeat' first | refine WE_fit (rsmall_spec) ?_ ?_ | refine WE_fit (f1) ?_ ?_ | refine WE_fit (f2) ?_ ?_ | refine WE_fit (r1) ?_ ?_ | refine WE_fit (r2) ?_ ?_ | simp (maxSteps := 4000000) (disch := omega) only [bunL, bunD, bun, ↓WG_true, ↓WG_false, labelOf, findLabel, ↓reduceIte, imp, shift, killO, hasId, unown, names, plainR, below, noF, isF, lendObs, lendOb, kindOk, ren, givL, updM, backO, renO, belowM, seval, -Int.reduceToNat, B4, D31, D32, B34, bunN, Int.reduceToNat, List.map_nil, List.nil_append] | exact NK_no _ | refine NK_cl _ _ ?_ | exact Cln.cl | refine clean_tup _ ?_ | refine cleans_cons _ _ ?_ ?_ | refine DR_q _ ?_ | (refine Fk.fk ?_ ?_ <;> intro hg <;> (try simp only [hg]) <;> (try simp only [bunB] at hg) <;> try (exfalso; first | omega | exact Bool.noConfusion hg | exact hg trivial)) | refine And.intro (by omega) ?_ | omega
        all_goals trace_state
      | true =>
        rw [hr1] at r1
        cases hr2 : rightB d M with
        | false =>
          rw [hr2] at r2
          repeat' first | refine WE_fit (rsmall_spec) ?_ ?_ | refine WE_fit (f1) ?_ ?_ | refine WE_fit (f2) ?_ ?_ | refine WE_fit (r1) ?_ ?_ | refine WE_fit (r2) ?_ ?_ | simp (maxSteps := 4000000) (disch := omega) only [bunL, bunD, bun, ↓WG_true, ↓WG_false, labelOf, findLabel, ↓reduceIte, imp, shift, killO, hasId, unown, names, plainR, below, noF, isF, lendObs, lendOb, kindOk, ren, givL, updM, backO, renO, belowM, seval, -Int.reduceToNat, B4, D31, D32, B34, bunN, Int.reduceToNat, List.map_nil, List.nil_append] | exact NK_no _ | refine NK_cl _ _ ?_ | exact Cln.cl | refine clean_tup _ ?_ | refine cleans_cons _ _ ?_ ?_ | refine DR_q _ ?_ | (refine Fk.fk ?_ ?_ <;> intro hg <;> (try simp only [hg]) <;> (try simp only [bunB] at hg) <;> try (exfalso; first | omega | exact Bool.noConfusion hg | exact hg trivial)) | refine And.intro (by omega) ?_ | omega
          all_goals trace_state
        | true =>
          rw [hr2] at r2
          repeat' first | refine WE_fit (rsmall_spec) ?_ ?_ | refine WE_fit (f1) ?_ ?_ | refine WE_fit (f2) ?_ ?_ | refine WE_fit (r1) ?_ ?_ | refine WE_fit (r2) ?_ ?_ | simp (maxSteps := 4000000) (disch := omega) only [bunL, bunD, bun, ↓WG_true, ↓WG_false, labelOf, findLabel, ↓reduceIte, imp, shift, killO, hasId, unown, names, plainR, below, noF, isF, lendObs, lendOb, kindOk, ren, givL, updM, backO, renO, belowM, seval, -Int.reduceToNat, B4, D31, D32, B34, bunN, Int.reduceToNat, List.map_nil, List.nil_append] | exact NK_no _ | refine NK_cl _ _ ?_ | exact Cln.cl | refine clean_tup _ ?_ | refine cleans_cons _ _ ?_ ?_ | refine DR_q _ ?_ | (refine Fk.fk ?_ ?_ <;> intro hg <;> (try simp only [hg]) <;> (try simp only [bunB] at hg) <;> try (exfalso; first | omega | exact Bool.noConfusion hg | exact hg trivial)) | refine And.intro (by omega) ?_ | omega
          refine LP_introR (fun i : Nat => ⟨[(5, Bv true), (8, .ptr 2 0), (9, .ref 3 0 2), (10, I64 i)], [.dead, .dead, .row true 1 [I64 0, .v (.slice none 0 0)], .arr 24 2 [I64 c, .sl L.length (L.map Sv), I64 d, .sl M.length (M.map Sv)]]⟩) (fun i => i ≤ 2) (fun i => 2 - i) 0 (by omega) ?_ ?_
          · (simp (disch := omega) [wk, wkT, wkM, noF, isF, get, belowT, belowM, below, belows, I64, I32, Bv, U8, Sv, List.map_nil] <;> try omega)
          rintro i hi
          have hi3 : i = 0 ∨ i = 1 ∨ i = 2 := by omega
          rcases hi3 with rfl | rfl | rfl
          · -- reply 0
            obtain ⟨⟨c1, c2⟩, ⟨n0, n32⟩, hsg⟩ := right_B hr1
            have p1 := print_spec c L (by omega) ll hr1 c2 c1
            have hpl := prF_len c L L.length
            repeat' first | refine WE_fit (p1) ?_ ?_ | simp (maxSteps := 4000000) (disch := omega) only [bunL, bunD, bun, ↓WG_true, ↓WG_false, labelOf, findLabel, ↓reduceIte, imp, shift, killO, hasId, unown, names, plainR, below, noF, isF, lendObs, lendOb, kindOk, ren, givL, updM, backO, renO, belowM, seval, -Int.reduceToNat, hpl, B4, D31, D32, B34, bunN, Int.reduceToNat, List.map_nil, List.nil_append] | exact NK_no _ | refine NK_cl _ _ ?_ | exact Cln.cl | refine clean_tup _ ?_ | refine cleans_cons _ _ ?_ ?_ | refine DR_q _ ?_ | (refine Fk.fk ?_ ?_ <;> intro hg <;> (try simp only [hg]) <;> (try simp only [bunB] at hg) <;> try (exfalso; first | omega | exact Bool.noConfusion hg | exact hg trivial)) | refine And.intro (by omega) ?_ | omega
            refine LP_introR (fun k : Nat => ⟨[(5, Bv true), (8, .ptr 2 0), (9, .ref 3 0 2), (10, I64 0), (11, .ref 4 0 L.length), (12, I64 k)], bS c L (.arr 24 2 [I64 c, .sl L.length (L.map Sv), I64 d, .sl M.length (M.map Sv)]) k⟩) (fun k => k ≤ L.length) (fun k => L.length - k) 0 (by simp) (by rw [bS_0 _ _ _ (.inl rfl)]; (simp (disch := omega) [wk, wkT, wkM, noF, isF, get, belowT, belowM, below, belows, I64, I32, Bv, U8, Sv, nilA] <;> try omega)) ?_
            intro k hk
            by_cases hlt : k < L.length
            · have hkl : (L.getD k []).length ≤ 600 := ll _ (by simp [List.getD, hlt])
              have hP : (prF c L L.length).getD k [] = prK c L.length k (L.getD k []) := prF_get hlt
              have hPl := pr_len (n := L.length) (k := k) (t := L.getD k []) c2 c1
              have hPd := pr_drop (n := L.length) (k := k) (t := L.getD k []) c2 c1
              have hPc := pr_cod (n := L.length) (k := k) (t := L.getD k []) c2 c1
              have hPK := pr_K (n := L.length) (k := k) c2 c1 (hsg k hlt)
              have hPM := pr_Mo (n := L.length) (k := k) (t := L.getD k []) c2 c1
              have o2 := openN_spec 0
              have s1 := same_spec c L c L (by omega) (by omega)
              have es : sameL c L c L = true := by unfold sameL; simp
              rw [es] at s1
              have htk : List.take L.length (L.map Sv) = L.map Sv := List.take_of_length_le (by simp)
              by_cases hke : k + 1 = L.length
              · have ek : ((k : Int) == (L.length : Int) - 1) = true := by rw [beq_iff_eq]; omega
                by_cases hk0 : k = 0
                · subst hk0
                  rw [bS_0 _ _ _ (.inl rfl)]
                  have t1 := takeNd2 c L (prK c L.length 0 (L.getD 0 [])) hke.symm (by omega) hPK (by rw [hPM, decide_eq_true hke]; rfl) hPc hPd
                  repeat' first | (refine WL_fit [2] (t1) ?_; clear t1) | refine WE_fit (o2) ?_ ?_ | refine WE_fit (s1) ?_ ?_ | simp (maxSteps := 4000000) (disch := omega) only [bunL, bunD, bun, ↓WG_true, ↓WG_false, labelOf, findLabel, ↓reduceIte, imp, shift, killO, hasId, unown, names, plainR, below, noF, isF, lendObs, lendOb, kindOk, ren, givL, updM, backO, renO, belowM, seval, -Int.reduceToNat, hpl, hP, ek, htk, B4, D31, D32, B34, bunN, Int.reduceToNat, List.map_nil, List.nil_append] | exact NK_no _ | refine NK_cl _ _ ?_ | exact Cln.cl | refine clean_tup _ ?_ | refine cleans_cons _ _ ?_ ?_ | refine DR_q _ ?_ | (refine Fk.fk ?_ ?_ <;> intro hg <;> (try simp only [hg]) <;> (try simp only [bunB] at hg) <;> try (exfalso; first | omega | exact Bool.noConfusion hg | exact hg trivial)) | refine And.intro (by omega) ?_ | omega
                  all_goals (repeat' refine And.intro ?_ ?_)
                  all_goals (repeat' first | refine WE_fit (o2) ?_ ?_ | refine WE_fit (s1) ?_ ?_ | simp (maxSteps := 4000000) (disch := omega) only [bunL, bunD, bun, ↓WG_true, ↓WG_false, labelOf, findLabel, ↓reduceIte, imp, shift, killO, hasId, unown, names, plainR, below, noF, isF, lendObs, lendOb, kindOk, ren, givL, updM, backO, renO, belowM, seval, -Int.reduceToNat, hpl, hP, ek, htk, B4, D31, D32, B34, bunN, Int.reduceToNat, List.map_nil, List.nil_append] | exact NK_no _ | refine NK_cl _ _ ?_ | exact Cln.cl | refine clean_tup _ ?_ | refine cleans_cons _ _ ?_ ?_ | refine DR_q _ ?_ | (refine Fk.fk ?_ ?_ <;> intro hg <;> (try simp only [hg]) <;> (try simp only [bunB] at hg) <;> try (exfalso; first | omega | exact Bool.noConfusion hg | exact hg trivial)) | refine And.intro (by omega) ?_ | omega)
                  all_goals refine ⟨0 + 1, by omega, by omega, [0, 1, 2, 3, 4], ?_⟩
                  all_goals rw [bS_0 _ _ _ (.inr hke)]
                  all_goals simp only [wkr, renT, ren, renF, wkrM, renO, nodupN, rens]
                  all_goals (simp (disch := omega) [wk, wkT, wkM, noF, isF, get, belowT, belowM, below, belows, I64, I32, Bv, U8, Sv, isF, obj, List.map_nil] <;> try omega)
                  all_goals first | rfl | trace_state
                · rw [bS_1 _ _ _ (by omega)]
                  have t1 := takeAd2 c L (prK c L.length k (L.getD k [])) (by omega) (by omega) hke (by omega) hPK (by rw [hPM, decide_eq_true hke]; rfl) hPc hPd
                  repeat' first | (refine WL_fit [2, 5] (t1) ?_; clear t1) | refine WE_fit (o2) ?_ ?_ | refine WE_fit (s1) ?_ ?_ | simp (maxSteps := 4000000) (disch := omega) only [bunL, bunD, bun, ↓WG_true, ↓WG_false, labelOf, findLabel, ↓reduceIte, imp, shift, killO, hasId, unown, names, plainR, below, noF, isF, lendObs, lendOb, kindOk, ren, givL, updM, backO, renO, belowM, seval, -Int.reduceToNat, hpl, hP, ek, htk, B4, D31, D32, B34, bunN, Int.reduceToNat, List.map_nil, List.nil_append] | exact NK_no _ | refine NK_cl _ _ ?_ | exact Cln.cl | refine clean_tup _ ?_ | refine cleans_cons _ _ ?_ ?_ | refine DR_q _ ?_ | (refine Fk.fk ?_ ?_ <;> intro hg <;> (try simp only [hg]) <;> (try simp only [bunB] at hg) <;> try (exfalso; first | omega | exact Bool.noConfusion hg | exact hg trivial)) | refine And.intro (by omega) ?_ | omega
                  all_goals (repeat' refine And.intro ?_ ?_)
                  all_goals (repeat' first | refine WE_fit (o2) ?_ ?_ | refine WE_fit (s1) ?_ ?_ | simp (maxSteps := 4000000) (disch := omega) only [bunL, bunD, bun, ↓WG_true, ↓WG_false, labelOf, findLabel, ↓reduceIte, imp, shift, killO, hasId, unown, names, plainR, below, noF, isF, lendObs, lendOb, kindOk, ren, givL, updM, backO, renO, belowM, seval, -Int.reduceToNat, hpl, hP, ek, htk, B4, D31, D32, B34, bunN, Int.reduceToNat, List.map_nil, List.nil_append] | exact NK_no _ | refine NK_cl _ _ ?_ | exact Cln.cl | refine clean_tup _ ?_ | refine cleans_cons _ _ ?_ ?_ | refine DR_q _ ?_ | (refine Fk.fk ?_ ?_ <;> intro hg <;> (try simp only [hg]) <;> (try simp only [bunB] at hg) <;> try (exfalso; first | omega | exact Bool.noConfusion hg | exact hg trivial)) | refine And.intro (by omega) ?_ | omega)
                  all_goals refine ⟨k + 1, by omega, by omega, [0, 1, 2, 3, 4], ?_⟩
                  all_goals rw [bS_0 _ _ _ (.inr hke)]
                  all_goals simp only [wkr, renT, ren, renF, wkrM, renO, nodupN, rens]
                  all_goals (simp (disch := omega) [wk, wkT, wkM, noF, isF, get, belowT, belowM, below, belows, I64, I32, Bv, U8, Sv, isF, obj, List.map_nil] <;> try omega)
                  all_goals first | rfl | trace_state
              · have ek : ((k : Int) == (L.length : Int) - 1) = false := by rw [beq_eq_false_iff_ne]; omega
                have o1 := open_spec c (List.take (k + 1) ((L.take (k + 1)).map Sv)) (k + 1) (by omega)
                rw [decide_eq_true (by omega)] at o1
                by_cases hk0 : k = 0
                · subst hk0
                  rw [bS_0 _ _ _ (.inl rfl)]
                  have t1 := takeNm2 c L (prK c L.length 0 (L.getD 0 [])) hlt (by omega) hPK (by rw [hPM, decide_eq_false hke]; rfl) hPc hPd
                  repeat' first | (refine WL_fit [2] (t1) ?_; clear t1) | refine WE_fit (o1) ?_ ?_ | simp (maxSteps := 4000000) (disch := omega) only [bunL, bunD, bun, ↓WG_true, ↓WG_false, labelOf, findLabel, ↓reduceIte, imp, shift, killO, hasId, unown, names, plainR, below, noF, isF, lendObs, lendOb, kindOk, ren, givL, updM, backO, renO, belowM, seval, -Int.reduceToNat, hpl, hP, ek, B4, D31, D32, B34, bunN, Int.reduceToNat, List.map_nil, List.nil_append] | exact NK_no _ | refine NK_cl _ _ ?_ | exact Cln.cl | refine clean_tup _ ?_ | refine cleans_cons _ _ ?_ ?_ | refine DR_q _ ?_ | (refine Fk.fk ?_ ?_ <;> intro hg <;> (try simp only [hg]) <;> (try simp only [bunB] at hg) <;> try (exfalso; first | omega | exact Bool.noConfusion hg | exact hg trivial)) | refine And.intro (by omega) ?_ | omega
                  all_goals (repeat' refine And.intro ?_ ?_)
                  all_goals (repeat' first | refine WE_fit (o1) ?_ ?_ | simp (maxSteps := 4000000) (disch := omega) only [bunL, bunD, bun, ↓WG_true, ↓WG_false, labelOf, findLabel, ↓reduceIte, imp, shift, killO, hasId, unown, names, plainR, below, noF, isF, lendObs, lendOb, kindOk, ren, givL, updM, backO, renO, belowM, seval, -Int.reduceToNat, hpl, hP, ek, htk, B4, D31, D32, B34, bunN, Int.reduceToNat, List.map_nil, List.nil_append] | exact NK_no _ | refine NK_cl _ _ ?_ | exact Cln.cl | refine clean_tup _ ?_ | refine cleans_cons _ _ ?_ ?_ | refine DR_q _ ?_ | (refine Fk.fk ?_ ?_ <;> intro hg <;> (try simp only [hg]) <;> (try simp only [bunB] at hg) <;> try (exfalso; first | omega | exact Bool.noConfusion hg | exact hg trivial)) | refine And.intro (by omega) ?_ | omega)
                  all_goals refine ⟨0 + 1, by omega, by omega, [0, 1, 2, 3, 4, 9], ?_⟩
                  all_goals rw [bS_1 _ _ _ (by omega)]
                  all_goals simp only [wkr, renT, ren, renF, wkrM, renO, nodupN, rens]
                  all_goals (simp (disch := omega) [wk, wkT, wkM, noF, isF, get, belowT, belowM, below, belows, I64, I32, Bv, U8, Sv, isF, obj, List.map_nil] <;> try omega)
                  all_goals first | rfl | trace_state
                · rw [bS_1 _ _ _ (by omega)]
                  have t1 := takeAm2 c L k (prK c L.length k (L.getD k [])) (by omega) hlt (by omega) (by omega) hPK (by rw [hPM, decide_eq_false hke]; rfl) hPc hPd
                  repeat' first | (refine WL_fit [2, 5] (t1) ?_; clear t1) | refine WE_fit (o1) ?_ ?_ | simp (maxSteps := 4000000) (disch := omega) only [bunL, bunD, bun, ↓WG_true, ↓WG_false, labelOf, findLabel, ↓reduceIte, imp, shift, killO, hasId, unown, names, plainR, below, noF, isF, lendObs, lendOb, kindOk, ren, givL, updM, backO, renO, belowM, seval, -Int.reduceToNat, hpl, hP, ek, B4, D31, D32, B34, bunN, Int.reduceToNat, List.map_nil, List.nil_append] | exact NK_no _ | refine NK_cl _ _ ?_ | exact Cln.cl | refine clean_tup _ ?_ | refine cleans_cons _ _ ?_ ?_ | refine DR_q _ ?_ | (refine Fk.fk ?_ ?_ <;> intro hg <;> (try simp only [hg]) <;> (try simp only [bunB] at hg) <;> try (exfalso; first | omega | exact Bool.noConfusion hg | exact hg trivial)) | refine And.intro (by omega) ?_ | omega
                  all_goals (repeat' refine And.intro ?_ ?_)
                  all_goals (repeat' first | refine WE_fit (o1) ?_ ?_ | simp (maxSteps := 4000000) (disch := omega) only [bunL, bunD, bun, ↓WG_true, ↓WG_false, labelOf, findLabel, ↓reduceIte, imp, shift, killO, hasId, unown, names, plainR, below, noF, isF, lendObs, lendOb, kindOk, ren, givL, updM, backO, renO, belowM, seval, -Int.reduceToNat, hpl, hP, ek, htk, B4, D31, D32, B34, bunN, Int.reduceToNat, List.map_nil, List.nil_append] | exact NK_no _ | refine NK_cl _ _ ?_ | exact Cln.cl | refine clean_tup _ ?_ | refine cleans_cons _ _ ?_ ?_ | refine DR_q _ ?_ | (refine Fk.fk ?_ ?_ <;> intro hg <;> (try simp only [hg]) <;> (try simp only [bunB] at hg) <;> try (exfalso; first | omega | exact Bool.noConfusion hg | exact hg trivial)) | refine And.intro (by omega) ?_ | omega)
                  all_goals refine ⟨k + 1, by omega, by omega, [0, 1, 2, 3, 4, 5], ?_⟩
                  all_goals rw [bS_1 _ _ _ (by omega)]
                  all_goals simp only [wkr, renT, ren, renF, wkrM, renO, nodupN, rens]
                  all_goals (simp (disch := omega) [wk, wkT, wkM, noF, isF, get, belowT, belowM, below, belows, I64, I32, Bv, U8, Sv, isF, obj, List.map_nil] <;> try omega)
                  all_goals first | rfl | trace_state
            · have e : k = L.length := by omega
              rw [bS_0 _ _ _ (.inr e), e]
              repeat' first | simp (maxSteps := 4000000) (disch := omega) only [bunL, bunD, bun, ↓WG_true, ↓WG_false, labelOf, findLabel, ↓reduceIte, imp, shift, killO, hasId, unown, names, plainR, below, noF, isF, lendObs, lendOb, kindOk, ren, givL, updM, backO, renO, belowM, seval, -Int.reduceToNat, hpl, B4, D31, D32, B34, bunN, Int.reduceToNat, List.map_nil, List.nil_append] | refine DR_q _ ?_ | (refine Fk.fk ?_ ?_ <;> intro hg <;> (try simp only [hg]) <;> (try simp only [bunB] at hg) <;> try (exfalso; first | omega | exact Bool.noConfusion hg | exact hg trivial)) | refine And.intro (by omega) ?_ | omega
              refine ⟨0 + 1, by omega, by omega, [0, 1, 2, 3], ?_⟩
              simp only [wkr, renT, ren, renF, wkrM, renO, nodupN, rens]
              (simp (disch := omega) [wk, wkT, wkM, noF, isF, get, belowT, belowM, below, belows, I64, I32, Bv, U8, Sv, isF, obj, List.map_nil] <;> try omega)
              all_goals first | rfl | trace_state
          · -- reply 1
            obtain ⟨⟨c1, c2⟩, ⟨n0, n32⟩, hsg⟩ := right_B hr2
            have p1 := print_spec d M (by omega) ml hr2 c2 c1
            have hpl := prF_len d M M.length
            repeat' first | refine WE_fit (p1) ?_ ?_ | simp (maxSteps := 4000000) (disch := omega) only [bunL, bunD, bun, ↓WG_true, ↓WG_false, labelOf, findLabel, ↓reduceIte, imp, shift, killO, hasId, unown, names, plainR, below, noF, isF, lendObs, lendOb, kindOk, ren, givL, updM, backO, renO, belowM, seval, -Int.reduceToNat, hpl, B4, D31, D32, B34, bunN, Int.reduceToNat, List.map_nil, List.nil_append] | exact NK_no _ | refine NK_cl _ _ ?_ | exact Cln.cl | refine clean_tup _ ?_ | refine cleans_cons _ _ ?_ ?_ | refine DR_q _ ?_ | (refine Fk.fk ?_ ?_ <;> intro hg <;> (try simp only [hg]) <;> (try simp only [bunB] at hg) <;> try (exfalso; first | omega | exact Bool.noConfusion hg | exact hg trivial)) | refine And.intro (by omega) ?_ | omega
            refine LP_introR (fun k : Nat => ⟨[(5, Bv true), (8, .ptr 2 0), (9, .ref 3 0 2), (10, I64 1), (11, .ref 4 0 M.length), (12, I64 k)], bS d M (.arr 24 2 [I64 c, .sl L.length (L.map Sv), I64 d, .sl M.length (M.map Sv)]) k⟩) (fun k => k ≤ M.length) (fun k => M.length - k) 0 (by simp) (by rw [bS_0 _ _ _ (.inl rfl)]; (simp (disch := omega) [wk, wkT, wkM, noF, isF, get, belowT, belowM, below, belows, I64, I32, Bv, U8, Sv, nilA] <;> try omega)) ?_
            intro k hk
            by_cases hlt : k < M.length
            · have hkl : (M.getD k []).length ≤ 600 := ml _ (by simp [List.getD, hlt])
              have hP : (prF d M M.length).getD k [] = prK d M.length k (M.getD k []) := prF_get hlt
              have hPl := pr_len (n := M.length) (k := k) (t := M.getD k []) c2 c1
              have hPd := pr_drop (n := M.length) (k := k) (t := M.getD k []) c2 c1
              have hPc := pr_cod (n := M.length) (k := k) (t := M.getD k []) c2 c1
              have hPK := pr_K (n := M.length) (k := k) c2 c1 (hsg k hlt)
              have hPM := pr_Mo (n := M.length) (k := k) (t := M.getD k []) c2 c1
              have o2 := openN_spec 0
              have s1 := same_spec d M d M (by omega) (by omega)
              have es : sameL d M d M = true := by unfold sameL; simp
              rw [es] at s1
              have htk : List.take M.length (M.map Sv) = M.map Sv := List.take_of_length_le (by simp)
              by_cases hke : k + 1 = M.length
              · have ek : ((k : Int) == (M.length : Int) - 1) = true := by rw [beq_iff_eq]; omega
                by_cases hk0 : k = 0
                · subst hk0
                  rw [bS_0 _ _ _ (.inl rfl)]
                  have t1 := takeNd2 d M (prK d M.length 0 (M.getD 0 [])) hke.symm (by omega) hPK (by rw [hPM, decide_eq_true hke]; rfl) hPc hPd
                  repeat' first | (refine WL_fit [2] (t1) ?_; clear t1) | refine WE_fit (o2) ?_ ?_ | refine WE_fit (s1) ?_ ?_ | simp (maxSteps := 4000000) (disch := omega) only [bunL, bunD, bun, ↓WG_true, ↓WG_false, labelOf, findLabel, ↓reduceIte, imp, shift, killO, hasId, unown, names, plainR, below, noF, isF, lendObs, lendOb, kindOk, ren, givL, updM, backO, renO, belowM, seval, -Int.reduceToNat, hpl, hP, ek, htk, B4, D31, D32, B34, bunN, Int.reduceToNat, List.map_nil, List.nil_append] | exact NK_no _ | refine NK_cl _ _ ?_ | exact Cln.cl | refine clean_tup _ ?_ | refine cleans_cons _ _ ?_ ?_ | refine DR_q _ ?_ | (refine Fk.fk ?_ ?_ <;> intro hg <;> (try simp only [hg]) <;> (try simp only [bunB] at hg) <;> try (exfalso; first | omega | exact Bool.noConfusion hg | exact hg trivial)) | refine And.intro (by omega) ?_ | omega
                  all_goals (repeat' refine And.intro ?_ ?_)
                  all_goals (repeat' first | refine WE_fit (o2) ?_ ?_ | refine WE_fit (s1) ?_ ?_ | simp (maxSteps := 4000000) (disch := omega) only [bunL, bunD, bun, ↓WG_true, ↓WG_false, labelOf, findLabel, ↓reduceIte, imp, shift, killO, hasId, unown, names, plainR, below, noF, isF, lendObs, lendOb, kindOk, ren, givL, updM, backO, renO, belowM, seval, -Int.reduceToNat, hpl, hP, ek, htk, B4, D31, D32, B34, bunN, Int.reduceToNat, List.map_nil, List.nil_append] | exact NK_no _ | refine NK_cl _ _ ?_ | exact Cln.cl | refine clean_tup _ ?_ | refine cleans_cons _ _ ?_ ?_ | refine DR_q _ ?_ | (refine Fk.fk ?_ ?_ <;> intro hg <;> (try simp only [hg]) <;> (try simp only [bunB] at hg) <;> try (exfalso; first | omega | exact Bool.noConfusion hg | exact hg trivial)) | refine And.intro (by omega) ?_ | omega)
                  all_goals refine ⟨0 + 1, by omega, by omega, [0, 1, 2, 3, 4], ?_⟩
                  all_goals rw [bS_0 _ _ _ (.inr hke)]
                  all_goals simp only [wkr, renT, ren, renF, wkrM, renO, nodupN, rens]
                  all_goals (simp (disch := omega) [wk, wkT, wkM, noF, isF, get, belowT, belowM, below, belows, I64, I32, Bv, U8, Sv, isF, obj, List.map_nil] <;> try omega)
                  all_goals first | rfl | trace_state
                · rw [bS_1 _ _ _ (by omega)]
                  have t1 := takeAd2 d M (prK d M.length k (M.getD k [])) (by omega) (by omega) hke (by omega) hPK (by rw [hPM, decide_eq_true hke]; rfl) hPc hPd
                  repeat' first | (refine WL_fit [2, 5] (t1) ?_; clear t1) | refine WE_fit (o2) ?_ ?_ | refine WE_fit (s1) ?_ ?_ | simp (maxSteps := 4000000) (disch := omega) only [bunL, bunD, bun, ↓WG_true, ↓WG_false, labelOf, findLabel, ↓reduceIte, imp, shift, killO, hasId, unown, names, plainR, below, noF, isF, lendObs, lendOb, kindOk, ren, givL, updM, backO, renO, belowM, seval, -Int.reduceToNat, hpl, hP, ek, htk, B4, D31, D32, B34, bunN, Int.reduceToNat, List.map_nil, List.nil_append] | exact NK_no _ | refine NK_cl _ _ ?_ | exact Cln.cl | refine clean_tup _ ?_ | refine cleans_cons _ _ ?_ ?_ | refine DR_q _ ?_ | (refine Fk.fk ?_ ?_ <;> intro hg <;> (try simp only [hg]) <;> (try simp only [bunB] at hg) <;> try (exfalso; first | omega | exact Bool.noConfusion hg | exact hg trivial)) | refine And.intro (by omega) ?_ | omega
                  all_goals (repeat' refine And.intro ?_ ?_)
                  all_goals (repeat' first | refine WE_fit (o2) ?_ ?_ | refine WE_fit (s1) ?_ ?_ | simp (maxSteps := 4000000) (disch := omega) only [bunL, bunD, bun, ↓WG_true, ↓WG_false, labelOf, findLabel, ↓reduceIte, imp, shift, killO, hasId, unown, names, plainR, below, noF, isF, lendObs, lendOb, kindOk, ren, givL, updM, backO, renO, belowM, seval, -Int.reduceToNat, hpl, hP, ek, htk, B4, D31, D32, B34, bunN, Int.reduceToNat, List.map_nil, List.nil_append] | exact NK_no _ | refine NK_cl _ _ ?_ | exact Cln.cl | refine clean_tup _ ?_ | refine cleans_cons _ _ ?_ ?_ | refine DR_q _ ?_ | (refine Fk.fk ?_ ?_ <;> intro hg <;> (try simp only [hg]) <;> (try simp only [bunB] at hg) <;> try (exfalso; first | omega | exact Bool.noConfusion hg | exact hg trivial)) | refine And.intro (by omega) ?_ | omega)
                  all_goals refine ⟨k + 1, by omega, by omega, [0, 1, 2, 3, 4], ?_⟩
                  all_goals rw [bS_0 _ _ _ (.inr hke)]
                  all_goals simp only [wkr, renT, ren, renF, wkrM, renO, nodupN, rens]
                  all_goals (simp (disch := omega) [wk, wkT, wkM, noF, isF, get, belowT, belowM, below, belows, I64, I32, Bv, U8, Sv, isF, obj, List.map_nil] <;> try omega)
                  all_goals first | rfl | trace_state
              · have ek : ((k : Int) == (M.length : Int) - 1) = false := by rw [beq_eq_false_iff_ne]; omega
                have o1 := open_spec d (List.take (k + 1) ((M.take (k + 1)).map Sv)) (k + 1) (by omega)
                rw [decide_eq_true (by omega)] at o1
                by_cases hk0 : k = 0
                · subst hk0
                  rw [bS_0 _ _ _ (.inl rfl)]
                  have t1 := takeNm2 d M (prK d M.length 0 (M.getD 0 [])) hlt (by omega) hPK (by rw [hPM, decide_eq_false hke]; rfl) hPc hPd
                  repeat' first | (refine WL_fit [2] (t1) ?_; clear t1) | refine WE_fit (o1) ?_ ?_ | simp (maxSteps := 4000000) (disch := omega) only [bunL, bunD, bun, ↓WG_true, ↓WG_false, labelOf, findLabel, ↓reduceIte, imp, shift, killO, hasId, unown, names, plainR, below, noF, isF, lendObs, lendOb, kindOk, ren, givL, updM, backO, renO, belowM, seval, -Int.reduceToNat, hpl, hP, ek, B4, D31, D32, B34, bunN, Int.reduceToNat, List.map_nil, List.nil_append] | exact NK_no _ | refine NK_cl _ _ ?_ | exact Cln.cl | refine clean_tup _ ?_ | refine cleans_cons _ _ ?_ ?_ | refine DR_q _ ?_ | (refine Fk.fk ?_ ?_ <;> intro hg <;> (try simp only [hg]) <;> (try simp only [bunB] at hg) <;> try (exfalso; first | omega | exact Bool.noConfusion hg | exact hg trivial)) | refine And.intro (by omega) ?_ | omega
                  all_goals (repeat' refine And.intro ?_ ?_)
                  all_goals (repeat' first | refine WE_fit (o1) ?_ ?_ | simp (maxSteps := 4000000) (disch := omega) only [bunL, bunD, bun, ↓WG_true, ↓WG_false, labelOf, findLabel, ↓reduceIte, imp, shift, killO, hasId, unown, names, plainR, below, noF, isF, lendObs, lendOb, kindOk, ren, givL, updM, backO, renO, belowM, seval, -Int.reduceToNat, hpl, hP, ek, htk, B4, D31, D32, B34, bunN, Int.reduceToNat, List.map_nil, List.nil_append] | exact NK_no _ | refine NK_cl _ _ ?_ | exact Cln.cl | refine clean_tup _ ?_ | refine cleans_cons _ _ ?_ ?_ | refine DR_q _ ?_ | (refine Fk.fk ?_ ?_ <;> intro hg <;> (try simp only [hg]) <;> (try simp only [bunB] at hg) <;> try (exfalso; first | omega | exact Bool.noConfusion hg | exact hg trivial)) | refine And.intro (by omega) ?_ | omega)
                  all_goals refine ⟨0 + 1, by omega, by omega, [0, 1, 2, 3, 4, 9], ?_⟩
                  all_goals rw [bS_1 _ _ _ (by omega)]
                  all_goals simp only [wkr, renT, ren, renF, wkrM, renO, nodupN, rens]
                  all_goals (simp (disch := omega) [wk, wkT, wkM, noF, isF, get, belowT, belowM, below, belows, I64, I32, Bv, U8, Sv, isF, obj, List.map_nil] <;> try omega)
                  all_goals first | rfl | trace_state
                · rw [bS_1 _ _ _ (by omega)]
                  have t1 := takeAm2 d M k (prK d M.length k (M.getD k [])) (by omega) hlt (by omega) (by omega) hPK (by rw [hPM, decide_eq_false hke]; rfl) hPc hPd
                  repeat' first | (refine WL_fit [2, 5] (t1) ?_; clear t1) | refine WE_fit (o1) ?_ ?_ | simp (maxSteps := 4000000) (disch := omega) only [bunL, bunD, bun, ↓WG_true, ↓WG_false, labelOf, findLabel, ↓reduceIte, imp, shift, killO, hasId, unown, names, plainR, below, noF, isF, lendObs, lendOb, kindOk, ren, givL, updM, backO, renO, belowM, seval, -Int.reduceToNat, hpl, hP, ek, B4, D31, D32, B34, bunN, Int.reduceToNat, List.map_nil, List.nil_append] | exact NK_no _ | refine NK_cl _ _ ?_ | exact Cln.cl | refine clean_tup _ ?_ | refine cleans_cons _ _ ?_ ?_ | refine DR_q _ ?_ | (refine Fk.fk ?_ ?_ <;> intro hg <;> (try simp only [hg]) <;> (try simp only [bunB] at hg) <;> try (exfalso; first | omega | exact Bool.noConfusion hg | exact hg trivial)) | refine And.intro (by omega) ?_ | omega
                  all_goals (repeat' refine And.intro ?_ ?_)
                  all_goals (repeat' first | refine WE_fit (o1) ?_ ?_ | simp (maxSteps := 4000000) (disch := omega) only [bunL, bunD, bun, ↓WG_true, ↓WG_false, labelOf, findLabel, ↓reduceIte, imp, shift, killO, hasId, unown, names, plainR, below, noF, isF, lendObs, lendOb, kindOk, ren, givL, updM, backO, renO, belowM, seval, -Int.reduceToNat, hpl, hP, ek, htk, B4, D31, D32, B34, bunN, Int.reduceToNat, List.map_nil, List.nil_append] | exact NK_no _ | refine NK_cl _ _ ?_ | exact Cln.cl | refine clean_tup _ ?_ | refine cleans_cons _ _ ?_ ?_ | refine DR_q _ ?_ | (refine Fk.fk ?_ ?_ <;> intro hg <;> (try simp only [hg]) <;> (try simp only [bunB] at hg) <;> try (exfalso; first | omega | exact Bool.noConfusion hg | exact hg trivial)) | refine And.intro (by omega) ?_ | omega)
                  all_goals refine ⟨k + 1, by omega, by omega, [0, 1, 2, 3, 4, 5], ?_⟩
                  all_goals rw [bS_1 _ _ _ (by omega)]
                  all_goals simp only [wkr, renT, ren, renF, wkrM, renO, nodupN, rens]
                  all_goals (simp (disch := omega) [wk, wkT, wkM, noF, isF, get, belowT, belowM, below, belows, I64, I32, Bv, U8, Sv, isF, obj, List.map_nil] <;> try omega)
                  all_goals first | rfl | trace_state
            · have e : k = M.length := by omega
              rw [bS_0 _ _ _ (.inr e), e]
              repeat' first | simp (maxSteps := 4000000) (disch := omega) only [bunL, bunD, bun, ↓WG_true, ↓WG_false, labelOf, findLabel, ↓reduceIte, imp, shift, killO, hasId, unown, names, plainR, below, noF, isF, lendObs, lendOb, kindOk, ren, givL, updM, backO, renO, belowM, seval, -Int.reduceToNat, hpl, B4, D31, D32, B34, bunN, Int.reduceToNat, List.map_nil, List.nil_append] | refine DR_q _ ?_ | (refine Fk.fk ?_ ?_ <;> intro hg <;> (try simp only [hg]) <;> (try simp only [bunB] at hg) <;> try (exfalso; first | omega | exact Bool.noConfusion hg | exact hg trivial)) | refine And.intro (by omega) ?_ | omega
              refine ⟨1 + 1, by omega, by omega, [0, 1, 2, 3], ?_⟩
              simp only [wkr, renT, ren, renF, wkrM, renO, nodupN, rens]
              (simp (disch := omega) [wk, wkT, wkM, noF, isF, get, belowT, belowM, below, belows, I64, I32, Bv, U8, Sv, isF, obj, List.map_nil] <;> try omega)
              all_goals first | rfl | trace_state
          · repeat' first | simp (maxSteps := 4000000) (disch := omega) only [bunL, bunD, bun, ↓WG_true, ↓WG_false, labelOf, findLabel, ↓reduceIte, imp, shift, killO, hasId, unown, names, plainR, below, noF, isF, lendObs, lendOb, kindOk, ren, givL, updM, backO, renO, belowM, seval, -Int.reduceToNat, B4, D31, D32, B34, bunN, Int.reduceToNat, List.map_nil, List.nil_append] | refine DR_q _ ?_ | (refine Fk.fk ?_ ?_ <;> intro hg <;> (try simp only [hg]) <;> (try simp only [bunB] at hg) <;> try (exfalso; first | omega | exact Bool.noConfusion hg | exact hg trivial)) | refine And.intro (by omega) ?_ | omega
end Go.AE
end
section
/- Replies: behind an error, or a whole reply, nothing is left. -/
namespace Go.AE
open Go.Proofs
set_option maxRecDepth 20000
set_option maxHeartbeats 8000000
set_option linter.unusedSimpArgs false
theorem rdK_in {s : List UInt8} (h : rdK s = true) : codB (codk s 3) = true ∧ (s.drop 4).any sgB = false := by
  unfold rdK at h
  simp only [Bool.and_eq_true, Bool.not_eq_true'] at h
  exact h.2
def okX (c : Int) (X : List (List UInt8)) : Prop := codB c = true ∧ X.length ≤ 32 ∧ X.any (·.any sgB) = false ∧ ∀ s ∈ X, s.length ≤ 600
theorem okX_snoc {c : Int} {X : List (List UInt8)} {t : List UInt8} (h : okX c X) (hl : X.length < 32) (ht : t.any sgB = false) (hn : t.length ≤ 600) : okX c (X ++ [t]) := by
  refine ⟨h.1, by simp; omega, ?_, fun s hs => ?_⟩
  · rw [List.any_append, h.2.2.1]
    simp only [List.any_cons, List.any_nil, ht, Bool.or_false]
  · rcases List.mem_append.1 hs with hs | hs
    · exact h.2.2.2 s hs
    · simp only [List.mem_singleton] at hs; subst hs; exact hn
theorem okX_one {c : Int} {t : List UInt8} (h : codB c = true) (ht : t.any sgB = false) (hn : t.length ≤ 600) : okX c [t] := okX_snoc (X := []) ⟨h, by simp, rfl, by simp⟩ (by simp) ht hn
theorem okX_right {c : Int} {X : List (List UInt8)} (h : okX c X) (h0 : 0 < X.length) : rightB c X = true := by
  unfold rightB
  rw [h.1, h.2.2.1, decide_eq_true h0, decide_eq_true h.2.1]; rfl
/-- The parser while any lines are read. -/
def lS (r : Ob) (x : Nat × Int × List (List UInt8)) : List Ob :=
  if x.1 = 0 then [r, .row true 1 [I64 0, .v (.slice none 0 0)]]
  else if x.2.2 = [] then [r, .row true 1 [I64 0, .v (.slice none 0 0)], .dead]
  else [r, .row true 1 [I64 x.2.1, .ref 2 0 x.2.2.length], .arr 9 1 (x.2.2.map Sv)]
theorem lS_0 (r : Ob) (c : Int) (X : List (List UInt8)) : lS r (0, c, X) = [r, .row true 1 [I64 0, .v (.slice none 0 0)]] := if_pos rfl
theorem lS_e (r : Ob) {i : Nat} (c : Int) (h : i ≠ 0) : lS r (i, c, []) = [r, .row true 1 [I64 0, .v (.slice none 0 0)], .dead] := by
  unfold lS; rw [if_neg h, if_pos rfl]
theorem lS_x (r : Ob) {i : Nat} (c : Int) {X : List (List UInt8)} (h : i ≠ 0) (hX : X ≠ []) : lS r (i, c, X) = [r, .row true 1 [I64 c, .ref 2 0 X.length], .arr 9 1 (X.map Sv)] := by
  unfold lS; rw [if_neg h, if_neg hX]
/-- The parser while the lines of a reply are read, behind other lines. -/
def eS (c : Int) (L : List (List UInt8)) (ds : List Ob) (k : Nat) : List Ob :=
  if k = 0 ∨ k = L.length then [.row true 1 [I64 c, .sl L.length (L.map Sv)], .row true 1 [I64 0, .v (.slice none 0 0)]] ++ ds ++ [.arr 9 1 ((prF c L L.length).map Sv)]
  else [.row true 1 [I64 c, .sl L.length (L.map Sv)], .row true 1 [I64 c, .ref (3 + ds.length) 0 k]] ++ ds ++ [.arr 9 1 ((prF c L L.length).map Sv), .arr 9 1 ((L.take k).map Sv)]
theorem eS1_0 (c : Int) (L : List (List UInt8)) {k : Nat} (h : k = 0 ∨ k = L.length) : eS c L [.dead] k = [.row true 1 [I64 c, .sl L.length (L.map Sv)], .row true 1 [I64 0, .v (.slice none 0 0)], .dead, .arr 9 1 ((prF c L L.length).map Sv)] := if_pos h
theorem eS1_1 (c : Int) (L : List (List UInt8)) {k : Nat} (h : ¬ (k = 0 ∨ k = L.length)) : eS c L [.dead] k = [.row true 1 [I64 c, .sl L.length (L.map Sv)], .row true 1 [I64 c, .ref 4 0 k], .dead, .arr 9 1 ((prF c L L.length).map Sv), .arr 9 1 ((L.take k).map Sv)] := if_neg h
theorem eS2_0 (c : Int) (L : List (List UInt8)) {k : Nat} (h : k = 0 ∨ k = L.length) : eS c L [.dead, .dead] k = [.row true 1 [I64 c, .sl L.length (L.map Sv)], .row true 1 [I64 0, .v (.slice none 0 0)], .dead, .dead, .arr 9 1 ((prF c L L.length).map Sv)] := if_pos h
theorem eS2_1 (c : Int) (L : List (List UInt8)) {k : Nat} (h : ¬ (k = 0 ∨ k = L.length)) : eS c L [.dead, .dead] k = [.row true 1 [I64 c, .sl L.length (L.map Sv)], .row true 1 [I64 c, .ref 5 0 k], .dead, .dead, .arr 9 1 ((prF c L L.length).map Sv), .arr 9 1 ((L.take k).map Sv)] := if_neg h
theorem last_spec (l : List (List UInt8)) (d : Int) (M : List (List UInt8)) (hL : ∀ s ∈ l, s.length ≤ 9223372036854775807) (hn : l.length ≤ 9223372036854775807) (hM : ∀ s ∈ M, s.length ≤ 9223372036854775807) (hm : M.length ≤ 9223372036854775807) :
    Spec Tryd.prog 4 [.sl l.length (l.map Sv), .ag [I64 d, .sl M.length (M.map Sv)]] (Bv true) := by
  have f1 := few_spec l (fun s hs => by have := hL s hs; omega) (by omega)
  have f2 := few_spec M (fun s hs => by have := hM s hs; omega) (by omega)
  refine spec_mk (z := false) (ts := [.tmp 4]) ok1 Tryd.func4 rfl rfl (by decide +kernel) (by simp [Tryd.ntmps4]) rfl ?_
  cases hf1 : fewB l with
  | false =>
    rw [hf1] at f1
    repeat' first | refine WE_fit (rsmall_spec) ?_ ?_ | refine WE_fit (f1) ?_ ?_ | refine WE_fit (f2) ?_ ?_ | simp (maxSteps := 4000000) (disch := omega) only [bunL, bunD, bun, ↓WG_true, ↓WG_false, labelOf, findLabel, ↓reduceIte, imp, shift, killO, hasId, unown, names, plainR, below, noF, isF, lendObs, lendOb, kindOk, ren, givL, updM, backO, renO, belowM, seval, -Int.reduceToNat, B4, D31, B34, bunN, Int.reduceToNat, List.map_nil, List.nil_append] | exact NK_no _ | refine NK_cl _ _ ?_ | exact Cln.cl | refine clean_tup _ ?_ | refine cleans_cons _ _ ?_ ?_ | refine DR_q _ ?_ | (refine Fk.fk ?_ ?_ <;> intro hg <;> (try simp only [hg]) <;> (try simp only [bunB] at hg) <;> try (exfalso; first | omega | exact Bool.noConfusion hg | exact hg trivial)) | refine And.intro (by omega) ?_ | omega
  | true =>
    rw [hf1] at f1
    cases hf2 : fewB M with
    | false =>
      rw [hf2] at f2
      repeat' first | refine WE_fit (rsmall_spec) ?_ ?_ | refine WE_fit (f1) ?_ ?_ | refine WE_fit (f2) ?_ ?_ | simp (maxSteps := 4000000) (disch := omega) only [bunL, bunD, bun, ↓WG_true, ↓WG_false, labelOf, findLabel, ↓reduceIte, imp, shift, killO, hasId, unown, names, plainR, below, noF, isF, lendObs, lendOb, kindOk, ren, givL, updM, backO, renO, belowM, seval, -Int.reduceToNat, B4, D31, B34, bunN, Int.reduceToNat, List.map_nil, List.nil_append] | exact NK_no _ | refine NK_cl _ _ ?_ | exact Cln.cl | refine clean_tup _ ?_ | refine cleans_cons _ _ ?_ ?_ | refine DR_q _ ?_ | (refine Fk.fk ?_ ?_ <;> intro hg <;> (try simp only [hg]) <;> (try simp only [bunB] at hg) <;> try (exfalso; first | omega | exact Bool.noConfusion hg | exact hg trivial)) | refine And.intro (by omega) ?_ | omega
    | true =>
      rw [hf2] at f2
      obtain ⟨ln, ll⟩ := few_len hf1
      obtain ⟨mn, ml⟩ := few_len hf2
      have r2 := right_spec d M (by omega) (fun s hs => by have := ml s hs; omega)
      cases hr2 : rightB d M with
      | false =>
        rw [hr2] at r2
        repeat' first | refine WE_fit (rsmall_spec) ?_ ?_ | refine WE_fit (f1) ?_ ?_ | refine WE_fit (f2) ?_ ?_ | refine WE_fit (r2) ?_ ?_ | simp (maxSteps := 4000000) (disch := omega) only [bunL, bunD, bun, ↓WG_true, ↓WG_false, labelOf, findLabel, ↓reduceIte, imp, shift, killO, hasId, unown, names, plainR, below, noF, isF, lendObs, lendOb, kindOk, ren, givL, updM, backO, renO, belowM, seval, -Int.reduceToNat, B4, D31, B34, bunN, Int.reduceToNat, List.map_nil, List.nil_append] | exact NK_no _ | refine NK_cl _ _ ?_ | exact Cln.cl | refine clean_tup _ ?_ | refine cleans_cons _ _ ?_ ?_ | refine DR_q _ ?_ | (refine Fk.fk ?_ ?_ <;> intro hg <;> (try simp only [hg]) <;> (try simp only [bunB] at hg) <;> try (exfalso; first | omega | exact Bool.noConfusion hg | exact hg trivial)) | refine And.intro (by omega) ?_ | omega
      | true =>
        rw [hr2] at r2
        have o2 := openN_spec 0
        repeat' first | refine WE_fit (rsmall_spec) ?_ ?_ | refine WE_fit (f1) ?_ ?_ | refine WE_fit (f2) ?_ ?_ | refine WE_fit (r2) ?_ ?_ | simp (maxSteps := 4000000) (disch := omega) only [bunL, bunD, bun, ↓WG_true, ↓WG_false, labelOf, findLabel, ↓reduceIte, imp, shift, killO, hasId, unown, names, plainR, below, noF, isF, lendObs, lendOb, kindOk, ren, givL, updM, backO, renO, belowM, seval, -Int.reduceToNat, B4, D31, B34, bunN, Int.reduceToNat, List.map_nil, List.nil_append] | exact NK_no _ | refine NK_cl _ _ ?_ | exact Cln.cl | refine clean_tup _ ?_ | refine cleans_cons _ _ ?_ ?_ | refine DR_q _ ?_ | (refine Fk.fk ?_ ?_ <;> intro hg <;> (try simp only [hg]) <;> (try simp only [bunB] at hg) <;> try (exfalso; first | omega | exact Bool.noConfusion hg | exact hg trivial)) | refine And.intro (by omega) ?_ | omega
        obtain ⟨⟨c1, c2⟩, ⟨n0, n32⟩, hsg⟩ := right_B hr2
        have p1 := print_spec d M (by omega) ml hr2 c2 c1
        have hpl := prF_len d M M.length
        have hx := takeN_no [120] (by decide) (by decide)
        simp only [zRep, nilA] at hx
        refine LP_introR (fun x : Nat × Int × List (List UInt8) => ⟨[(0, .sl l.length (l.map Sv)), (3, .ptr 0 0), (5, Bv true), (8, .ptr 1 0), (9, I64 x.1)], lS (.row true 1 [I64 d, .sl M.length (M.map Sv)]) x⟩) (fun x => x.1 ≤ l.length ∧ (x.1 = 0 → x.2.2 = []) ∧ (x.2.2 ≠ [] → okX x.2.1 x.2.2)) (fun x => l.length - x.1) (0, 0, []) ⟨by simp, fun _ => rfl, fun h => absurd rfl h⟩ (by rw [lS_0]; (simp (disch := omega) [wk, wkT, wkM, noF, isF, get, belowT, belowM, below, belows, I64, I32, Bv, U8, Sv, nilA] <;> try omega)) ?_
        rintro ⟨i, b, X⟩ ⟨hi, hX0, hX3⟩
        replace hi : i ≤ l.length := hi
        replace hX0 : i = 0 → X = [] := hX0
        replace hX3 : X ≠ [] → okX b X := hX3
        show AW _ _ _ _ ⟨[(0, .sl l.length (l.map Sv)), (3, .ptr 0 0), (5, Bv true), (8, .ptr 1 0), (9, I64 i)], lS (.row true 1 [I64 d, .sl M.length (M.map Sv)]) (i, b, X)⟩
        by_cases hlt : i < l.length
        · have hkl : (l.getD i []).length ≤ 600 := ll _ (by simp [List.getD, hlt])
          by_cases hi0 : i = 0
          · subst hi0
            rw [lS_0]
            cases hK : rdK (l.getD 0 []) with
            | false =>
              have t1 := takeN_no (l.getD 0 []) (by omega) hK
              simp only [zRep, nilA] at t1
              repeat' first | (refine WL_fit [1] (t1) ?_; clear t1) | refine WE_fit (o2) ?_ ?_ | simp (maxSteps := 4000000) (disch := omega) only [bunL, bunD, bun, ↓WG_true, ↓WG_false, labelOf, findLabel, ↓reduceIte, imp, shift, killO, hasId, unown, names, plainR, below, noF, isF, lendObs, lendOb, kindOk, ren, givL, updM, backO, renO, belowM, seval, -Int.reduceToNat, B4, D31, B34, bunN, Int.reduceToNat, List.map_nil, List.nil_append] | exact NK_no _ | refine NK_cl _ _ ?_ | exact Cln.cl | refine clean_tup _ ?_ | refine cleans_cons _ _ ?_ ?_ | refine DR_q _ ?_ | (refine Fk.fk ?_ ?_ <;> intro hg <;> (try simp only [hg]) <;> (try simp only [bunB] at hg) <;> try (exfalso; first | omega | exact Bool.noConfusion hg | exact hg trivial)) | refine And.intro (by omega) ?_ | omega
              refine ⟨(0 + 1, 0, []), ⟨by show 0 + 1 ≤ l.length; omega, fun _ => rfl, fun h => absurd rfl h⟩, by show l.length - (0 + 1) < l.length - 0; omega, [0, 1, 2], ?_⟩
              rw [lS_e _ _ (by omega)]
              simp only [wkr, renT, ren, renF, wkrM, renO, nodupN, rens]
              (simp (disch := omega) [wk, wkT, wkM, noF, isF, get, belowT, belowM, below, belows, I64, I32, Bv, U8, Sv, isF, obj, List.map_nil] <;> try omega)
              all_goals first | rfl | exact ⟨rfl, rfl⟩ | trace_state
            | true =>
              obtain ⟨k1, k2⟩ := rdK_in hK
              cases hM : rdMo (l.getD 0 []) with
              | true =>
                have t1 := takeNm (l.getD 0 []) _ _ (by omega) hK hM rfl rfl
                simp only [zRep, nilA] at t1
                repeat' first | (refine WL_fit [1] (t1) ?_; clear t1) | simp (maxSteps := 4000000) (disch := omega) only [bunL, bunD, bun, ↓WG_true, ↓WG_false, labelOf, findLabel, ↓reduceIte, imp, shift, killO, hasId, unown, names, plainR, below, noF, isF, lendObs, lendOb, kindOk, ren, givL, updM, backO, renO, belowM, seval, -Int.reduceToNat, B4, D31, B34, bunN, Int.reduceToNat, List.map_nil, List.nil_append] | exact NK_no _ | refine NK_cl _ _ ?_ | exact Cln.cl | refine clean_tup _ ?_ | refine cleans_cons _ _ ?_ ?_ | refine DR_q _ ?_ | (refine Fk.fk ?_ ?_ <;> intro hg <;> (try simp only [hg]) <;> (try simp only [bunB] at hg) <;> try (exfalso; first | omega | exact Bool.noConfusion hg | exact hg trivial)) | refine And.intro (by omega) ?_ | omega
                refine ⟨(0 + 1, codk (l.getD 0 []) 3, [(l.getD 0 []).drop 4]), ⟨by show 0 + 1 ≤ l.length; omega, fun h => absurd h (by show ¬ 0 + 1 = 0; omega), fun _ => okX_one k1 k2 (by have := List.length_drop (i := 4) (l := l.getD 0 []); omega)⟩, by show l.length - (0 + 1) < l.length - 0; omega, [0, 1, 6], ?_⟩
                rw [lS_x _ _ (by omega) (by simp)]
                simp only [wkr, renT, ren, renF, wkrM, renO, nodupN, rens]
                (simp (disch := omega) [wk, wkT, wkM, noF, isF, get, belowT, belowM, below, belows, I64, I32, Bv, U8, Sv, isF, obj, List.map_nil] <;> try omega)
                all_goals first | rfl | exact ⟨rfl, rfl⟩ | trace_state
              | false =>
                have t1 := takeNd (l.getD 0 []) _ _ (by omega) hK hM rfl rfl
                simp only [zRep, nilA] at t1
                have rt := right_spec (codk (l.getD 0 []) 3) [(l.getD 0 []).drop 4] (by simp) (fun s hs => by simp only [List.mem_singleton] at hs; subst hs; have := List.length_drop (i := 4) (l := l.getD 0 []); omega)
                rw [okX_right (okX_one k1 k2 (by have := List.length_drop (i := 4) (l := l.getD 0 []); omega)) (by simp)] at rt
                repeat' first | (refine WL_fit [1] (t1) ?_; clear t1) | refine WE_fit (o2) ?_ ?_ | refine WE_fit (rt) ?_ ?_ | simp (maxSteps := 4000000) (disch := omega) only [bunL, bunD, bun, ↓WG_true, ↓WG_false, labelOf, findLabel, ↓reduceIte, imp, shift, killO, hasId, unown, names, plainR, below, noF, isF, lendObs, lendOb, kindOk, ren, givL, updM, backO, renO, belowM, seval, -Int.reduceToNat, B4, D31, B34, bunN, Int.reduceToNat, List.map_nil, List.nil_append] | exact NK_no _ | refine NK_cl _ _ ?_ | exact Cln.cl | refine clean_tup _ ?_ | refine cleans_cons _ _ ?_ ?_ | refine DR_q _ ?_ | (refine Fk.fk ?_ ?_ <;> intro hg <;> (try simp only [hg]) <;> (try simp only [bunB] at hg) <;> try (exfalso; first | omega | exact Bool.noConfusion hg | exact hg trivial)) | refine And.intro (by omega) ?_ | omega
                refine ⟨(0 + 1, 0, []), ⟨by show 0 + 1 ≤ l.length; omega, fun _ => rfl, fun h => absurd rfl h⟩, by show l.length - (0 + 1) < l.length - 0; omega, [0, 1, 2], ?_⟩
                rw [lS_e _ _ (by omega)]
                simp only [wkr, renT, ren, renF, wkrM, renO, nodupN, rens]
                (simp (disch := omega) [wk, wkT, wkM, noF, isF, get, belowT, belowM, below, belows, I64, I32, Bv, U8, Sv, isF, obj, List.map_nil] <;> try omega)
                all_goals first | rfl | exact ⟨rfl, rfl⟩ | trace_state
          · by_cases hX : X = []
            · subst hX
              rw [lS_e _ _ hi0]
              cases hK : rdK (l.getD i []) with
              | false =>
                have t1 := takeN_no (l.getD i []) (by omega) hK
                simp only [zRep, nilA] at t1
                repeat' first | (refine WL_fit [1] (t1) ?_; clear t1) | refine WE_fit (o2) ?_ ?_ | simp (maxSteps := 4000000) (disch := omega) only [bunL, bunD, bun, ↓WG_true, ↓WG_false, labelOf, findLabel, ↓reduceIte, imp, shift, killO, hasId, unown, names, plainR, below, noF, isF, lendObs, lendOb, kindOk, ren, givL, updM, backO, renO, belowM, seval, -Int.reduceToNat, B4, D31, B34, bunN, Int.reduceToNat, List.map_nil, List.nil_append] | exact NK_no _ | refine NK_cl _ _ ?_ | exact Cln.cl | refine clean_tup _ ?_ | refine cleans_cons _ _ ?_ ?_ | refine DR_q _ ?_ | (refine Fk.fk ?_ ?_ <;> intro hg <;> (try simp only [hg]) <;> (try simp only [bunB] at hg) <;> try (exfalso; first | omega | exact Bool.noConfusion hg | exact hg trivial)) | refine And.intro (by omega) ?_ | omega
                refine ⟨(i + 1, 0, []), ⟨by show i + 1 ≤ l.length; omega, fun _ => rfl, fun h => absurd rfl h⟩, by show l.length - (i + 1) < l.length - i; omega, [0, 1, 2], ?_⟩
                rw [lS_e _ _ (by omega)]
                simp only [wkr, renT, ren, renF, wkrM, renO, nodupN, rens]
                (simp (disch := omega) [wk, wkT, wkM, noF, isF, get, belowT, belowM, below, belows, I64, I32, Bv, U8, Sv, isF, obj, List.map_nil] <;> try omega)
                all_goals first | rfl | exact ⟨rfl, rfl⟩ | trace_state
              | true =>
                obtain ⟨k1, k2⟩ := rdK_in hK
                cases hM : rdMo (l.getD i []) with
                | true =>
                  have t1 := takeNm (l.getD i []) _ _ (by omega) hK hM rfl rfl
                  simp only [zRep, nilA] at t1
                  repeat' first | (refine WL_fit [1] (t1) ?_; clear t1) | simp (maxSteps := 4000000) (disch := omega) only [bunL, bunD, bun, ↓WG_true, ↓WG_false, labelOf, findLabel, ↓reduceIte, imp, shift, killO, hasId, unown, names, plainR, below, noF, isF, lendObs, lendOb, kindOk, ren, givL, updM, backO, renO, belowM, seval, -Int.reduceToNat, B4, D31, B34, bunN, Int.reduceToNat, List.map_nil, List.nil_append] | exact NK_no _ | refine NK_cl _ _ ?_ | exact Cln.cl | refine clean_tup _ ?_ | refine cleans_cons _ _ ?_ ?_ | refine DR_q _ ?_ | (refine Fk.fk ?_ ?_ <;> intro hg <;> (try simp only [hg]) <;> (try simp only [bunB] at hg) <;> try (exfalso; first | omega | exact Bool.noConfusion hg | exact hg trivial)) | refine And.intro (by omega) ?_ | omega
                  refine ⟨(i + 1, codk (l.getD i []) 3, [(l.getD i []).drop 4]), ⟨by show i + 1 ≤ l.length; omega, fun h => absurd h (by show ¬ i + 1 = 0; omega), fun _ => okX_one k1 k2 (by have := List.length_drop (i := 4) (l := l.getD i []); omega)⟩, by show l.length - (i + 1) < l.length - i; omega, [0, 1, 7], ?_⟩
                  rw [lS_x _ _ (by omega) (by simp)]
                  simp only [wkr, renT, ren, renF, wkrM, renO, nodupN, rens]
                  (simp (disch := omega) [wk, wkT, wkM, noF, isF, get, belowT, belowM, below, belows, I64, I32, Bv, U8, Sv, isF, obj, List.map_nil] <;> try omega)
                  all_goals first | rfl | exact ⟨rfl, rfl⟩ | trace_state
                | false =>
                  have t1 := takeNd (l.getD i []) _ _ (by omega) hK hM rfl rfl
                  simp only [zRep, nilA] at t1
                  have rt := right_spec (codk (l.getD i []) 3) [(l.getD i []).drop 4] (by simp) (fun s hs => by simp only [List.mem_singleton] at hs; subst hs; have := List.length_drop (i := 4) (l := l.getD i []); omega)
                  rw [okX_right (okX_one k1 k2 (by have := List.length_drop (i := 4) (l := l.getD i []); omega)) (by simp)] at rt
                  repeat' first | (refine WL_fit [1] (t1) ?_; clear t1) | refine WE_fit (o2) ?_ ?_ | refine WE_fit (rt) ?_ ?_ | simp (maxSteps := 4000000) (disch := omega) only [bunL, bunD, bun, ↓WG_true, ↓WG_false, labelOf, findLabel, ↓reduceIte, imp, shift, killO, hasId, unown, names, plainR, below, noF, isF, lendObs, lendOb, kindOk, ren, givL, updM, backO, renO, belowM, seval, -Int.reduceToNat, B4, D31, B34, bunN, Int.reduceToNat, List.map_nil, List.nil_append] | exact NK_no _ | refine NK_cl _ _ ?_ | exact Cln.cl | refine clean_tup _ ?_ | refine cleans_cons _ _ ?_ ?_ | refine DR_q _ ?_ | (refine Fk.fk ?_ ?_ <;> intro hg <;> (try simp only [hg]) <;> (try simp only [bunB] at hg) <;> try (exfalso; first | omega | exact Bool.noConfusion hg | exact hg trivial)) | refine And.intro (by omega) ?_ | omega
                  refine ⟨(i + 1, 0, []), ⟨by show i + 1 ≤ l.length; omega, fun _ => rfl, fun h => absurd rfl h⟩, by show l.length - (i + 1) < l.length - i; omega, [0, 1, 2], ?_⟩
                  rw [lS_e _ _ (by omega)]
                  simp only [wkr, renT, ren, renF, wkrM, renO, nodupN, rens]
                  (simp (disch := omega) [wk, wkT, wkM, noF, isF, get, belowT, belowM, below, belows, I64, I32, Bv, U8, Sv, isF, obj, List.map_nil] <;> try omega)
                  all_goals first | rfl | exact ⟨rfl, rfl⟩ | trace_state
            · -- lines stood ahead
              rw [lS_x _ _ hi0 hX]
              have hx := hX3 hX
              have x0 : 0 < X.length := List.length_pos_iff.2 hX
              have x32 := hx.2.1
              cases hK : rdK (l.getD i []) with
              | false =>
                have t1 := takeA_no b X (by omega) x0 (l.getD i []) (by omega) (.inl hK)
                simp only [zRep, nilA] at t1
                repeat' first | (refine WL_fit [1, 2] (t1) ?_; clear t1) | refine WE_fit (o2) ?_ ?_ | simp (maxSteps := 4000000) (disch := omega) only [bunL, bunD, bun, ↓WG_true, ↓WG_false, labelOf, findLabel, ↓reduceIte, imp, shift, killO, hasId, unown, names, plainR, below, noF, isF, lendObs, lendOb, kindOk, ren, givL, updM, backO, renO, belowM, seval, -Int.reduceToNat, B4, D31, B34, bunN, Int.reduceToNat, List.map_nil, List.nil_append] | exact NK_no _ | refine NK_cl _ _ ?_ | exact Cln.cl | refine clean_tup _ ?_ | refine cleans_cons _ _ ?_ ?_ | refine DR_q _ ?_ | (refine Fk.fk ?_ ?_ <;> intro hg <;> (try simp only [hg]) <;> (try simp only [bunB] at hg) <;> try (exfalso; first | omega | exact Bool.noConfusion hg | exact hg trivial)) | refine And.intro (by omega) ?_ | omega
                refine ⟨(i + 1, 0, []), ⟨by show i + 1 ≤ l.length; omega, fun _ => rfl, fun h => absurd rfl h⟩, by show l.length - (i + 1) < l.length - i; omega, [0, 1, 2], ?_⟩
                rw [lS_e _ _ (by omega)]
                simp only [wkr, renT, ren, renF, wkrM, renO, nodupN, rens]
                (simp (disch := omega) [wk, wkT, wkM, noF, isF, get, belowT, belowM, below, belows, I64, I32, Bv, U8, Sv, isF, obj, List.map_nil] <;> try omega)
                all_goals first | rfl | exact ⟨rfl, rfl⟩ | trace_state
              | true =>
                obtain ⟨k1, k2⟩ := rdK_in hK
                by_cases hc : codk (l.getD i []) 3 = b
                · by_cases hf : 32 ≤ X.length
                  · have t1 := takeA_full b X (by omega) hf (l.getD i []) (by omega) hK hc
                    simp only [zRep, nilA] at t1
                    repeat' first | (refine WL_fit [1, 2] (t1) ?_; clear t1) | refine WE_fit (o2) ?_ ?_ | simp (maxSteps := 4000000) (disch := omega) only [bunL, bunD, bun, ↓WG_true, ↓WG_false, labelOf, findLabel, ↓reduceIte, imp, shift, killO, hasId, unown, names, plainR, below, noF, isF, lendObs, lendOb, kindOk, ren, givL, updM, backO, renO, belowM, seval, -Int.reduceToNat, B4, D31, B34, bunN, Int.reduceToNat, List.map_nil, List.nil_append] | exact NK_no _ | refine NK_cl _ _ ?_ | exact Cln.cl | refine clean_tup _ ?_ | refine cleans_cons _ _ ?_ ?_ | refine DR_q _ ?_ | (refine Fk.fk ?_ ?_ <;> intro hg <;> (try simp only [hg]) <;> (try simp only [bunB] at hg) <;> try (exfalso; first | omega | exact Bool.noConfusion hg | exact hg trivial)) | refine And.intro (by omega) ?_ | omega
                    refine ⟨(i + 1, 0, []), ⟨by show i + 1 ≤ l.length; omega, fun _ => rfl, fun h => absurd rfl h⟩, by show l.length - (i + 1) < l.length - i; omega, [0, 1, 2], ?_⟩
                    rw [lS_e _ _ (by omega)]
                    simp only [wkr, renT, ren, renF, wkrM, renO, nodupN, rens]
                    (simp (disch := omega) [wk, wkT, wkM, noF, isF, get, belowT, belowM, below, belows, I64, I32, Bv, U8, Sv, isF, obj, List.map_nil] <;> try omega)
                    all_goals first | rfl | exact ⟨rfl, rfl⟩ | trace_state
                  · have hY : X.length + 1 = (X ++ [(l.getD i []).drop 4]).length := by simp
                    have hy := okX_snoc hx (by omega) k2 (by have := List.length_drop (i := 4) (l := l.getD i []); omega)
                    have hy0 : X ++ [(l.getD i []).drop 4] ≠ [] := by simp
                    cases hM : rdMo (l.getD i []) with
                    | true =>
                      have t1 := takeAm b X (l.getD i []) _ x0 (by omega) (by omega) hK hM hc rfl
                      simp only [zRep, nilA] at t1
                      rw [hY] at t1
                      generalize X ++ [(l.getD i []).drop 4] = Y at *
                      repeat' first | (refine WL_fit [1, 2] (t1) ?_; clear t1) | simp (maxSteps := 4000000) (disch := omega) only [bunL, bunD, bun, ↓WG_true, ↓WG_false, labelOf, findLabel, ↓reduceIte, imp, shift, killO, hasId, unown, names, plainR, below, noF, isF, lendObs, lendOb, kindOk, ren, givL, updM, backO, renO, belowM, seval, -Int.reduceToNat, B4, D31, B34, bunN, Int.reduceToNat, List.map_nil, List.nil_append] | exact NK_no _ | refine NK_cl _ _ ?_ | exact Cln.cl | refine clean_tup _ ?_ | refine cleans_cons _ _ ?_ ?_ | refine DR_q _ ?_ | (refine Fk.fk ?_ ?_ <;> intro hg <;> (try simp only [hg]) <;> (try simp only [bunB] at hg) <;> try (exfalso; first | omega | exact Bool.noConfusion hg | exact hg trivial)) | refine And.intro (by omega) ?_ | omega
                      refine ⟨(i + 1, b, Y), ⟨by show i + 1 ≤ l.length; omega, fun h => absurd h (by show ¬ i + 1 = 0; omega), fun _ => hy⟩, by show l.length - (i + 1) < l.length - i; omega, [0, 1, 2], ?_⟩
                      rw [lS_x _ _ (by omega) hy0]
                      simp only [wkr, renT, ren, renF, wkrM, renO, nodupN, rens]
                      (simp (disch := omega) [wk, wkT, wkM, noF, isF, get, belowT, belowM, below, belows, I64, I32, Bv, U8, Sv, isF, obj, List.map_nil] <;> try omega)
                      all_goals first | rfl | exact ⟨rfl, rfl⟩ | trace_state
                    | false =>
                      have t1 := takeAd b X (l.getD i []) _ x0 (by omega) (by omega) hK hM hc rfl
                      simp only [zRep, nilA] at t1
                      rw [hY] at t1
                      have hY0 : 0 < (X ++ [(l.getD i []).drop 4]).length := by omega
                      generalize X ++ [(l.getD i []).drop 4] = Y at *
                      have rt := right_spec b Y (by have := hy.2.1; omega) (fun s hs => by have := hy.2.2.2 s hs; omega)
                      rw [okX_right hy hY0] at rt
                      have htk : List.take Y.length (Y.map Sv) = Y.map Sv := List.take_of_length_le (by simp)
                      repeat' first | (refine WL_fit [1, 2] (t1) ?_; clear t1) | refine WE_fit (o2) ?_ ?_ | refine WE_fit (rt) ?_ ?_ | simp (maxSteps := 4000000) (disch := omega) only [bunL, bunD, bun, ↓WG_true, ↓WG_false, labelOf, findLabel, ↓reduceIte, imp, shift, killO, hasId, unown, names, plainR, below, noF, isF, lendObs, lendOb, kindOk, ren, givL, updM, backO, renO, belowM, seval, -Int.reduceToNat, htk, B4, D31, B34, bunN, Int.reduceToNat, List.map_nil, List.nil_append] | exact NK_no _ | refine NK_cl _ _ ?_ | exact Cln.cl | refine clean_tup _ ?_ | refine cleans_cons _ _ ?_ ?_ | refine DR_q _ ?_ | (refine Fk.fk ?_ ?_ <;> intro hg <;> (try simp only [hg]) <;> (try simp only [bunB] at hg) <;> try (exfalso; first | omega | exact Bool.noConfusion hg | exact hg trivial)) | refine And.intro (by omega) ?_ | omega
                      refine ⟨(i + 1, 0, []), ⟨by show i + 1 ≤ l.length; omega, fun _ => rfl, fun h => absurd rfl h⟩, by show l.length - (i + 1) < l.length - i; omega, [0, 1, 2], ?_⟩
                      rw [lS_e _ _ (by omega)]
                      simp only [wkr, renT, ren, renF, wkrM, renO, nodupN, rens]
                      (simp (disch := omega) [wk, wkT, wkM, noF, isF, get, belowT, belowM, below, belows, I64, I32, Bv, U8, Sv, isF, obj, List.map_nil] <;> try omega)
                      all_goals first | rfl | exact ⟨rfl, rfl⟩ | trace_state
                · have t1 := takeA_no b X (by omega) x0 (l.getD i []) (by omega) (.inr hc)
                  simp only [zRep, nilA] at t1
                  repeat' first | (refine WL_fit [1, 2] (t1) ?_; clear t1) | refine WE_fit (o2) ?_ ?_ | simp (maxSteps := 4000000) (disch := omega) only [bunL, bunD, bun, ↓WG_true, ↓WG_false, labelOf, findLabel, ↓reduceIte, imp, shift, killO, hasId, unown, names, plainR, below, noF, isF, lendObs, lendOb, kindOk, ren, givL, updM, backO, renO, belowM, seval, -Int.reduceToNat, B4, D31, B34, bunN, Int.reduceToNat, List.map_nil, List.nil_append] | exact NK_no _ | refine NK_cl _ _ ?_ | exact Cln.cl | refine clean_tup _ ?_ | refine cleans_cons _ _ ?_ ?_ | refine DR_q _ ?_ | (refine Fk.fk ?_ ?_ <;> intro hg <;> (try simp only [hg]) <;> (try simp only [bunB] at hg) <;> try (exfalso; first | omega | exact Bool.noConfusion hg | exact hg trivial)) | refine And.intro (by omega) ?_ | omega
                  refine ⟨(i + 1, 0, []), ⟨by show i + 1 ≤ l.length; omega, fun _ => rfl, fun h => absurd rfl h⟩, by show l.length - (i + 1) < l.length - i; omega, [0, 1, 2], ?_⟩
                  rw [lS_e _ _ (by omega)]
                  simp only [wkr, renT, ren, renF, wkrM, renO, nodupN, rens]
                  (simp (disch := omega) [wk, wkT, wkM, noF, isF, get, belowT, belowM, below, belows, I64, I32, Bv, U8, Sv, isF, obj, List.map_nil] <;> try omega)
                  all_goals first | rfl | exact ⟨rfl, rfl⟩ | trace_state
        · by_cases hi0 : i = 0
          · subst hi0
            rw [lS_0]
            repeat' first | (refine WL_fit [1] (hx) ?_; clear hx) | refine WE_fit (p1) ?_ ?_ | simp (maxSteps := 4000000) (disch := omega) only [bunL, bunD, bun, ↓WG_true, ↓WG_false, labelOf, findLabel, ↓reduceIte, imp, shift, killO, hasId, unown, names, plainR, below, noF, isF, lendObs, lendOb, kindOk, ren, givL, updM, backO, renO, belowM, seval, -Int.reduceToNat, hpl, B4, D31, B34, bunN, Int.reduceToNat, List.map_nil, List.nil_append] | exact NK_no _ | refine NK_cl _ _ ?_ | exact Cln.cl | refine clean_tup _ ?_ | refine cleans_cons _ _ ?_ ?_ | refine DR_q _ ?_ | (refine Fk.fk ?_ ?_ <;> intro hg <;> (try simp only [hg]) <;> (try simp only [bunB] at hg) <;> try (exfalso; first | omega | exact Bool.noConfusion hg | exact hg trivial)) | refine And.intro (by omega) ?_ | omega
            refine LP_introR (fun k : Nat => ⟨[(3, .ptr 0 0), (5, Bv true), (8, .ptr 1 0), (13, .ref 3 0 M.length), (14, I64 k)], eS d M [.dead] k⟩) (fun k => k ≤ M.length) (fun k => M.length - k) 0 (by simp) (by rw [eS1_0 _ _ (.inl rfl)]; (simp (disch := omega) [wk, wkT, wkM, noF, isF, get, belowT, belowM, below, belows, I64, I32, Bv, U8, Sv, nilA] <;> try omega)) ?_
            intro k hk
            by_cases hlt : k < M.length
            · have hkl : (M.getD k []).length ≤ 600 := ml _ (by simp [List.getD, hlt])
              have hP : (prF d M M.length).getD k [] = prK d M.length k (M.getD k []) := prF_get hlt
              have hPl := pr_len (n := M.length) (k := k) (t := M.getD k []) c2 c1
              have hPd := pr_drop (n := M.length) (k := k) (t := M.getD k []) c2 c1
              have hPc := pr_cod (n := M.length) (k := k) (t := M.getD k []) c2 c1
              have hPK := pr_K (n := M.length) (k := k) c2 c1 (hsg k hlt)
              have hPM := pr_Mo (n := M.length) (k := k) (t := M.getD k []) c2 c1
              have s1 := same_spec d M d M (by omega) (by omega)
              have es : sameL d M d M = true := by unfold sameL; simp
              rw [es] at s1
              have htk : List.take M.length (M.map Sv) = M.map Sv := List.take_of_length_le (by simp)
              by_cases hke : k + 1 = M.length
              · by_cases hk0 : k = 0
                · subst hk0
                  rw [eS1_0 _ _ (.inl rfl)]
                  have t1 := takeNd2 d M (prK d M.length 0 (M.getD 0 [])) hke.symm (by omega) hPK (by rw [hPM, decide_eq_true hke]; rfl) hPc hPd
                  repeat' first | (refine WL_fit [1] (t1) ?_; clear t1) | refine WE_fit (s1) ?_ ?_ | simp (maxSteps := 4000000) (disch := omega) only [bunL, bunD, bun, ↓WG_true, ↓WG_false, labelOf, findLabel, ↓reduceIte, imp, shift, killO, hasId, unown, names, plainR, below, noF, isF, lendObs, lendOb, kindOk, ren, givL, updM, backO, renO, belowM, seval, -Int.reduceToNat, hpl, hP, htk, B4, D31, B34, bunN, Int.reduceToNat, List.map_nil, List.nil_append] | exact NK_no _ | refine NK_cl _ _ ?_ | exact Cln.cl | refine clean_tup _ ?_ | refine cleans_cons _ _ ?_ ?_ | refine DR_q _ ?_ | (refine Fk.fk ?_ ?_ <;> intro hg <;> (try simp only [hg]) <;> (try simp only [bunB] at hg) <;> try (exfalso; first | omega | exact Bool.noConfusion hg | exact hg trivial)) | refine And.intro (by omega) ?_ | omega
                  all_goals refine ⟨0 + 1, by omega, by omega, [0, 1, 2, 3], ?_⟩
                  all_goals rw [eS1_0 _ _ (.inr hke)]
                  all_goals simp only [wkr, renT, ren, renF, wkrM, renO, nodupN, rens]
                  all_goals (simp (disch := omega) [wk, wkT, wkM, noF, isF, get, belowT, belowM, below, belows, I64, I32, Bv, U8, Sv, isF, obj, List.map_nil] <;> try omega)
                  all_goals first | rfl | exact ⟨rfl, rfl⟩ | trace_state
                · rw [eS1_1 _ _ (by omega)]
                  have t1 := takeAd2 d M (prK d M.length k (M.getD k [])) (by omega) (by omega) hke (by omega) hPK (by rw [hPM, decide_eq_true hke]; rfl) hPc hPd
                  repeat' first | (refine WL_fit [1, 4] (t1) ?_; clear t1) | refine WE_fit (s1) ?_ ?_ | simp (maxSteps := 4000000) (disch := omega) only [bunL, bunD, bun, ↓WG_true, ↓WG_false, labelOf, findLabel, ↓reduceIte, imp, shift, killO, hasId, unown, names, plainR, below, noF, isF, lendObs, lendOb, kindOk, ren, givL, updM, backO, renO, belowM, seval, -Int.reduceToNat, hpl, hP, htk, B4, D31, B34, bunN, Int.reduceToNat, List.map_nil, List.nil_append] | exact NK_no _ | refine NK_cl _ _ ?_ | exact Cln.cl | refine clean_tup _ ?_ | refine cleans_cons _ _ ?_ ?_ | refine DR_q _ ?_ | (refine Fk.fk ?_ ?_ <;> intro hg <;> (try simp only [hg]) <;> (try simp only [bunB] at hg) <;> try (exfalso; first | omega | exact Bool.noConfusion hg | exact hg trivial)) | refine And.intro (by omega) ?_ | omega
                  all_goals refine ⟨k + 1, by omega, by omega, [0, 1, 2, 3], ?_⟩
                  all_goals rw [eS1_0 _ _ (.inr hke)]
                  all_goals simp only [wkr, renT, ren, renF, wkrM, renO, nodupN, rens]
                  all_goals (simp (disch := omega) [wk, wkT, wkM, noF, isF, get, belowT, belowM, below, belows, I64, I32, Bv, U8, Sv, isF, obj, List.map_nil] <;> try omega)
                  all_goals first | rfl | exact ⟨rfl, rfl⟩ | trace_state
              · by_cases hk0 : k = 0
                · subst hk0
                  rw [eS1_0 _ _ (.inl rfl)]
                  have t1 := takeNm2 d M (prK d M.length 0 (M.getD 0 [])) hlt (by omega) hPK (by rw [hPM, decide_eq_false hke]; rfl) hPc hPd
                  repeat' first | (refine WL_fit [1] (t1) ?_; clear t1) | simp (maxSteps := 4000000) (disch := omega) only [bunL, bunD, bun, ↓WG_true, ↓WG_false, labelOf, findLabel, ↓reduceIte, imp, shift, killO, hasId, unown, names, plainR, below, noF, isF, lendObs, lendOb, kindOk, ren, givL, updM, backO, renO, belowM, seval, -Int.reduceToNat, hpl, hP, B4, D31, B34, bunN, Int.reduceToNat, List.map_nil, List.nil_append] | exact NK_no _ | refine NK_cl _ _ ?_ | exact Cln.cl | refine clean_tup _ ?_ | refine cleans_cons _ _ ?_ ?_ | refine DR_q _ ?_ | (refine Fk.fk ?_ ?_ <;> intro hg <;> (try simp only [hg]) <;> (try simp only [bunB] at hg) <;> try (exfalso; first | omega | exact Bool.noConfusion hg | exact hg trivial)) | refine And.intro (by omega) ?_ | omega
                  all_goals refine ⟨0 + 1, by omega, by omega, [0, 1, 2, 3, 8], ?_⟩
                  all_goals rw [eS1_1 _ _ (by omega)]
                  all_goals simp only [wkr, renT, ren, renF, wkrM, renO, nodupN, rens]
                  all_goals (simp (disch := omega) [wk, wkT, wkM, noF, isF, get, belowT, belowM, below, belows, I64, I32, Bv, U8, Sv, isF, obj, List.map_nil] <;> try omega)
                  all_goals first | rfl | exact ⟨rfl, rfl⟩ | trace_state
                · rw [eS1_1 _ _ (by omega)]
                  have t1 := takeAm2 d M k (prK d M.length k (M.getD k [])) (by omega) hlt (by omega) (by omega) hPK (by rw [hPM, decide_eq_false hke]; rfl) hPc hPd
                  repeat' first | (refine WL_fit [1, 4] (t1) ?_; clear t1) | simp (maxSteps := 4000000) (disch := omega) only [bunL, bunD, bun, ↓WG_true, ↓WG_false, labelOf, findLabel, ↓reduceIte, imp, shift, killO, hasId, unown, names, plainR, below, noF, isF, lendObs, lendOb, kindOk, ren, givL, updM, backO, renO, belowM, seval, -Int.reduceToNat, hpl, hP, B4, D31, B34, bunN, Int.reduceToNat, List.map_nil, List.nil_append] | exact NK_no _ | refine NK_cl _ _ ?_ | exact Cln.cl | refine clean_tup _ ?_ | refine cleans_cons _ _ ?_ ?_ | refine DR_q _ ?_ | (refine Fk.fk ?_ ?_ <;> intro hg <;> (try simp only [hg]) <;> (try simp only [bunB] at hg) <;> try (exfalso; first | omega | exact Bool.noConfusion hg | exact hg trivial)) | refine And.intro (by omega) ?_ | omega
                  all_goals refine ⟨k + 1, by omega, by omega, [0, 1, 2, 3, 4], ?_⟩
                  all_goals rw [eS1_1 _ _ (by omega)]
                  all_goals simp only [wkr, renT, ren, renF, wkrM, renO, nodupN, rens]
                  all_goals (simp (disch := omega) [wk, wkT, wkM, noF, isF, get, belowT, belowM, below, belows, I64, I32, Bv, U8, Sv, isF, obj, List.map_nil] <;> try omega)
                  all_goals first | rfl | exact ⟨rfl, rfl⟩ | trace_state
            · have e : k = M.length := by omega
              rw [eS1_0 _ _ (.inr e), e]
              have o2 := openN_spec 0
              repeat' first | refine WE_fit (o2) ?_ ?_ | simp (maxSteps := 4000000) (disch := omega) only [bunL, bunD, bun, ↓WG_true, ↓WG_false, labelOf, findLabel, ↓reduceIte, imp, shift, killO, hasId, unown, names, plainR, below, noF, isF, lendObs, lendOb, kindOk, ren, givL, updM, backO, renO, belowM, seval, -Int.reduceToNat, hpl, B4, D31, B34, bunN, Int.reduceToNat, List.map_nil, List.nil_append] | exact NK_no _ | refine NK_cl _ _ ?_ | exact Cln.cl | refine clean_tup _ ?_ | refine cleans_cons _ _ ?_ ?_ | refine DR_q _ ?_ | (refine Fk.fk ?_ ?_ <;> intro hg <;> (try simp only [hg]) <;> (try simp only [bunB] at hg) <;> try (exfalso; first | omega | exact Bool.noConfusion hg | exact hg trivial)) | refine And.intro (by omega) ?_ | omega
              all_goals trace_state

          · by_cases hX : X = []
            · subst hX
              rw [lS_e _ _ hi0]
              repeat' first | (refine WL_fit [1] (hx) ?_; clear hx) | refine WE_fit (p1) ?_ ?_ | simp (maxSteps := 4000000) (disch := omega) only [bunL, bunD, bun, ↓WG_true, ↓WG_false, labelOf, findLabel, ↓reduceIte, imp, shift, killO, hasId, unown, names, plainR, below, noF, isF, lendObs, lendOb, kindOk, ren, givL, updM, backO, renO, belowM, seval, -Int.reduceToNat, hpl, B4, D31, B34, bunN, Int.reduceToNat, List.map_nil, List.nil_append] | exact NK_no _ | refine NK_cl _ _ ?_ | exact Cln.cl | refine clean_tup _ ?_ | refine cleans_cons _ _ ?_ ?_ | refine DR_q _ ?_ | (refine Fk.fk ?_ ?_ <;> intro hg <;> (try simp only [hg]) <;> (try simp only [bunB] at hg) <;> try (exfalso; first | omega | exact Bool.noConfusion hg | exact hg trivial)) | refine And.intro (by omega) ?_ | omega
              refine LP_introR (fun k : Nat => ⟨[(3, .ptr 0 0), (5, Bv true), (8, .ptr 1 0), (13, .ref 4 0 M.length), (14, I64 k)], eS d M [.dead, .dead] k⟩) (fun k => k ≤ M.length) (fun k => M.length - k) 0 (by simp) (by rw [eS2_0 _ _ (.inl rfl)]; (simp (disch := omega) [wk, wkT, wkM, noF, isF, get, belowT, belowM, below, belows, I64, I32, Bv, U8, Sv, nilA] <;> try omega)) ?_
              intro k hk
              by_cases hlt : k < M.length
              · have hkl : (M.getD k []).length ≤ 600 := ml _ (by simp [List.getD, hlt])
                have hP : (prF d M M.length).getD k [] = prK d M.length k (M.getD k []) := prF_get hlt
                have hPl := pr_len (n := M.length) (k := k) (t := M.getD k []) c2 c1
                have hPd := pr_drop (n := M.length) (k := k) (t := M.getD k []) c2 c1
                have hPc := pr_cod (n := M.length) (k := k) (t := M.getD k []) c2 c1
                have hPK := pr_K (n := M.length) (k := k) c2 c1 (hsg k hlt)
                have hPM := pr_Mo (n := M.length) (k := k) (t := M.getD k []) c2 c1
                have s1 := same_spec d M d M (by omega) (by omega)
                have es : sameL d M d M = true := by unfold sameL; simp
                rw [es] at s1
                have htk : List.take M.length (M.map Sv) = M.map Sv := List.take_of_length_le (by simp)
                by_cases hke : k + 1 = M.length
                · by_cases hk0 : k = 0
                  · subst hk0
                    rw [eS2_0 _ _ (.inl rfl)]
                    have t1 := takeNd2 d M (prK d M.length 0 (M.getD 0 [])) hke.symm (by omega) hPK (by rw [hPM, decide_eq_true hke]; rfl) hPc hPd
                    repeat' first | (refine WL_fit [1] (t1) ?_; clear t1) | refine WE_fit (s1) ?_ ?_ | simp (maxSteps := 4000000) (disch := omega) only [bunL, bunD, bun, ↓WG_true, ↓WG_false, labelOf, findLabel, ↓reduceIte, imp, shift, killO, hasId, unown, names, plainR, below, noF, isF, lendObs, lendOb, kindOk, ren, givL, updM, backO, renO, belowM, seval, -Int.reduceToNat, hpl, hP, htk, B4, D31, B34, bunN, Int.reduceToNat, List.map_nil, List.nil_append] | exact NK_no _ | refine NK_cl _ _ ?_ | exact Cln.cl | refine clean_tup _ ?_ | refine cleans_cons _ _ ?_ ?_ | refine DR_q _ ?_ | (refine Fk.fk ?_ ?_ <;> intro hg <;> (try simp only [hg]) <;> (try simp only [bunB] at hg) <;> try (exfalso; first | omega | exact Bool.noConfusion hg | exact hg trivial)) | refine And.intro (by omega) ?_ | omega
                    all_goals refine ⟨0 + 1, by omega, by omega, [0, 1, 2, 3, 4], ?_⟩
                    all_goals rw [eS2_0 _ _ (.inr hke)]
                    all_goals simp only [wkr, renT, ren, renF, wkrM, renO, nodupN, rens]
                    all_goals (simp (disch := omega) [wk, wkT, wkM, noF, isF, get, belowT, belowM, below, belows, I64, I32, Bv, U8, Sv, isF, obj, List.map_nil] <;> try omega)
                    all_goals first | rfl | exact ⟨rfl, rfl⟩ | trace_state
                  · rw [eS2_1 _ _ (by omega)]
                    have t1 := takeAd2 d M (prK d M.length k (M.getD k [])) (by omega) (by omega) hke (by omega) hPK (by rw [hPM, decide_eq_true hke]; rfl) hPc hPd
                    repeat' first | (refine WL_fit [1, 5] (t1) ?_; clear t1) | refine WE_fit (s1) ?_ ?_ | simp (maxSteps := 4000000) (disch := omega) only [bunL, bunD, bun, ↓WG_true, ↓WG_false, labelOf, findLabel, ↓reduceIte, imp, shift, killO, hasId, unown, names, plainR, below, noF, isF, lendObs, lendOb, kindOk, ren, givL, updM, backO, renO, belowM, seval, -Int.reduceToNat, hpl, hP, htk, B4, D31, B34, bunN, Int.reduceToNat, List.map_nil, List.nil_append] | exact NK_no _ | refine NK_cl _ _ ?_ | exact Cln.cl | refine clean_tup _ ?_ | refine cleans_cons _ _ ?_ ?_ | refine DR_q _ ?_ | (refine Fk.fk ?_ ?_ <;> intro hg <;> (try simp only [hg]) <;> (try simp only [bunB] at hg) <;> try (exfalso; first | omega | exact Bool.noConfusion hg | exact hg trivial)) | refine And.intro (by omega) ?_ | omega
                    all_goals refine ⟨k + 1, by omega, by omega, [0, 1, 2, 3, 4], ?_⟩
                    all_goals rw [eS2_0 _ _ (.inr hke)]
                    all_goals simp only [wkr, renT, ren, renF, wkrM, renO, nodupN, rens]
                    all_goals (simp (disch := omega) [wk, wkT, wkM, noF, isF, get, belowT, belowM, below, belows, I64, I32, Bv, U8, Sv, isF, obj, List.map_nil] <;> try omega)
                    all_goals first | rfl | exact ⟨rfl, rfl⟩ | trace_state
                · by_cases hk0 : k = 0
                  · subst hk0
                    rw [eS2_0 _ _ (.inl rfl)]
                    have t1 := takeNm2 d M (prK d M.length 0 (M.getD 0 [])) hlt (by omega) hPK (by rw [hPM, decide_eq_false hke]; rfl) hPc hPd
                    repeat' first | (refine WL_fit [1] (t1) ?_; clear t1) | simp (maxSteps := 4000000) (disch := omega) only [bunL, bunD, bun, ↓WG_true, ↓WG_false, labelOf, findLabel, ↓reduceIte, imp, shift, killO, hasId, unown, names, plainR, below, noF, isF, lendObs, lendOb, kindOk, ren, givL, updM, backO, renO, belowM, seval, -Int.reduceToNat, hpl, hP, B4, D31, B34, bunN, Int.reduceToNat, List.map_nil, List.nil_append] | exact NK_no _ | refine NK_cl _ _ ?_ | exact Cln.cl | refine clean_tup _ ?_ | refine cleans_cons _ _ ?_ ?_ | refine DR_q _ ?_ | (refine Fk.fk ?_ ?_ <;> intro hg <;> (try simp only [hg]) <;> (try simp only [bunB] at hg) <;> try (exfalso; first | omega | exact Bool.noConfusion hg | exact hg trivial)) | refine And.intro (by omega) ?_ | omega
                    all_goals refine ⟨0 + 1, by omega, by omega, [0, 1, 2, 3, 4, 9], ?_⟩
                    all_goals rw [eS2_1 _ _ (by omega)]
                    all_goals simp only [wkr, renT, ren, renF, wkrM, renO, nodupN, rens]
                    all_goals (simp (disch := omega) [wk, wkT, wkM, noF, isF, get, belowT, belowM, below, belows, I64, I32, Bv, U8, Sv, isF, obj, List.map_nil] <;> try omega)
                    all_goals first | rfl | exact ⟨rfl, rfl⟩ | trace_state
                  · rw [eS2_1 _ _ (by omega)]
                    have t1 := takeAm2 d M k (prK d M.length k (M.getD k [])) (by omega) hlt (by omega) (by omega) hPK (by rw [hPM, decide_eq_false hke]; rfl) hPc hPd
                    repeat' first | (refine WL_fit [1, 5] (t1) ?_; clear t1) | simp (maxSteps := 4000000) (disch := omega) only [bunL, bunD, bun, ↓WG_true, ↓WG_false, labelOf, findLabel, ↓reduceIte, imp, shift, killO, hasId, unown, names, plainR, below, noF, isF, lendObs, lendOb, kindOk, ren, givL, updM, backO, renO, belowM, seval, -Int.reduceToNat, hpl, hP, B4, D31, B34, bunN, Int.reduceToNat, List.map_nil, List.nil_append] | exact NK_no _ | refine NK_cl _ _ ?_ | exact Cln.cl | refine clean_tup _ ?_ | refine cleans_cons _ _ ?_ ?_ | refine DR_q _ ?_ | (refine Fk.fk ?_ ?_ <;> intro hg <;> (try simp only [hg]) <;> (try simp only [bunB] at hg) <;> try (exfalso; first | omega | exact Bool.noConfusion hg | exact hg trivial)) | refine And.intro (by omega) ?_ | omega
                    all_goals refine ⟨k + 1, by omega, by omega, [0, 1, 2, 3, 4, 5], ?_⟩
                    all_goals rw [eS2_1 _ _ (by omega)]
                    all_goals simp only [wkr, renT, ren, renF, wkrM, renO, nodupN, rens]
                    all_goals (simp (disch := omega) [wk, wkT, wkM, noF, isF, get, belowT, belowM, below, belows, I64, I32, Bv, U8, Sv, isF, obj, List.map_nil] <;> try omega)
                    all_goals first | rfl | exact ⟨rfl, rfl⟩ | trace_state
              · have e : k = M.length := by omega
                rw [eS2_0 _ _ (.inr e), e]
                have o2 := openN_spec 0
                repeat' first | refine WE_fit (o2) ?_ ?_ | simp (maxSteps := 4000000) (disch := omega) only [bunL, bunD, bun, ↓WG_true, ↓WG_false, labelOf, findLabel, ↓reduceIte, imp, shift, killO, hasId, unown, names, plainR, below, noF, isF, lendObs, lendOb, kindOk, ren, givL, updM, backO, renO, belowM, seval, -Int.reduceToNat, hpl, B4, D31, B34, bunN, Int.reduceToNat, List.map_nil, List.nil_append] | exact NK_no _ | refine NK_cl _ _ ?_ | exact Cln.cl | refine clean_tup _ ?_ | refine cleans_cons _ _ ?_ ?_ | refine DR_q _ ?_ | (refine Fk.fk ?_ ?_ <;> intro hg <;> (try simp only [hg]) <;> (try simp only [bunB] at hg) <;> try (exfalso; first | omega | exact Bool.noConfusion hg | exact hg trivial)) | refine And.intro (by omega) ?_ | omega
                all_goals trace_state

            · rw [lS_x _ _ hi0 hX]
              have hx3 := hX3 hX
              have hy := takeA_no b X (by have := hx3.2.1; omega) (List.length_pos_iff.2 hX) [120] (by decide) (.inl (by decide))
              simp only [zRep, nilA] at hy
              repeat' first | (refine WL_fit [1, 2] (hy) ?_; clear hy) | refine WE_fit (p1) ?_ ?_ | simp (maxSteps := 4000000) (disch := omega) only [bunL, bunD, bun, ↓WG_true, ↓WG_false, labelOf, findLabel, ↓reduceIte, imp, shift, killO, hasId, unown, names, plainR, below, noF, isF, lendObs, lendOb, kindOk, ren, givL, updM, backO, renO, belowM, seval, -Int.reduceToNat, hpl, B4, D31, B34, bunN, Int.reduceToNat, List.map_nil, List.nil_append] | exact NK_no _ | refine NK_cl _ _ ?_ | exact Cln.cl | refine clean_tup _ ?_ | refine cleans_cons _ _ ?_ ?_ | refine DR_q _ ?_ | (refine Fk.fk ?_ ?_ <;> intro hg <;> (try simp only [hg]) <;> (try simp only [bunB] at hg) <;> try (exfalso; first | omega | exact Bool.noConfusion hg | exact hg trivial)) | refine And.intro (by omega) ?_ | omega
              refine LP_introR (fun k : Nat => ⟨[(3, .ptr 0 0), (5, Bv true), (8, .ptr 1 0), (13, .ref 4 0 M.length), (14, I64 k)], eS d M [.dead, .dead] k⟩) (fun k => k ≤ M.length) (fun k => M.length - k) 0 (by simp) (by rw [eS2_0 _ _ (.inl rfl)]; (simp (disch := omega) [wk, wkT, wkM, noF, isF, get, belowT, belowM, below, belows, I64, I32, Bv, U8, Sv, nilA] <;> try omega)) ?_
              intro k hk
              by_cases hlt : k < M.length
              · have hkl : (M.getD k []).length ≤ 600 := ml _ (by simp [List.getD, hlt])
                have hP : (prF d M M.length).getD k [] = prK d M.length k (M.getD k []) := prF_get hlt
                have hPl := pr_len (n := M.length) (k := k) (t := M.getD k []) c2 c1
                have hPd := pr_drop (n := M.length) (k := k) (t := M.getD k []) c2 c1
                have hPc := pr_cod (n := M.length) (k := k) (t := M.getD k []) c2 c1
                have hPK := pr_K (n := M.length) (k := k) c2 c1 (hsg k hlt)
                have hPM := pr_Mo (n := M.length) (k := k) (t := M.getD k []) c2 c1
                have s1 := same_spec d M d M (by omega) (by omega)
                have es : sameL d M d M = true := by unfold sameL; simp
                rw [es] at s1
                have htk : List.take M.length (M.map Sv) = M.map Sv := List.take_of_length_le (by simp)
                by_cases hke : k + 1 = M.length
                · by_cases hk0 : k = 0
                  · subst hk0
                    rw [eS2_0 _ _ (.inl rfl)]
                    have t1 := takeNd2 d M (prK d M.length 0 (M.getD 0 [])) hke.symm (by omega) hPK (by rw [hPM, decide_eq_true hke]; rfl) hPc hPd
                    repeat' first | (refine WL_fit [1] (t1) ?_; clear t1) | refine WE_fit (s1) ?_ ?_ | simp (maxSteps := 4000000) (disch := omega) only [bunL, bunD, bun, ↓WG_true, ↓WG_false, labelOf, findLabel, ↓reduceIte, imp, shift, killO, hasId, unown, names, plainR, below, noF, isF, lendObs, lendOb, kindOk, ren, givL, updM, backO, renO, belowM, seval, -Int.reduceToNat, hpl, hP, htk, B4, D31, B34, bunN, Int.reduceToNat, List.map_nil, List.nil_append] | exact NK_no _ | refine NK_cl _ _ ?_ | exact Cln.cl | refine clean_tup _ ?_ | refine cleans_cons _ _ ?_ ?_ | refine DR_q _ ?_ | (refine Fk.fk ?_ ?_ <;> intro hg <;> (try simp only [hg]) <;> (try simp only [bunB] at hg) <;> try (exfalso; first | omega | exact Bool.noConfusion hg | exact hg trivial)) | refine And.intro (by omega) ?_ | omega
                    all_goals refine ⟨0 + 1, by omega, by omega, [0, 1, 2, 3, 4], ?_⟩
                    all_goals rw [eS2_0 _ _ (.inr hke)]
                    all_goals simp only [wkr, renT, ren, renF, wkrM, renO, nodupN, rens]
                    all_goals (simp (disch := omega) [wk, wkT, wkM, noF, isF, get, belowT, belowM, below, belows, I64, I32, Bv, U8, Sv, isF, obj, List.map_nil] <;> try omega)
                    all_goals first | rfl | exact ⟨rfl, rfl⟩ | trace_state
                  · rw [eS2_1 _ _ (by omega)]
                    have t1 := takeAd2 d M (prK d M.length k (M.getD k [])) (by omega) (by omega) hke (by omega) hPK (by rw [hPM, decide_eq_true hke]; rfl) hPc hPd
                    repeat' first | (refine WL_fit [1, 5] (t1) ?_; clear t1) | refine WE_fit (s1) ?_ ?_ | simp (maxSteps := 4000000) (disch := omega) only [bunL, bunD, bun, ↓WG_true, ↓WG_false, labelOf, findLabel, ↓reduceIte, imp, shift, killO, hasId, unown, names, plainR, below, noF, isF, lendObs, lendOb, kindOk, ren, givL, updM, backO, renO, belowM, seval, -Int.reduceToNat, hpl, hP, htk, B4, D31, B34, bunN, Int.reduceToNat, List.map_nil, List.nil_append] | exact NK_no _ | refine NK_cl _ _ ?_ | exact Cln.cl | refine clean_tup _ ?_ | refine cleans_cons _ _ ?_ ?_ | refine DR_q _ ?_ | (refine Fk.fk ?_ ?_ <;> intro hg <;> (try simp only [hg]) <;> (try simp only [bunB] at hg) <;> try (exfalso; first | omega | exact Bool.noConfusion hg | exact hg trivial)) | refine And.intro (by omega) ?_ | omega
                    all_goals refine ⟨k + 1, by omega, by omega, [0, 1, 2, 3, 4], ?_⟩
                    all_goals rw [eS2_0 _ _ (.inr hke)]
                    all_goals simp only [wkr, renT, ren, renF, wkrM, renO, nodupN, rens]
                    all_goals (simp (disch := omega) [wk, wkT, wkM, noF, isF, get, belowT, belowM, below, belows, I64, I32, Bv, U8, Sv, isF, obj, List.map_nil] <;> try omega)
                    all_goals first | rfl | exact ⟨rfl, rfl⟩ | trace_state
                · by_cases hk0 : k = 0
                  · subst hk0
                    rw [eS2_0 _ _ (.inl rfl)]
                    have t1 := takeNm2 d M (prK d M.length 0 (M.getD 0 [])) hlt (by omega) hPK (by rw [hPM, decide_eq_false hke]; rfl) hPc hPd
                    repeat' first | (refine WL_fit [1] (t1) ?_; clear t1) | simp (maxSteps := 4000000) (disch := omega) only [bunL, bunD, bun, ↓WG_true, ↓WG_false, labelOf, findLabel, ↓reduceIte, imp, shift, killO, hasId, unown, names, plainR, below, noF, isF, lendObs, lendOb, kindOk, ren, givL, updM, backO, renO, belowM, seval, -Int.reduceToNat, hpl, hP, B4, D31, B34, bunN, Int.reduceToNat, List.map_nil, List.nil_append] | exact NK_no _ | refine NK_cl _ _ ?_ | exact Cln.cl | refine clean_tup _ ?_ | refine cleans_cons _ _ ?_ ?_ | refine DR_q _ ?_ | (refine Fk.fk ?_ ?_ <;> intro hg <;> (try simp only [hg]) <;> (try simp only [bunB] at hg) <;> try (exfalso; first | omega | exact Bool.noConfusion hg | exact hg trivial)) | refine And.intro (by omega) ?_ | omega
                    all_goals refine ⟨0 + 1, by omega, by omega, [0, 1, 2, 3, 4, 9], ?_⟩
                    all_goals rw [eS2_1 _ _ (by omega)]
                    all_goals simp only [wkr, renT, ren, renF, wkrM, renO, nodupN, rens]
                    all_goals (simp (disch := omega) [wk, wkT, wkM, noF, isF, get, belowT, belowM, below, belows, I64, I32, Bv, U8, Sv, isF, obj, List.map_nil] <;> try omega)
                    all_goals first | rfl | exact ⟨rfl, rfl⟩ | trace_state
                  · rw [eS2_1 _ _ (by omega)]
                    have t1 := takeAm2 d M k (prK d M.length k (M.getD k [])) (by omega) hlt (by omega) (by omega) hPK (by rw [hPM, decide_eq_false hke]; rfl) hPc hPd
                    repeat' first | (refine WL_fit [1, 5] (t1) ?_; clear t1) | simp (maxSteps := 4000000) (disch := omega) only [bunL, bunD, bun, ↓WG_true, ↓WG_false, labelOf, findLabel, ↓reduceIte, imp, shift, killO, hasId, unown, names, plainR, below, noF, isF, lendObs, lendOb, kindOk, ren, givL, updM, backO, renO, belowM, seval, -Int.reduceToNat, hpl, hP, B4, D31, B34, bunN, Int.reduceToNat, List.map_nil, List.nil_append] | exact NK_no _ | refine NK_cl _ _ ?_ | exact Cln.cl | refine clean_tup _ ?_ | refine cleans_cons _ _ ?_ ?_ | refine DR_q _ ?_ | (refine Fk.fk ?_ ?_ <;> intro hg <;> (try simp only [hg]) <;> (try simp only [bunB] at hg) <;> try (exfalso; first | omega | exact Bool.noConfusion hg | exact hg trivial)) | refine And.intro (by omega) ?_ | omega
                    all_goals refine ⟨k + 1, by omega, by omega, [0, 1, 2, 3, 4, 5], ?_⟩
                    all_goals rw [eS2_1 _ _ (by omega)]
                    all_goals simp only [wkr, renT, ren, renF, wkrM, renO, nodupN, rens]
                    all_goals (simp (disch := omega) [wk, wkT, wkM, noF, isF, get, belowT, belowM, below, belows, I64, I32, Bv, U8, Sv, isF, obj, List.map_nil] <;> try omega)
                    all_goals first | rfl | exact ⟨rfl, rfl⟩ | trace_state
              · have e : k = M.length := by omega
                rw [eS2_0 _ _ (.inr e), e]
                have o2 := openN_spec 0
                repeat' first | refine WE_fit (o2) ?_ ?_ | simp (maxSteps := 4000000) (disch := omega) only [bunL, bunD, bun, ↓WG_true, ↓WG_false, labelOf, findLabel, ↓reduceIte, imp, shift, killO, hasId, unown, names, plainR, below, noF, isF, lendObs, lendOb, kindOk, ren, givL, updM, backO, renO, belowM, seval, -Int.reduceToNat, hpl, B4, D31, B34, bunN, Int.reduceToNat, List.map_nil, List.nil_append] | exact NK_no _ | refine NK_cl _ _ ?_ | exact Cln.cl | refine clean_tup _ ?_ | refine cleans_cons _ _ ?_ ?_ | refine DR_q _ ?_ | (refine Fk.fk ?_ ?_ <;> intro hg <;> (try simp only [hg]) <;> (try simp only [bunB] at hg) <;> try (exfalso; first | omega | exact Bool.noConfusion hg | exact hg trivial)) | refine And.intro (by omega) ?_ | omega
                all_goals trace_state

end Go.AE
end
