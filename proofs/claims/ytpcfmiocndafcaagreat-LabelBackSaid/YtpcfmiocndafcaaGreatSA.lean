/- Contracts of functions that the laws of this seat reach, and plain laws of what they compute. No condition beyond each statement's own. -/
import Derived.Test.YtpcfmiocndafcaaGreatK1
import Derived.Test.YtpcfmiocndafcaaGreatV1
import Derived.Test.YtpcfmiocndafcaaGreatU1
set_option linter.unusedVariables false
set_option linter.unusedSimpArgs false
section
namespace Go.AE
open Go.Proofs
set_option maxRecDepth 20000
set_option maxHeartbeats 4000000
set_option linter.unusedSimpArgs false
def okR (r : Int) : Prop := -2147483648 ≤ r ∧ r ≤ 2147483647
theorem zsq (r : Int) : cls r ≤ 300 := by
  by_cases h : cls r = 0
  · omega
  · have := List.all_eq_true.1 (show (zsp.all fun r => decide (cls r ≤ 300)) = true by decide +kernel) r (zk1 h)
    simpa using this
def z0q : List AV := tabC (sM 42) (pM 42)
theorem z0l : (AV.ag z0q) = tab := rfl
theorem z0w : z0q.length = 5 := rfl
theorem z0t (ρ : Nat → Nat) : rens ρ z0q = z0q := rfl
theorem z2s : z0q.all oneC = true := rfl
theorem z26 : z0q.take 5 = z0q := rfl
theorem z0i (n : Nat) : belows n z0q = true := rfl
theorem z3s (a b : Int) (ha : okR a) (hb : okR b) : Spec Tryz.prog 100 [I32 a, I32 b, .cp z0q] (I64 (cls a - cls b)) := by
  refine z0g (z := false) (ts := [.tmp 5]) ok1 Tryz.func100 rfl rfl (by decide +kernel) (by simp [Tryz.ntmps100]) rfl ?_
  have h1 := z6q a
  have h2 := z6q b
  have h3 := zsq a
  have h4 := zsq b
  repeat' first | refine z06 (z4q a ha.1 ha.2) ?_ ?_ | refine z06 (z4q b hb.1 hb.2) ?_ ?_ | simp (maxSteps := 4000000) (disch := omega) only [bunL, bunD, bun, ↓z04, ↓z01, z02, findLabel, ↓reduceIte, imp, shift, z0b, z0a, unown, names, z07, below, noF, isF, z03, z09, z08, ren, givL, updM, z0c, renO, belowM, seval, -Int.reduceToNat, z0q, tabC, tab, D29, bunN, Int.toNat_zero] | exact z0f _ | refine z0e _ _ ?_ | exact Cln.cl | refine z05 _ ?_ | refine z00 _ _ ?_ ?_ | refine DR_q _ ?_ | (refine Fk.fk ?_ ?_ <;> intro hg <;> (try simp only [hg]) <;> (try simp only [bunB] at hg) <;> try (exfalso; first | omega | exact Bool.noConfusion hg | exact hg trivial)) | refine And.intro (by omega) ?_ | omega
theorem zva (l : List Int) (hl : l.length ≤ 1000000) : Spec Tryz.prog 98 [.sl l.length (l.map I32)] (.own 21 1 l.length (l.map I32)) := by
  by_cases h0 : 0 < l.length
  · refine z0g (z := false) (ts := [.tmp 2]) ok1 Tryz.func98 rfl rfl (by decide +kernel) (by simp [Tryz.ntmps98]) rfl ?_
    repeat' first | simp (maxSteps := 4000000) (disch := omega) only [bunL, bunD, bun, ↓z04, ↓z01, z02, findLabel, ↓reduceIte, imp, shift, z0b, z0a, unown, names, z07, below, noF, isF, z03, z09, z08, ren, givL, updM, z0c, renO, belowM, seval, -Int.reduceToNat, B4, B21, B41, bunN, Int.toNat_zero] | refine DR_q _ ?_ | (refine Fk.fk ?_ ?_ <;> intro hg <;> (try simp only [hg]) <;> (try simp only [bunB] at hg) <;> try (exfalso; first | omega | exact Bool.noConfusion hg | exact hg trivial)) | refine And.intro (by omega) ?_ | omega
  · have e : l = [] := List.length_eq_zero_iff.1 (by omega)
    subst e
    have c0 : Spec Tryz.prog 98 [.v (.slice none 0 0)] (.own 21 1 0 []) := by
      refine z0g (z := false) (ts := [.tmp 2]) ok1 Tryz.func98 rfl rfl (by decide +kernel) (by simp [Tryz.ntmps98]) rfl ?_
      repeat' first | simp (maxSteps := 4000000) (disch := omega) only [bunL, bunD, bun, ↓z04, ↓z01, z02, findLabel, ↓reduceIte, imp, shift, z0b, z0a, unown, names, z07, below, noF, isF, z03, z09, z08, ren, givL, updM, z0c, renO, belowM, seval, -Int.reduceToNat, B4, B21, B41, bunN, Int.toNat_zero] | refine DR_q _ ?_ | (refine Fk.fk ?_ ?_ <;> intro hg <;> (try simp only [hg]) <;> (try simp only [bunB] at hg) <;> try (exfalso; first | omega | exact Bool.noConfusion hg | exact hg trivial)) | refine And.intro (by omega) ?_ | omega
    have c1 : ∀ b o c, Spec Tryz.prog 98 [.v (.slice (some ⟨b, o, none⟩) 0 c)] (.own 21 1 0 []) := by
      intro b o c
      refine z0g (z := false) (ts := [.tmp 2]) ok1 Tryz.func98 rfl rfl (by decide +kernel) (by simp [Tryz.ntmps98]) rfl ?_
      repeat' first | simp (maxSteps := 4000000) (disch := omega) only [bunL, bunD, bun, ↓z04, ↓z01, z02, findLabel, ↓reduceIte, imp, shift, z0b, z0a, unown, names, z07, below, noF, isF, z03, z09, z08, ren, givL, updM, z0c, renO, belowM, seval, -Int.reduceToNat, B4, B21, B41, bunN, Int.toNat_zero] | refine DR_q _ ?_ | (refine Fk.fk ?_ ?_ <;> intro hg <;> (try simp only [hg]) <;> (try simp only [bunB] at hg) <;> try (exfalso; first | omega | exact Bool.noConfusion hg | exact hg trivial)) | refine And.intro (by omega) ?_ | omega
    refine ⟨c0.1, fun w F vs hw hr => ?_⟩
    cases hr with
    | cons h0 hr =>
      cases hr
      rcases h0.sl_inv with ⟨h1, _⟩ | ⟨a, cap, us, h1, _, _, h4, _⟩
      · rw [h1]
        exact c0.2 w F _ hw (.cons (.v _) .nil)
      · rw [h1]
        obtain ⟨b, o, sp⟩ := a
        have h5 : sp = none := h4.1
        subst h5
        exact (c1 b o cap).2 w F _ hw (.cons (.v _) .nil)
theorem z48 : ∀ (L : List Int) (k : Nat) (x : Int), zb8 (L.map I32) k (.v (.int .i32 x)) = (L.set k x).map I32
  | [], _, _ => rfl
  | a :: L, 0, x => rfl
  | a :: L, k + 1, x => by
    have := z48 L k x
    simp only [List.map_cons, zb8, List.set_cons_succ, this]
theorem z6m (L : List Int) (off len a b n : Nat) (h1 : a + n ≤ len) (h2 : b + n ≤ len) (h3 : off + len ≤ L.length) (hd : a + n ≤ b) (hL : L.length ≤ 1000000) : z5j Tryz.prog 137 [.row true 1 z0q, .row false 1 (L.map I32)] [.ref 1 off len, I64 a, I64 b, I64 n, .fn 100 [] [.ptr 0 0]] [.row true 1 z0q, .row false 1 ((swR L (off + a) (off + b) n).map I32), .fence] (.tup []) := by
  refine z3p (ts := []) ok1 Tryz.func137 rfl rfl (by decide +kernel) (by simp [Tryz.ntmps137]) rfl ?_
  have hbt : belows 3 z0q = true := rfl
  repeat' first | simp (maxSteps := 4000000) (disch := omega) only [bunL, bunD, bun, ↓z04, ↓z01, z02, findLabel, ↓reduceIte, imp, shift, z0b, z0a, unown, names, z07, below, noF, isF, z03, z09, z08, ren, givL, updM, z0c, renO, belowM, seval, -Int.reduceToNat, B3, B4, B21, B41, B126, bunN, Int.toNat_zero] | refine DR_q _ ?_ | (refine Fk.fk ?_ ?_ <;> intro hg <;> (try simp only [hg]) <;> (try simp only [bunB] at hg) <;> try (exfalso; first | omega | exact Bool.noConfusion hg | exact hg trivial)) | refine And.intro (by omega) ?_ | omega
  refine z0m (fun i : Nat => ⟨[(0, .ref 1 off len), (1, I64 a), (2, I64 b), (3, I64 n), (10, I64 i)], [.row true 1 z0q, .row false 1 ((swR L (off + a) (off + b) i).map I32), .fence]⟩) (fun i => i ≤ n) (fun i => n - i) 0 (by simp) (by (simp (disch := omega) [wk, wkT, wkM, noF, isF, get, z0h, belowM, below, belows, I64, I32, Bv, U8, Sv, swR, hbt] <;> try omega)) ?_
  intro i hi
  have hsl := zwu L (off + a) (off + b) i
  by_cases hlt : i < n
  · have e1 : ((a : Int) + (i : Int)).toNat = a + i := by omega
    have e2 : ((b : Int) + (i : Int)).toNat = b + i := by omega
    repeat' first | simp (maxSteps := 4000000) (disch := omega) only [bunL, bunD, bun, ↓z04, ↓z01, z02, findLabel, ↓reduceIte, imp, shift, z0b, z0a, unown, names, z07, below, noF, isF, z03, z09, z08, ren, givL, updM, z0c, renO, belowM, seval, -Int.reduceToNat, hsl, z48, e1, e2, List.length_set, B3, B4, B21, B41, B126, bunN, Int.toNat_zero] | refine DR_q _ ?_ | (refine Fk.fk ?_ ?_ <;> intro hg <;> (try simp only [hg]) <;> (try simp only [bunB] at hg) <;> try (exfalso; first | omega | exact Bool.noConfusion hg | exact hg trivial)) | refine And.intro (by omega) ?_ | omega
    refine ⟨i + 1, by omega, by omega, ?_⟩
    rw [swR, ← Nat.add_assoc, ← Nat.add_assoc]
    (simp (disch := omega) [wk, wkT, wkM, noF, isF, get, z0h, belowM, below, belows, I64, I32, Bv, U8, Sv, hbt] <;> try omega)
  · have e : i = n := by omega
    subst e
    repeat' first | simp (maxSteps := 4000000) (disch := omega) only [bunL, bunD, bun, ↓z04, ↓z01, z02, findLabel, ↓reduceIte, imp, shift, z0b, z0a, unown, names, z07, below, noF, isF, z03, z09, z08, ren, givL, updM, z0c, renO, belowM, seval, -Int.reduceToNat, B3, B4, B21, B41, B126, bunN, Int.toNat_zero] | refine DR_q _ ?_ | (refine Fk.fk ?_ ?_ <;> intro hg <;> (try simp only [hg]) <;> (try simp only [bunB] at hg) <;> try (exfalso; first | omega | exact Bool.noConfusion hg | exact hg trivial)) | refine And.intro (by omega) ?_ | omega
end Go.AE
end
section
namespace Go.AE
open Go.Proofs
set_option maxRecDepth 20000
set_option maxHeartbeats 4000000
set_option linter.unusedSimpArgs false
theorem zq1 (A X Y B : List Int) (off len a m b : Nat) (hX : 0 < X.length) (hY : 0 < Y.length) (ha : off + a = A.length) (hm : m = a + X.length) (hb : b = m + Y.length) (hl : b ≤ len) (ho : off + len ≤ (A ++ X ++ Y ++ B).length) (hL : (A ++ X ++ Y ++ B).length ≤ 1000000) :
    z5j Tryz.prog 135 [.row true 1 z0q, .row false 1 ((A ++ X ++ Y ++ B).map I32)] [.ref 1 off len, I64 a, I64 m, I64 b, .fn 100 [] [.ptr 0 0]] [.row true 1 z0q, .row false 1 ((A ++ Y ++ X ++ B).map I32), .fence] (.tup []) := by
  refine z3p (ts := []) ok1 Tryz.func135 rfl rfl (by decide +kernel) (by simp [Tryz.ntmps135]) rfl ?_
  repeat' first | simp (maxSteps := 4000000) (disch := omega) only [bunL, bunD, bun, ↓z04, ↓z01, z02, findLabel, ↓reduceIte, imp, shift, z0b, z0a, unown, names, z07, below, noF, isF, z03, z09, z08, ren, givL, updM, z0c, renO, belowM, seval, -Int.reduceToNat, B3, B4, B21, B41, B126, bunN, z0t, z0i] | refine DR_q _ ?_ | (refine Fk.fk ?_ ?_ <;> intro hg <;> (try simp only [hg]) <;> (try simp only [bunB] at hg) <;> try (exfalso; first | omega | exact Bool.noConfusion hg | exact hg trivial)) | refine And.intro (by omega) ?_ | omega
  refine z0m (fun x : List Int × List Int × List Int × List Int => ⟨[(0, .ref 1 off len), (2, I64 m), (4, .fn 100 [] [.ptr 0 0]), (10, I64 x.2.1.length), (11, I64 x.2.2.1.length)], [.row true 1 z0q, .row false 1 ((x.1 ++ x.2.1 ++ x.2.2.1 ++ x.2.2.2).map I32), .fence]⟩)
    (fun x => 0 < x.2.1.length ∧ 0 < x.2.2.1.length ∧ off + m = x.1.length + x.2.1.length ∧ (x.1 ++ x.2.1 ++ x.2.2.1 ++ x.2.2.2).length = (A ++ X ++ Y ++ B).length ∧ x.1 ++ x.2.2.1 ++ x.2.1 ++ x.2.2.2 = A ++ Y ++ X ++ B ∧ off + a ≤ x.1.length ∧ x.1.length + x.2.1.length + x.2.2.1.length ≤ off + b) (fun x => x.2.1.length + x.2.2.1.length) (A, X, Y, B) ⟨hX, hY, by dsimp only; omega, rfl, rfl, by dsimp only; omega, by dsimp only; omega⟩ ?_ ?_
  · have e1 : (m : Int) - a = X.length := by omega
    have e2 : (b : Int) - m = Y.length := by omega
    (simp (disch := omega) [wk, wkT, wkM, noF, isF, get, z0h, belowM, below, belows, I64, I32, Bv, U8, Sv, z0i, e1, e2] <;> try omega)
  · rintro ⟨P, X', Y', Q⟩ ⟨q1, q2, q3, q4, q5, q6, q7⟩
    dsimp only at q1 q2 q3 q4 q5 q6 q7
    have hlen : (P ++ X' ++ Y' ++ Q).length = P.length + X'.length + Y'.length + Q.length := by simp; omega
    have hlen2 : (A ++ X ++ Y ++ B).length = A.length + X.length + Y.length + B.length := by simp; omega
    have c1 : (m : Int) - X'.length = ((m - X'.length : Nat) : Int) := by omega
    by_cases hij : X'.length = Y'.length
    · have hs : swR (P ++ X' ++ Y' ++ Q) (off + (m - X'.length)) (off + m) X'.length = P ++ Y' ++ X' ++ Q := by
        have := zl1 X'.length P X' [] Y' Q rfl hij.symm
        simp only [List.append_nil, List.length_nil, Nat.add_zero] at this
        rw [show off + (m - X'.length) = P.length by omega, show off + m = P.length + X'.length by omega]
        exact this
      repeat' first | refine z17 [0, 1] (z6m (P ++ X' ++ Y' ++ Q) off len (m - X'.length) m X'.length (by omega) (by omega) (by omega) (by omega) (by omega)) ?_ | simp (maxSteps := 4000000) (disch := omega) only [bunL, bunD, bun, ↓z04, ↓z01, z02, findLabel, ↓reduceIte, imp, shift, z0b, z0a, unown, names, z07, below, noF, isF, z03, z09, z08, ren, givL, updM, z0c, renO, belowM, seval, -Int.reduceToNat, c1, hs, B3, B4, B21, B41, B126, bunN, z0t, z0i] | exact z0f _ | refine z0e _ _ ?_ | exact Cln.cl | refine z05 _ ?_ | refine z00 _ _ ?_ ?_ | refine DR_q _ ?_ | (refine Fk.fk ?_ ?_ <;> intro hg <;> (try simp only [hg]) <;> (try simp only [bunB] at hg) <;> try (exfalso; first | omega | exact Bool.noConfusion hg | exact hg trivial)) | refine And.intro (by omega) ?_ | omega
      rw [q5]
    · by_cases hgt : Y'.length < X'.length
      · have hX' : X' = X'.take Y'.length ++ X'.drop Y'.length := (List.take_append_drop _ _).symm
        have l1 : (X'.take Y'.length).length = Y'.length := by simp; omega
        have l2 : (X'.drop Y'.length).length = X'.length - Y'.length := by simp
        have hs : swR (P ++ X' ++ Y' ++ Q) (off + (m - X'.length)) (off + m) Y'.length = P ++ Y' ++ X'.drop Y'.length ++ X'.take Y'.length ++ Q := by
          have := zl1 Y'.length P (X'.take Y'.length) (X'.drop Y'.length) Y' Q l1 rfl
          rw [List.append_assoc P, List.take_append_drop] at this
          rw [show off + (m - X'.length) = P.length by omega, show off + m = P.length + Y'.length + (X'.drop Y'.length).length by omega]
          exact this
        have c2 : (X'.length : Int) - Y'.length = ((X'.drop Y'.length).length : Int) := by omega
        repeat' first | refine z17 [0, 1] (z6m (P ++ X' ++ Y' ++ Q) off len (m - X'.length) m Y'.length (by omega) (by omega) (by omega) (by omega) (by omega)) ?_ | simp (maxSteps := 4000000) (disch := omega) only [bunL, bunD, bun, ↓z04, ↓z01, z02, findLabel, ↓reduceIte, imp, shift, z0b, z0a, unown, names, z07, below, noF, isF, z03, z09, z08, ren, givL, updM, z0c, renO, belowM, seval, -Int.reduceToNat, c1, hs, c2, B3, B4, B21, B41, B126, bunN, z0t, z0i] | exact z0f _ | refine z0e _ _ ?_ | exact Cln.cl | refine z05 _ ?_ | refine z00 _ _ ?_ ?_ | refine DR_q _ ?_ | (refine Fk.fk ?_ ?_ <;> intro hg <;> (try simp only [hg]) <;> (try simp only [bunB] at hg) <;> try (exfalso; first | omega | exact Bool.noConfusion hg | exact hg trivial)) | refine And.intro (by omega) ?_ | omega
        refine ⟨(P ++ Y', X'.drop Y'.length, X'.take Y'.length, Q), ⟨?_, ?_, ?_, ?_, ?_, ?_, ?_⟩, ?_, ?_⟩
        · rw [l2]; omega
        · rw [l1]; omega
        · rw [List.length_append, l2]; omega
        · simp only [List.length_append, l1, l2]; omega
        · rw [← q5]
          conv => rhs; rw [hX']
          simp only [List.append_assoc]
        · rw [List.length_append]; omega
        · rw [List.length_append, l1, l2]; omega
        · dsimp only; rw [l1, l2]; omega
        · (simp (disch := omega) [wk, wkT, wkM, noF, isF, get, z0h, belowM, below, belows, I64, I32, Bv, U8, Sv, z0i] <;> try omega)
      · have hY' : Y' = Y'.take (Y'.length - X'.length) ++ Y'.drop (Y'.length - X'.length) := (List.take_append_drop _ _).symm
        have l1 : (Y'.take (Y'.length - X'.length)).length = Y'.length - X'.length := by simp
        have l2 : (Y'.drop (Y'.length - X'.length)).length = X'.length := by simp; omega
        have hs : swR (P ++ X' ++ Y' ++ Q) (off + (m - X'.length)) (off + (m + Y'.length - X'.length)) X'.length = P ++ Y'.drop (Y'.length - X'.length) ++ Y'.take (Y'.length - X'.length) ++ X' ++ Q := by
          have := zl1 X'.length P X' (Y'.take (Y'.length - X'.length)) (Y'.drop (Y'.length - X'.length)) Q rfl l2
          rw [List.append_assoc (P ++ X'), List.take_append_drop] at this
          rw [show off + (m - X'.length) = P.length by omega, show off + (m + Y'.length - X'.length) = P.length + X'.length + (Y'.take (Y'.length - X'.length)).length by omega]
          exact this
        have c2 : (Y'.length : Int) - X'.length = ((Y'.take (Y'.length - X'.length)).length : Int) := by omega
        have c3 : (m : Int) + Y'.length - X'.length = ((m + Y'.length - X'.length : Nat) : Int) := by omega
        repeat' first | refine z17 [0, 1] (z6m (P ++ X' ++ Y' ++ Q) off len (m - X'.length) (m + Y'.length - X'.length) X'.length (by omega) (by omega) (by omega) (by omega) (by omega)) ?_ | simp (maxSteps := 4000000) (disch := omega) only [bunL, bunD, bun, ↓z04, ↓z01, z02, findLabel, ↓reduceIte, imp, shift, z0b, z0a, unown, names, z07, below, noF, isF, z03, z09, z08, ren, givL, updM, z0c, renO, belowM, seval, -Int.reduceToNat, c1, hs, c2, c3, B3, B4, B21, B41, B126, bunN, z0t, z0i] | exact z0f _ | refine z0e _ _ ?_ | exact Cln.cl | refine z05 _ ?_ | refine z00 _ _ ?_ ?_ | refine DR_q _ ?_ | (refine Fk.fk ?_ ?_ <;> intro hg <;> (try simp only [hg]) <;> (try simp only [bunB] at hg) <;> try (exfalso; first | omega | exact Bool.noConfusion hg | exact hg trivial)) | refine And.intro (by omega) ?_ | omega
        refine ⟨(P, Y'.drop (Y'.length - X'.length), Y'.take (Y'.length - X'.length), X' ++ Q), ⟨?_, ?_, ?_, ?_, ?_, ?_, ?_⟩, ?_, ?_⟩
        · rw [l2]; omega
        · rw [l1]; omega
        · rw [l2]; omega
        · simp only [List.length_append, l1, l2]; omega
        · rw [← q5]
          conv => rhs; rw [hY']
          simp only [List.append_assoc]
        · exact q6
        · dsimp only; rw [l1, l2]; omega
        · dsimp only; rw [l1, l2]; omega
        · (simp (disch := omega) [wk, wkT, wkM, noF, isF, get, z0h, belowM, below, belows, I64, I32, Bv, U8, Sv, z0i, l2] <;> try omega)
end Go.AE
end
section
namespace Go.AE
open Go.Proofs
set_option maxRecDepth 20000
set_option maxHeartbeats 4000000
set_option linter.unusedSimpArgs false
theorem zuq {P Q : List Int} {u v : Int} {k : Nat} (h : k = P.length) : ((P ++ u :: v :: Q).set (k + 1) u).set k v = P ++ v :: u :: Q := by
  subst h; simp
theorem zbc {T : List Int} {j : Nat} (h0 : 0 < j) (h : j ≤ T.length) : T.take j = T.take (j - 1) ++ [T.getD (j - 1) 0] ∧ T.drop (j - 1) = T.getD (j - 1) 0 :: T.drop j := by
  obtain ⟨j, rfl⟩ : ∃ k, j = k + 1 := ⟨j - 1, by omega⟩
  simp only [Nat.add_sub_cancel]
  exact ⟨z1p T j 0 (by omega), by rw [List.drop_eq_getElem_cons (by omega)]; simp [List.getD, show j < T.length by omega]⟩
theorem zi0 {T : List Int} {x : Int} {j : Nat} (hT : Up cls T) (hj : j ≤ T.length) (h1 : ∀ w ∈ T.drop j, cls x < cls w) (h2 : 0 < j → cls (T.getD (j - 1) 0) ≤ cls x) : T.take j ++ x :: T.drop j = ssort cls (T ++ [x]) := by
  have := znx (f := cls) (x := x) (A := T.take j) (B := T.drop j) (by rw [List.take_append_drop]; exact hT) (fun w hw => ?_) h1
  · rw [List.take_append_drop] at this; exact this
  · by_cases h0 : 0 < j
    · obtain ⟨e1, _⟩ := zbc h0 hj
      have hT' : Up cls (T.take j) := by
        rw [← List.take_append_drop j T] at hT
        exact (Up.append.1 hT).1
      rw [e1] at hT' hw
      rcases List.mem_append.1 hw with hw | hw
      · have := up_last hT' w hw
        have := h2 h0; omega
      · simp at hw; subst hw; exact h2 h0
    · have : j = 0 := by omega
      subst this
      simp at hw
theorem z9e (A S B : List Int) (off len a b : Nat) (ha : off + a = A.length) (hb : b = a + S.length) (hl : b ≤ len) (ho : off + len ≤ (A ++ S ++ B).length) (hL : (A ++ S ++ B).length ≤ 1000000) (hr : ∀ r ∈ S, okR r) :
    z5j Tryz.prog 127 [.row true 1 z0q, .row false 1 ((A ++ S ++ B).map I32)] [.ref 1 off len, I64 a, I64 b, .fn 100 [] [.ptr 0 0]] [.row true 1 z0q, .row false 1 ((A ++ ssort cls S ++ B).map I32), .fence] (.tup []) := by
  refine z3p (ts := []) ok1 Tryz.func127 rfl rfl (by decide +kernel) (by simp [Tryz.ntmps127]) rfl ?_
  have hlen : (A ++ S ++ B).length = A.length + S.length + B.length := by simp; omega
  repeat' first | simp (maxSteps := 4000000) (disch := omega) only [bunL, bunD, bun, ↓z04, ↓z01, z02, findLabel, ↓reduceIte, imp, shift, z0b, z0a, unown, names, z07, below, noF, isF, z03, z09, z08, ren, givL, updM, z0c, renO, belowM, seval, -Int.reduceToNat, B3, B4, B21, B41, B126, bunN, z0t, z0i] | refine DR_q _ ?_ | (refine Fk.fk ?_ ?_ <;> intro hg <;> (try simp only [hg]) <;> (try simp only [bunB] at hg) <;> try (exfalso; first | omega | exact Bool.noConfusion hg | exact hg trivial)) | refine And.intro (by omega) ?_ | omega
  refine z0m (fun i : Nat => ⟨[(0, .ref 1 off len), (1, I64 a), (2, I64 b), (3, .fn 100 [] [.ptr 0 0]), (8, I64 (a + i))], [.row true 1 z0q, .row false 1 ((A ++ ssort cls (S.take i) ++ S.drop i ++ B).map I32), .fence]⟩)
    (fun i => 1 ≤ i ∧ (i ≤ S.length ∨ i = 1)) (fun i => S.length + 1 - i) 1 ⟨Nat.le_refl _, .inr rfl⟩ ?_ ?_
  · have e : A ++ ssort cls (S.take 1) ++ S.drop 1 ++ B = A ++ S ++ B := by
      have : ssort cls (S.take 1) = S.take 1 := zba (by cases S <;> simp [Up])
      rw [this, List.append_assoc A, List.take_append_drop]
    rw [e]
    (simp (disch := omega) [wk, wkT, wkM, noF, isF, get, z0h, belowM, below, belows, I64, I32, Bv, U8, Sv, z0i] <;> try omega)
  · rintro i ⟨hi1, hi2⟩
    by_cases hlt : i < S.length
    · obtain ⟨hTu, hTk⟩ := z2c cls (S.take i)
      have hTl := z20 cls (S.take i)
      rw [List.length_take, Nat.min_eq_left (by omega)] at hTl
      have hsx : S.drop i = S.getD i 0 :: S.drop (i + 1) := by rw [List.drop_eq_getElem_cons hlt]; simp [List.getD, hlt]
      have hst := z1p S i 0 hlt
      have hrx : okR (S.getD i 0) := hr _ (by simp [List.getD, hlt])
      have hrT : ∀ w ∈ ssort cls (S.take i), okR w := fun w hw => hr w (List.mem_of_mem_take (hTk.mem.1 hw))
      have hfin : ssort cls (S.take (i + 1)) = ssort cls (ssort cls (S.take i) ++ [S.getD i 0]) := by rw [hst]; exact za3 ((hTk.app (Kin.refl _ _)).symm)
      have hdl : (S.drop (i + 1)).length = S.length - (i + 1) := List.length_drop
      rw [hsx]
      generalize S.getD i 0 = x at *
      generalize ssort cls (S.take i) = T at *
      generalize hD : S.drop (i + 1) = D at *
      repeat' first | simp (maxSteps := 4000000) (disch := omega) only [bunL, bunD, bun, ↓z04, ↓z01, z02, findLabel, ↓reduceIte, imp, shift, z0b, z0a, unown, names, z07, below, noF, isF, z03, z09, z08, ren, givL, updM, z0c, renO, belowM, seval, -Int.reduceToNat, B3, B4, B21, B41, B126, bunN, z0t, z0i] | refine DR_q _ ?_ | (refine Fk.fk ?_ ?_ <;> intro hg <;> (try simp only [hg]) <;> (try simp only [bunB] at hg) <;> try (exfalso; first | omega | exact Bool.noConfusion hg | exact hg trivial)) | refine And.intro (by omega) ?_ | omega
      refine z0m (fun j : Nat => ⟨[(0, .ref 1 off len), (1, I64 a), (2, I64 b), (3, .fn 100 [] [.ptr 0 0]), (8, I64 (a + i)), (9, I64 (a + j))], [.row true 1 z0q, .row false 1 ((A ++ T.take j ++ x :: T.drop j ++ D ++ B).map I32), .fence]⟩)
        (fun j => j ≤ T.length ∧ ∀ w ∈ T.drop j, cls x < cls w) (fun j => j) i ⟨by omega, by rw [List.drop_of_length_le (by omega)]; simp⟩ ?_ ?_
      · rw [List.take_of_length_le (by omega), List.drop_of_length_le (by omega)]
        (simp (disch := omega) [wk, wkT, wkM, noF, isF, get, z0h, belowM, below, belows, I64, I32, Bv, U8, Sv, z0i] <;> try omega)
      · rintro j ⟨hj, hw⟩
        have hlj : (A ++ T.take j ++ x :: T.drop j ++ D ++ B).length = A.length + S.length + B.length := by simp; omega
        have hx : (A ++ T.take j ++ x :: T.drop j ++ D ++ B).getD (off + (a + j)) 0 = x := by
          rw [List.append_assoc _ _ D, List.append_assoc _ _ B, List.cons_append, List.cons_append]
          exact z4y (by simp; omega)
        have e1 : ((a : Int) + (j : Int)).toNat = a + j := by omega
        by_cases h0 : 0 < j
        · obtain ⟨t1, t2⟩ := zbc h0 hj
          have e2 : ((a : Int) + (j : Int) - 1).toNat = a + (j - 1) := by omega
          have hru : okR (T.getD (j - 1) 0) := hrT _ (by simp [List.getD, show j - 1 < T.length by omega])
          have hu : (A ++ T.take j ++ x :: T.drop j ++ D ++ B).getD (off + (a + (j - 1))) 0 = T.getD (j - 1) 0 := by
            rw [t1]
            have : A ++ (T.take (j - 1) ++ [T.getD (j - 1) 0]) ++ x :: T.drop j ++ D ++ B = (A ++ T.take (j - 1)) ++ T.getD (j - 1) 0 :: (x :: T.drop j ++ D ++ B) := by simp
            rw [this]
            exact z4y (by simp; omega)
          have hsw : ((A ++ T.take j ++ x :: T.drop j ++ D ++ B).set (off + (a + j)) (T.getD (j - 1) 0)).set (off + (a + (j - 1))) x = A ++ T.take (j - 1) ++ x :: T.drop (j - 1) ++ D ++ B := by
            rw [t1, t2]
            have : A ++ (T.take (j - 1) ++ [T.getD (j - 1) 0]) ++ x :: T.drop j ++ D ++ B = (A ++ T.take (j - 1)) ++ T.getD (j - 1) 0 :: x :: (T.drop j ++ D ++ B) := by simp
            rw [this, show off + (a + j) = off + (a + (j - 1)) + 1 by omega, zuq (by simp; omega)]
            simp
          generalize hue : T.getD (j - 1) 0 = u at *
          by_cases hc : cls x < cls u
          · repeat' first | refine z06 (z3s x u hrx hru) ?_ ?_ | simp (maxSteps := 4000000) (disch := omega) only [bunL, bunD, bun, ↓z04, ↓z01, z02, findLabel, ↓reduceIte, imp, shift, z0b, z0a, unown, names, z07, below, noF, isF, z03, z09, z08, ren, givL, updM, z0c, renO, belowM, seval, -Int.reduceToNat, e1, e2, hx, hu, hlj, z48, List.length_set, hsw, B3, B4, B21, B41, B126, bunN, z0t, z0i] | exact z0f _ | refine z0e _ _ ?_ | exact Cln.cl | refine z05 _ ?_ | refine z00 _ _ ?_ ?_ | refine DR_q _ ?_ | (refine Fk.fk ?_ ?_ <;> intro hg <;> (try simp only [hg]) <;> (try simp only [bunB] at hg) <;> try (exfalso; first | omega | exact Bool.noConfusion hg | exact hg trivial)) | refine And.intro (by omega) ?_ | omega
            refine ⟨j - 1, ⟨by omega, fun w hw' => ?_⟩, by omega, ?_⟩
            · rw [t2] at hw'
              rcases List.mem_cons.1 hw' with rfl | hw'
              · exact hc
              · exact hw w hw'
            · (simp (disch := omega) [wk, wkT, wkM, noF, isF, get, z0h, belowM, below, belows, I64, I32, Bv, U8, Sv, z0i] <;> try omega)
          · repeat' first | refine z06 (z3s x u hrx hru) ?_ ?_ | simp (maxSteps := 4000000) (disch := omega) only [bunL, bunD, bun, ↓z04, ↓z01, z02, findLabel, ↓reduceIte, imp, shift, z0b, z0a, unown, names, z07, below, noF, isF, z03, z09, z08, ren, givL, updM, z0c, renO, belowM, seval, -Int.reduceToNat, e1, e2, hx, hu, hlj, z48, List.length_set, B3, B4, B21, B41, B126, bunN, z0t, z0i] | exact z0f _ | refine z0e _ _ ?_ | exact Cln.cl | refine z05 _ ?_ | refine z00 _ _ ?_ ?_ | refine DR_q _ ?_ | (refine Fk.fk ?_ ?_ <;> intro hg <;> (try simp only [hg]) <;> (try simp only [bunB] at hg) <;> try (exfalso; first | omega | exact Bool.noConfusion hg | exact hg trivial)) | refine And.intro (by omega) ?_ | omega
            have hio := zi0 (j := j) hTu hj hw (fun _ => by rw [hue]; omega)
            refine ⟨i + 1, ⟨by omega, .inl (by omega)⟩, by omega, ?_⟩
            rw [hD, hfin, ← hio, ← List.append_assoc A]
            (simp (disch := omega) [wk, wkT, wkM, noF, isF, get, z0h, belowM, below, belows, I64, I32, Bv, U8, Sv, z0i] <;> try omega)
        · have e : j = 0 := by omega
          subst e
          have hio := zi0 (j := 0) hTu hj hw (fun h => by omega)
          repeat' first | simp (maxSteps := 4000000) (disch := omega) only [bunL, bunD, bun, ↓z04, ↓z01, z02, findLabel, ↓reduceIte, imp, shift, z0b, z0a, unown, names, z07, below, noF, isF, z03, z09, z08, ren, givL, updM, z0c, renO, belowM, seval, -Int.reduceToNat, e1, B3, B4, B21, B41, B126, bunN, z0t, z0i] | refine DR_q _ ?_ | (refine Fk.fk ?_ ?_ <;> intro hg <;> (try simp only [hg]) <;> (try simp only [bunB] at hg) <;> try (exfalso; first | omega | exact Bool.noConfusion hg | exact hg trivial)) | refine And.intro (by omega) ?_ | omega
          refine ⟨i + 1, ⟨by omega, .inl (by omega)⟩, by omega, ?_⟩
          rw [hD, hfin, ← hio]
          (simp (disch := omega) [wk, wkT, wkM, noF, isF, get, z0h, belowM, below, belows, I64, I32, Bv, U8, Sv, z0i] <;> try omega)
    · have e1 : S.take i = S := List.take_of_length_le (by omega)
      have e2 : S.drop i = [] := List.drop_of_length_le (by omega)
      repeat' first | simp (maxSteps := 4000000) (disch := omega) only [bunL, bunD, bun, ↓z04, ↓z01, z02, findLabel, ↓reduceIte, imp, shift, z0b, z0a, unown, names, z07, below, noF, isF, z03, z09, z08, ren, givL, updM, z0c, renO, belowM, seval, -Int.reduceToNat, e1, e2, B3, B4, B21, B41, B126, bunN, z0t, z0i] | refine DR_q _ ?_ | (refine Fk.fk ?_ ?_ <;> intro hg <;> (try simp only [hg]) <;> (try simp only [bunB] at hg) <;> try (exfalso; first | omega | exact Bool.noConfusion hg | exact hg trivial)) | refine And.intro (by omega) ?_ | omega
end Go.AE
end
section
namespace Go.AE
open Go.Proofs
set_option maxRecDepth 20000
set_option maxHeartbeats 8000000
set_option linter.unusedSimpArgs false
theorem swap_mid' {P Q : List Int} {u v : Int} {k : Nat} (h : k = P.length) : ((P ++ u :: v :: Q).set k v).set (k + 1) u = P ++ v :: u :: Q := by
  subst h; simp
theorem zl3 {f : Int → Int} {T : List Int} {j : Nat} {x : Int} (hT : Up f T) (hj : j ≤ T.length) (h2 : 0 < j → f (T.getD (j - 1) 0) ≤ x) : ∀ w ∈ T.take j, f w ≤ x := fun w hw => by
  by_cases h0 : 0 < j
  · obtain ⟨e1, _⟩ := zbc h0 hj
    have hT' : Up f (T.take j) := by
      rw [← List.take_append_drop j T] at hT
      exact (Up.append.1 hT).1
    rw [e1] at hT' hw
    rcases List.mem_append.1 hw with hw | hw
    · have := up_last hT' w hw
      have := h2 h0; omega
    · simp at hw; subst hw; exact h2 h0
  · have : j = 0 := by omega
    subst this
    simp at hw
theorem zdf {f : Int → Int} {T : List Int} {j : Nat} {x : Int} (hT : Up f T) (h2 : j < T.length → x ≤ f (T.getD j 0)) : ∀ w ∈ T.drop j, x ≤ f w := fun w hw => by
  by_cases h0 : j < T.length
  · have e : T.drop j = T.getD j 0 :: T.drop (j + 1) := by rw [List.drop_eq_getElem_cons h0]; simp [List.getD, h0]
    have hT' : Up f (T.drop j) := by
      rw [← List.take_append_drop j T] at hT
      exact (Up.append.1 hT).2.1
    rw [e] at hT' hw
    rcases List.mem_cons.1 hw with rfl | hw
    · exact h2 h0
    · have := hT'.1 w hw
      have := h2 h0; omega
  · rw [List.drop_of_length_le (by omega)] at hw; cases hw
theorem zhz {A X R : List Int} {k : Nat} (h : k < X.length) : (A ++ X ++ R).getD (A.length + k) 0 = X.getD k 0 := by
  rw [List.append_assoc, List.getD_eq_getElem?_getD, List.getElem?_append_right (by omega), List.getElem?_append_left (by omega), ← List.getD_eq_getElem?_getD]
  congr 1; omega
theorem z6t {X : List Int} {k : Nat} (h : k < X.length) : X.getD k 0 ∈ X := by simp [List.getD, h]
abbrev fnO : AV := .fn 100 [] [.ptr 0 0]
def SymR (n : Nat) : Prop := ∀ (A X Y B : List Int) (off len a m b : Nat), X.length + Y.length ≤ n → 0 < X.length → 0 < Y.length → off + a = A.length → m = a + X.length → b = m + Y.length → b ≤ len → off + len ≤ (A ++ X ++ Y ++ B).length → (A ++ X ++ Y ++ B).length ≤ 1000000 → (∀ r ∈ X, okR r) → (∀ r ∈ Y, okR r) → Up cls X → Up cls Y →
    z5j Tryz.prog 128 [.row true 1 z0q, .row false 1 ((A ++ X ++ Y ++ B).map I32)] [.ref 1 off len, I64 a, I64 m, I64 b, .fn 100 [] [.ptr 0 0]] [.row true 1 z0q, .row false 1 ((A ++ ssort cls (X ++ Y) ++ B).map I32), .fence] (.tup [])
theorem sym_one {A Y B : List Int} {x : Int} {off len a m b : Nat} (hY0 : 0 < Y.length) (ha : off + a = A.length) (hm : m = a + 1) (hb : b = m + Y.length) (hl : b ≤ len) (ho : off + len ≤ (A ++ [x] ++ Y ++ B).length) (hL : (A ++ [x] ++ Y ++ B).length ≤ 1000000) (hx : okR x) (hy : ∀ r ∈ Y, okR r) (hu : Up cls Y) :
    z5j Tryz.prog 128 [.row true 1 z0q, .row false 1 ((A ++ [x] ++ Y ++ B).map I32)] [.ref 1 off len, I64 a, I64 m, I64 b, .fn 100 [] [.ptr 0 0]] [.row true 1 z0q, .row false 1 ((A ++ ssort cls (x :: Y) ++ B).map I32), .fence] (.tup []) := by
  refine z3p (ts := []) ok1 Tryz.func128 rfl rfl (by decide +kernel) (by simp [Tryz.ntmps128]) rfl ?_
  have hlen : (A ++ [x] ++ Y ++ B).length = A.length + 1 + Y.length + B.length := by simp; omega
  have hgx : (A ++ [x] ++ Y ++ B).getD (off + a) 0 = x := by
    rw [ha, List.append_assoc _ Y]
    exact zhz (X := [x]) (k := 0) (by simp)
  repeat' first | simp (maxSteps := 4000000) (disch := omega) only [bunL, bunD, bun, ↓z04, ↓z01, z02, findLabel, ↓reduceIte, imp, shift, z0b, z0a, unown, names, z07, below, noF, isF, z03, z09, z08, ren, givL, updM, z0c, renO, belowM, seval, -Int.reduceToNat, B3, B4, B21, B41, B71, B126, bunN, z0t, z0i] | refine DR_q _ ?_ | (refine Fk.fk ?_ ?_ <;> intro hg <;> (try simp only [hg]) <;> (try simp only [bunB] at hg) <;> try (exfalso; first | omega | exact Bool.noConfusion hg | exact hg trivial)) | refine And.intro (by omega) ?_ | omega
  refine z0m (fun p : Nat × Nat => ⟨[(0, .ref 1 off len), (1, I64 a), (4, .fn 100 [] [.ptr 0 0]), (10, I64 (m + p.1)), (11, I64 (m + p.2))], [.row true 1 z0q, .row false 1 ((A ++ [x] ++ Y ++ B).map I32), .fence]⟩)
    (fun p => p.1 ≤ p.2 ∧ p.2 ≤ Y.length ∧ (0 < p.1 → cls (Y.getD (p.1 - 1) 0) < cls x) ∧ (p.2 < Y.length → cls x ≤ cls (Y.getD p.2 0))) (fun p => p.2 - p.1) (0, Y.length) ⟨by simp, Nat.le_refl _, fun h => absurd h (by simp), fun h => absurd h (by simp)⟩ ?_ ?_
  · (simp (disch := omega) [wk, wkT, wkM, noF, isF, get, z0h, belowM, below, belows, I64, I32, Bv, U8, Sv, z0i] <;> try omega)
  · rintro ⟨p, q⟩ ⟨h1, h2, h3, h4⟩
    dsimp only at h1 h2 h3 h4
    by_cases hlt : p < q
    · have e1 : ((m : Int) + (p : Int) + ((m : Int) + (q : Int))) / 2 = ((m + (p + q) / 2 : Nat) : Int) := by omega
      have hgy : (A ++ [x] ++ Y ++ B).getD (off + (m + (p + q) / 2)) 0 = Y.getD ((p + q) / 2) 0 := by
        have := zhz (A := A ++ [x]) (X := Y) (R := B) (k := (p + q) / 2) (by omega)
        rw [← this]
        congr 1
        simp; omega
      have hyr := hy _ (z6t (X := Y) (k := (p + q) / 2) (by omega))
      by_cases hc : cls (Y.getD ((p + q) / 2) 0) < cls x
      · repeat' first | refine z06 (z3s _ _ hyr hx) ?_ ?_ | simp (maxSteps := 4000000) (disch := omega) only [bunL, bunD, bun, ↓z04, ↓z01, z02, findLabel, ↓reduceIte, imp, shift, z0b, z0a, unown, names, z07, below, noF, isF, z03, z09, z08, ren, givL, updM, z0c, renO, belowM, seval, -Int.reduceToNat, e1, hgx, hgy, B3, B4, B21, B41, B71, B126, bunN, z0t, z0i] | exact z0f _ | refine z0e _ _ ?_ | exact Cln.cl | refine z05 _ ?_ | refine z00 _ _ ?_ ?_ | refine DR_q _ ?_ | (refine Fk.fk ?_ ?_ <;> intro hg <;> (try simp only [hg]) <;> (try simp only [bunB] at hg) <;> try (exfalso; first | omega | exact Bool.noConfusion hg | exact hg trivial)) | refine And.intro (by omega) ?_ | omega
        refine ⟨((p + q) / 2 + 1, q), ⟨by dsimp only; omega, h2, fun _ => by dsimp only; rw [Nat.add_sub_cancel]; exact hc, h4⟩, by dsimp only; omega, ?_⟩
        (simp (disch := omega) [wk, wkT, wkM, noF, isF, get, z0h, belowM, below, belows, I64, I32, Bv, U8, Sv, z0i] <;> try omega)
      · repeat' first | refine z06 (z3s _ _ hyr hx) ?_ ?_ | simp (maxSteps := 4000000) (disch := omega) only [bunL, bunD, bun, ↓z04, ↓z01, z02, findLabel, ↓reduceIte, imp, shift, z0b, z0a, unown, names, z07, below, noF, isF, z03, z09, z08, ren, givL, updM, z0c, renO, belowM, seval, -Int.reduceToNat, e1, hgx, hgy, B3, B4, B21, B41, B71, B126, bunN, z0t, z0i] | exact z0f _ | refine z0e _ _ ?_ | exact Cln.cl | refine z05 _ ?_ | refine z00 _ _ ?_ ?_ | refine DR_q _ ?_ | (refine Fk.fk ?_ ?_ <;> intro hg <;> (try simp only [hg]) <;> (try simp only [bunB] at hg) <;> try (exfalso; first | omega | exact Bool.noConfusion hg | exact hg trivial)) | refine And.intro (by omega) ?_ | omega
        refine ⟨(p, (p + q) / 2), ⟨by dsimp only; omega, by dsimp only; omega, h3, fun _ => by dsimp only; omega⟩, by dsimp only; omega, ?_⟩
        (simp (disch := omega) [wk, wkT, wkM, noF, isF, get, z0h, belowM, below, belows, I64, I32, Bv, U8, Sv, z0i] <;> try omega)
    · have e : p = q := by omega
      subst e
      have hfin := ssort_pre (f := cls) (x := x) (A := Y.take p) (B := Y.drop p) (by rw [List.take_append_drop]; exact hu) (fun w hw => by
        have := zl3 (x := cls x - 1) hu h2 (fun h => by have := h3 h; omega) w hw
        omega) (zdf hu h4)
      rw [List.take_append_drop] at hfin
      repeat' first | simp (maxSteps := 4000000) (disch := omega) only [bunL, bunD, bun, ↓z04, ↓z01, z02, findLabel, ↓reduceIte, imp, shift, z0b, z0a, unown, names, z07, below, noF, isF, z03, z09, z08, ren, givL, updM, z0c, renO, belowM, seval, -Int.reduceToNat, B3, B4, B21, B41, B71, B126, bunN, z0t, z0i] | refine DR_q _ ?_ | (refine Fk.fk ?_ ?_ <;> intro hg <;> (try simp only [hg]) <;> (try simp only [bunB] at hg) <;> try (exfalso; first | omega | exact Bool.noConfusion hg | exact hg trivial)) | refine And.intro (by omega) ?_ | omega
      refine z0m (fun r : Nat => ⟨[(0, .ref 1 off len), (10, I64 (m + p)), (13, I64 (a + r))], [.row true 1 z0q, .row false 1 ((A ++ Y.take r ++ x :: Y.drop r ++ B).map I32), .fence]⟩) (fun r => r ≤ p) (fun r => p - r) 0 (by simp) (by (simp (disch := omega) [wk, wkT, wkM, noF, isF, get, z0h, belowM, below, belows, I64, I32, Bv, U8, Sv, z0i] <;> try omega)) ?_
      intro r hr
      have hlr : (A ++ Y.take r ++ x :: Y.drop r ++ B).length = A.length + 1 + Y.length + B.length := by simp; omega
      by_cases hrp : r < p
      · have e1 : ((a : Int) + (r : Int)).toNat = a + r := by omega
        have e2 : ((a : Int) + (r : Int) + 1).toNat = a + r + 1 := by omega
        have hd : Y.drop r = Y.getD r 0 :: Y.drop (r + 1) := by rw [List.drop_eq_getElem_cons (by omega)]; simp [List.getD, show r < Y.length by omega]
        have ht := z1p Y r 0 (by omega)
        have hga : (A ++ Y.take r ++ x :: Y.drop r ++ B).getD (off + (a + r)) 0 = x := by
          rw [List.append_assoc, List.cons_append]
          exact z4y (by simp; omega)
        have hgb : (A ++ Y.take r ++ x :: Y.drop r ++ B).getD (off + (a + r + 1)) 0 = Y.getD r 0 := by
          rw [hd]
          have : A ++ Y.take r ++ x :: Y.getD r 0 :: Y.drop (r + 1) ++ B = (A ++ Y.take r ++ [x]) ++ Y.getD r 0 :: (Y.drop (r + 1) ++ B) := by simp
          rw [this]
          exact z4y (by simp; omega)
        have hsw : ((A ++ Y.take r ++ x :: Y.drop r ++ B).set (off + (a + r)) (Y.getD r 0)).set (off + (a + r + 1)) x = A ++ Y.take (r + 1) ++ x :: Y.drop (r + 1) ++ B := by
          rw [hd, ht]
          have : A ++ Y.take r ++ x :: Y.getD r 0 :: Y.drop (r + 1) ++ B = (A ++ Y.take r) ++ x :: Y.getD r 0 :: (Y.drop (r + 1) ++ B) := by simp
          rw [this, show off + (a + r + 1) = off + (a + r) + 1 by omega, swap_mid' (by simp; omega)]
          simp
        repeat' first | simp (maxSteps := 4000000) (disch := omega) only [bunL, bunD, bun, ↓z04, ↓z01, z02, findLabel, ↓reduceIte, imp, shift, z0b, z0a, unown, names, z07, below, noF, isF, z03, z09, z08, ren, givL, updM, z0c, renO, belowM, seval, -Int.reduceToNat, e1, e2, hga, hgb, hlr, z48, List.length_set, hsw, B3, B4, B21, B41, B71, B126, bunN, z0t, z0i] | refine DR_q _ ?_ | (refine Fk.fk ?_ ?_ <;> intro hg <;> (try simp only [hg]) <;> (try simp only [bunB] at hg) <;> try (exfalso; first | omega | exact Bool.noConfusion hg | exact hg trivial)) | refine And.intro (by omega) ?_ | omega
        refine ⟨r + 1, by omega, by omega, ?_⟩
        (simp (disch := omega) [wk, wkT, wkM, noF, isF, get, z0h, belowM, below, belows, I64, I32, Bv, U8, Sv, z0i] <;> try omega)
      · have e : r = p := by omega
        subst e
        rw [← hfin]
        repeat' first | simp (maxSteps := 4000000) (disch := omega) only [bunL, bunD, bun, ↓z04, ↓z01, z02, findLabel, ↓reduceIte, imp, shift, z0b, z0a, unown, names, z07, below, noF, isF, z03, z09, z08, ren, givL, updM, z0c, renO, belowM, seval, -Int.reduceToNat, List.append_assoc, B3, B4, B21, B41, B71, B126, bunN, z0t, z0i] | refine DR_q _ ?_ | (refine Fk.fk ?_ ?_ <;> intro hg <;> (try simp only [hg]) <;> (try simp only [bunB] at hg) <;> try (exfalso; first | omega | exact Bool.noConfusion hg | exact hg trivial)) | refine And.intro (by omega) ?_ | omega
theorem sym_two {A X B : List Int} {y : Int} {off len a m b : Nat} (hX0 : 1 < X.length) (ha : off + a = A.length) (hm : m = a + X.length) (hb : b = m + 1) (hl : b ≤ len) (ho : off + len ≤ (A ++ X ++ [y] ++ B).length) (hL : (A ++ X ++ [y] ++ B).length ≤ 1000000) (hy : okR y) (hx : ∀ r ∈ X, okR r) (hu : Up cls X) :
    z5j Tryz.prog 128 [.row true 1 z0q, .row false 1 ((A ++ X ++ [y] ++ B).map I32)] [.ref 1 off len, I64 a, I64 m, I64 b, .fn 100 [] [.ptr 0 0]] [.row true 1 z0q, .row false 1 ((A ++ ssort cls (X ++ [y]) ++ B).map I32), .fence] (.tup []) := by
  refine z3p (ts := []) ok1 Tryz.func128 rfl rfl (by decide +kernel) (by simp [Tryz.ntmps128]) rfl ?_
  have hlen : (A ++ X ++ [y] ++ B).length = A.length + X.length + 1 + B.length := by simp; omega
  have hgy : (A ++ X ++ [y] ++ B).getD (off + m) 0 = y := by
    rw [show off + m = (A ++ X).length + 0 by simp; omega]
    exact zhz (A := A ++ X) (X := [y]) (R := B) (by simp)
  repeat' first | simp (maxSteps := 4000000) (disch := omega) only [bunL, bunD, bun, ↓z04, ↓z01, z02, findLabel, ↓reduceIte, imp, shift, z0b, z0a, unown, names, z07, below, noF, isF, z03, z09, z08, ren, givL, updM, z0c, renO, belowM, seval, -Int.reduceToNat, B3, B4, B21, B41, B71, B126, bunN, z0t, z0i] | refine DR_q _ ?_ | (refine Fk.fk ?_ ?_ <;> intro hg <;> (try simp only [hg]) <;> (try simp only [bunB] at hg) <;> try (exfalso; first | omega | exact Bool.noConfusion hg | exact hg trivial)) | refine And.intro (by omega) ?_ | omega
  refine z0m (fun p : Nat × Nat => ⟨[(0, .ref 1 off len), (2, I64 m), (4, .fn 100 [] [.ptr 0 0]), (14, I64 (a + p.1)), (15, I64 (a + p.2))], [.row true 1 z0q, .row false 1 ((A ++ X ++ [y] ++ B).map I32), .fence]⟩)
    (fun p => p.1 ≤ p.2 ∧ p.2 ≤ X.length ∧ (0 < p.1 → cls (X.getD (p.1 - 1) 0) ≤ cls y) ∧ (p.2 < X.length → cls y < cls (X.getD p.2 0))) (fun p => p.2 - p.1) (0, X.length) ⟨by simp, Nat.le_refl _, fun h => absurd h (by simp), fun h => absurd h (by simp)⟩ ?_ ?_
  · (simp (disch := omega) [wk, wkT, wkM, noF, isF, get, z0h, belowM, below, belows, I64, I32, Bv, U8, Sv, z0i] <;> try omega)
  · rintro ⟨p, q⟩ ⟨h1, h2, h3, h4⟩
    dsimp only at h1 h2 h3 h4
    by_cases hlt : p < q
    · have e1 : ((a : Int) + (p : Int) + ((a : Int) + (q : Int))) / 2 = ((a + (p + q) / 2 : Nat) : Int) := by omega
      have hgx : (A ++ X ++ [y] ++ B).getD (off + (a + (p + q) / 2)) 0 = X.getD ((p + q) / 2) 0 := by
        rw [List.append_assoc (A ++ X), show off + (a + (p + q) / 2) = A.length + (p + q) / 2 by omega]
        exact zhz (by omega)
      have hxr := hx _ (z6t (X := X) (k := (p + q) / 2) (by omega))
      by_cases hc : cls y < cls (X.getD ((p + q) / 2) 0)
      · repeat' first | refine z06 (z3s _ _ hy hxr) ?_ ?_ | simp (maxSteps := 4000000) (disch := omega) only [bunL, bunD, bun, ↓z04, ↓z01, z02, findLabel, ↓reduceIte, imp, shift, z0b, z0a, unown, names, z07, below, noF, isF, z03, z09, z08, ren, givL, updM, z0c, renO, belowM, seval, -Int.reduceToNat, e1, hgx, hgy, B3, B4, B21, B41, B71, B126, bunN, z0t, z0i] | exact z0f _ | refine z0e _ _ ?_ | exact Cln.cl | refine z05 _ ?_ | refine z00 _ _ ?_ ?_ | refine DR_q _ ?_ | (refine Fk.fk ?_ ?_ <;> intro hg <;> (try simp only [hg]) <;> (try simp only [bunB] at hg) <;> try (exfalso; first | omega | exact Bool.noConfusion hg | exact hg trivial)) | refine And.intro (by omega) ?_ | omega
        refine ⟨(p, (p + q) / 2), ⟨by dsimp only; omega, by dsimp only; omega, h3, fun _ => hc⟩, by dsimp only; omega, ?_⟩
        (simp (disch := omega) [wk, wkT, wkM, noF, isF, get, z0h, belowM, below, belows, I64, I32, Bv, U8, Sv, z0i] <;> try omega)
      · repeat' first | refine z06 (z3s _ _ hy hxr) ?_ ?_ | simp (maxSteps := 4000000) (disch := omega) only [bunL, bunD, bun, ↓z04, ↓z01, z02, findLabel, ↓reduceIte, imp, shift, z0b, z0a, unown, names, z07, below, noF, isF, z03, z09, z08, ren, givL, updM, z0c, renO, belowM, seval, -Int.reduceToNat, e1, hgx, hgy, B3, B4, B21, B41, B71, B126, bunN, z0t, z0i] | exact z0f _ | refine z0e _ _ ?_ | exact Cln.cl | refine z05 _ ?_ | refine z00 _ _ ?_ ?_ | refine DR_q _ ?_ | (refine Fk.fk ?_ ?_ <;> intro hg <;> (try simp only [hg]) <;> (try simp only [bunB] at hg) <;> try (exfalso; first | omega | exact Bool.noConfusion hg | exact hg trivial)) | refine And.intro (by omega) ?_ | omega
        refine ⟨((p + q) / 2 + 1, q), ⟨by dsimp only; omega, h2, fun _ => by dsimp only; rw [Nat.add_sub_cancel]; omega, h4⟩, by dsimp only; omega, ?_⟩
        (simp (disch := omega) [wk, wkT, wkM, noF, isF, get, z0h, belowM, below, belows, I64, I32, Bv, U8, Sv, z0i] <;> try omega)
    · have e : p = q := by omega
      subst e
      have hfin := znx (f := cls) (x := y) (A := X.take p) (B := X.drop p) (by rw [List.take_append_drop]; exact hu) (zl3 hu h2 h3) (fun w hw => by
        have := zdf (x := cls y + 1) hu (fun h => by have := h4 h; omega) w hw
        omega)
      rw [List.take_append_drop] at hfin
      repeat' first | simp (maxSteps := 4000000) (disch := omega) only [bunL, bunD, bun, ↓z04, ↓z01, z02, findLabel, ↓reduceIte, imp, shift, z0b, z0a, unown, names, z07, below, noF, isF, z03, z09, z08, ren, givL, updM, z0c, renO, belowM, seval, -Int.reduceToNat, B3, B4, B21, B41, B71, B126, bunN, z0t, z0i] | refine DR_q _ ?_ | (refine Fk.fk ?_ ?_ <;> intro hg <;> (try simp only [hg]) <;> (try simp only [bunB] at hg) <;> try (exfalso; first | omega | exact Bool.noConfusion hg | exact hg trivial)) | refine And.intro (by omega) ?_ | omega
      refine z0m (fun r : Nat => ⟨[(0, .ref 1 off len), (14, I64 (a + p)), (17, I64 (a + r))], [.row true 1 z0q, .row false 1 ((A ++ X.take r ++ y :: X.drop r ++ B).map I32), .fence]⟩) (fun r => p ≤ r ∧ r ≤ X.length) (fun r => r) X.length ⟨h2, Nat.le_refl _⟩ (by rw [List.take_length, List.drop_length]; (simp (disch := omega) [wk, wkT, wkM, noF, isF, get, z0h, belowM, below, belows, I64, I32, Bv, U8, Sv, z0i, hm] <;> try omega)) ?_
      rintro r ⟨hr, hr2⟩
      have hlr : (A ++ X.take r ++ y :: X.drop r ++ B).length = A.length + X.length + 1 + B.length := by simp; omega
      by_cases hrp : p < r
      · have e1 : ((a : Int) + (r : Int)).toNat = a + r := by omega
        have e2 : ((a : Int) + (r : Int) - 1).toNat = a + (r - 1) := by omega
        obtain ⟨t1, t2⟩ := zbc (show 0 < r by omega) hr2
        have hga : (A ++ X.take r ++ y :: X.drop r ++ B).getD (off + (a + r)) 0 = y := by
          rw [List.append_assoc, List.cons_append]
          exact z4y (by simp; omega)
        have hgb : (A ++ X.take r ++ y :: X.drop r ++ B).getD (off + (a + (r - 1))) 0 = X.getD (r - 1) 0 := by
          rw [t1]
          have : A ++ (X.take (r - 1) ++ [X.getD (r - 1) 0]) ++ y :: X.drop r ++ B = (A ++ X.take (r - 1)) ++ X.getD (r - 1) 0 :: (y :: X.drop r ++ B) := by simp
          rw [this]
          exact z4y (by simp; omega)
        have hsw : ((A ++ X.take r ++ y :: X.drop r ++ B).set (off + (a + r)) (X.getD (r - 1) 0)).set (off + (a + (r - 1))) y = A ++ X.take (r - 1) ++ y :: X.drop (r - 1) ++ B := by
          rw [t1, t2]
          have : A ++ (X.take (r - 1) ++ [X.getD (r - 1) 0]) ++ y :: X.drop r ++ B = (A ++ X.take (r - 1)) ++ X.getD (r - 1) 0 :: y :: (X.drop r ++ B) := by simp
          rw [this, show off + (a + r) = off + (a + (r - 1)) + 1 by omega, zuq (by simp; omega)]
          simp
        repeat' first | simp (maxSteps := 4000000) (disch := omega) only [bunL, bunD, bun, ↓z04, ↓z01, z02, findLabel, ↓reduceIte, imp, shift, z0b, z0a, unown, names, z07, below, noF, isF, z03, z09, z08, ren, givL, updM, z0c, renO, belowM, seval, -Int.reduceToNat, e1, e2, hga, hgb, hlr, z48, List.length_set, hsw, B3, B4, B21, B41, B71, B126, bunN, z0t, z0i] | refine DR_q _ ?_ | (refine Fk.fk ?_ ?_ <;> intro hg <;> (try simp only [hg]) <;> (try simp only [bunB] at hg) <;> try (exfalso; first | omega | exact Bool.noConfusion hg | exact hg trivial)) | refine And.intro (by omega) ?_ | omega
        refine ⟨r - 1, ⟨by omega, by omega⟩, by omega, ?_⟩
        (simp (disch := omega) [wk, wkT, wkM, noF, isF, get, z0h, belowM, below, belows, I64, I32, Bv, U8, Sv, z0i] <;> try omega)
      · have e : r = p := by omega
        subst e
        rw [← hfin]
        repeat' first | simp (maxSteps := 4000000) (disch := omega) only [bunL, bunD, bun, ↓z04, ↓z01, z02, findLabel, ↓reduceIte, imp, shift, z0b, z0a, unown, names, z07, below, noF, isF, z03, z09, z08, ren, givL, updM, z0c, renO, belowM, seval, -Int.reduceToNat, List.append_assoc, B3, B4, B21, B41, B71, B126, bunN, z0t, z0i] | refine DR_q _ ?_ | (refine Fk.fk ?_ ?_ <;> intro hg <;> (try simp only [hg]) <;> (try simp only [bunB] at hg) <;> try (exfalso; first | omega | exact Bool.noConfusion hg | exact hg trivial)) | refine And.intro (by omega) ?_ | omega
end Go.AE
end
