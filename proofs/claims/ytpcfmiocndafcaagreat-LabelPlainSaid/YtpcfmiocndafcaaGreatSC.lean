/- Contracts of functions that the laws of this seat reach, and plain laws of what they compute. No condition beyond each statement's own. -/
import Derived.Test.YtpcfmiocndafcaaGreatSA
import Derived.Test.YtpcfmiocndafcaaGreatV1
set_option linter.unusedVariables false
set_option linter.unusedSimpArgs false
section
namespace Go.AE
open Go.Proofs
set_option maxRecDepth 20000
set_option maxHeartbeats 8000000
set_option linter.unusedSimpArgs false
structure Cut (X Y : List Int) (a m mid s : Nat) : Prop where
  h1 : ∀ x ∈ X.take (s - a), ∀ y ∈ Y.drop (mid - s), cls x ≤ cls y
  h2 : ∀ y ∈ Y.take (mid - s), ∀ x ∈ X.drop (s - a), cls y < cls x
theorem cut_of {X Y : List Int} {a m b mid lo hi s : Nat} (hm : m = a + X.length) (hb : b = m + Y.length) (huX : Up cls X) (huY : Up cls Y) (hlo : mid < m → (lo : Int) = (mid : Int) + m - b ∧ hi = mid) (hhi : ¬ mid < m → lo = a ∧ hi = m)
    (g1 : a ≤ lo) (g2 : lo ≤ s) (g3 : s ≤ hi) (g4 : hi ≤ m) (g5 : hi ≤ mid) (hmb : mid + m - lo ≤ b) (h3 : lo < s → cls (X.getD (s - 1 - a) 0) ≤ cls (Y.getD (mid - s) 0)) (h4 : s < hi → cls (Y.getD (mid - 1 - s) 0) < cls (X.getD (s - a) 0)) : Cut X Y a m mid s := by
  constructor
  · intro x hx y hy
    by_cases hl : lo < s
    · have q := h3 hl
      have q1 := zl3 (f := cls) (T := X) (j := s - a) (x := cls (X.getD (s - 1 - a) 0)) huX (by omega) (fun _ => by rw [show s - a - 1 = s - 1 - a by omega]; exact Int.le_refl _) x hx
      have q2 := zdf (f := cls) (T := Y) (j := mid - s) (x := cls (Y.getD (mid - s) 0)) huY (fun _ => Int.le_refl _) y hy
      omega
    · by_cases hc : mid < m
      · have := hlo hc
        rw [List.drop_of_length_le (by omega)] at hy; cases hy
      · have := hhi hc
        rw [show s - a = 0 by omega] at hx; simp at hx
  · intro y hy x hx
    by_cases hl : s < hi
    · have q := h4 hl
      have q1 := zl3 (f := cls) (T := Y) (j := mid - s) (x := cls (Y.getD (mid - 1 - s) 0)) huY (by
        have := hmb
        by_cases hc : mid < m
        · have := hlo hc; omega
        · have := hhi hc; omega) (fun _ => by rw [show mid - s - 1 = mid - 1 - s by omega]; exact Int.le_refl _) y hy
      have q2 := zdf (f := cls) (T := X) (j := s - a) (x := cls (X.getD (s - a) 0)) huX (fun _ => Int.le_refl _) x hx
      omega
    · by_cases hc : mid < m
      · have := hlo hc
        rw [show mid - s = 0 by omega] at hy; simp at hy
      · have := hhi hc
        rw [List.drop_of_length_le (by omega)] at hx; cases hx
structure Parts (off len a m b mid s : Nat) (L0 L3 : List Int) : Prop where
  p : ∃ L1 L2 : List Int,
    ((s < m ∧ m < mid + m - s) → z5j Tryz.prog 135 [.row true 1 z0q, .row false 1 (L0.map I32)] [.ref 1 off len, I64 s, I64 m, I64 (mid + m - s : Nat), .fn 100 [] [.ptr 0 0]] [.row true 1 z0q, .row false 1 (L1.map I32), .fence] (.tup [])) ∧
    (¬ (s < m ∧ m < mid + m - s) → L0 = L1) ∧
    ((a < s ∧ s < mid) → z5j Tryz.prog 128 [.row true 1 z0q, .row false 1 (L1.map I32)] [.ref 1 off len, I64 a, I64 s, I64 mid, .fn 100 [] [.ptr 0 0]] [.row true 1 z0q, .row false 1 (L2.map I32), .fence] (.tup [])) ∧
    (¬ (a < s ∧ s < mid) → L1 = L2) ∧
    ((mid < mid + m - s ∧ mid + m - s < b) → z5j Tryz.prog 128 [.row true 1 z0q, .row false 1 (L2.map I32)] [.ref 1 off len, I64 mid, I64 (mid + m - s : Nat), I64 b, .fn 100 [] [.ptr 0 0]] [.row true 1 z0q, .row false 1 (L3.map I32), .fence] (.tup [])) ∧
    (¬ (mid < mid + m - s ∧ mid + m - s < b) → L2 = L3)
theorem zu5 {n : Nat} (ih : SymR n) {A X Y B : List Int} {off len a m b mid s : Nat} (hn : X.length + Y.length ≤ n + 1) (ha : off + a = A.length) (hm : m = a + X.length) (hb : b = m + Y.length) (hl : b ≤ len) (ho : off + len ≤ (A ++ X ++ Y ++ B).length) (hL : (A ++ X ++ Y ++ B).length ≤ 1000000) (hx : ∀ r ∈ X, okR r) (hy : ∀ r ∈ Y, okR r) (huX : Up cls X) (huY : Up cls Y)
    (hmid : mid = (a + b) / 2) (hX1 : 1 < X.length) (hY1 : 1 < Y.length) (g1 : a ≤ s) (g2 : s ≤ m) (g3 : s ≤ mid) (g4 : mid + m - s ≤ b) (hC : Cut X Y a m mid s) :
    Parts off len a m b mid s (A ++ X ++ Y ++ B) (A ++ ssort cls (X ++ Y) ++ B) := by
  have hlen : (A ++ X ++ Y ++ B).length = A.length + X.length + Y.length + B.length := by simp; omega
  have eX : X.take (s - a) ++ X.drop (s - a) = X := List.take_append_drop _ _
  have eY : Y.take (mid - s) ++ Y.drop (mid - s) = Y := List.take_append_drop _ _
  have lX1 : (X.take (s - a)).length = s - a := by simp; omega
  have lX2 : (X.drop (s - a)).length = m - s := by simp; omega
  have lY1 : (Y.take (mid - s)).length = mid - s := by simp; omega
  have lY2 : (Y.drop (mid - s)).length = b - (mid + m - s) := by simp; omega
  have hx1 : ∀ r ∈ X.take (s - a), okR r := fun r hr => hx r (List.mem_of_mem_take hr)
  have hx2 : ∀ r ∈ X.drop (s - a), okR r := fun r hr => hx r (List.mem_of_mem_drop hr)
  have hy1 : ∀ r ∈ Y.take (mid - s), okR r := fun r hr => hy r (List.mem_of_mem_take hr)
  have hy2 : ∀ r ∈ Y.drop (mid - s), okR r := fun r hr => hy r (List.mem_of_mem_drop hr)
  have hq := zwq (f := cls) (X1 := X.take (s - a)) (X2 := X.drop (s - a)) (Y1 := Y.take (mid - s)) (Y2 := Y.drop (mid - s)) (by rw [eX]; exact huX) (by rw [eY]; exact huY) hC.h1 hC.h2
  have huX' := Up.append.1 (show Up cls (X.take (s - a) ++ X.drop (s - a)) by rw [eX]; exact huX)
  have huY' := Up.append.1 (show Up cls (Y.take (mid - s) ++ Y.drop (mid - s)) by rw [eY]; exact huY)
  rw [eX, eY] at hq
  rw [← hq, show A ++ X ++ Y ++ B = (A ++ X.take (s - a)) ++ X.drop (s - a) ++ Y.take (mid - s) ++ (Y.drop (mid - s) ++ B) by rw [show A ++ X.take (s - a) ++ X.drop (s - a) = A ++ X by rw [List.append_assoc, eX], ← List.append_assoc, show A ++ X ++ Y.take (mid - s) ++ Y.drop (mid - s) = A ++ X ++ Y by rw [List.append_assoc (A ++ X), eY]]]
  clear hq hC
  generalize X.take (s - a) = X1 at *
  generalize X.drop (s - a) = X2 at *
  generalize Y.take (mid - s) = Y1 at *
  generalize Y.drop (mid - s) = Y2 at *
  have hl1 : ((A ++ X1) ++ X2 ++ Y1 ++ (Y2 ++ B)).length = A.length + X.length + Y.length + B.length := by simp; omega
  have hs1 := z20 cls (X1 ++ Y1)
  rw [List.length_append] at hs1
  refine ⟨(A ++ X1) ++ Y1 ++ X2 ++ (Y2 ++ B), A ++ ssort cls (X1 ++ Y1) ++ (X2 ++ Y2 ++ B), fun h => ?_, fun h => ?_, fun h => ?_, fun h => ?_, fun h => ?_, fun h => ?_⟩
  · exact zq1 (A ++ X1) X2 Y1 (Y2 ++ B) off len s m (mid + m - s) (by omega) (by omega) (by simp; omega) (by omega) (by omega) (by omega) (by omega) (by omega)
  · by_cases h5 : s < m
    · have : Y1 = [] := List.length_eq_zero_iff.1 (by omega)
      subst this; simp
    · have : X2 = [] := List.length_eq_zero_iff.1 (by omega)
      subst this; simp
  · have := ih A X1 Y1 (X2 ++ (Y2 ++ B)) off len a s mid (by omega) (by omega) (by omega) ha (by omega) (by omega) (by omega) (by simp; omega) (by simp; omega) hx1 hy1 huX'.1 huY'.1
    simp only [List.append_assoc] at this ⊢
    exact this
  · by_cases h5 : a < s
    · have : Y1 = [] := List.length_eq_zero_iff.1 (by omega)
      subst this
      rw [List.append_nil, List.append_nil, zba huX'.1]; simp
    · have : X1 = [] := List.length_eq_zero_iff.1 (by omega)
      subst this
      rw [List.nil_append, List.append_nil, zba huY'.1]; simp
  · have := ih (A ++ ssort cls (X1 ++ Y1)) X2 Y2 B off len mid (mid + m - s) b (by omega) (by omega) (by omega) (by rw [List.length_append]; omega) (by omega) (by omega) (by omega) (by simp; omega) (by simp; omega) hx2 hy2 huX'.2.1 huY'.2.1
    simp only [List.append_assoc] at this ⊢
    exact this
  · by_cases h5 : mid < mid + m - s
    · have : Y2 = [] := List.length_eq_zero_iff.1 (by omega)
      subst this
      rw [List.append_nil X2, zba huX'.2.1]; simp
    · have : X2 = [] := List.length_eq_zero_iff.1 (by omega)
      subst this
      rw [List.nil_append, zba huY'.2.1]; simp
theorem sym_step {n : Nat} (ih : SymR n) : SymR (n + 1) := by
  intro A X Y B off len a m b hn hX0 hY0 ha hm hb hl ho hL hx hy huX huY
  by_cases hX1 : X.length = 1
  · obtain ⟨x, rfl⟩ : ∃ x, X = [x] := List.length_eq_one_iff.1 hX1
    exact sym_one hY0 ha hm hb hl ho hL (hx x (by simp)) hy huY
  · by_cases hY1 : Y.length = 1
    · obtain ⟨y, rfl⟩ : ∃ x, Y = [x] := List.length_eq_one_iff.1 hY1
      exact sym_two (by omega) ha hm hb hl ho hL (hy y (by simp)) hx huX
    · refine z3p (ts := []) ok1 Tryz.func128 rfl rfl (by decide +kernel) (by simp [Tryz.ntmps128]) rfl ?_
      have hlen : (A ++ X ++ Y ++ B).length = A.length + X.length + Y.length + B.length := by simp; omega
      have hgX : ∀ k, a ≤ k → k < m → (A ++ X ++ Y ++ B).getD (off + k) 0 = X.getD (k - a) 0 := fun k h1 h2 => by
        rw [List.append_assoc (A ++ X), show off + k = A.length + (k - a) by omega]
        exact zhz (by omega)
      have hgY : ∀ k, m ≤ k → k < b → (A ++ X ++ Y ++ B).getD (off + k) 0 = Y.getD (k - m) 0 := fun k h1 h2 => by
        rw [show off + k = (A ++ X).length + (k - m) by simp; omega]
        exact zhz (A := A ++ X) (by omega)
      obtain ⟨mid, hmid⟩ : ∃ mid, mid = (a + b) / 2 := ⟨_, rfl⟩
      have e0 : ((a : Int) + (b : Int)) / 2 = (mid : Int) := by omega
      obtain ⟨lo, hi, hlo, hhi, hlohi⟩ : ∃ lo hi : Nat, (mid < m → (lo : Int) = (mid : Int) + m - b ∧ hi = mid) ∧ (¬ mid < m → lo = a ∧ hi = m) ∧ a ≤ lo ∧ lo ≤ hi ∧ hi ≤ m ∧ hi ≤ mid ∧ m ≤ mid + m - hi ∧ mid + m - lo ≤ b := by
        by_cases h : mid < m
        · exact ⟨mid + m - b, mid, fun _ => by omega, fun h' => absurd h h', by omega⟩
        · exact ⟨a, m, fun h' => absurd h' h, fun _ => ⟨rfl, rfl⟩, by omega⟩
      obtain ⟨g1, g2, g3, g4, g5, g6⟩ := hlohi
      by_cases hmm : mid < m
      · obtain ⟨hlo1, hlo2⟩ := hlo hmm
        repeat' first | simp (maxSteps := 4000000) (disch := omega) only [bunL, bunD, bun, ↓z04, ↓z01, z02, findLabel, ↓reduceIte, imp, shift, z0b, z0a, unown, names, z07, below, noF, isF, z03, z09, z08, ren, givL, updM, z0c, renO, belowM, seval, -Int.reduceToNat, e0, B3, B4, B21, B41, B71, B126, bunN, z0t, z0i] | refine DR_q _ ?_ | (refine Fk.fk ?_ ?_ <;> intro hg <;> (try simp only [hg]) <;> (try simp only [bunB] at hg) <;> try (exfalso; first | omega | exact Bool.noConfusion hg | exact hg trivial)) | refine And.intro (by omega) ?_ | omega
        refine z0m (fun p : Nat × Nat => ⟨[(0, .ref 1 off len), (1, I64 a), (2, I64 m), (3, I64 b), (4, .fn 100 [] [.ptr 0 0]), (18, I64 mid), (19, I64 (mid + m)), (20, I64 p.1), (21, I64 p.2), (22, I64 (mid + m - 1))], [.row true 1 z0q, .row false 1 ((A ++ X ++ Y ++ B).map I32), .fence]⟩)
          (fun p => lo ≤ p.1 ∧ p.1 ≤ p.2 ∧ p.2 ≤ hi ∧ (lo < p.1 → cls (X.getD (p.1 - 1 - a) 0) ≤ cls (Y.getD (mid - p.1) 0)) ∧ (p.2 < hi → cls (Y.getD (mid - 1 - p.2) 0) < cls (X.getD (p.2 - a) 0))) (fun p => p.2 - p.1) (lo, hi) ⟨Nat.le_refl _, g2, Nat.le_refl _, fun h => absurd h (by simp), fun h => absurd h (by simp)⟩ ?_ ?_
        · (simp (disch := omega) [wk, wkT, wkM, noF, isF, get, z0h, belowM, below, belows, I64, I32, Bv, U8, Sv, z0i] <;> try omega)
        · rintro ⟨s, r⟩ ⟨h0, h1, h2, h3, h4⟩
          dsimp only at h0 h1 h2 h3 h4
          by_cases hlt : s < r
          · have e1 : ((s : Int) + (r : Int)) / 2 = (((s + r) / 2 : Nat) : Int) := by omega
            obtain ⟨c, hc⟩ : ∃ c, c = (s + r) / 2 := ⟨_, rfl⟩
            rw [← hc] at e1
            have e2 : ((mid : Int) + (m : Int) - 1 - (c : Int)).toNat = mid + m - 1 - c := by omega
            have hp : (A ++ X ++ Y ++ B).getD (off + (mid + m - 1 - c)) 0 = Y.getD (mid - 1 - c) 0 := by
              rw [hgY _ (by omega) (by omega)]; congr 1; omega
            have hcx := hgX c (by omega) (by omega)
            have hyr := hy _ (z6t (X := Y) (k := mid - 1 - c) (by omega))
            have hxr := hx _ (z6t (X := X) (k := c - a) (by omega))
            by_cases hcc : cls (Y.getD (mid - 1 - c) 0) < cls (X.getD (c - a) 0)
            · repeat' first | refine z06 (z3s _ _ hyr hxr) ?_ ?_ | simp (maxSteps := 4000000) (disch := omega) only [bunL, bunD, bun, ↓z04, ↓z01, z02, findLabel, ↓reduceIte, imp, shift, z0b, z0a, unown, names, z07, below, noF, isF, z03, z09, z08, ren, givL, updM, z0c, renO, belowM, seval, -Int.reduceToNat, e1, e2, hp, hcx, B3, B4, B21, B41, B71, B126, bunN, z0t, z0i] | exact z0f _ | refine z0e _ _ ?_ | exact Cln.cl | refine z05 _ ?_ | refine z00 _ _ ?_ ?_ | refine DR_q _ ?_ | (refine Fk.fk ?_ ?_ <;> intro hg <;> (try simp only [hg]) <;> (try simp only [bunB] at hg) <;> try (exfalso; first | omega | exact Bool.noConfusion hg | exact hg trivial)) | refine And.intro (by omega) ?_ | omega
              refine ⟨(s, c), ⟨h0, by dsimp only; omega, by dsimp only; omega, h3, fun _ => hcc⟩, by dsimp only; omega, ?_⟩
              (simp (disch := omega) [wk, wkT, wkM, noF, isF, get, z0h, belowM, below, belows, I64, I32, Bv, U8, Sv, z0i] <;> try omega)
            · repeat' first | refine z06 (z3s _ _ hyr hxr) ?_ ?_ | simp (maxSteps := 4000000) (disch := omega) only [bunL, bunD, bun, ↓z04, ↓z01, z02, findLabel, ↓reduceIte, imp, shift, z0b, z0a, unown, names, z07, below, noF, isF, z03, z09, z08, ren, givL, updM, z0c, renO, belowM, seval, -Int.reduceToNat, e1, e2, hp, hcx, B3, B4, B21, B41, B71, B126, bunN, z0t, z0i] | exact z0f _ | refine z0e _ _ ?_ | exact Cln.cl | refine z05 _ ?_ | refine z00 _ _ ?_ ?_ | refine DR_q _ ?_ | (refine Fk.fk ?_ ?_ <;> intro hg <;> (try simp only [hg]) <;> (try simp only [bunB] at hg) <;> try (exfalso; first | omega | exact Bool.noConfusion hg | exact hg trivial)) | refine And.intro (by omega) ?_ | omega
              refine ⟨(c + 1, r), ⟨by dsimp only; omega, by dsimp only; omega, h2, fun _ => ?_, h4⟩, by dsimp only; omega, ?_⟩
              · dsimp only
                rw [show c + 1 - 1 - a = c - a by omega, show mid - (c + 1) = mid - 1 - c by omega]
                omega
              · (simp (disch := omega) [wk, wkT, wkM, noF, isF, get, z0h, belowM, below, belows, I64, I32, Bv, U8, Sv, z0i] <;> try omega)
          · have e : s = r := by omega
            subst e
            have hC := cut_of hm hb huX huY hlo hhi g1 h0 h2 g3 g4 g6 h3 h4
            obtain ⟨L1, L2, r1, n1, r2, n2, r3, n3⟩ := (zu5 ih hn ha hm hb hl ho hL hx hy huX huY hmid (by omega) (by omega) (show a ≤ s by omega) (by omega) (by omega) (by omega) hC).p
            generalize A ++ X ++ Y ++ B = L0 at *
            generalize A ++ ssort cls (X ++ Y) ++ B = L3 at *
            have e3 : ((mid : Int) + (m : Int) - (s : Int)) = ((mid + m - s : Nat) : Int) := by omega
            have d1 : s < m ∧ m < mid + m - s ∨ ¬ (s < m ∧ m < mid + m - s) := Decidable.em _
            have d2 : a < s ∧ s < mid ∨ ¬ (a < s ∧ s < mid) := Decidable.em _
            have d3 : mid < mid + m - s ∧ mid + m - s < b ∨ ¬ (mid < mid + m - s ∧ mid + m - s < b) := Decidable.em _
            generalize mid + m - s = en at *
            rcases d1 with d1 | d1
            · have r1 := r1 d1
              rcases d2 with d2 | d2
              · have r2 := r2 d2
                rcases d3 with d3 | d3
                · have r3 := r3 d3
                  repeat' first | (refine z17 [0, 1] (r1) ?_; clear r1) | (refine z17 [0, 1] (r2) ?_; clear r2) | (refine z17 [0, 1] (r3) ?_; clear r3) | simp (maxSteps := 4000000) (disch := omega) only [bunL, bunD, bun, ↓z04, ↓z01, z02, findLabel, ↓reduceIte, imp, shift, z0b, z0a, unown, names, z07, below, noF, isF, z03, z09, z08, ren, givL, updM, z0c, renO, belowM, seval, -Int.reduceToNat, e3, B3, B4, B21, B41, B71, B126, bunN, z0t, z0i] | exact z0f _ | refine z0e _ _ ?_ | exact Cln.cl | refine z05 _ ?_ | refine z00 _ _ ?_ ?_ | refine DR_q _ ?_ | (refine Fk.fk ?_ ?_ <;> intro hg <;> (try simp only [hg]) <;> (try simp only [bunB] at hg) <;> try (exfalso; first | omega | exact Bool.noConfusion hg | exact hg trivial)) | refine And.intro (by omega) ?_ | omega
                · have n3 := n3 d3
                  subst n3
                  repeat' first | (refine z17 [0, 1] (r1) ?_; clear r1) | (refine z17 [0, 1] (r2) ?_; clear r2) | simp (maxSteps := 4000000) (disch := omega) only [bunL, bunD, bun, ↓z04, ↓z01, z02, findLabel, ↓reduceIte, imp, shift, z0b, z0a, unown, names, z07, below, noF, isF, z03, z09, z08, ren, givL, updM, z0c, renO, belowM, seval, -Int.reduceToNat, e3, B3, B4, B21, B41, B71, B126, bunN, z0t, z0i] | exact z0f _ | refine z0e _ _ ?_ | exact Cln.cl | refine z05 _ ?_ | refine z00 _ _ ?_ ?_ | refine DR_q _ ?_ | (refine Fk.fk ?_ ?_ <;> intro hg <;> (try simp only [hg]) <;> (try simp only [bunB] at hg) <;> try (exfalso; first | omega | exact Bool.noConfusion hg | exact hg trivial)) | refine And.intro (by omega) ?_ | omega
              · have n2 := n2 d2
                subst n2
                rcases d3 with d3 | d3
                · have r3 := r3 d3
                  repeat' first | (refine z17 [0, 1] (r1) ?_; clear r1) | (refine z17 [0, 1] (r3) ?_; clear r3) | simp (maxSteps := 4000000) (disch := omega) only [bunL, bunD, bun, ↓z04, ↓z01, z02, findLabel, ↓reduceIte, imp, shift, z0b, z0a, unown, names, z07, below, noF, isF, z03, z09, z08, ren, givL, updM, z0c, renO, belowM, seval, -Int.reduceToNat, e3, B3, B4, B21, B41, B71, B126, bunN, z0t, z0i] | exact z0f _ | refine z0e _ _ ?_ | exact Cln.cl | refine z05 _ ?_ | refine z00 _ _ ?_ ?_ | refine DR_q _ ?_ | (refine Fk.fk ?_ ?_ <;> intro hg <;> (try simp only [hg]) <;> (try simp only [bunB] at hg) <;> try (exfalso; first | omega | exact Bool.noConfusion hg | exact hg trivial)) | refine And.intro (by omega) ?_ | omega
                · have n3 := n3 d3
                  subst n3
                  repeat' first | (refine z17 [0, 1] (r1) ?_; clear r1) | simp (maxSteps := 4000000) (disch := omega) only [bunL, bunD, bun, ↓z04, ↓z01, z02, findLabel, ↓reduceIte, imp, shift, z0b, z0a, unown, names, z07, below, noF, isF, z03, z09, z08, ren, givL, updM, z0c, renO, belowM, seval, -Int.reduceToNat, e3, B3, B4, B21, B41, B71, B126, bunN, z0t, z0i] | exact z0f _ | refine z0e _ _ ?_ | exact Cln.cl | refine z05 _ ?_ | refine z00 _ _ ?_ ?_ | refine DR_q _ ?_ | (refine Fk.fk ?_ ?_ <;> intro hg <;> (try simp only [hg]) <;> (try simp only [bunB] at hg) <;> try (exfalso; first | omega | exact Bool.noConfusion hg | exact hg trivial)) | refine And.intro (by omega) ?_ | omega
            · have n1 := n1 d1
              subst n1
              rcases d2 with d2 | d2
              · have r2 := r2 d2
                rcases d3 with d3 | d3
                · have r3 := r3 d3
                  repeat' first | (refine z17 [0, 1] (r2) ?_; clear r2) | (refine z17 [0, 1] (r3) ?_; clear r3) | simp (maxSteps := 4000000) (disch := omega) only [bunL, bunD, bun, ↓z04, ↓z01, z02, findLabel, ↓reduceIte, imp, shift, z0b, z0a, unown, names, z07, below, noF, isF, z03, z09, z08, ren, givL, updM, z0c, renO, belowM, seval, -Int.reduceToNat, e3, B3, B4, B21, B41, B71, B126, bunN, z0t, z0i] | exact z0f _ | refine z0e _ _ ?_ | exact Cln.cl | refine z05 _ ?_ | refine z00 _ _ ?_ ?_ | refine DR_q _ ?_ | (refine Fk.fk ?_ ?_ <;> intro hg <;> (try simp only [hg]) <;> (try simp only [bunB] at hg) <;> try (exfalso; first | omega | exact Bool.noConfusion hg | exact hg trivial)) | refine And.intro (by omega) ?_ | omega
                · have n3 := n3 d3
                  subst n3
                  repeat' first | (refine z17 [0, 1] (r2) ?_; clear r2) | simp (maxSteps := 4000000) (disch := omega) only [bunL, bunD, bun, ↓z04, ↓z01, z02, findLabel, ↓reduceIte, imp, shift, z0b, z0a, unown, names, z07, below, noF, isF, z03, z09, z08, ren, givL, updM, z0c, renO, belowM, seval, -Int.reduceToNat, e3, B3, B4, B21, B41, B71, B126, bunN, z0t, z0i] | exact z0f _ | refine z0e _ _ ?_ | exact Cln.cl | refine z05 _ ?_ | refine z00 _ _ ?_ ?_ | refine DR_q _ ?_ | (refine Fk.fk ?_ ?_ <;> intro hg <;> (try simp only [hg]) <;> (try simp only [bunB] at hg) <;> try (exfalso; first | omega | exact Bool.noConfusion hg | exact hg trivial)) | refine And.intro (by omega) ?_ | omega
              · have n2 := n2 d2
                subst n2
                rcases d3 with d3 | d3
                · have r3 := r3 d3
                  repeat' first | (refine z17 [0, 1] (r3) ?_; clear r3) | simp (maxSteps := 4000000) (disch := omega) only [bunL, bunD, bun, ↓z04, ↓z01, z02, findLabel, ↓reduceIte, imp, shift, z0b, z0a, unown, names, z07, below, noF, isF, z03, z09, z08, ren, givL, updM, z0c, renO, belowM, seval, -Int.reduceToNat, e3, B3, B4, B21, B41, B71, B126, bunN, z0t, z0i] | exact z0f _ | refine z0e _ _ ?_ | exact Cln.cl | refine z05 _ ?_ | refine z00 _ _ ?_ ?_ | refine DR_q _ ?_ | (refine Fk.fk ?_ ?_ <;> intro hg <;> (try simp only [hg]) <;> (try simp only [bunB] at hg) <;> try (exfalso; first | omega | exact Bool.noConfusion hg | exact hg trivial)) | refine And.intro (by omega) ?_ | omega
                · have n3 := n3 d3
                  subst n3
                  repeat' first | simp (maxSteps := 4000000) (disch := omega) only [bunL, bunD, bun, ↓z04, ↓z01, z02, findLabel, ↓reduceIte, imp, shift, z0b, z0a, unown, names, z07, below, noF, isF, z03, z09, z08, ren, givL, updM, z0c, renO, belowM, seval, -Int.reduceToNat, e3, B3, B4, B21, B41, B71, B126, bunN, z0t, z0i] | refine DR_q _ ?_ | (refine Fk.fk ?_ ?_ <;> intro hg <;> (try simp only [hg]) <;> (try simp only [bunB] at hg) <;> try (exfalso; first | omega | exact Bool.noConfusion hg | exact hg trivial)) | refine And.intro (by omega) ?_ | omega
      · obtain ⟨hlo1, hlo2⟩ := hhi hmm
        repeat' first | simp (maxSteps := 4000000) (disch := omega) only [bunL, bunD, bun, ↓z04, ↓z01, z02, findLabel, ↓reduceIte, imp, shift, z0b, z0a, unown, names, z07, below, noF, isF, z03, z09, z08, ren, givL, updM, z0c, renO, belowM, seval, -Int.reduceToNat, e0, B3, B4, B21, B41, B71, B126, bunN, z0t, z0i] | refine DR_q _ ?_ | (refine Fk.fk ?_ ?_ <;> intro hg <;> (try simp only [hg]) <;> (try simp only [bunB] at hg) <;> try (exfalso; first | omega | exact Bool.noConfusion hg | exact hg trivial)) | refine And.intro (by omega) ?_ | omega
        refine z0m (fun p : Nat × Nat => ⟨[(0, .ref 1 off len), (1, I64 a), (2, I64 m), (3, I64 b), (4, .fn 100 [] [.ptr 0 0]), (18, I64 mid), (19, I64 (mid + m)), (20, I64 p.1), (21, I64 p.2), (22, I64 (mid + m - 1))], [.row true 1 z0q, .row false 1 ((A ++ X ++ Y ++ B).map I32), .fence]⟩)
          (fun p => lo ≤ p.1 ∧ p.1 ≤ p.2 ∧ p.2 ≤ hi ∧ (lo < p.1 → cls (X.getD (p.1 - 1 - a) 0) ≤ cls (Y.getD (mid - p.1) 0)) ∧ (p.2 < hi → cls (Y.getD (mid - 1 - p.2) 0) < cls (X.getD (p.2 - a) 0))) (fun p => p.2 - p.1) (lo, hi) ⟨Nat.le_refl _, g2, Nat.le_refl _, fun h => absurd h (by simp), fun h => absurd h (by simp)⟩ ?_ ?_
        · (simp (disch := omega) [wk, wkT, wkM, noF, isF, get, z0h, belowM, below, belows, I64, I32, Bv, U8, Sv, z0i] <;> try omega)
        · rintro ⟨s, r⟩ ⟨h0, h1, h2, h3, h4⟩
          dsimp only at h0 h1 h2 h3 h4
          by_cases hlt : s < r
          · have e1 : ((s : Int) + (r : Int)) / 2 = (((s + r) / 2 : Nat) : Int) := by omega
            obtain ⟨c, hc⟩ : ∃ c, c = (s + r) / 2 := ⟨_, rfl⟩
            rw [← hc] at e1
            have e2 : ((mid : Int) + (m : Int) - 1 - (c : Int)).toNat = mid + m - 1 - c := by omega
            have hp : (A ++ X ++ Y ++ B).getD (off + (mid + m - 1 - c)) 0 = Y.getD (mid - 1 - c) 0 := by
              rw [hgY _ (by omega) (by omega)]; congr 1; omega
            have hcx := hgX c (by omega) (by omega)
            have hyr := hy _ (z6t (X := Y) (k := mid - 1 - c) (by omega))
            have hxr := hx _ (z6t (X := X) (k := c - a) (by omega))
            by_cases hcc : cls (Y.getD (mid - 1 - c) 0) < cls (X.getD (c - a) 0)
            · repeat' first | refine z06 (z3s _ _ hyr hxr) ?_ ?_ | simp (maxSteps := 4000000) (disch := omega) only [bunL, bunD, bun, ↓z04, ↓z01, z02, findLabel, ↓reduceIte, imp, shift, z0b, z0a, unown, names, z07, below, noF, isF, z03, z09, z08, ren, givL, updM, z0c, renO, belowM, seval, -Int.reduceToNat, e1, e2, hp, hcx, B3, B4, B21, B41, B71, B126, bunN, z0t, z0i] | exact z0f _ | refine z0e _ _ ?_ | exact Cln.cl | refine z05 _ ?_ | refine z00 _ _ ?_ ?_ | refine DR_q _ ?_ | (refine Fk.fk ?_ ?_ <;> intro hg <;> (try simp only [hg]) <;> (try simp only [bunB] at hg) <;> try (exfalso; first | omega | exact Bool.noConfusion hg | exact hg trivial)) | refine And.intro (by omega) ?_ | omega
              refine ⟨(s, c), ⟨h0, by dsimp only; omega, by dsimp only; omega, h3, fun _ => hcc⟩, by dsimp only; omega, ?_⟩
              (simp (disch := omega) [wk, wkT, wkM, noF, isF, get, z0h, belowM, below, belows, I64, I32, Bv, U8, Sv, z0i] <;> try omega)
            · repeat' first | refine z06 (z3s _ _ hyr hxr) ?_ ?_ | simp (maxSteps := 4000000) (disch := omega) only [bunL, bunD, bun, ↓z04, ↓z01, z02, findLabel, ↓reduceIte, imp, shift, z0b, z0a, unown, names, z07, below, noF, isF, z03, z09, z08, ren, givL, updM, z0c, renO, belowM, seval, -Int.reduceToNat, e1, e2, hp, hcx, B3, B4, B21, B41, B71, B126, bunN, z0t, z0i] | exact z0f _ | refine z0e _ _ ?_ | exact Cln.cl | refine z05 _ ?_ | refine z00 _ _ ?_ ?_ | refine DR_q _ ?_ | (refine Fk.fk ?_ ?_ <;> intro hg <;> (try simp only [hg]) <;> (try simp only [bunB] at hg) <;> try (exfalso; first | omega | exact Bool.noConfusion hg | exact hg trivial)) | refine And.intro (by omega) ?_ | omega
              refine ⟨(c + 1, r), ⟨by dsimp only; omega, by dsimp only; omega, h2, fun _ => ?_, h4⟩, by dsimp only; omega, ?_⟩
              · dsimp only
                rw [show c + 1 - 1 - a = c - a by omega, show mid - (c + 1) = mid - 1 - c by omega]
                omega
              · (simp (disch := omega) [wk, wkT, wkM, noF, isF, get, z0h, belowM, below, belows, I64, I32, Bv, U8, Sv, z0i] <;> try omega)
          · have e : s = r := by omega
            subst e
            have hC := cut_of hm hb huX huY hlo hhi g1 h0 h2 g3 g4 g6 h3 h4
            obtain ⟨L1, L2, r1, n1, r2, n2, r3, n3⟩ := (zu5 ih hn ha hm hb hl ho hL hx hy huX huY hmid (by omega) (by omega) (show a ≤ s by omega) (by omega) (by omega) (by omega) hC).p
            generalize A ++ X ++ Y ++ B = L0 at *
            generalize A ++ ssort cls (X ++ Y) ++ B = L3 at *
            have e3 : ((mid : Int) + (m : Int) - (s : Int)) = ((mid + m - s : Nat) : Int) := by omega
            have d1 : s < m ∧ m < mid + m - s ∨ ¬ (s < m ∧ m < mid + m - s) := Decidable.em _
            have d2 : a < s ∧ s < mid ∨ ¬ (a < s ∧ s < mid) := Decidable.em _
            have d3 : mid < mid + m - s ∧ mid + m - s < b ∨ ¬ (mid < mid + m - s ∧ mid + m - s < b) := Decidable.em _
            generalize mid + m - s = en at *
            rcases d1 with d1 | d1
            · have r1 := r1 d1
              rcases d2 with d2 | d2
              · have r2 := r2 d2
                rcases d3 with d3 | d3
                · have r3 := r3 d3
                  repeat' first | (refine z17 [0, 1] (r1) ?_; clear r1) | (refine z17 [0, 1] (r2) ?_; clear r2) | (refine z17 [0, 1] (r3) ?_; clear r3) | simp (maxSteps := 4000000) (disch := omega) only [bunL, bunD, bun, ↓z04, ↓z01, z02, findLabel, ↓reduceIte, imp, shift, z0b, z0a, unown, names, z07, below, noF, isF, z03, z09, z08, ren, givL, updM, z0c, renO, belowM, seval, -Int.reduceToNat, e3, B3, B4, B21, B41, B71, B126, bunN, z0t, z0i] | exact z0f _ | refine z0e _ _ ?_ | exact Cln.cl | refine z05 _ ?_ | refine z00 _ _ ?_ ?_ | refine DR_q _ ?_ | (refine Fk.fk ?_ ?_ <;> intro hg <;> (try simp only [hg]) <;> (try simp only [bunB] at hg) <;> try (exfalso; first | omega | exact Bool.noConfusion hg | exact hg trivial)) | refine And.intro (by omega) ?_ | omega
                · have n3 := n3 d3
                  subst n3
                  repeat' first | (refine z17 [0, 1] (r1) ?_; clear r1) | (refine z17 [0, 1] (r2) ?_; clear r2) | simp (maxSteps := 4000000) (disch := omega) only [bunL, bunD, bun, ↓z04, ↓z01, z02, findLabel, ↓reduceIte, imp, shift, z0b, z0a, unown, names, z07, below, noF, isF, z03, z09, z08, ren, givL, updM, z0c, renO, belowM, seval, -Int.reduceToNat, e3, B3, B4, B21, B41, B71, B126, bunN, z0t, z0i] | exact z0f _ | refine z0e _ _ ?_ | exact Cln.cl | refine z05 _ ?_ | refine z00 _ _ ?_ ?_ | refine DR_q _ ?_ | (refine Fk.fk ?_ ?_ <;> intro hg <;> (try simp only [hg]) <;> (try simp only [bunB] at hg) <;> try (exfalso; first | omega | exact Bool.noConfusion hg | exact hg trivial)) | refine And.intro (by omega) ?_ | omega
              · have n2 := n2 d2
                subst n2
                rcases d3 with d3 | d3
                · have r3 := r3 d3
                  repeat' first | (refine z17 [0, 1] (r1) ?_; clear r1) | (refine z17 [0, 1] (r3) ?_; clear r3) | simp (maxSteps := 4000000) (disch := omega) only [bunL, bunD, bun, ↓z04, ↓z01, z02, findLabel, ↓reduceIte, imp, shift, z0b, z0a, unown, names, z07, below, noF, isF, z03, z09, z08, ren, givL, updM, z0c, renO, belowM, seval, -Int.reduceToNat, e3, B3, B4, B21, B41, B71, B126, bunN, z0t, z0i] | exact z0f _ | refine z0e _ _ ?_ | exact Cln.cl | refine z05 _ ?_ | refine z00 _ _ ?_ ?_ | refine DR_q _ ?_ | (refine Fk.fk ?_ ?_ <;> intro hg <;> (try simp only [hg]) <;> (try simp only [bunB] at hg) <;> try (exfalso; first | omega | exact Bool.noConfusion hg | exact hg trivial)) | refine And.intro (by omega) ?_ | omega
                · have n3 := n3 d3
                  subst n3
                  repeat' first | (refine z17 [0, 1] (r1) ?_; clear r1) | simp (maxSteps := 4000000) (disch := omega) only [bunL, bunD, bun, ↓z04, ↓z01, z02, findLabel, ↓reduceIte, imp, shift, z0b, z0a, unown, names, z07, below, noF, isF, z03, z09, z08, ren, givL, updM, z0c, renO, belowM, seval, -Int.reduceToNat, e3, B3, B4, B21, B41, B71, B126, bunN, z0t, z0i] | exact z0f _ | refine z0e _ _ ?_ | exact Cln.cl | refine z05 _ ?_ | refine z00 _ _ ?_ ?_ | refine DR_q _ ?_ | (refine Fk.fk ?_ ?_ <;> intro hg <;> (try simp only [hg]) <;> (try simp only [bunB] at hg) <;> try (exfalso; first | omega | exact Bool.noConfusion hg | exact hg trivial)) | refine And.intro (by omega) ?_ | omega
            · have n1 := n1 d1
              subst n1
              rcases d2 with d2 | d2
              · have r2 := r2 d2
                rcases d3 with d3 | d3
                · have r3 := r3 d3
                  repeat' first | (refine z17 [0, 1] (r2) ?_; clear r2) | (refine z17 [0, 1] (r3) ?_; clear r3) | simp (maxSteps := 4000000) (disch := omega) only [bunL, bunD, bun, ↓z04, ↓z01, z02, findLabel, ↓reduceIte, imp, shift, z0b, z0a, unown, names, z07, below, noF, isF, z03, z09, z08, ren, givL, updM, z0c, renO, belowM, seval, -Int.reduceToNat, e3, B3, B4, B21, B41, B71, B126, bunN, z0t, z0i] | exact z0f _ | refine z0e _ _ ?_ | exact Cln.cl | refine z05 _ ?_ | refine z00 _ _ ?_ ?_ | refine DR_q _ ?_ | (refine Fk.fk ?_ ?_ <;> intro hg <;> (try simp only [hg]) <;> (try simp only [bunB] at hg) <;> try (exfalso; first | omega | exact Bool.noConfusion hg | exact hg trivial)) | refine And.intro (by omega) ?_ | omega
                · have n3 := n3 d3
                  subst n3
                  repeat' first | (refine z17 [0, 1] (r2) ?_; clear r2) | simp (maxSteps := 4000000) (disch := omega) only [bunL, bunD, bun, ↓z04, ↓z01, z02, findLabel, ↓reduceIte, imp, shift, z0b, z0a, unown, names, z07, below, noF, isF, z03, z09, z08, ren, givL, updM, z0c, renO, belowM, seval, -Int.reduceToNat, e3, B3, B4, B21, B41, B71, B126, bunN, z0t, z0i] | exact z0f _ | refine z0e _ _ ?_ | exact Cln.cl | refine z05 _ ?_ | refine z00 _ _ ?_ ?_ | refine DR_q _ ?_ | (refine Fk.fk ?_ ?_ <;> intro hg <;> (try simp only [hg]) <;> (try simp only [bunB] at hg) <;> try (exfalso; first | omega | exact Bool.noConfusion hg | exact hg trivial)) | refine And.intro (by omega) ?_ | omega
              · have n2 := n2 d2
                subst n2
                rcases d3 with d3 | d3
                · have r3 := r3 d3
                  repeat' first | (refine z17 [0, 1] (r3) ?_; clear r3) | simp (maxSteps := 4000000) (disch := omega) only [bunL, bunD, bun, ↓z04, ↓z01, z02, findLabel, ↓reduceIte, imp, shift, z0b, z0a, unown, names, z07, below, noF, isF, z03, z09, z08, ren, givL, updM, z0c, renO, belowM, seval, -Int.reduceToNat, e3, B3, B4, B21, B41, B71, B126, bunN, z0t, z0i] | exact z0f _ | refine z0e _ _ ?_ | exact Cln.cl | refine z05 _ ?_ | refine z00 _ _ ?_ ?_ | refine DR_q _ ?_ | (refine Fk.fk ?_ ?_ <;> intro hg <;> (try simp only [hg]) <;> (try simp only [bunB] at hg) <;> try (exfalso; first | omega | exact Bool.noConfusion hg | exact hg trivial)) | refine And.intro (by omega) ?_ | omega
                · have n3 := n3 d3
                  subst n3
                  repeat' first | simp (maxSteps := 4000000) (disch := omega) only [bunL, bunD, bun, ↓z04, ↓z01, z02, findLabel, ↓reduceIte, imp, shift, z0b, z0a, unown, names, z07, below, noF, isF, z03, z09, z08, ren, givL, updM, z0c, renO, belowM, seval, -Int.reduceToNat, e3, B3, B4, B21, B41, B71, B126, bunN, z0t, z0i] | refine DR_q _ ?_ | (refine Fk.fk ?_ ?_ <;> intro hg <;> (try simp only [hg]) <;> (try simp only [bunB] at hg) <;> try (exfalso; first | omega | exact Bool.noConfusion hg | exact hg trivial)) | refine And.intro (by omega) ?_ | omega
theorem zur (n : Nat) : SymR n := by
  induction n with
  | zero => intro A X Y B off len a m b hn hX0; omega
  | succ n ih => exact sym_step ih
end Go.AE
end
section
namespace Go.AE
open Go.Proofs
set_option maxRecDepth 20000
set_option maxHeartbeats 8000000
set_option linter.unusedSimpArgs false
def seg (k j : Nat) (W : List Int) : List Int := (W.drop (k * j)).take k
theorem z68 {k j : Nat} {P Q : List Int} (h : k * j + k ≤ P.length) : seg k j (P ++ Q) = seg k j P := by
  unfold seg
  rw [List.drop_append_of_le_length (by omega), List.take_append_of_le_length (by simp; omega)]
theorem seg_right {k j : Nat} {P P' Q : List Int} (h : P.length ≤ k * j) (he : P'.length = P.length) : seg k j (P ++ Q) = seg k j (P' ++ Q) := by
  unfold seg
  rw [List.drop_append, List.drop_append, List.drop_of_length_le h, List.drop_of_length_le (l := P') (by omega), he]
theorem seg_mid {k j : Nat} {P M Q : List Int} (h : P.length = k * j) (hM : M.length = k) : seg k j (P ++ M ++ Q) = M := by
  unfold seg
  rw [List.append_assoc, ← h, List.drop_left, ← hM, List.take_left]
theorem seg_end {k j : Nat} {P M : List Int} (h : P.length = k * j) (hM : M.length ≤ k) : seg k j (P ++ M) = M := by
  unfold seg
  rw [← h, List.drop_left, List.take_of_length_le hM]
theorem zky {k j : Nat} {W : List Int} (h : W.length ≤ k * j) : seg k j W = [] := by
  unfold seg
  rw [List.drop_of_length_le h, List.take_nil]
theorem zkd {P M Q S : List Int} (h : Kin cls (P ++ M ++ Q) S) : Kin cls (P ++ ssort cls M ++ Q) S :=
  (Kin.app (Kin.app (Kin.refl _ P) (z2c cls M).2) (Kin.refl _ Q)).trans h
theorem zqa (A S B : List Int) (off n : Nat) (ho : off = A.length) (hn : n = S.length) (hL : (A ++ S ++ B).length ≤ 1000000) (hr : ∀ r ∈ S, okR r) :
    z5j Tryz.prog 114 [.row true 1 z0q, .row false 1 ((A ++ S ++ B).map I32)] [.ref 1 off n, I64 n, .fn 100 [] [.ptr 0 0]] [.row true 1 z0q, .row false 1 ((A ++ ssort cls S ++ B).map I32), .fence] (.tup []) := by
  refine z3p (ts := []) ok1 Tryz.func114 rfl rfl (by decide +kernel) (by simp [Tryz.ntmps114]) rfl ?_
  have hlen : (A ++ S ++ B).length = A.length + S.length + B.length := by simp; omega
  repeat' first | simp (maxSteps := 4000000) (disch := omega) only [bunL, bunD, bun, ↓z04, ↓z01, z02, findLabel, ↓reduceIte, imp, shift, z0b, z0a, unown, names, z07, below, noF, isF, z03, z09, z08, ren, givL, updM, z0c, renO, belowM, seval, -Int.reduceToNat, B3, B4, B21, B41, B126, bunN, z0t, z0i] | refine DR_q _ ?_ | (refine Fk.fk ?_ ?_ <;> intro hg <;> (try simp only [hg]) <;> (try simp only [bunB] at hg) <;> try (exfalso; first | omega | exact Bool.noConfusion hg | exact hg trivial)) | refine And.intro (by omega) ?_ | omega
  refine z0m (fun x : Nat × List Int => ⟨[(0, .ref 1 off n), (1, I64 n), (2, .fn 100 [] [.ptr 0 0]), (6, I64 20), (7, I64 (20 * x.1)), (8, I64 (20 * x.1 + 20))], [.row true 1 z0q, .row false 1 ((A ++ x.2 ++ B).map I32), .fence]⟩)
    (fun x => x.2.length = n ∧ Kin cls x.2 S ∧ 20 * x.1 ≤ n ∧ ∀ j, j < x.1 → Up cls (seg 20 j x.2)) (fun x => n - 20 * x.1) (0, S) ⟨hn.symm, Kin.refl _ _, by simp, fun j hj => absurd hj (by simp)⟩ (by (simp (disch := omega) [wk, wkT, wkM, noF, isF, get, z0h, belowM, below, belows, I64, I32, Bv, U8, Sv, z0i] <;> try omega)) ?_
  rintro ⟨i, W⟩ ⟨w1, w2, w3, w4⟩
  dsimp only at w1 w2 w3 w4
  have hrW : ∀ r ∈ W, okR r := fun r hr' => hr r (w2.mem.1 hr')
  by_cases hlt : 20 * i + 20 ≤ n
  · have eW : W = W.take (20 * i) ++ (W.drop (20 * i)).take 20 ++ W.drop (20 * i + 20) := by
      rw [List.append_assoc, ← List.drop_drop, List.take_append_drop, List.take_append_drop]
    have l1 : (W.take (20 * i)).length = 20 * i := by simp; omega
    have l2 : ((W.drop (20 * i)).take 20).length = 20 := by simp; omega
    have l3 : (W.drop (20 * i + 20)).length = n - (20 * i + 20) := by simp; omega
    generalize W.take (20 * i) = P at *
    generalize (W.drop (20 * i)).take 20 = M at *
    generalize W.drop (20 * i + 20) = Q at *
    subst eW
    have hc := z9e (A ++ P) M (Q ++ B) off n (20 * i) (20 * i + 20) (by simp; omega) (by omega) hlt (by simp; omega) (by simp; omega) (fun r hr' => hrW r (by simp [hr']))
    rw [show A ++ P ++ M ++ (Q ++ B) = A ++ (P ++ M ++ Q) ++ B by simp] at hc
    have e1 : (20 : Int) * (i : Int) = ((20 * i : Nat) : Int) := by omega
    have e2 : ((20 * i : Nat) : Int) + 20 = ((20 * i + 20 : Nat) : Int) := by omega
    repeat' first | (refine z17 [0, 1] (hc) ?_; clear hc) | simp (maxSteps := 4000000) (disch := omega) only [bunL, bunD, bun, ↓z04, ↓z01, z02, findLabel, ↓reduceIte, imp, shift, z0b, z0a, unown, names, z07, below, noF, isF, z03, z09, z08, ren, givL, updM, z0c, renO, belowM, seval, -Int.reduceToNat, e1, e2, B3, B4, B21, B41, B126, bunN, z0t, z0i] | exact z0f _ | refine z0e _ _ ?_ | exact Cln.cl | refine z05 _ ?_ | refine z00 _ _ ?_ ?_ | refine DR_q _ ?_ | (refine Fk.fk ?_ ?_ <;> intro hg <;> (try simp only [hg]) <;> (try simp only [bunB] at hg) <;> try (exfalso; first | omega | exact Bool.noConfusion hg | exact hg trivial)) | refine And.intro (by omega) ?_ | omega
    have hsl := z20 cls M
    refine ⟨(i + 1, P ++ ssort cls M ++ Q), ⟨by simp; omega, zkd w2, by dsimp only; omega, fun j hj => ?_⟩, by dsimp only; omega, ?_⟩
    · by_cases hji : j < i
      · have := w4 j hji
        rw [List.append_assoc, z68 (by omega)] at this
        rw [List.append_assoc, z68 (by omega)]
        exact this
      · have : j = i := by omega
        subst this
        rw [seg_mid (by omega) (by omega)]
        exact (z2c cls M).1
    · (simp (disch := omega) [wk, wkT, wkM, noF, isF, get, z0h, belowM, below, belows, I64, I32, Bv, U8, Sv, z0i, List.append_assoc] <;> try omega)
  · have eW : W = W.take (20 * i) ++ W.drop (20 * i) := (List.take_append_drop _ _).symm
    have l1 : (W.take (20 * i)).length = 20 * i := by simp; omega
    have l2 : (W.drop (20 * i)).length = n - 20 * i := by simp; omega
    generalize W.take (20 * i) = P at *
    generalize W.drop (20 * i) = M at *
    subst eW
    have hc := z9e (A ++ P) M B off n (20 * i) n (by simp; omega) (by omega) (by omega) (by simp; omega) (by simp; omega) (fun r hr' => hrW r (by simp [hr']))
    rw [show A ++ P ++ M ++ B = A ++ (P ++ M) ++ B by simp] at hc
    have e1 : (20 : Int) * (i : Int) = ((20 * i : Nat) : Int) := by omega
    have hsl := z20 cls M
    have hW : ∃ W : List Int, P ++ ssort cls M = W ∧ W.length = n ∧ Kin cls W S ∧ ∀ j, Up cls (seg 20 j W) := by
      refine ⟨_, rfl, by simp; omega, ?_, fun j => ?_⟩
      · have := zkd (P := P) (M := M) (Q := []) (by simpa using w2)
        simpa using this
      · by_cases hji : j < i
        · have := w4 j hji
          rw [z68 (by omega)] at this
          rw [z68 (by omega)]
          exact this
        · by_cases hje : j = i
          · subst hje
            rw [seg_end (by omega) (by omega)]
            exact (z2c cls M).1
          · rw [zky (by simp; omega)]; trivial
    obtain ⟨W, hWe, v1, v2, v3⟩ := hW
    rw [show A ++ P ++ ssort cls M ++ B = A ++ W ++ B by rw [← hWe, List.append_assoc A]] at hc
    repeat' first | (refine z17 [0, 1] (hc) ?_; clear hc) | simp (maxSteps := 4000000) (disch := omega) only [bunL, bunD, bun, ↓z04, ↓z01, z02, findLabel, ↓reduceIte, imp, shift, z0b, z0a, unown, names, z07, below, noF, isF, z03, z09, z08, ren, givL, updM, z0c, renO, belowM, seval, -Int.reduceToNat, e1, B3, B4, B21, B41, B126, bunN, z0t, z0i] | exact z0f _ | refine z0e _ _ ?_ | exact Cln.cl | refine z05 _ ?_ | refine z00 _ _ ?_ ?_ | refine DR_q _ ?_ | (refine Fk.fk ?_ ?_ <;> intro hg <;> (try simp only [hg]) <;> (try simp only [bunB] at hg) <;> try (exfalso; first | omega | exact Bool.noConfusion hg | exact hg trivial)) | refine And.intro (by omega) ?_ | omega
    clear hWe hsl e1 l2 l1 w4 w3 w2 w1 hrW hlt
    refine z0m (fun x : Nat × List Int => ⟨[(0, .ref 1 off n), (1, I64 n), (2, .fn 100 [] [.ptr 0 0]), (6, I64 x.1)], [.row true 1 z0q, .row false 1 ((A ++ x.2 ++ B).map I32), .fence]⟩)
      (fun x => x.2.length = n ∧ Kin cls x.2 S ∧ 0 < x.1 ∧ x.1 ≤ 2 * n + 20 ∧ ∀ j, Up cls (seg x.1 j x.2)) (fun x => n - x.1) (20, W) ⟨v1, v2, by simp, by dsimp only; omega, v3⟩ (by (simp (disch := omega) [wk, wkT, wkM, noF, isF, get, z0h, belowM, below, belows, I64, I32, Bv, U8, Sv, z0i] <;> try omega)) ?_
    clear v1 v2 v3 W
    rintro ⟨bs, W⟩ ⟨w1, w2, hb0, hb1, w3⟩
    dsimp only at w1 w2 hb0 hb1 w3
    by_cases hbn : bs < n
    · repeat' first | simp (maxSteps := 4000000) (disch := omega) only [bunL, bunD, bun, ↓z04, ↓z01, z02, findLabel, ↓reduceIte, imp, shift, z0b, z0a, unown, names, z07, below, noF, isF, z03, z09, z08, ren, givL, updM, z0c, renO, belowM, seval, -Int.reduceToNat, B3, B4, B21, B41, B126, bunN, z0t, z0i] | refine DR_q _ ?_ | (refine Fk.fk ?_ ?_ <;> intro hg <;> (try simp only [hg]) <;> (try simp only [bunB] at hg) <;> try (exfalso; first | omega | exact Bool.noConfusion hg | exact hg trivial)) | refine And.intro (by omega) ?_ | omega
      refine z0m (fun x : Nat × Nat × List Int => ⟨[(0, .ref 1 off n), (1, I64 n), (2, .fn 100 [] [.ptr 0 0]), (6, I64 bs), (7, I64 x.2.1), (8, I64 (x.2.1 + 2 * bs))], [.row true 1 z0q, .row false 1 ((A ++ x.2.2 ++ B).map I32), .fence]⟩)
        (fun x => x.2.1 = 2 * bs * x.1 ∧ x.2.1 ≤ n ∧ x.2.2.length = n ∧ Kin cls x.2.2 S ∧ (∀ j, j < x.1 → Up cls (seg (2 * bs) j x.2.2)) ∧ ∀ j, 2 * x.1 ≤ j → Up cls (seg bs j x.2.2)) (fun x => n - x.2.1) (0, 0, W) ⟨by simp, by simp, w1, w2, fun j hj => absurd hj (by simp), fun j _ => w3 j⟩ (by (simp (disch := omega) [wk, wkT, wkM, noF, isF, get, z0h, belowM, below, belows, I64, I32, Bv, U8, Sv, z0i] <;> try omega)) ?_
      clear w1 w2 w3
      rintro ⟨i, k, W⟩ ⟨hk, hkn, w1, w2, w3, w4⟩
      dsimp only at hk hkn w1 w2 w3 w4
      have hrW : ∀ r ∈ W, okR r := fun r hr' => hr r (w2.mem.1 hr')
      have hk2 : bs * (2 * i) = k := by rw [hk, Nat.mul_comm 2 bs, Nat.mul_assoc]
      have hk3 : bs * (2 * i + 1) = k + bs := by rw [Nat.mul_succ, hk2]
      have hk4 : bs * (2 * (i + 1)) = k + 2 * bs := by rw [show 2 * (i + 1) = 2 * i + 1 + 1 by omega, Nat.mul_succ, hk3]; omega
      have hk5 : 2 * bs * (i + 1) = k + 2 * bs := by rw [Nat.mul_succ, ← hk]
      have hkj : ∀ j, j < i → 2 * bs * j + 2 * bs ≤ k := fun j hj => by
        rw [hk, ← Nat.mul_succ]; exact Nat.mul_le_mul_left _ hj
      have hkj2 : ∀ j, i < j → k + 2 * bs ≤ 2 * bs * j := fun j hj => by
        rw [← hk5]; exact Nat.mul_le_mul_left _ hj
      have hkj3 : ∀ j, 2 * (i + 1) ≤ j → k + 2 * bs ≤ bs * j := fun j hj => by
        rw [← hk4]; exact Nat.mul_le_mul_left _ hj
      have uX := w4 (2 * i) (Nat.le_refl _)
      have uY := w4 (2 * i + 1) (by omega)
      unfold seg at uX uY
      rw [hk2] at uX
      rw [hk3] at uY
      by_cases hlt2 : k + 2 * bs ≤ n
      · have eW : W = W.take k ++ (W.drop k).take bs ++ (W.drop (k + bs)).take bs ++ W.drop (k + bs + bs) := by
          have d1 : W.drop (k + bs + bs) = (W.drop (k + bs)).drop bs := by rw [List.drop_drop]
          have d2 : W.drop (k + bs) = (W.drop k).drop bs := by rw [List.drop_drop]
          rw [d1, List.append_assoc, List.take_append_drop, d2, List.append_assoc, List.take_append_drop, List.take_append_drop]
        have l1 : (W.take k).length = k := by simp; omega
        have l2 : ((W.drop k).take bs).length = bs := by simp; omega
        have l3 : ((W.drop (k + bs)).take bs).length = bs := by simp; omega
        have l4 : (W.drop (k + bs + bs)).length = n - (k + bs + bs) := by simp; omega
        generalize W.take k = P at *
        generalize (W.drop k).take bs = X at *
        generalize (W.drop (k + bs)).take bs = Y at *
        generalize W.drop (k + bs + bs) = Q at *
        subst eW
        have hc := zur _ (A ++ P) X Y (Q ++ B) off n k (k + bs) (k + 2 * bs) (Nat.le_refl _) (by omega) (by omega) (by simp; omega) (by omega) (by omega) (by omega) (by simp; omega) (by simp; omega) (fun r hr' => hrW r (by simp [hr'])) (fun r hr' => hrW r (by simp [hr'])) uX uY
        rw [show A ++ P ++ X ++ Y ++ (Q ++ B) = A ++ (P ++ X ++ Y ++ Q) ++ B by simp] at hc
        have e1 : (k : Int) + (bs : Int) = ((k + bs : Nat) : Int) := by omega
        have e2 : (k : Int) + 2 * (bs : Int) = ((k + 2 * bs : Nat) : Int) := by omega
        have hsl := z20 cls (X ++ Y)
        rw [List.length_append] at hsl
        repeat' first | (refine z17 [0, 1] (hc) ?_; clear hc) | simp (maxSteps := 4000000) (disch := omega) only [bunL, bunD, bun, ↓z04, ↓z01, z02, findLabel, ↓reduceIte, imp, shift, z0b, z0a, unown, names, z07, below, noF, isF, z03, z09, z08, ren, givL, updM, z0c, renO, belowM, seval, -Int.reduceToNat, e1, e2, B3, B4, B21, B41, B126, bunN, z0t, z0i] | exact z0f _ | refine z0e _ _ ?_ | exact Cln.cl | refine z05 _ ?_ | refine z00 _ _ ?_ ?_ | refine DR_q _ ?_ | (refine Fk.fk ?_ ?_ <;> intro hg <;> (try simp only [hg]) <;> (try simp only [bunB] at hg) <;> try (exfalso; first | omega | exact Bool.noConfusion hg | exact hg trivial)) | refine And.intro (by omega) ?_ | omega
        refine ⟨(i + 1, k + 2 * bs, P ++ ssort cls (X ++ Y) ++ Q), ⟨hk5.symm, hlt2, by simp; omega, zkd (by rw [← List.append_assoc P]; exact w2), fun j hj => ?_, fun j hj => ?_⟩, by dsimp only; omega, ?_⟩
        · by_cases hji : j < i
          · have q := w3 j hji
            have := hkj j hji
            rw [List.append_assoc, List.append_assoc, z68 (by omega)] at q
            rw [List.append_assoc, z68 (by omega)]
            exact q
          · have : j = i := by omega
            subst this
            rw [seg_mid (by omega) (by omega)]
            exact (z2c cls (X ++ Y)).1
        · have q := w4 j (by omega)
          have := hkj3 j hj
          rw [seg_right (P' := P ++ X ++ Y) (by simp; omega) (by simp; omega)]
          exact q
        · (simp (disch := omega) [wk, wkT, wkM, noF, isF, get, z0h, belowM, below, belows, I64, I32, Bv, U8, Sv, z0i, List.append_assoc] <;> try omega)
      · by_cases hm : k + bs < n
        · have eW : W = W.take k ++ (W.drop k).take bs ++ W.drop (k + bs) := by
            rw [List.append_assoc, ← List.drop_drop, List.take_append_drop, List.take_append_drop]
          have l1 : (W.take k).length = k := by simp; omega
          have l2 : ((W.drop k).take bs).length = bs := by simp; omega
          have l3 : (W.drop (k + bs)).length = n - (k + bs) := by simp; omega
          rw [List.take_of_length_le (by omega)] at uY
          generalize W.take k = P at *
          generalize (W.drop k).take bs = X at *
          generalize W.drop (k + bs) = Y at *
          subst eW
          have hc := zur _ (A ++ P) X Y B off n k (k + bs) n (Nat.le_refl _) (by omega) (by omega) (by simp; omega) (by omega) (by omega) (by omega) (by simp; omega) (by simp; omega) (fun r hr' => hrW r (by simp [hr'])) (fun r hr' => hrW r (by simp [hr'])) uX uY
          rw [show A ++ P ++ X ++ Y ++ B = A ++ (P ++ X ++ Y) ++ B by simp] at hc
          have e1 : (k : Int) + (bs : Int) = ((k + bs : Nat) : Int) := by omega
          have hsl := z20 cls (X ++ Y)
          rw [List.length_append] at hsl
          repeat' first | (refine z17 [0, 1] (hc) ?_; clear hc) | simp (maxSteps := 4000000) (disch := omega) only [bunL, bunD, bun, ↓z04, ↓z01, z02, findLabel, ↓reduceIte, imp, shift, z0b, z0a, unown, names, z07, below, noF, isF, z03, z09, z08, ren, givL, updM, z0c, renO, belowM, seval, -Int.reduceToNat, e1, B3, B4, B21, B41, B126, bunN, z0t, z0i] | exact z0f _ | refine z0e _ _ ?_ | exact Cln.cl | refine z05 _ ?_ | refine z00 _ _ ?_ ?_ | refine DR_q _ ?_ | (refine Fk.fk ?_ ?_ <;> intro hg <;> (try simp only [hg]) <;> (try simp only [bunB] at hg) <;> try (exfalso; first | omega | exact Bool.noConfusion hg | exact hg trivial)) | refine And.intro (by omega) ?_ | omega
          refine ⟨(bs * 2, P ++ ssort cls (X ++ Y)), ⟨by simp; omega, ?_, by dsimp only; omega, by dsimp only; omega, fun j => ?_⟩, by dsimp only; omega, ?_⟩
          · have := zkd (P := P) (M := X ++ Y) (Q := []) (by simpa using w2)
            simpa using this
          · dsimp only
            rw [Nat.mul_comm bs 2]
            by_cases hji : j < i
            · have q := w3 j hji
              have := hkj j hji
              rw [List.append_assoc, z68 (by omega)] at q
              rw [z68 (by omega)]
              exact q
            · by_cases hje : j = i
              · subst hje
                rw [seg_end (by omega) (by omega)]
                exact (z2c cls (X ++ Y)).1
              · have := hkj2 j (by omega)
                rw [zky (by simp; omega)]; trivial
          · (simp (disch := omega) [wk, wkT, wkM, noF, isF, get, z0h, belowM, below, belows, I64, I32, Bv, U8, Sv, z0i, List.append_assoc] <;> try omega)
        · have e1 : (k : Int) + (bs : Int) = ((k + bs : Nat) : Int) := by omega
          repeat' first | simp (maxSteps := 4000000) (disch := omega) only [bunL, bunD, bun, ↓z04, ↓z01, z02, findLabel, ↓reduceIte, imp, shift, z0b, z0a, unown, names, z07, below, noF, isF, z03, z09, z08, ren, givL, updM, z0c, renO, belowM, seval, -Int.reduceToNat, e1, B3, B4, B21, B41, B126, bunN, z0t, z0i] | refine DR_q _ ?_ | (refine Fk.fk ?_ ?_ <;> intro hg <;> (try simp only [hg]) <;> (try simp only [bunB] at hg) <;> try (exfalso; first | omega | exact Bool.noConfusion hg | exact hg trivial)) | refine And.intro (by omega) ?_ | omega
          refine ⟨(bs * 2, W), ⟨w1, w2, by dsimp only; omega, by dsimp only; omega, fun j => ?_⟩, by dsimp only; omega, ?_⟩
          · dsimp only
            rw [Nat.mul_comm bs 2]
            by_cases hji : j < i
            · exact w3 j hji
            · by_cases hje : j = i
              · subst hje
                unfold seg
                rw [← hk, List.take_of_length_le (by simp; omega)]
                rw [List.take_of_length_le (by simp; omega)] at uX
                exact uX
              · have := hkj2 j (by omega)
                rw [zky (by omega)]; trivial
          · (simp (disch := omega) [wk, wkT, wkM, noF, isF, get, z0h, belowM, below, belows, I64, I32, Bv, U8, Sv, z0i] <;> try omega)
    · have hup : Up cls W := by
        have := w3 0
        unfold seg at this
        rw [Nat.mul_zero, List.drop_zero, List.take_of_length_le (by omega)] at this
        exact this
      rw [← z5n hup w2]
      repeat' first | simp (maxSteps := 4000000) (disch := omega) only [bunL, bunD, bun, ↓z04, ↓z01, z02, findLabel, ↓reduceIte, imp, shift, z0b, z0a, unown, names, z07, below, noF, isF, z03, z09, z08, ren, givL, updM, z0c, renO, belowM, seval, -Int.reduceToNat, B3, B4, B21, B41, B126, bunN, z0t, z0i] | refine DR_q _ ?_ | (refine Fk.fk ?_ ?_ <;> intro hg <;> (try simp only [hg]) <;> (try simp only [bunB] at hg) <;> try (exfalso; first | omega | exact Bool.noConfusion hg | exact hg trivial)) | refine And.intro (by omega) ?_ | omega
theorem znv (A S B : List Int) (off n : Nat) (ho : off = A.length) (hn : n = S.length) (hL : (A ++ S ++ B).length ≤ 1000000) (hr : ∀ r ∈ S, okR r) :
    z5j Tryz.prog 99 [.row true 1 z0q, .row false 1 ((A ++ S ++ B).map I32)] [.ref 1 off n, .fn 100 [] [.ptr 0 0]] [.row true 1 z0q, .row false 1 ((A ++ ssort cls S ++ B).map I32), .fence] (.tup []) := by
  refine z3p (ts := []) ok1 Tryz.func99 rfl rfl (by decide +kernel) (by simp [Tryz.ntmps99]) rfl ?_
  have hc := zqa A S B off n ho hn hL hr
  repeat' first | (refine z17 [0, 1] (hc) ?_; clear hc) | simp (maxSteps := 4000000) (disch := omega) only [bunL, bunD, bun, ↓z04, ↓z01, z02, findLabel, ↓reduceIte, imp, shift, z0b, z0a, unown, names, z07, below, noF, isF, z03, z09, z08, ren, givL, updM, z0c, renO, belowM, seval, -Int.reduceToNat, B3, B21, B41, B126, bunN, z0t, z0i] | exact z0f _ | refine z0e _ _ ?_ | exact Cln.cl | refine z05 _ ?_ | refine z00 _ _ ?_ ?_ | refine DR_q _ ?_ | (refine Fk.fk ?_ ?_ <;> intro hg <;> (try simp only [hg]) <;> (try simp only [bunB] at hg) <;> try (exfalso; first | omega | exact Bool.noConfusion hg | exact hg trivial)) | refine And.intro (by omega) ?_ | omega
end Go.AE
end
section
namespace Go.AE
open Go.Proofs
set_option maxRecDepth 20000
set_option maxHeartbeats 8000000
set_option linter.unusedSimpArgs false
theorem z7s (s : St) : fz s tab = tab := rfl
theorem z5d (n : Nat) : below n tab = true := rfl
theorem z2r : names tab = false := rfl
theorem tb_fz (s : St) : z0q.map (fz1 s) = z0q := rfl
theorem ins_nil : Spec Tryz.prog 127 [.sl 0 [], I64 0, I64 0, .fn 100 [] [.cp z0q]] (.tup []) := by
  refine z0g (z := false) (ts := []) ok1 Tryz.func127 rfl rfl (by decide +kernel) (by simp [Tryz.ntmps127]) rfl ?_
  repeat' first | simp (maxSteps := 4000000) (disch := omega) only [bunL, bunD, bun, ↓z04, ↓z01, z02, findLabel, ↓reduceIte, imp, shift, z0b, z0a, unown, names, z07, below, noF, isF, z03, z09, z08, ren, givL, updM, z0c, renO, belowM, seval, -Int.reduceToNat, B3, B4, B21, B41, B126, bunN, z0t, z0i, z7s, z5d, z2r] | refine DR_q _ ?_ | (refine Fk.fk ?_ ?_ <;> intro hg <;> (try simp only [hg]) <;> (try simp only [bunB] at hg) <;> try (exfalso; first | omega | exact Bool.noConfusion hg | exact hg trivial)) | refine And.intro (by omega) ?_ | omega
  refine z0m (fun i : Nat => ⟨[(2, I64 0), (8, I64 1)], []⟩) (fun i => i = 0) (fun i => 0) 0 rfl (by simp [wk, wkT, wkM, noF, isF, get, z0h, belowM, below, belows, I64, I32, Bv, U8, Sv] <;> try omega) ?_
  rintro i rfl
  repeat' first | simp (maxSteps := 4000000) (disch := omega) only [bunL, bunD, bun, ↓z04, ↓z01, z02, findLabel, ↓reduceIte, imp, shift, z0b, z0a, unown, names, z07, below, noF, isF, z03, z09, z08, ren, givL, updM, z0c, renO, belowM, seval, -Int.reduceToNat, B3, B4, B21, B41, B126, bunN, z0t, z0i, z7s, z5d, z2r] | refine DR_q _ ?_ | (refine Fk.fk ?_ ?_ <;> intro hg <;> (try simp only [hg]) <;> (try simp only [bunB] at hg) <;> try (exfalso; first | omega | exact Bool.noConfusion hg | exact hg trivial)) | refine And.intro (by omega) ?_ | omega
theorem zwr : Spec Tryz.prog 114 [.sl 0 [], I64 0, .fn 100 [] [.cp z0q]] (.tup []) := by
  refine z0g (z := false) (ts := []) ok1 Tryz.func114 rfl rfl (by decide +kernel) (by simp [Tryz.ntmps114]) rfl ?_
  repeat' first | simp (maxSteps := 4000000) (disch := omega) only [bunL, bunD, bun, ↓z04, ↓z01, z02, findLabel, ↓reduceIte, imp, shift, z0b, z0a, unown, names, z07, below, noF, isF, z03, z09, z08, ren, givL, updM, z0c, renO, belowM, seval, -Int.reduceToNat, B3, B4, B21, B41, B126, bunN, z0t, z0i, z7s, z5d, z2r] | refine DR_q _ ?_ | (refine Fk.fk ?_ ?_ <;> intro hg <;> (try simp only [hg]) <;> (try simp only [bunB] at hg) <;> try (exfalso; first | omega | exact Bool.noConfusion hg | exact hg trivial)) | refine And.intro (by omega) ?_ | omega
  refine z0m (fun i : Nat => ⟨[(0, .sl 0 []), (1, I64 0), (2, .fn 100 [] [.cp z0q]), (6, I64 20), (7, I64 0), (8, I64 20)], []⟩) (fun i => i = 0) (fun i => 0) 0 rfl (by simp [wk, wkT, wkM, noF, isF, get, z0h, belowM, below, belows, I64, I32, Bv, U8, Sv] <;> try omega) ?_
  rintro i rfl
  repeat' first | refine z06 (ins_nil) ?_ ?_ | simp (maxSteps := 4000000) (disch := omega) only [bunL, bunD, bun, ↓z04, ↓z01, z02, findLabel, ↓reduceIte, imp, shift, z0b, z0a, unown, names, z07, below, noF, isF, z03, z09, z08, ren, givL, updM, z0c, renO, belowM, seval, -Int.reduceToNat, B3, B4, B21, B41, B126, bunN, z0t, z0i, z7s, z5d, z2r] | exact z0f _ | refine z0e _ _ ?_ | exact Cln.cl | refine z05 _ ?_ | refine z00 _ _ ?_ ?_ | refine DR_q _ ?_ | (refine Fk.fk ?_ ?_ <;> intro hg <;> (try simp only [hg]) <;> (try simp only [bunB] at hg) <;> try (exfalso; first | omega | exact Bool.noConfusion hg | exact hg trivial)) | refine And.intro (by omega) ?_ | omega
  refine z0m (fun i : Nat => ⟨[(1, I64 0), (6, I64 20)], []⟩) (fun i => i = 0) (fun i => 0) 0 rfl (by simp [wk, wkT, wkM, noF, isF, get, z0h, belowM, below, belows, I64, I32, Bv, U8, Sv] <;> try omega) ?_
  rintro i rfl
  repeat' first | simp (maxSteps := 4000000) (disch := omega) only [bunL, bunD, bun, ↓z04, ↓z01, z02, findLabel, ↓reduceIte, imp, shift, z0b, z0a, unown, names, z07, below, noF, isF, z03, z09, z08, ren, givL, updM, z0c, renO, belowM, seval, -Int.reduceToNat, B3, B4, B21, B41, B126, bunN, z0t, z0i, z7s, z5d, z2r] | refine DR_q _ ?_ | (refine Fk.fk ?_ ?_ <;> intro hg <;> (try simp only [hg]) <;> (try simp only [bunB] at hg) <;> try (exfalso; first | omega | exact Bool.noConfusion hg | exact hg trivial)) | refine And.intro (by omega) ?_ | omega
theorem sort_nil : Spec Tryz.prog 99 [.sl 0 [], .fn 100 [] [.cp z0q]] (.tup []) := by
  refine z0g (z := false) (ts := []) ok1 Tryz.func99 rfl rfl (by decide +kernel) (by simp [Tryz.ntmps99]) rfl ?_
  repeat' first | refine z06 (zwr) ?_ ?_ | simp (maxSteps := 4000000) (disch := omega) only [bunL, bunD, bun, ↓z04, ↓z01, z02, findLabel, ↓reduceIte, imp, shift, z0b, z0a, unown, names, z07, below, noF, isF, z03, z09, z08, ren, givL, updM, z0c, renO, belowM, seval, -Int.reduceToNat, B3, B21, B41, B126, bunN, z0t, z0i, z7s, z5d, z2r] | exact z0f _ | refine z0e _ _ ?_ | exact Cln.cl | refine z05 _ ?_ | refine z00 _ _ ?_ ?_ | refine DR_q _ ?_ | (refine Fk.fk ?_ ?_ <;> intro hg <;> (try simp only [hg]) <;> (try simp only [bunB] at hg) <;> try (exfalso; first | omega | exact Bool.noConfusion hg | exact hg trivial)) | refine And.intro (by omega) ?_ | omega
theorem zwd (l : List Int) (hl : l.length ≤ 500000) (hr : ∀ r ∈ l, okR r) : Spec Tryz.prog 80 [tab, .sl l.length (l.map I32)] (.own 21 1 l.length ((ordL l).map I32)) := by
  rw [← z0l]
  refine z0g (z := false) (ts := [.tmp 4]) ok1 Tryz.func80 rfl rfl (by decide +kernel) (by simp [Tryz.ntmps80]) rfl ?_
  repeat' first | refine z06 (zva l (by omega)) ?_ ?_ | simp (maxSteps := 4000000) (disch := omega) only [bunL, bunD, bun, ↓z04, ↓z01, z02, findLabel, ↓reduceIte, imp, shift, z0b, z0a, unown, names, z07, below, noF, isF, z03, z09, z08, ren, givL, updM, z0c, renO, belowM, seval, -Int.reduceToNat, z0w, z2s, D29, B21, B41, B126, bunN, z0t, z0i, z7s, z5d, z2r] | exact z0f _ | refine z0e _ _ ?_ | exact Cln.cl | refine z05 _ ?_ | refine z00 _ _ ?_ ?_ | refine DR_q _ ?_ | (refine Fk.fk ?_ ?_ <;> intro hg <;> (try simp only [hg]) <;> (try simp only [bunB] at hg) <;> try (exfalso; first | omega | exact Bool.noConfusion hg | exact hg trivial)) | refine And.intro (by omega) ?_ | omega
  refine z0m (fun x : Nat × Nat × List Int × List Int × List Int => ⟨[(2, .ptr 0 0), (5, .ref 2 0 l.length), (6, I64 x.1), (7, I64 x.2.1)], [.row true 1 z0q, .dead, .arr 21 1 ((x.2.2.1 ++ x.2.2.2.1 ++ x.2.2.2.2).map I32)]⟩)
    (fun x => (x.2.2.1 ++ x.2.2.2.1 ++ x.2.2.2.2).length = l.length ∧ ((x.1 = x.2.2.1.length ∧ x.2.1 = x.1 + x.2.2.2.1.length ∧ x.2.2.1 ++ ordF x.2.2.2.1 x.2.2.2.2 = ordL l ∧ (∀ r ∈ x.2.2.2.1, okR r) ∧ ∀ r ∈ x.2.2.2.2, okR r) ∨ (x.2.1 = l.length + 1 ∧ x.2.2.2.1 = [] ∧ x.2.2.2.2 = [] ∧ x.2.2.1 = ordL l)))
    (fun x => l.length + 1 - x.2.1) (0, 0, [], [], l) ⟨by simp, .inl ⟨rfl, rfl, rfl, by simp, hr⟩⟩ (by (simp (disch := omega) [wk, wkT, wkM, noF, isF, get, z0h, belowM, below, belows, I64, I32, Bv, U8, Sv, z0i] <;> try omega)) ?_
  rintro ⟨fr, k, D, R, T⟩ ⟨h1, h2⟩
  dsimp only at h1 h2
  rcases h2 with ⟨q1, q2, q3, q4, q5⟩ | ⟨q1, q2, q3, q4⟩
  · have hlen : D.length + R.length + T.length = l.length := by simpa [Nat.add_assoc] using h1
    cases T with
    | nil =>
      simp only [List.append_nil] at *
      rw [ordF] at q3
      have hk : k = l.length := by simp at hlen; omega
      by_cases h0 : 0 < l.length
      · have hc := znv D R [] fr R.length q1 rfl (by simp at hlen; simp; omega) q4
        simp only [List.append_nil] at hc
        have e1 : k - fr = R.length := by omega
        repeat' first | (refine z17 [0, 2] (hc) ?_; clear hc) | simp (maxSteps := 4000000) (disch := omega) only [bunL, bunD, bun, ↓z04, ↓z01, z02, findLabel, ↓reduceIte, imp, shift, z0b, z0a, unown, names, z07, below, noF, isF, z03, z09, z08, ren, givL, updM, z0c, renO, belowM, seval, -Int.reduceToNat, z0w, z2s, z26, e1, h1, D29, B21, B41, B126, bunN, z0t, z0i, z7s, z5d, z2r] | exact z0f _ | refine z0e _ _ ?_ | exact Cln.cl | refine z05 _ ?_ | refine z00 _ _ ?_ ?_ | refine DR_q _ ?_ | (refine Fk.fk ?_ ?_ <;> intro hg <;> (try simp only [hg]) <;> (try simp only [bunB] at hg) <;> try (exfalso; first | omega | exact Bool.noConfusion hg | exact hg trivial)) | refine And.intro (by omega) ?_ | omega
        have hsl := z20 cls R
        refine ⟨(k + 1, k + 1, ordL l, [], []), ⟨by dsimp only; rw [← q3]; simp at hlen; simp; omega, .inr ⟨by dsimp only; omega, rfl, rfl, rfl⟩⟩, by dsimp only; omega, ?_⟩
        rw [← q3]
        (simp (disch := omega) [wk, wkT, wkM, noF, isF, get, z0h, belowM, below, belows, I64, I32, Bv, U8, Sv, z0i] <;> try omega)
      · have hR : R = [] := List.length_eq_zero_iff.1 (by simp at hlen; omega)
        have hD : D = [] := List.length_eq_zero_iff.1 (by simp at hlen; omega)
        have hl0 : l = [] := List.length_eq_zero_iff.1 (by omega)
        subst hR; subst hD; subst hl0
        simp only [List.length_nil] at *
        subst q1
        have hk0 : k = 0 := hk
        subst hk0
        repeat' first | refine z06 (sort_nil) ?_ ?_ | simp (maxSteps := 4000000) (disch := omega) only [bunL, bunD, bun, ↓z04, ↓z01, z02, findLabel, ↓reduceIte, imp, shift, z0b, z0a, unown, names, z07, below, noF, isF, z03, z09, z08, ren, givL, updM, z0c, renO, belowM, seval, -Int.reduceToNat, z0w, z2s, z26, tb_fz, D29, B21, B41, B126, bunN, z0t, z0i, z7s, z5d, z2r] | exact z0f _ | refine z0e _ _ ?_ | exact Cln.cl | refine z05 _ ?_ | refine z00 _ _ ?_ ?_ | refine DR_q _ ?_ | (refine Fk.fk ?_ ?_ <;> intro hg <;> (try simp only [hg]) <;> (try simp only [bunB] at hg) <;> try (exfalso; first | omega | exact Bool.noConfusion hg | exact hg trivial)) | refine And.intro (by omega) ?_ | omega
        refine ⟨(1, 1, [], [], []), ⟨rfl, .inr ⟨rfl, rfl, rfl, rfl⟩⟩, by simp, ?_⟩
        (simp (disch := omega) [wk, wkT, wkM, noF, isF, get, z0h, belowM, below, belows, I64, I32, Bv, U8, Sv, z0i] <;> try omega)
    | cons x T =>
      have hx : okR x := q5 x (by simp)
      have hT : ∀ r ∈ T, okR r := fun r hr' => q5 r (by simp [hr'])
      rw [ordF] at q3
      simp only [List.length_cons] at hlen
      have e0 : (D ++ R ++ x :: T).getD k 0 = x := z4y (by simp; omega)
      by_cases hc : 0 < cls x
      · rw [if_pos hc] at q3
        repeat' first | refine z06 (z4q x hx.1 hx.2) ?_ ?_ | simp (maxSteps := 4000000) (disch := omega) only [bunL, bunD, bun, ↓z04, ↓z01, z02, findLabel, ↓reduceIte, imp, shift, z0b, z0a, unown, names, z07, below, noF, isF, z03, z09, z08, ren, givL, updM, z0c, renO, belowM, seval, -Int.reduceToNat, z0w, z2s, z26, h1, e0, z0l, D29, B21, B41, B126, bunN, z0t, z0i, z7s, z5d, z2r] | exact z0f _ | refine z0e _ _ ?_ | exact Cln.cl | refine z05 _ ?_ | refine z00 _ _ ?_ ?_ | refine DR_q _ ?_ | (refine Fk.fk ?_ ?_ <;> intro hg <;> (try simp only [hg]) <;> (try simp only [bunB] at hg) <;> try (exfalso; first | omega | exact Bool.noConfusion hg | exact hg trivial)) | refine And.intro (by omega) ?_ | omega
        refine ⟨(fr, k + 1, D, R ++ [x], T), ⟨by simp; omega, .inl ⟨q1, by simp; omega, q3, fun r hr' => ?_, hT⟩⟩, by dsimp only; omega, ?_⟩
        · rcases List.mem_append.1 hr' with h | h
          · exact q4 r h
          · simp at h; subst h; exact hx
        · (simp (disch := omega) [wk, wkT, wkM, noF, isF, get, z0h, belowM, below, belows, I64, I32, Bv, U8, Sv, z0i, List.append_assoc] <;> try omega)
      · rw [if_neg hc] at q3
        have hs := znv D R (x :: T) fr R.length q1 rfl (by simp; omega) q4
        have e1 : k - fr = R.length := by omega
        have hsl := z20 cls R
        repeat' first | refine z06 (z4q x hx.1 hx.2) ?_ ?_ | (refine z17 [0, 2] (hs) ?_; clear hs) | simp (maxSteps := 4000000) (disch := omega) only [bunL, bunD, bun, ↓z04, ↓z01, z02, findLabel, ↓reduceIte, imp, shift, z0b, z0a, unown, names, z07, below, noF, isF, z03, z09, z08, ren, givL, updM, z0c, renO, belowM, seval, -Int.reduceToNat, z0w, z2s, z26, e1, h1, e0, z0l, D29, B21, B41, B126, bunN, z0t, z0i, z7s, z5d, z2r] | exact z0f _ | refine z0e _ _ ?_ | exact Cln.cl | refine z05 _ ?_ | refine z00 _ _ ?_ ?_ | refine DR_q _ ?_ | (refine Fk.fk ?_ ?_ <;> intro hg <;> (try simp only [hg]) <;> (try simp only [bunB] at hg) <;> try (exfalso; first | omega | exact Bool.noConfusion hg | exact hg trivial)) | refine And.intro (by omega) ?_ | omega
        refine ⟨(k + 1, k + 1, D ++ ssort cls R ++ [x], [], T), ⟨by simp; omega, .inl ⟨by simp; omega, by simp, ?_, by simp, hT⟩⟩, by dsimp only; omega, ?_⟩
        · simpa using q3
        · (simp (disch := omega) [wk, wkT, wkM, noF, isF, get, z0h, belowM, below, belows, I64, I32, Bv, U8, Sv, z0i, List.append_assoc] <;> try omega)
  · subst q2; subst q3; subst q4
    simp only [List.append_nil] at h1
    repeat' first | simp (maxSteps := 4000000) (disch := omega) only [bunL, bunD, bun, ↓z04, ↓z01, z02, findLabel, ↓reduceIte, imp, shift, z0b, z0a, unown, names, z07, below, noF, isF, z03, z09, z08, ren, givL, updM, z0c, renO, belowM, seval, -Int.reduceToNat, h1, List.append_nil, D29, B21, B41, B126, bunN, z0t, z0i, z7s, z5d, z2r] | refine DR_q _ ?_ | (refine Fk.fk ?_ ?_ <;> intro hg <;> (try simp only [hg]) <;> (try simp only [bunB] at hg) <;> try (exfalso; first | omega | exact Bool.noConfusion hg | exact hg trivial)) | refine And.intro (by omega) ?_ | omega
end Go.AE
end
