/- Contracts of functions that the laws of this seat reach, and plain laws of what they compute. No condition beyond each statement's own. -/
import Derived.Test.YtoppecphhiiiiaaGreatDoorK1
import Derived.Test.YtoppecphhiiiiaaGreatDoorV1
import Derived.Test.YtoppecphhiiiiaaGreatDoorU1
set_option linter.unusedVariables false
set_option linter.unusedSimpArgs false
section
namespace Go.AE
open Go.Proofs
set_option maxHeartbeats 8000000
set_option maxRecDepth 20000
def okR (r : Int) : Prop := -2147483648 ≤ r ∧ r ≤ 2147483647
theorem zwn (r : Int) : cls r ≤ 300 := by
 by_cases h : cls r = 0
 · omega
 · have := List.all_eq_true.1 (show (zwm.all fun r => decide (cls r ≤ 300)) = true by decide +kernel) r (zs1 h)
   simpa using this
def z0f : List AV := zco (sM 42) (pM 42)
theorem z0e : (AV.ag z0f) = tab := rfl
theorem z2p : z0f.length = 5 := rfl
theorem z2c (ρ : Nat → Nat) : rens ρ z0f = z0f := rfl
theorem z39 : z0f.all z78 = true := rfl
theorem z7q : z0f.take 5 = z0f := rfl
theorem z0d (n : Nat) : belows n z0f = true := rfl
theorem z3c (a b : Int) (ha : okR a) (hb : okR b) : z0q Tryz.prog 165 [I32 a, I32 b, .cp z0f] (I64 (cls a - cls b)) := by
 refine sp [.tmp 5] Tryz.func165 Tryz.ntmps165 ?_
 have h1 := z9a a
 have h2 := z9a b
 have h3 := zwn a
 have h4 := zwn b
 repeat' first | refine z07 (z5c a ha.1 ha.2) ?_ ?_ | refine z07 (z5c b hb.1 hb.2) ?_ ?_ | simp (maxSteps := 4000000) (disch := omega) only [z13, z12, bun, ↓z05, ↓z01, z03, findLabel, ↓reduceIte, imp, shift, z0g, z0c, unown, names, z08, below, noF, isF, z04, z0a, z09, ren, z0t, z0u, z0h, renO, belowM, seval, -Int.reduceToNat, z0f, zco, tab, D29, z14, Int.toNat_zero] | exact z0n _ | refine z0m _ _ ?_ | exact Cln.cl | refine z02 _ ?_ | refine z00 _ _ ?_ ?_ | refine z10 _ ?_ | (refine Fk.fk ?_ ?_ <;> intro hg <;> (try simp only [hg]) <;> (try simp only [z11] at hg) <;> try (exfalso; first | omega | exact Bool.noConfusion hg | exact hg trivial)) | refine And.intro (by omega) ?_ | omega
theorem zzm (l : List Int) (hl : l.length ≤ 1000000) : z0q Tryz.prog 162 [.sl l.length (l.map I32)] (.own 21 1 l.length (l.map I32)) := by
 by_cases h0 : 0 < l.length
 · refine sp [.tmp 2] Tryz.func162 Tryz.ntmps162 ?_
   repeat' first | simp (maxSteps := 4000000) (disch := omega) only [z13, z12, bun, ↓z05, ↓z01, z03, findLabel, ↓reduceIte, imp, shift, z0g, z0c, unown, names, z08, below, noF, isF, z04, z0a, z09, ren, z0t, z0u, z0h, renO, belowM, seval, -Int.reduceToNat, B4, B21, B63, z14, Int.toNat_zero] | refine z10 _ ?_ | (refine Fk.fk ?_ ?_ <;> intro hg <;> (try simp only [hg]) <;> (try simp only [z11] at hg) <;> try (exfalso; first | omega | exact Bool.noConfusion hg | exact hg trivial)) | refine And.intro (by omega) ?_ | omega
 · have e : l = [] := List.length_eq_zero_iff.1 (by omega)
   subst e
   have c0 : z0q Tryz.prog 162 [.v (.slice none 0 0)] (.own 21 1 0 []) := by
     refine sp [.tmp 2] Tryz.func162 Tryz.ntmps162 ?_
     repeat' first | simp (maxSteps := 4000000) (disch := omega) only [z13, z12, bun, ↓z05, ↓z01, z03, findLabel, ↓reduceIte, imp, shift, z0g, z0c, unown, names, z08, below, noF, isF, z04, z0a, z09, ren, z0t, z0u, z0h, renO, belowM, seval, -Int.reduceToNat, B4, B21, B63, z14, Int.toNat_zero] | refine z10 _ ?_ | (refine Fk.fk ?_ ?_ <;> intro hg <;> (try simp only [hg]) <;> (try simp only [z11] at hg) <;> try (exfalso; first | omega | exact Bool.noConfusion hg | exact hg trivial)) | refine And.intro (by omega) ?_ | omega
   have c1 : ∀ b o c, z0q Tryz.prog 162 [.v (.slice (some ⟨b, o, none⟩) 0 c)] (.own 21 1 0 []) := by
     intro b o c
     refine sp [.tmp 2] Tryz.func162 Tryz.ntmps162 ?_
     repeat' first | simp (maxSteps := 4000000) (disch := omega) only [z13, z12, bun, ↓z05, ↓z01, z03, findLabel, ↓reduceIte, imp, shift, z0g, z0c, unown, names, z08, below, noF, isF, z04, z0a, z09, ren, z0t, z0u, z0h, renO, belowM, seval, -Int.reduceToNat, B4, B21, B63, z14, Int.toNat_zero] | refine z10 _ ?_ | (refine Fk.fk ?_ ?_ <;> intro hg <;> (try simp only [hg]) <;> (try simp only [z11] at hg) <;> try (exfalso; first | omega | exact Bool.noConfusion hg | exact hg trivial)) | refine And.intro (by omega) ?_ | omega
   refine ⟨c0.1, fun w F vs hw hT hr => ?_⟩
   cases hr with
   | cons h0 hr =>
     cases hr
     rcases h0.sl_inv with ⟨h1, _⟩ | ⟨a, cap, us, h1, _, _, h4, _⟩
     · rw [h1]
       exact c0.2 w F _ hw hT (.cons (.v _) .nil)
     · rw [h1]
       obtain ⟨b, o, sp⟩ := a
       have h5 : sp = none := h4.1
       subst h5
       exact (c1 b o cap).2 w F _ hw hT (.cons (.v _) .nil)
theorem z38 : ∀ (L : List Int) (k : Nat) (x : Int), zck (L.map I32) k (.v (.int .i32 x)) = (L.set k x).map I32
 | [], _, _ => rfl
 | a :: L, 0, x => rfl
 | a :: L, k + 1, x => by
   have := z38 L k x
   simp only [List.map_cons, zck, List.set_cons_succ, this]
theorem z6e (L : List Int) (off len a b n : Nat) (h1 : a + n ≤ len) (h2 : b + n ≤ len) (h3 : off + len ≤ L.length) (hd : a + n ≤ b) (hL : L.length ≤ 1000000) : z4a Tryz.prog 222 [.row true 1 z0f, .row false 1 (L.map I32)] [.ref 1 off len, I64 a, I64 b, I64 n, .fn 165 [] [.ptr 0 0]] [.row true 1 z0f, .row false 1 ((swR L (off + a) (off + b) n).map I32), .fence] (.tup []) := by
 refine z2g (ts := []) ok1 Tryz.func222 rfl rfl (by decide +kernel) (by simp [Tryz.ntmps222]) rfl ?_
 have hbt : belows 3 z0f = true := rfl
 repeat' first | simp (maxSteps := 4000000) (disch := omega) only [z13, z12, bun, ↓z05, ↓z01, z03, findLabel, ↓reduceIte, imp, shift, z0g, z0c, unown, names, z08, below, noF, isF, z04, z0a, z09, ren, z0t, z0u, z0h, renO, belowM, seval, -Int.reduceToNat, B3, B4, B21, B63, z36, z14, Int.toNat_zero] | refine z10 _ ?_ | (refine Fk.fk ?_ ?_ <;> intro hg <;> (try simp only [hg]) <;> (try simp only [z11] at hg) <;> try (exfalso; first | omega | exact Bool.noConfusion hg | exact hg trivial)) | refine And.intro (by omega) ?_ | omega
 refine z0j (fun i : Nat => ⟨[(0, .ref 1 off len), (1, I64 a), (2, I64 b), (3, I64 n), (10, I64 i)], [.row true 1 z0f, .row false 1 ((swR L (off + a) (off + b) i).map I32), .fence]⟩) (fun i => i ≤ n) (fun i => n - i) 0 (by simp) (by (simp (disch := omega) [wk, wkT, wkM, noF, isF, get, z0b, belowM, below, belows, I64, I32, Bv, U8, Sv, swR, hbt] <;> try omega)) ?_
 intro i hi
 have hsl := y01e L (off + a) (off + b) i
 by_cases hlt : i < n
 · have e1 : ((a : Int) + (i : Int)).toNat = a + i := by omega
   have e2 : ((b : Int) + (i : Int)).toNat = b + i := by omega
   repeat' first | simp (maxSteps := 4000000) (disch := omega) only [z13, z12, bun, ↓z05, ↓z01, z03, findLabel, ↓reduceIte, imp, shift, z0g, z0c, unown, names, z08, below, noF, isF, z04, z0a, z09, ren, z0t, z0u, z0h, renO, belowM, seval, -Int.reduceToNat, hsl, z38, e1, e2, List.length_set, B3, B4, B21, B63, z36, z14, Int.toNat_zero] | refine z10 _ ?_ | (refine Fk.fk ?_ ?_ <;> intro hg <;> (try simp only [hg]) <;> (try simp only [z11] at hg) <;> try (exfalso; first | omega | exact Bool.noConfusion hg | exact hg trivial)) | refine And.intro (by omega) ?_ | omega
   refine ⟨i + 1, by omega, by omega, ?_⟩
   rw [swR, ← Nat.add_assoc, ← Nat.add_assoc]
   (simp (disch := omega) [wk, wkT, wkM, noF, isF, get, z0b, belowM, below, belows, I64, I32, Bv, U8, Sv, hbt] <;> try omega)
 · have e : i = n := by omega
   subst e
   repeat' first | simp (maxSteps := 4000000) (disch := omega) only [z13, z12, bun, ↓z05, ↓z01, z03, findLabel, ↓reduceIte, imp, shift, z0g, z0c, unown, names, z08, below, noF, isF, z04, z0a, z09, ren, z0t, z0u, z0h, renO, belowM, seval, -Int.reduceToNat, B3, B4, B21, B63, z36, z14, Int.toNat_zero] | refine z10 _ ?_ | (refine Fk.fk ?_ ?_ <;> intro hg <;> (try simp only [hg]) <;> (try simp only [z11] at hg) <;> try (exfalso; first | omega | exact Bool.noConfusion hg | exact hg trivial)) | refine And.intro (by omega) ?_ | omega
theorem dwS2 {P Q R S : Prop} {H : Prop} (o : H) (a : Q) (b : R) (c : S) (h : H → Mk P → Hid Q → Hid R → Hid S → P := by
 intro w m q r s
 repeat' first | refine z07 (by first | assumption | (apply_assumption <;> first | assumption | omega)) ?_ ?_ | refine LSp.fit (by assumption) ?_ | simp (maxSteps := 4000000) (disch := omega) only [z13, z12, bun, ↓z05, ↓z01, z03, findLabel, ↓reduceIte, imp, shift, z0g, z0c, unown, names, z08, below, noF, isF, z04, z0a, z09, ren, z0t, z0u, z0h, renO, belowM, seval, -Int.reduceToNat, bT, z14, z2c, z0d, w] | exact z0n _ | refine z0m _ _ ?_ | exact Cln.cl | refine z02 _ ?_ | refine z00 _ _ ?_ ?_ | refine z10 _ ?_ | (refine Fk.fk ?_ ?_ <;> intro hg <;> (try simp only [hg]) <;> (try simp only [z11] at hg) <;> try (exfalso; first | omega | exact Bool.noConfusion hg | exact hg trivial)) | refine And.intro (by omega) ?_ | omega
 first
 | done
 | all_goals (repeat revert hg)
   fail_if_success with_reducible refine m.use ?_
   exact q.out
   first
   | done
   | exact r.out
     first
     | done
     | exact s.out
       first | done | fail) : P := h o ⟨tru⟩ ⟨a⟩ ⟨b⟩ ⟨c⟩
theorem ztn (A X Y B : List Int) (off len a m b : Nat) (hX : 0 < X.length) (hY : 0 < Y.length) (ha : off + a = A.length) (hm : m = a + X.length) (hb : b = m + Y.length) (hl : b ≤ len) (ho : off + len ≤ (A ++ X ++ Y ++ B).length) (hL : (A ++ X ++ Y ++ B).length ≤ 1000000) :
   z4a Tryz.prog 217 [.row true 1 z0f, .row false 1 ((A ++ X ++ Y ++ B).map I32)] [.ref 1 off len, I64 a, I64 m, I64 b, .fn 165 [] [.ptr 0 0]] [.row true 1 z0f, .row false 1 ((A ++ Y ++ X ++ B).map I32), .fence] (.tup []) := by
 refine z2g (ts := []) ok1 Tryz.func217 rfl rfl (by decide +kernel) (by simp [Tryz.ntmps217]) rfl ?_
 refine dwS2 tru ?_ tru tru <;> intros
 refine z0j (fun x : List Int × List Int × List Int × List Int => ⟨[(0, .ref 1 off len), (2, I64 m), (4, .fn 165 [] [.ptr 0 0]), (10, I64 x.2.1.length), (11, I64 x.2.2.1.length)], [.row true 1 z0f, .row false 1 ((x.1 ++ x.2.1 ++ x.2.2.1 ++ x.2.2.2).map I32), .fence]⟩)
   (fun x => 0 < x.2.1.length ∧ 0 < x.2.2.1.length ∧ off + m = x.1.length + x.2.1.length ∧ (x.1 ++ x.2.1 ++ x.2.2.1 ++ x.2.2.2).length = (A ++ X ++ Y ++ B).length ∧ x.1 ++ x.2.2.1 ++ x.2.1 ++ x.2.2.2 = A ++ Y ++ X ++ B ∧ off + a ≤ x.1.length ∧ x.1.length + x.2.1.length + x.2.2.1.length ≤ off + b) (fun x => x.2.1.length + x.2.2.1.length) (A, X, Y, B) ⟨hX, hY, by dsimp only; omega, rfl, rfl, by dsimp only; omega, by dsimp only; omega⟩ ?_ ?_
 · have e1 : (m : Int) - a = X.length := by omega
   have e2 : (b : Int) - m = Y.length := by omega
   (simp (disch := omega) [wk, wkT, wkM, noF, isF, get, z0b, belowM, below, belows, I64, I32, Bv, U8, Sv, z0d, e1, e2] <;> try omega)
 · rintro ⟨P, X', Y', Q⟩ ⟨q1, q2, q3, q4, q5, q6, q7⟩
   dsimp only at q1 q2 q3 q4 q5 q6 q7
   have hlen : (P ++ X' ++ Y' ++ Q).length = P.length + X'.length + Y'.length + Q.length := by simp; omega
   have hlen2 : (A ++ X ++ Y ++ B).length = A.length + X.length + Y.length + B.length := by simp; omega
   have c1 : (m : Int) - X'.length = ((m - X'.length : Nat) : Int) := by omega
   by_cases hij : X'.length = Y'.length
   · have hs : swR (P ++ X' ++ Y' ++ Q) (off + (m - X'.length)) (off + m) X'.length = P ++ Y' ++ X' ++ Q := by
       have := znw X'.length P X' [] Y' Q rfl hij.symm
       simp only [List.append_nil, List.length_nil, Nat.add_zero] at this
       rw [show off + (m - X'.length) = P.length by omega, show off + m = P.length + X'.length by omega]
       exact this
     (have := LSp.mk (σ := [0, 1]) (z6e (P ++ X' ++ Y' ++ Q) off len (m - X'.length) m X'.length (by omega) (by omega) (by omega) (by omega) (by omega)); refine dwS2 (And.intro c1 hs) ?_ tru tru <;> intros)
     rw [q5]
   · by_cases hgt : Y'.length < X'.length
     · have hX' : X' = X'.take Y'.length ++ X'.drop Y'.length := (List.take_append_drop _ _).symm
       have l1 : (X'.take Y'.length).length = Y'.length := by simp; omega
       have l2 : (X'.drop Y'.length).length = X'.length - Y'.length := by simp
       have hs : swR (P ++ X' ++ Y' ++ Q) (off + (m - X'.length)) (off + m) Y'.length = P ++ Y' ++ X'.drop Y'.length ++ X'.take Y'.length ++ Q := by
         have := znw Y'.length P (X'.take Y'.length) (X'.drop Y'.length) Y' Q l1 rfl
         rw [List.append_assoc P, List.take_append_drop] at this
         rw [show off + (m - X'.length) = P.length by omega, show off + m = P.length + Y'.length + (X'.drop Y'.length).length by omega]
         exact this
       have c2 : (X'.length : Int) - Y'.length = ((X'.drop Y'.length).length : Int) := by omega
       (have := LSp.mk (σ := [0, 1]) (z6e (P ++ X' ++ Y' ++ Q) off len (m - X'.length) m Y'.length (by omega) (by omega) (by omega) (by omega) (by omega)); refine dwS2 (And.intro c1 (And.intro hs c2)) ?_ tru tru <;> intros)
       refine ⟨(P ++ Y', X'.drop Y'.length, X'.take Y'.length, Q), ⟨?_, ?_, ?_, ?_, ?_, ?_, ?_⟩, ?_, ?_⟩
       · rw [l2]; omega
       · rw [l1]; omega
       · rw [List.length_append, l2]; omega
       · simp only [List.length_append, l1, l2]; omega
       · rw [← q5]
         conv => rhs; rw [hX']
         simp only [List.append_assoc]
       · rw [List.length_append]; omega
       · rw [List.length_append, l1, l2]; omega
       · dsimp only; rw [l1, l2]; omega
       · (simp (disch := omega) [wk, wkT, wkM, noF, isF, get, z0b, belowM, below, belows, I64, I32, Bv, U8, Sv, z0d] <;> try omega)
     · have hY' : Y' = Y'.take (Y'.length - X'.length) ++ Y'.drop (Y'.length - X'.length) := (List.take_append_drop _ _).symm
       have l1 : (Y'.take (Y'.length - X'.length)).length = Y'.length - X'.length := by simp
       have l2 : (Y'.drop (Y'.length - X'.length)).length = X'.length := by simp; omega
       have hs : swR (P ++ X' ++ Y' ++ Q) (off + (m - X'.length)) (off + (m + Y'.length - X'.length)) X'.length = P ++ Y'.drop (Y'.length - X'.length) ++ Y'.take (Y'.length - X'.length) ++ X' ++ Q := by
         have := znw X'.length P X' (Y'.take (Y'.length - X'.length)) (Y'.drop (Y'.length - X'.length)) Q rfl l2
         rw [List.append_assoc (P ++ X'), List.take_append_drop] at this
         rw [show off + (m - X'.length) = P.length by omega, show off + (m + Y'.length - X'.length) = P.length + X'.length + (Y'.take (Y'.length - X'.length)).length by omega]
         exact this
       have c2 : (Y'.length : Int) - X'.length = ((Y'.take (Y'.length - X'.length)).length : Int) := by omega
       have c3 : (m : Int) + Y'.length - X'.length = ((m + Y'.length - X'.length : Nat) : Int) := by omega
       (have := LSp.mk (σ := [0, 1]) (z6e (P ++ X' ++ Y' ++ Q) off len (m - X'.length) (m + Y'.length - X'.length) X'.length (by omega) (by omega) (by omega) (by omega) (by omega)); refine dwS2 (And.intro c1 (And.intro hs (And.intro c2 c3))) ?_ tru tru <;> intros)
       refine ⟨(P, Y'.drop (Y'.length - X'.length), Y'.take (Y'.length - X'.length), X' ++ Q), ⟨?_, ?_, ?_, ?_, ?_, ?_, ?_⟩, ?_, ?_⟩
       · rw [l2]; omega
       · rw [l1]; omega
       · rw [l2]; omega
       · simp only [List.length_append, l1, l2]; omega
       · rw [← q5]
         conv => rhs; rw [hY']
         simp only [List.append_assoc]
       · exact q6
       · dsimp only; rw [l1, l2]; omega
       · dsimp only; rw [l1, l2]; omega
       · (simp (disch := omega) [wk, wkT, wkM, noF, isF, get, z0b, belowM, below, belows, I64, I32, Bv, U8, Sv, z0d, l2] <;> try omega)
theorem zyy {P Q : List Int} {u v : Int} {k : Nat} (h : k = P.length) : ((P ++ u :: v :: Q).set (k + 1) u).set k v = P ++ v :: u :: Q := by
 subst h; simp
theorem zcp {T : List Int} {j : Nat} (h0 : 0 < j) (h : j ≤ T.length) : T.take j = T.take (j - 1) ++ [T.getD (j - 1) 0] ∧ T.drop (j - 1) = T.getD (j - 1) 0 :: T.drop j := by
 obtain ⟨j, rfl⟩ : ∃ k, j = k + 1 := ⟨j - 1, by omega⟩
 simp only [Nat.add_sub_cancel]
 exact ⟨z1h T j 0 (by omega), by rw [List.drop_eq_getElem_cons (by omega)]; simp [List.getD, show j < T.length by omega]⟩
theorem zk9 {T : List Int} {x : Int} {j : Nat} (hT : Up cls T) (hj : j ≤ T.length) (h1 : ∀ w ∈ T.drop j, cls x < cls w) (h2 : 0 < j → cls (T.getD (j - 1) 0) ≤ cls x) : T.take j ++ x :: T.drop j = ssort cls (T ++ [x]) := by
 have := zr3 (f := cls) (x := x) (A := T.take j) (B := T.drop j) (by rw [List.take_append_drop]; exact hT) (fun w hw => ?_) h1
 · rw [List.take_append_drop] at this; exact this
 · by_cases h0 : 0 < j
   · obtain ⟨e1, _⟩ := zcp h0 hj
     have hT' : Up cls (T.take j) := by
       rw [← List.take_append_drop j T] at hT
       exact (Up.append.1 hT).1
     rw [e1] at hT' hw
     rcases List.mem_append.1 hw with hw | hw
     · have := y09r hT' w hw
       have := h2 h0; omega
     · simp at hw; subst hw; exact h2 h0
   · have : j = 0 := by omega
     subst this
     simp at hw
theorem dvS3 {P Q R S : Prop} (a : Q) (b : R) (c : S) (h : Mk P → Hid Q → Hid R → Hid S → P := by
 intro m q r s
 repeat' first | refine z07 (by first | assumption | (apply_assumption <;> first | assumption | omega)) ?_ ?_ | refine LSp.fit (by assumption) ?_ | simp (maxSteps := 4000000) (disch := omega) only [z13, z12, bun, ↓z05, ↓z01, z03, findLabel, ↓reduceIte, imp, shift, z0g, z0c, unown, names, z08, below, noF, isF, z04, z0a, z09, ren, z0t, z0u, z0h, renO, belowM, seval, -Int.reduceToNat, bT, z14, z2c, z0d, z38, List.length_set, *] | exact z0n _ | refine z0m _ _ ?_ | exact Cln.cl | refine z02 _ ?_ | refine z00 _ _ ?_ ?_ | refine z10 _ ?_ | (refine Fk.fk ?_ ?_ <;> intro hg <;> (try simp only [hg]) <;> (try simp only [z11] at hg) <;> try (exfalso; first | omega | exact Bool.noConfusion hg | exact hg trivial)) | refine And.intro (by omega) ?_ | omega
 first
 | done
 | all_goals (repeat revert hg)
   fail_if_success with_reducible refine m.use ?_
   exact q.out
   first
   | done
   | exact r.out
     first
     | done
     | exact s.out
       first | done | fail) : P := h ⟨tru⟩ ⟨a⟩ ⟨b⟩ ⟨c⟩
theorem za5 (A S B : List Int) (off len a b : Nat) (ha : off + a = A.length) (hb : b = a + S.length) (hl : b ≤ len) (ho : off + len ≤ (A ++ S ++ B).length) (hL : (A ++ S ++ B).length ≤ 1000000) (hr : ∀ r ∈ S, okR r) :
   z4a Tryz.prog 207 [.row true 1 z0f, .row false 1 ((A ++ S ++ B).map I32)] [.ref 1 off len, I64 a, I64 b, .fn 165 [] [.ptr 0 0]] [.row true 1 z0f, .row false 1 ((A ++ ssort cls S ++ B).map I32), .fence] (.tup []) := by
 refine z2g (ts := []) ok1 Tryz.func207 rfl rfl (by decide +kernel) (by simp [Tryz.ntmps207]) rfl ?_
 have hlen : (A ++ S ++ B).length = A.length + S.length + B.length := by simp; omega
 refine dvS3 ?_ tru tru <;> intros
 refine z0j (fun i : Nat => ⟨[(0, .ref 1 off len), (1, I64 a), (2, I64 b), (3, .fn 165 [] [.ptr 0 0]), (8, I64 (a + i))], [.row true 1 z0f, .row false 1 ((A ++ ssort cls (S.take i) ++ S.drop i ++ B).map I32), .fence]⟩)
   (fun i => 1 ≤ i ∧ (i ≤ S.length ∨ i = 1)) (fun i => S.length + 1 - i) 1 ⟨Nat.le_refl _, .inr rfl⟩ ?_ ?_
 · have e : A ++ ssort cls (S.take 1) ++ S.drop 1 ++ B = A ++ S ++ B := by
     have : ssort cls (S.take 1) = S.take 1 := zcm (by cases S <;> simp [Up])
     rw [this, List.append_assoc A, List.take_append_drop]
   rw [e]
   (simp (disch := omega) [wk, wkT, wkM, noF, isF, get, z0b, belowM, below, belows, I64, I32, Bv, U8, Sv, z0d] <;> try omega)
 · rintro i ⟨hi1, hi2⟩
   by_cases hlt : i < S.length
   · obtain ⟨hTu, hTk⟩ := z2h cls (S.take i)
     have hTl := z1n cls (S.take i)
     rw [List.length_take, Nat.min_eq_left (by omega)] at hTl
     have hsx : S.drop i = S.getD i 0 :: S.drop (i + 1) := by rw [List.drop_eq_getElem_cons hlt]; simp [List.getD, hlt]
     have hst := z1h S i 0 hlt
     have hrx : okR (S.getD i 0) := hr _ (by simp [List.getD, hlt])
     have hrT : ∀ w ∈ ssort cls (S.take i), okR w := fun w hw => hr w (List.mem_of_mem_take (hTk.mem.1 hw))
     have hfin : ssort cls (S.take (i + 1)) = ssort cls (ssort cls (S.take i) ++ [S.getD i 0]) := by rw [hst]; exact zb3 ((hTk.app (Kin.refl _ _)).symm)
     have hdl : (S.drop (i + 1)).length = S.length - (i + 1) := List.length_drop
     rw [hsx]
     generalize S.getD i 0 = x at *
     generalize ssort cls (S.take i) = T at *
     generalize hD : S.drop (i + 1) = D at *
     refine dvS3 ?_ tru tru <;> intros
     refine z0j (fun j : Nat => ⟨[(0, .ref 1 off len), (1, I64 a), (2, I64 b), (3, .fn 165 [] [.ptr 0 0]), (8, I64 (a + i)), (9, I64 (a + j))], [.row true 1 z0f, .row false 1 ((A ++ T.take j ++ x :: T.drop j ++ D ++ B).map I32), .fence]⟩)
       (fun j => j ≤ T.length ∧ ∀ w ∈ T.drop j, cls x < cls w) (fun j => j) i ⟨by omega, by rw [List.drop_of_length_le (by omega)]; simp⟩ ?_ ?_
     · rw [List.take_of_length_le (by omega), List.drop_of_length_le (by omega)]
       (simp (disch := omega) [wk, wkT, wkM, noF, isF, get, z0b, belowM, below, belows, I64, I32, Bv, U8, Sv, z0d] <;> try omega)
     · rintro j ⟨hj, hw⟩
       have hlj : (A ++ T.take j ++ x :: T.drop j ++ D ++ B).length = A.length + S.length + B.length := by simp; omega
       have hx : (A ++ T.take j ++ x :: T.drop j ++ D ++ B).getD (off + (a + j)) 0 = x := by
         rw [List.append_assoc _ _ D, List.append_assoc _ _ B, List.cons_append, List.cons_append]
         exact z4p (by simp; omega)
       have e1 : ((a : Int) + (j : Int)).toNat = a + j := by omega
       by_cases h0 : 0 < j
       · obtain ⟨t1, t2⟩ := zcp h0 hj
         have e2 : ((a : Int) + (j : Int) - 1).toNat = a + (j - 1) := by omega
         have hru : okR (T.getD (j - 1) 0) := hrT _ (by simp [List.getD, show j - 1 < T.length by omega])
         have hu : (A ++ T.take j ++ x :: T.drop j ++ D ++ B).getD (off + (a + (j - 1))) 0 = T.getD (j - 1) 0 := by
           rw [t1]
           have : A ++ (T.take (j - 1) ++ [T.getD (j - 1) 0]) ++ x :: T.drop j ++ D ++ B = (A ++ T.take (j - 1)) ++ T.getD (j - 1) 0 :: (x :: T.drop j ++ D ++ B) := by simp
           rw [this]
           exact z4p (by simp; omega)
         have hsw : ((A ++ T.take j ++ x :: T.drop j ++ D ++ B).set (off + (a + j)) (T.getD (j - 1) 0)).set (off + (a + (j - 1))) x = A ++ T.take (j - 1) ++ x :: T.drop (j - 1) ++ D ++ B := by
           rw [t1, t2]
           have : A ++ (T.take (j - 1) ++ [T.getD (j - 1) 0]) ++ x :: T.drop j ++ D ++ B = (A ++ T.take (j - 1)) ++ T.getD (j - 1) 0 :: x :: (T.drop j ++ D ++ B) := by simp
           rw [this, show off + (a + j) = off + (a + (j - 1)) + 1 by omega, zyy (by simp; omega)]
           simp
         generalize hue : T.getD (j - 1) 0 = u at *
         by_cases hc : cls x < cls u
         · repeat' first | refine z07 (z3c x u hrx hru) ?_ ?_ | simp (maxSteps := 4000000) (disch := omega) only [z13, z12, bun, ↓z05, ↓z01, z03, findLabel, ↓reduceIte, imp, shift, z0g, z0c, unown, names, z08, below, noF, isF, z04, z0a, z09, ren, z0t, z0u, z0h, renO, belowM, seval, -Int.reduceToNat, e1, e2, hx, hu, hlj, z38, List.length_set, hsw, B3, B4, B21, B63, z36, z14, z2c, z0d] | exact z0n _ | refine z0m _ _ ?_ | exact Cln.cl | refine z02 _ ?_ | refine z00 _ _ ?_ ?_ | refine z10 _ ?_ | (refine Fk.fk ?_ ?_ <;> intro hg <;> (try simp only [hg]) <;> (try simp only [z11] at hg) <;> try (exfalso; first | omega | exact Bool.noConfusion hg | exact hg trivial)) | refine And.intro (by omega) ?_ | omega
           refine ⟨j - 1, ⟨by omega, fun w hw' => ?_⟩, by omega, ?_⟩
           · rw [t2] at hw'
             rcases List.mem_cons.1 hw' with rfl | hw'
             · exact hc
             · exact hw w hw'
           · (simp (disch := omega) [wk, wkT, wkM, noF, isF, get, z0b, belowM, below, belows, I64, I32, Bv, U8, Sv, z0d] <;> try omega)
         · repeat' first | refine z07 (z3c x u hrx hru) ?_ ?_ | simp (maxSteps := 4000000) (disch := omega) only [z13, z12, bun, ↓z05, ↓z01, z03, findLabel, ↓reduceIte, imp, shift, z0g, z0c, unown, names, z08, below, noF, isF, z04, z0a, z09, ren, z0t, z0u, z0h, renO, belowM, seval, -Int.reduceToNat, e1, e2, hx, hu, hlj, z38, List.length_set, B3, B4, B21, B63, z36, z14, z2c, z0d] | exact z0n _ | refine z0m _ _ ?_ | exact Cln.cl | refine z02 _ ?_ | refine z00 _ _ ?_ ?_ | refine z10 _ ?_ | (refine Fk.fk ?_ ?_ <;> intro hg <;> (try simp only [hg]) <;> (try simp only [z11] at hg) <;> try (exfalso; first | omega | exact Bool.noConfusion hg | exact hg trivial)) | refine And.intro (by omega) ?_ | omega
           have hio := zk9 (j := j) hTu hj hw (fun _ => by rw [hue]; omega)
           refine ⟨i + 1, ⟨by omega, .inl (by omega)⟩, by omega, ?_⟩
           rw [hD, hfin, ← hio, ← List.append_assoc A]
           (simp (disch := omega) [wk, wkT, wkM, noF, isF, get, z0b, belowM, below, belows, I64, I32, Bv, U8, Sv, z0d] <;> try omega)
       · have e : j = 0 := by omega
         subst e
         have hio := zk9 (j := 0) hTu hj hw (fun h => by omega)
         refine dvS3 ?_ tru tru <;> intros
         refine ⟨i + 1, ⟨by omega, .inl (by omega)⟩, by omega, ?_⟩
         rw [hD, hfin, ← hio]
         (simp (disch := omega) [wk, wkT, wkM, noF, isF, get, z0b, belowM, below, belows, I64, I32, Bv, U8, Sv, z0d] <;> try omega)
   · have e1 : S.take i = S := List.take_of_length_le (by omega)
     have e2 : S.drop i = [] := List.drop_of_length_le (by omega)
     exact dvS3 tru tru tru
theorem y09i {P Q : List Int} {u v : Int} {k : Nat} (h : k = P.length) : ((P ++ u :: v :: Q).set k v).set (k + 1) u = P ++ v :: u :: Q := by
 subst h; simp
theorem zo0 {f : Int → Int} {T : List Int} {j : Nat} {x : Int} (hT : Up f T) (hj : j ≤ T.length) (h2 : 0 < j → f (T.getD (j - 1) 0) ≤ x) : ∀ w ∈ T.take j, f w ≤ x := fun w hw => by
 by_cases h0 : 0 < j
 · obtain ⟨e1, _⟩ := zcp h0 hj
   have hT' : Up f (T.take j) := by
     rw [← List.take_append_drop j T] at hT
     exact (Up.append.1 hT).1
   rw [e1] at hT' hw
   rcases List.mem_append.1 hw with hw | hw
   · have := y09r hT' w hw
     have := h2 h0; omega
   · simp at hw; subst hw; exact h2 h0
 · have : j = 0 := by omega
   subst this
   simp at hw
theorem zfd {f : Int → Int} {T : List Int} {j : Nat} {x : Int} (hT : Up f T) (h2 : j < T.length → x ≤ f (T.getD j 0)) : ∀ w ∈ T.drop j, x ≤ f w := fun w hw => by
 by_cases h0 : j < T.length
 · have e : T.drop j = T.getD j 0 :: T.drop (j + 1) := by rw [List.drop_eq_getElem_cons h0]; simp [List.getD, h0]
   have hT' : Up f (T.drop j) := by
     rw [← List.take_append_drop j T] at hT
     exact (Up.append.1 hT).2.1
   rw [e] at hT' hw
   rcases List.mem_cons.1 hw with rfl | hw
   · exact h2 h0
   · have := hT'.1 w hw
     have := h2 h0; omega
 · rw [List.drop_of_length_le (by omega)] at hw; cases hw
theorem zk8 {A X R : List Int} {k : Nat} (h : k < X.length) : (A ++ X ++ R).getD (A.length + k) 0 = X.getD k 0 := by
 rw [List.append_assoc, List.getD_eq_getElem?_getD, List.getElem?_append_right (by omega), List.getElem?_append_left (by omega), ← List.getD_eq_getElem?_getD]
 congr 1; omega
theorem z6n {X : List Int} {k : Nat} (h : k < X.length) : X.getD k 0 ∈ X := by simp [List.getD, h]
abbrev fnO : AV := .fn 165 [] [.ptr 0 0]
def SymR (n : Nat) : Prop := ∀ (A X Y B : List Int) (off len a m b : Nat), X.length + Y.length ≤ n → 0 < X.length → 0 < Y.length → off + a = A.length → m = a + X.length → b = m + Y.length → b ≤ len → off + len ≤ (A ++ X ++ Y ++ B).length → (A ++ X ++ Y ++ B).length ≤ 1000000 → (∀ r ∈ X, okR r) → (∀ r ∈ Y, okR r) → Up cls X → Up cls Y →
   z4a Tryz.prog 208 [.row true 1 z0f, .row false 1 ((A ++ X ++ Y ++ B).map I32)] [.ref 1 off len, I64 a, I64 m, I64 b, .fn 165 [] [.ptr 0 0]] [.row true 1 z0f, .row false 1 ((A ++ ssort cls (X ++ Y) ++ B).map I32), .fence] (.tup [])
theorem y0j6 {P Q R S : Prop} (a : Q) (b : R) (c : S) (h : Mk P → Hid Q → Hid R → Hid S → P := by
 intro m q r s
 repeat' first | refine z07 (by first | assumption | (apply_assumption <;> first | assumption | omega)) ?_ ?_ | refine LSp.fit (by assumption) ?_ | simp (maxSteps := 4000000) (disch := omega) only [z13, z12, bun, ↓z05, ↓z01, z03, findLabel, ↓reduceIte, imp, shift, z0g, z0c, unown, names, z08, below, noF, isF, z04, z0a, z09, ren, z0t, z0u, z0h, renO, belowM, seval, -Int.reduceToNat, bT, z14, z2c, z0d, z38, List.length_set, List.append_assoc, *] | exact z0n _ | refine z0m _ _ ?_ | exact Cln.cl | refine z02 _ ?_ | refine z00 _ _ ?_ ?_ | refine z10 _ ?_ | (refine Fk.fk ?_ ?_ <;> intro hg <;> (try simp only [hg]) <;> (try simp only [z11] at hg) <;> try (exfalso; first | omega | exact Bool.noConfusion hg | exact hg trivial)) | refine And.intro (by omega) ?_ | omega
 first
 | done
 | all_goals (repeat revert hg)
   fail_if_success with_reducible refine m.use ?_
   exact q.out
   first
   | done
   | exact r.out
     first
     | done
     | exact s.out
       first | done | fail) : P := h ⟨tru⟩ ⟨a⟩ ⟨b⟩ ⟨c⟩
theorem y0ir {A Y B : List Int} {x : Int} {off len a m b : Nat} (hY0 : 0 < Y.length) (ha : off + a = A.length) (hm : m = a + 1) (hb : b = m + Y.length) (hl : b ≤ len) (ho : off + len ≤ (A ++ [x] ++ Y ++ B).length) (hL : (A ++ [x] ++ Y ++ B).length ≤ 1000000) (hx : okR x) (hy : ∀ r ∈ Y, okR r) (hu : Up cls Y) :
   z4a Tryz.prog 208 [.row true 1 z0f, .row false 1 ((A ++ [x] ++ Y ++ B).map I32)] [.ref 1 off len, I64 a, I64 m, I64 b, .fn 165 [] [.ptr 0 0]] [.row true 1 z0f, .row false 1 ((A ++ ssort cls (x :: Y) ++ B).map I32), .fence] (.tup []) := by
 refine z2g (ts := []) ok1 Tryz.func208 rfl rfl (by decide +kernel) (by simp [Tryz.ntmps208]) rfl ?_
 have hlen : (A ++ [x] ++ Y ++ B).length = A.length + 1 + Y.length + B.length := by simp; omega
 have hgx : (A ++ [x] ++ Y ++ B).getD (off + a) 0 = x := by
   rw [ha, List.append_assoc _ Y]
   exact zk8 (X := [x]) (k := 0) (by simp)
 refine y0j6 ?_ tru tru <;> intros
 refine z0j (fun p : Nat × Nat => ⟨[(0, .ref 1 off len), (1, I64 a), (4, .fn 165 [] [.ptr 0 0]), (10, I64 (m + p.1)), (11, I64 (m + p.2))], [.row true 1 z0f, .row false 1 ((A ++ [x] ++ Y ++ B).map I32), .fence]⟩)
   (fun p => p.1 ≤ p.2 ∧ p.2 ≤ Y.length ∧ (0 < p.1 → cls (Y.getD (p.1 - 1) 0) < cls x) ∧ (p.2 < Y.length → cls x ≤ cls (Y.getD p.2 0))) (fun p => p.2 - p.1) (0, Y.length) ⟨by simp, Nat.le_refl _, fun h => absurd h (by simp), fun h => absurd h (by simp)⟩ ?_ ?_
 · (simp (disch := omega) [wk, wkT, wkM, noF, isF, get, z0b, belowM, below, belows, I64, I32, Bv, U8, Sv, z0d] <;> try omega)
 · rintro ⟨p, q⟩ ⟨h1, h2, h3, h4⟩
   dsimp only at h1 h2 h3 h4
   by_cases hlt : p < q
   · have e1 : ((m : Int) + (p : Int) + ((m : Int) + (q : Int))) / 2 = ((m + (p + q) / 2 : Nat) : Int) := by omega
     have hgy : (A ++ [x] ++ Y ++ B).getD (off + (m + (p + q) / 2)) 0 = Y.getD ((p + q) / 2) 0 := by
       have := zk8 (A := A ++ [x]) (X := Y) (R := B) (k := (p + q) / 2) (by omega)
       rw [← this]
       congr 1
       simp; omega
     have hyr := hy _ (z6n (X := Y) (k := (p + q) / 2) (by omega))
     by_cases hc : cls (Y.getD ((p + q) / 2) 0) < cls x
     · repeat' first | refine z07 (z3c _ _ hyr hx) ?_ ?_ | simp (maxSteps := 4000000) (disch := omega) only [z13, z12, bun, ↓z05, ↓z01, z03, findLabel, ↓reduceIte, imp, shift, z0g, z0c, unown, names, z08, below, noF, isF, z04, z0a, z09, ren, z0t, z0u, z0h, renO, belowM, seval, -Int.reduceToNat, e1, hgx, hgy, B3, B4, B21, B63, B96, z36, z14, z2c, z0d] | exact z0n _ | refine z0m _ _ ?_ | exact Cln.cl | refine z02 _ ?_ | refine z00 _ _ ?_ ?_ | refine z10 _ ?_ | (refine Fk.fk ?_ ?_ <;> intro hg <;> (try simp only [hg]) <;> (try simp only [z11] at hg) <;> try (exfalso; first | omega | exact Bool.noConfusion hg | exact hg trivial)) | refine And.intro (by omega) ?_ | omega
       refine ⟨((p + q) / 2 + 1, q), ⟨by dsimp only; omega, h2, fun _ => by dsimp only; rw [Nat.add_sub_cancel]; exact hc, h4⟩, by dsimp only; omega, ?_⟩
       (simp (disch := omega) [wk, wkT, wkM, noF, isF, get, z0b, belowM, below, belows, I64, I32, Bv, U8, Sv, z0d] <;> try omega)
     · repeat' first | refine z07 (z3c _ _ hyr hx) ?_ ?_ | simp (maxSteps := 4000000) (disch := omega) only [z13, z12, bun, ↓z05, ↓z01, z03, findLabel, ↓reduceIte, imp, shift, z0g, z0c, unown, names, z08, below, noF, isF, z04, z0a, z09, ren, z0t, z0u, z0h, renO, belowM, seval, -Int.reduceToNat, e1, hgx, hgy, B3, B4, B21, B63, B96, z36, z14, z2c, z0d] | exact z0n _ | refine z0m _ _ ?_ | exact Cln.cl | refine z02 _ ?_ | refine z00 _ _ ?_ ?_ | refine z10 _ ?_ | (refine Fk.fk ?_ ?_ <;> intro hg <;> (try simp only [hg]) <;> (try simp only [z11] at hg) <;> try (exfalso; first | omega | exact Bool.noConfusion hg | exact hg trivial)) | refine And.intro (by omega) ?_ | omega
       refine ⟨(p, (p + q) / 2), ⟨by dsimp only; omega, by dsimp only; omega, h3, fun _ => by dsimp only; omega⟩, by dsimp only; omega, ?_⟩
       (simp (disch := omega) [wk, wkT, wkM, noF, isF, get, z0b, belowM, below, belows, I64, I32, Bv, U8, Sv, z0d] <;> try omega)
   · have e : p = q := by omega
     subst e
     have hfin := y09h (f := cls) (x := x) (A := Y.take p) (B := Y.drop p) (by rw [List.take_append_drop]; exact hu) (fun w hw => by
       have := zo0 (x := cls x - 1) hu h2 (fun h => by have := h3 h; omega) w hw
       omega) (zfd hu h4)
     rw [List.take_append_drop] at hfin
     refine y0j6 ?_ tru tru <;> intros
     refine z0j (fun r : Nat => ⟨[(0, .ref 1 off len), (10, I64 (m + p)), (13, I64 (a + r))], [.row true 1 z0f, .row false 1 ((A ++ Y.take r ++ x :: Y.drop r ++ B).map I32), .fence]⟩) (fun r => r ≤ p) (fun r => p - r) 0 (by simp) (by (simp (disch := omega) [wk, wkT, wkM, noF, isF, get, z0b, belowM, below, belows, I64, I32, Bv, U8, Sv, z0d] <;> try omega)) ?_
     intro r hr
     have hlr : (A ++ Y.take r ++ x :: Y.drop r ++ B).length = A.length + 1 + Y.length + B.length := by simp; omega
     by_cases hrp : r < p
     · have e1 : ((a : Int) + (r : Int)).toNat = a + r := by omega
       have e2 : ((a : Int) + (r : Int) + 1).toNat = a + r + 1 := by omega
       have hd : Y.drop r = Y.getD r 0 :: Y.drop (r + 1) := by rw [List.drop_eq_getElem_cons (by omega)]; simp [List.getD, show r < Y.length by omega]
       have ht := z1h Y r 0 (by omega)
       have hga : (A ++ Y.take r ++ x :: Y.drop r ++ B).getD (off + (a + r)) 0 = x := by
         rw [List.append_assoc, List.cons_append]
         exact z4p (by simp; omega)
       have hgb : (A ++ Y.take r ++ x :: Y.drop r ++ B).getD (off + (a + r + 1)) 0 = Y.getD r 0 := by
         rw [hd]
         have : A ++ Y.take r ++ x :: Y.getD r 0 :: Y.drop (r + 1) ++ B = (A ++ Y.take r ++ [x]) ++ Y.getD r 0 :: (Y.drop (r + 1) ++ B) := by simp
         rw [this]
         exact z4p (by simp; omega)
       have hsw : ((A ++ Y.take r ++ x :: Y.drop r ++ B).set (off + (a + r)) (Y.getD r 0)).set (off + (a + r + 1)) x = A ++ Y.take (r + 1) ++ x :: Y.drop (r + 1) ++ B := by
         rw [hd, ht]
         have : A ++ Y.take r ++ x :: Y.getD r 0 :: Y.drop (r + 1) ++ B = (A ++ Y.take r) ++ x :: Y.getD r 0 :: (Y.drop (r + 1) ++ B) := by simp
         rw [this, show off + (a + r + 1) = off + (a + r) + 1 by omega, y09i (by simp; omega)]
         simp
       repeat' first | simp (maxSteps := 4000000) (disch := omega) only [z13, z12, bun, ↓z05, ↓z01, z03, findLabel, ↓reduceIte, imp, shift, z0g, z0c, unown, names, z08, below, noF, isF, z04, z0a, z09, ren, z0t, z0u, z0h, renO, belowM, seval, -Int.reduceToNat, e1, e2, hga, hgb, hlr, z38, List.length_set, hsw, B3, B4, B21, B63, B96, z36, z14, z2c, z0d] | refine z10 _ ?_ | (refine Fk.fk ?_ ?_ <;> intro hg <;> (try simp only [hg]) <;> (try simp only [z11] at hg) <;> try (exfalso; first | omega | exact Bool.noConfusion hg | exact hg trivial)) | refine And.intro (by omega) ?_ | omega
       refine ⟨r + 1, by omega, by omega, ?_⟩
       (simp (disch := omega) [wk, wkT, wkM, noF, isF, get, z0b, belowM, below, belows, I64, I32, Bv, U8, Sv, z0d] <;> try omega)
     · have e : r = p := by omega
       subst e
       rw [← hfin]
       exact y0j6 tru tru tru
theorem y0is {A X B : List Int} {y : Int} {off len a m b : Nat} (hX0 : 1 < X.length) (ha : off + a = A.length) (hm : m = a + X.length) (hb : b = m + 1) (hl : b ≤ len) (ho : off + len ≤ (A ++ X ++ [y] ++ B).length) (hL : (A ++ X ++ [y] ++ B).length ≤ 1000000) (hy : okR y) (hx : ∀ r ∈ X, okR r) (hu : Up cls X) :
   z4a Tryz.prog 208 [.row true 1 z0f, .row false 1 ((A ++ X ++ [y] ++ B).map I32)] [.ref 1 off len, I64 a, I64 m, I64 b, .fn 165 [] [.ptr 0 0]] [.row true 1 z0f, .row false 1 ((A ++ ssort cls (X ++ [y]) ++ B).map I32), .fence] (.tup []) := by
 refine z2g (ts := []) ok1 Tryz.func208 rfl rfl (by decide +kernel) (by simp [Tryz.ntmps208]) rfl ?_
 have hlen : (A ++ X ++ [y] ++ B).length = A.length + X.length + 1 + B.length := by simp; omega
 have hgy : (A ++ X ++ [y] ++ B).getD (off + m) 0 = y := by
   rw [show off + m = (A ++ X).length + 0 by simp; omega]
   exact zk8 (A := A ++ X) (X := [y]) (R := B) (by simp)
 refine y0j6 ?_ tru tru <;> intros
 refine z0j (fun p : Nat × Nat => ⟨[(0, .ref 1 off len), (2, I64 m), (4, .fn 165 [] [.ptr 0 0]), (14, I64 (a + p.1)), (15, I64 (a + p.2))], [.row true 1 z0f, .row false 1 ((A ++ X ++ [y] ++ B).map I32), .fence]⟩)
   (fun p => p.1 ≤ p.2 ∧ p.2 ≤ X.length ∧ (0 < p.1 → cls (X.getD (p.1 - 1) 0) ≤ cls y) ∧ (p.2 < X.length → cls y < cls (X.getD p.2 0))) (fun p => p.2 - p.1) (0, X.length) ⟨by simp, Nat.le_refl _, fun h => absurd h (by simp), fun h => absurd h (by simp)⟩ ?_ ?_
 · (simp (disch := omega) [wk, wkT, wkM, noF, isF, get, z0b, belowM, below, belows, I64, I32, Bv, U8, Sv, z0d] <;> try omega)
 · rintro ⟨p, q⟩ ⟨h1, h2, h3, h4⟩
   dsimp only at h1 h2 h3 h4
   by_cases hlt : p < q
   · have e1 : ((a : Int) + (p : Int) + ((a : Int) + (q : Int))) / 2 = ((a + (p + q) / 2 : Nat) : Int) := by omega
     have hgx : (A ++ X ++ [y] ++ B).getD (off + (a + (p + q) / 2)) 0 = X.getD ((p + q) / 2) 0 := by
       rw [List.append_assoc (A ++ X), show off + (a + (p + q) / 2) = A.length + (p + q) / 2 by omega]
       exact zk8 (by omega)
     have hxr := hx _ (z6n (X := X) (k := (p + q) / 2) (by omega))
     by_cases hc : cls y < cls (X.getD ((p + q) / 2) 0)
     · repeat' first | refine z07 (z3c _ _ hy hxr) ?_ ?_ | simp (maxSteps := 4000000) (disch := omega) only [z13, z12, bun, ↓z05, ↓z01, z03, findLabel, ↓reduceIte, imp, shift, z0g, z0c, unown, names, z08, below, noF, isF, z04, z0a, z09, ren, z0t, z0u, z0h, renO, belowM, seval, -Int.reduceToNat, e1, hgx, hgy, B3, B4, B21, B63, B96, z36, z14, z2c, z0d] | exact z0n _ | refine z0m _ _ ?_ | exact Cln.cl | refine z02 _ ?_ | refine z00 _ _ ?_ ?_ | refine z10 _ ?_ | (refine Fk.fk ?_ ?_ <;> intro hg <;> (try simp only [hg]) <;> (try simp only [z11] at hg) <;> try (exfalso; first | omega | exact Bool.noConfusion hg | exact hg trivial)) | refine And.intro (by omega) ?_ | omega
       refine ⟨(p, (p + q) / 2), ⟨by dsimp only; omega, by dsimp only; omega, h3, fun _ => hc⟩, by dsimp only; omega, ?_⟩
       (simp (disch := omega) [wk, wkT, wkM, noF, isF, get, z0b, belowM, below, belows, I64, I32, Bv, U8, Sv, z0d] <;> try omega)
     · repeat' first | refine z07 (z3c _ _ hy hxr) ?_ ?_ | simp (maxSteps := 4000000) (disch := omega) only [z13, z12, bun, ↓z05, ↓z01, z03, findLabel, ↓reduceIte, imp, shift, z0g, z0c, unown, names, z08, below, noF, isF, z04, z0a, z09, ren, z0t, z0u, z0h, renO, belowM, seval, -Int.reduceToNat, e1, hgx, hgy, B3, B4, B21, B63, B96, z36, z14, z2c, z0d] | exact z0n _ | refine z0m _ _ ?_ | exact Cln.cl | refine z02 _ ?_ | refine z00 _ _ ?_ ?_ | refine z10 _ ?_ | (refine Fk.fk ?_ ?_ <;> intro hg <;> (try simp only [hg]) <;> (try simp only [z11] at hg) <;> try (exfalso; first | omega | exact Bool.noConfusion hg | exact hg trivial)) | refine And.intro (by omega) ?_ | omega
       refine ⟨((p + q) / 2 + 1, q), ⟨by dsimp only; omega, h2, fun _ => by dsimp only; rw [Nat.add_sub_cancel]; omega, h4⟩, by dsimp only; omega, ?_⟩
       (simp (disch := omega) [wk, wkT, wkM, noF, isF, get, z0b, belowM, below, belows, I64, I32, Bv, U8, Sv, z0d] <;> try omega)
   · have e : p = q := by omega
     subst e
     have hfin := zr3 (f := cls) (x := y) (A := X.take p) (B := X.drop p) (by rw [List.take_append_drop]; exact hu) (zo0 hu h2 h3) (fun w hw => by
       have := zfd (x := cls y + 1) hu (fun h => by have := h4 h; omega) w hw
       omega)
     rw [List.take_append_drop] at hfin
     refine y0j6 ?_ tru tru <;> intros
     refine z0j (fun r : Nat => ⟨[(0, .ref 1 off len), (14, I64 (a + p)), (17, I64 (a + r))], [.row true 1 z0f, .row false 1 ((A ++ X.take r ++ y :: X.drop r ++ B).map I32), .fence]⟩) (fun r => p ≤ r ∧ r ≤ X.length) (fun r => r) X.length ⟨h2, Nat.le_refl _⟩ (by rw [List.take_length, List.drop_length]; (simp (disch := omega) [wk, wkT, wkM, noF, isF, get, z0b, belowM, below, belows, I64, I32, Bv, U8, Sv, z0d, hm] <;> try omega)) ?_
     rintro r ⟨hr, hr2⟩
     have hlr : (A ++ X.take r ++ y :: X.drop r ++ B).length = A.length + X.length + 1 + B.length := by simp; omega
     by_cases hrp : p < r
     · have e1 : ((a : Int) + (r : Int)).toNat = a + r := by omega
       have e2 : ((a : Int) + (r : Int) - 1).toNat = a + (r - 1) := by omega
       obtain ⟨t1, t2⟩ := zcp (show 0 < r by omega) hr2
       have hga : (A ++ X.take r ++ y :: X.drop r ++ B).getD (off + (a + r)) 0 = y := by
         rw [List.append_assoc, List.cons_append]
         exact z4p (by simp; omega)
       have hgb : (A ++ X.take r ++ y :: X.drop r ++ B).getD (off + (a + (r - 1))) 0 = X.getD (r - 1) 0 := by
         rw [t1]
         have : A ++ (X.take (r - 1) ++ [X.getD (r - 1) 0]) ++ y :: X.drop r ++ B = (A ++ X.take (r - 1)) ++ X.getD (r - 1) 0 :: (y :: X.drop r ++ B) := by simp
         rw [this]
         exact z4p (by simp; omega)
       have hsw : ((A ++ X.take r ++ y :: X.drop r ++ B).set (off + (a + r)) (X.getD (r - 1) 0)).set (off + (a + (r - 1))) y = A ++ X.take (r - 1) ++ y :: X.drop (r - 1) ++ B := by
         rw [t1, t2]
         have : A ++ (X.take (r - 1) ++ [X.getD (r - 1) 0]) ++ y :: X.drop r ++ B = (A ++ X.take (r - 1)) ++ X.getD (r - 1) 0 :: y :: (X.drop r ++ B) := by simp
         rw [this, show off + (a + r) = off + (a + (r - 1)) + 1 by omega, zyy (by simp; omega)]
         simp
       repeat' first | simp (maxSteps := 4000000) (disch := omega) only [z13, z12, bun, ↓z05, ↓z01, z03, findLabel, ↓reduceIte, imp, shift, z0g, z0c, unown, names, z08, below, noF, isF, z04, z0a, z09, ren, z0t, z0u, z0h, renO, belowM, seval, -Int.reduceToNat, e1, e2, hga, hgb, hlr, z38, List.length_set, hsw, B3, B4, B21, B63, B96, z36, z14, z2c, z0d] | refine z10 _ ?_ | (refine Fk.fk ?_ ?_ <;> intro hg <;> (try simp only [hg]) <;> (try simp only [z11] at hg) <;> try (exfalso; first | omega | exact Bool.noConfusion hg | exact hg trivial)) | refine And.intro (by omega) ?_ | omega
       refine ⟨r - 1, ⟨by omega, by omega⟩, by omega, ?_⟩
       (simp (disch := omega) [wk, wkT, wkM, noF, isF, get, z0b, belowM, below, belows, I64, I32, Bv, U8, Sv, z0d] <;> try omega)
     · have e : r = p := by omega
       subst e
       rw [← hfin]
       exact y0j6 tru tru tru
structure Cut (X Y : List Int) (a m mid s : Nat) : Prop where
 h1 : ∀ x ∈ X.take (s - a), ∀ y ∈ Y.drop (mid - s), cls x ≤ cls y
 h2 : ∀ y ∈ Y.take (mid - s), ∀ x ∈ X.drop (s - a), cls y < cls x
theorem y0eo {X Y : List Int} {a m b mid lo hi s : Nat} (hm : m = a + X.length) (hb : b = m + Y.length) (huX : Up cls X) (huY : Up cls Y) (hlo : mid < m → (lo : Int) = (mid : Int) + m - b ∧ hi = mid) (hhi : ¬ mid < m → lo = a ∧ hi = m)
   (g1 : a ≤ lo) (g2 : lo ≤ s) (g3 : s ≤ hi) (g4 : hi ≤ m) (g5 : hi ≤ mid) (hmb : mid + m - lo ≤ b) (h3 : lo < s → cls (X.getD (s - 1 - a) 0) ≤ cls (Y.getD (mid - s) 0)) (h4 : s < hi → cls (Y.getD (mid - 1 - s) 0) < cls (X.getD (s - a) 0)) : Cut X Y a m mid s := by
 constructor
 · intro x hx y hy
   by_cases hl : lo < s
   · have q := h3 hl
     have q1 := zo0 (f := cls) (T := X) (j := s - a) (x := cls (X.getD (s - 1 - a) 0)) huX (by omega) (fun _ => by rw [show s - a - 1 = s - 1 - a by omega]; exact Int.le_refl _) x hx
     have q2 := zfd (f := cls) (T := Y) (j := mid - s) (x := cls (Y.getD (mid - s) 0)) huY (fun _ => Int.le_refl _) y hy
     omega
   · by_cases hc : mid < m
     · have := hlo hc
       rw [List.drop_of_length_le (by omega)] at hy; cases hy
     · have := hhi hc
       rw [show s - a = 0 by omega] at hx; simp at hx
 · intro y hy x hx
   by_cases hl : s < hi
   · have q := h4 hl
     have q1 := zo0 (f := cls) (T := Y) (j := mid - s) (x := cls (Y.getD (mid - 1 - s) 0)) huY (by
       have := hmb
       by_cases hc : mid < m
       · have := hlo hc; omega
       · have := hhi hc; omega) (fun _ => by rw [show mid - s - 1 = mid - 1 - s by omega]; exact Int.le_refl _) y hy
     have q2 := zfd (f := cls) (T := X) (j := s - a) (x := cls (X.getD (s - a) 0)) huX (fun _ => Int.le_refl _) x hx
     omega
   · by_cases hc : mid < m
     · have := hlo hc
       rw [show mid - s = 0 by omega] at hy; simp at hy
     · have := hhi hc
       rw [List.drop_of_length_le (by omega)] at hx; cases hx
structure Parts (off len a m b mid s : Nat) (L0 L3 : List Int) : Prop where
 p : ∃ L1 L2 : List Int,
   ((s < m ∧ m < mid + m - s) → z4a Tryz.prog 217 [.row true 1 z0f, .row false 1 (L0.map I32)] [.ref 1 off len, I64 s, I64 m, I64 (mid + m - s : Nat), .fn 165 [] [.ptr 0 0]] [.row true 1 z0f, .row false 1 (L1.map I32), .fence] (.tup [])) ∧
   (¬ (s < m ∧ m < mid + m - s) → L0 = L1) ∧
   ((a < s ∧ s < mid) → z4a Tryz.prog 208 [.row true 1 z0f, .row false 1 (L1.map I32)] [.ref 1 off len, I64 a, I64 s, I64 mid, .fn 165 [] [.ptr 0 0]] [.row true 1 z0f, .row false 1 (L2.map I32), .fence] (.tup [])) ∧
   (¬ (a < s ∧ s < mid) → L1 = L2) ∧
   ((mid < mid + m - s ∧ mid + m - s < b) → z4a Tryz.prog 208 [.row true 1 z0f, .row false 1 (L2.map I32)] [.ref 1 off len, I64 mid, I64 (mid + m - s : Nat), I64 b, .fn 165 [] [.ptr 0 0]] [.row true 1 z0f, .row false 1 (L3.map I32), .fence] (.tup [])) ∧
   (¬ (mid < mid + m - s ∧ mid + m - s < b) → L2 = L3)
theorem zy9 {n : Nat} (ih : SymR n) {A X Y B : List Int} {off len a m b mid s : Nat} (hn : X.length + Y.length ≤ n + 1) (ha : off + a = A.length) (hm : m = a + X.length) (hb : b = m + Y.length) (hl : b ≤ len) (ho : off + len ≤ (A ++ X ++ Y ++ B).length) (hL : (A ++ X ++ Y ++ B).length ≤ 1000000) (hx : ∀ r ∈ X, okR r) (hy : ∀ r ∈ Y, okR r) (huX : Up cls X) (huY : Up cls Y)
   (hmid : mid = (a + b) / 2) (hX1 : 1 < X.length) (hY1 : 1 < Y.length) (g1 : a ≤ s) (g2 : s ≤ m) (g3 : s ≤ mid) (g4 : mid + m - s ≤ b) (hC : Cut X Y a m mid s) :
   Parts off len a m b mid s (A ++ X ++ Y ++ B) (A ++ ssort cls (X ++ Y) ++ B) := by
 have hlen : (A ++ X ++ Y ++ B).length = A.length + X.length + Y.length + B.length := by simp; omega
 have eX : X.take (s - a) ++ X.drop (s - a) = X := List.take_append_drop _ _
 have eY : Y.take (mid - s) ++ Y.drop (mid - s) = Y := List.take_append_drop _ _
 have lX1 : (X.take (s - a)).length = s - a := by simp; omega
 have lX2 : (X.drop (s - a)).length = m - s := by simp; omega
 have lY1 : (Y.take (mid - s)).length = mid - s := by simp; omega
 have lY2 : (Y.drop (mid - s)).length = b - (mid + m - s) := by simp; omega
 have hx1 : ∀ r ∈ X.take (s - a), okR r := fun r hr => hx r (List.mem_of_mem_take hr)
 have hx2 : ∀ r ∈ X.drop (s - a), okR r := fun r hr => hx r (List.mem_of_mem_drop hr)
 have hy1 : ∀ r ∈ Y.take (mid - s), okR r := fun r hr => hy r (List.mem_of_mem_take hr)
 have hy2 : ∀ r ∈ Y.drop (mid - s), okR r := fun r hr => hy r (List.mem_of_mem_drop hr)
 have hq := y01a (f := cls) (X1 := X.take (s - a)) (X2 := X.drop (s - a)) (Y1 := Y.take (mid - s)) (Y2 := Y.drop (mid - s)) (by rw [eX]; exact huX) (by rw [eY]; exact huY) hC.h1 hC.h2
 have huX' := Up.append.1 (show Up cls (X.take (s - a) ++ X.drop (s - a)) by rw [eX]; exact huX)
 have huY' := Up.append.1 (show Up cls (Y.take (mid - s) ++ Y.drop (mid - s)) by rw [eY]; exact huY)
 rw [eX, eY] at hq
 rw [← hq, show A ++ X ++ Y ++ B = (A ++ X.take (s - a)) ++ X.drop (s - a) ++ Y.take (mid - s) ++ (Y.drop (mid - s) ++ B) by rw [show A ++ X.take (s - a) ++ X.drop (s - a) = A ++ X by rw [List.append_assoc, eX], ← List.append_assoc, show A ++ X ++ Y.take (mid - s) ++ Y.drop (mid - s) = A ++ X ++ Y by rw [List.append_assoc (A ++ X), eY]]]
 clear hq hC
 generalize X.take (s - a) = X1 at *
 generalize X.drop (s - a) = X2 at *
 generalize Y.take (mid - s) = Y1 at *
 generalize Y.drop (mid - s) = Y2 at *
 have hl1 : ((A ++ X1) ++ X2 ++ Y1 ++ (Y2 ++ B)).length = A.length + X.length + Y.length + B.length := by simp; omega
 have hs1 := z1n cls (X1 ++ Y1)
 rw [List.length_append] at hs1
 refine ⟨(A ++ X1) ++ Y1 ++ X2 ++ (Y2 ++ B), A ++ ssort cls (X1 ++ Y1) ++ (X2 ++ Y2 ++ B), fun h => ?_, fun h => ?_, fun h => ?_, fun h => ?_, fun h => ?_, fun h => ?_⟩
 · exact ztn (A ++ X1) X2 Y1 (Y2 ++ B) off len s m (mid + m - s) (by omega) (by omega) (by simp; omega) (by omega) (by omega) (by omega) (by omega) (by omega)
 · by_cases h5 : s < m
   · have : Y1 = [] := List.length_eq_zero_iff.1 (by omega)
     subst this; simp
   · have : X2 = [] := List.length_eq_zero_iff.1 (by omega)
     subst this; simp
 · have := ih A X1 Y1 (X2 ++ (Y2 ++ B)) off len a s mid (by omega) (by omega) (by omega) ha (by omega) (by omega) (by omega) (by simp; omega) (by simp; omega) hx1 hy1 huX'.1 huY'.1
   simp only [List.append_assoc] at this ⊢
   exact this
 · by_cases h5 : a < s
   · have : Y1 = [] := List.length_eq_zero_iff.1 (by omega)
     subst this
     rw [List.append_nil, List.append_nil, zcm huX'.1]; simp
   · have : X1 = [] := List.length_eq_zero_iff.1 (by omega)
     subst this
     rw [List.nil_append, List.append_nil, zcm huY'.1]; simp
 · have := ih (A ++ ssort cls (X1 ++ Y1)) X2 Y2 B off len mid (mid + m - s) b (by omega) (by omega) (by omega) (by rw [List.length_append]; omega) (by omega) (by omega) (by omega) (by simp; omega) (by simp; omega) hx2 hy2 huX'.2.1 huY'.2.1
   simp only [List.append_assoc] at this ⊢
   exact this
 · by_cases h5 : mid < mid + m - s
   · have : Y2 = [] := List.length_eq_zero_iff.1 (by omega)
     subst this
     rw [List.append_nil X2, zcm huX'.2.1]; simp
   · have : X2 = [] := List.length_eq_zero_iff.1 (by omega)
     subst this
     rw [List.nil_append, zcm huY'.2.1]; simp
theorem z3i {P Q R S : Prop} {H : Prop} (o : H) (a : Q) (b : R) (c : S) (h : H → Mk P → Hid Q → Hid R → Hid S → P := by
 intro w m q r s
 repeat' first | refine z07 (by first | assumption | (apply_assumption <;> first | assumption | omega)) ?_ ?_ | refine LSp.fit (by assumption) ?_ | simp (maxSteps := 4000000) (disch := omega) only [z13, z12, bun, ↓z05, ↓z01, z03, findLabel, ↓reduceIte, imp, shift, z0g, z0c, unown, names, z08, below, noF, isF, z04, z0a, z09, ren, z0t, z0u, z0h, renO, belowM, seval, -Int.reduceToNat, bT, z14, z2c, z0d, w] | exact z0n _ | refine z0m _ _ ?_ | exact Cln.cl | refine z02 _ ?_ | refine z00 _ _ ?_ ?_ | refine z10 _ ?_ | (refine Fk.fk ?_ ?_ <;> intro hg <;> (try simp only [hg]) <;> (try simp only [z11] at hg) <;> try (exfalso; first | omega | exact Bool.noConfusion hg | exact hg trivial)) | refine And.intro (by omega) ?_ | omega
 first
 | done
 | all_goals (repeat revert hg)
   fail_if_success with_reducible refine m.use ?_
   exact q.out
   first
   | done
   | exact r.out
     first
     | done
     | exact s.out
       first | done | fail) : P := h o ⟨tru⟩ ⟨a⟩ ⟨b⟩ ⟨c⟩
theorem y0ce {n : Nat} (ih : SymR n) : SymR (n + 1) := by
 intro A X Y B off len a m b hn hX0 hY0 ha hm hb hl ho hL hx hy huX huY
 by_cases hX1 : X.length = 1
 · obtain ⟨x, rfl⟩ : ∃ x, X = [x] := List.length_eq_one_iff.1 hX1
   exact y0ir hY0 ha hm hb hl ho hL (hx x (by simp)) hy huY
 · by_cases hY1 : Y.length = 1
   · obtain ⟨y, rfl⟩ : ∃ x, Y = [x] := List.length_eq_one_iff.1 hY1
     exact y0is (by omega) ha hm hb hl ho hL (hy y (by simp)) hx huX
   · refine z2g (ts := []) ok1 Tryz.func208 rfl rfl (by decide +kernel) (by simp [Tryz.ntmps208]) rfl ?_
     have hlen : (A ++ X ++ Y ++ B).length = A.length + X.length + Y.length + B.length := by simp; omega
     have hgX : ∀ k, a ≤ k → k < m → (A ++ X ++ Y ++ B).getD (off + k) 0 = X.getD (k - a) 0 := fun k h1 h2 => by
       rw [List.append_assoc (A ++ X), show off + k = A.length + (k - a) by omega]
       exact zk8 (by omega)
     have hgY : ∀ k, m ≤ k → k < b → (A ++ X ++ Y ++ B).getD (off + k) 0 = Y.getD (k - m) 0 := fun k h1 h2 => by
       rw [show off + k = (A ++ X).length + (k - m) by simp; omega]
       exact zk8 (A := A ++ X) (by omega)
     obtain ⟨mid, hmid⟩ : ∃ mid, mid = (a + b) / 2 := ⟨_, rfl⟩
     have e0 : ((a : Int) + (b : Int)) / 2 = (mid : Int) := by omega
     obtain ⟨lo, hi, hlo, hhi, hlohi⟩ : ∃ lo hi : Nat, (mid < m → (lo : Int) = (mid : Int) + m - b ∧ hi = mid) ∧ (¬ mid < m → lo = a ∧ hi = m) ∧ a ≤ lo ∧ lo ≤ hi ∧ hi ≤ m ∧ hi ≤ mid ∧ m ≤ mid + m - hi ∧ mid + m - lo ≤ b := by
       by_cases h : mid < m
       · exact ⟨mid + m - b, mid, fun _ => by omega, fun h' => absurd h h', by omega⟩
       · exact ⟨a, m, fun h' => absurd h' h, fun _ => ⟨rfl, rfl⟩, by omega⟩
     obtain ⟨g1, g2, g3, g4, g5, g6⟩ := hlohi
     by_cases hmm : mid < m
     · obtain ⟨hlo1, hlo2⟩ := hlo hmm
       refine z3i e0 ?_ tru tru <;> intros
       refine z0j (fun p : Nat × Nat => ⟨[(0, .ref 1 off len), (1, I64 a), (2, I64 m), (3, I64 b), (4, .fn 165 [] [.ptr 0 0]), (18, I64 mid), (19, I64 (mid + m)), (20, I64 p.1), (21, I64 p.2), (22, I64 (mid + m - 1))], [.row true 1 z0f, .row false 1 ((A ++ X ++ Y ++ B).map I32), .fence]⟩)
         (fun p => lo ≤ p.1 ∧ p.1 ≤ p.2 ∧ p.2 ≤ hi ∧ (lo < p.1 → cls (X.getD (p.1 - 1 - a) 0) ≤ cls (Y.getD (mid - p.1) 0)) ∧ (p.2 < hi → cls (Y.getD (mid - 1 - p.2) 0) < cls (X.getD (p.2 - a) 0))) (fun p => p.2 - p.1) (lo, hi) ⟨Nat.le_refl _, g2, Nat.le_refl _, fun h => absurd h (by simp), fun h => absurd h (by simp)⟩ ?_ ?_
       · (simp (disch := omega) [wk, wkT, wkM, noF, isF, get, z0b, belowM, below, belows, I64, I32, Bv, U8, Sv, z0d] <;> try omega)
       · rintro ⟨s, r⟩ ⟨h0, h1, h2, h3, h4⟩
         dsimp only at h0 h1 h2 h3 h4
         by_cases hlt : s < r
         · have e1 : ((s : Int) + (r : Int)) / 2 = (((s + r) / 2 : Nat) : Int) := by omega
           obtain ⟨c, hc⟩ : ∃ c, c = (s + r) / 2 := ⟨_, rfl⟩
           rw [← hc] at e1
           have e2 : ((mid : Int) + (m : Int) - 1 - (c : Int)).toNat = mid + m - 1 - c := by omega
           have hp : (A ++ X ++ Y ++ B).getD (off + (mid + m - 1 - c)) 0 = Y.getD (mid - 1 - c) 0 := by
             rw [hgY _ (by omega) (by omega)]; congr 1; omega
           have hcx := hgX c (by omega) (by omega)
           have hyr := hy _ (z6n (X := Y) (k := mid - 1 - c) (by omega))
           have hxr := hx _ (z6n (X := X) (k := c - a) (by omega))
           by_cases hcc : cls (Y.getD (mid - 1 - c) 0) < cls (X.getD (c - a) 0)
           · (have := @z3c; refine z3i (And.intro e1 (And.intro e2 (And.intro hp hcx))) ?_ tru tru <;> intros)
             refine ⟨(s, c), ⟨h0, by dsimp only; omega, by dsimp only; omega, h3, fun _ => hcc⟩, by dsimp only; omega, ?_⟩
             (simp (disch := omega) [wk, wkT, wkM, noF, isF, get, z0b, belowM, below, belows, I64, I32, Bv, U8, Sv, z0d] <;> try omega)
           · (have := @z3c; refine z3i (And.intro e1 (And.intro e2 (And.intro hp hcx))) ?_ tru tru <;> intros)
             refine ⟨(c + 1, r), ⟨by dsimp only; omega, by dsimp only; omega, h2, fun _ => ?_, h4⟩, by dsimp only; omega, ?_⟩
             · dsimp only
               rw [show c + 1 - 1 - a = c - a by omega, show mid - (c + 1) = mid - 1 - c by omega]
               omega
             · (simp (disch := omega) [wk, wkT, wkM, noF, isF, get, z0b, belowM, below, belows, I64, I32, Bv, U8, Sv, z0d] <;> try omega)
         · have e : s = r := by omega
           subst e
           have hC := y0eo hm hb huX huY hlo hhi g1 h0 h2 g3 g4 g6 h3 h4
           obtain ⟨L1, L2, r1, n1, r2, n2, r3, n3⟩ := (zy9 ih hn ha hm hb hl ho hL hx hy huX huY hmid (by omega) (by omega) (show a ≤ s by omega) (by omega) (by omega) (by omega) hC).p
           generalize A ++ X ++ Y ++ B = L0 at *
           generalize A ++ ssort cls (X ++ Y) ++ B = L3 at *
           have e3 : ((mid : Int) + (m : Int) - (s : Int)) = ((mid + m - s : Nat) : Int) := by omega
           have d1 : s < m ∧ m < mid + m - s ∨ ¬ (s < m ∧ m < mid + m - s) := Decidable.em _
           have d2 : a < s ∧ s < mid ∨ ¬ (a < s ∧ s < mid) := Decidable.em _
           have d3 : mid < mid + m - s ∧ mid + m - s < b ∨ ¬ (mid < mid + m - s ∧ mid + m - s < b) := Decidable.em _
           generalize mid + m - s = en at *
           rcases d1 with d1 | d1
           · have r1 := r1 d1
             rcases d2 with d2 | d2
             · have r2 := r2 d2
               rcases d3 with d3 | d3
               · have r3 := r3 d3
                 repeat' first | (refine z1b [0, 1] r1 ?_; clear r1) | (refine z1b [0, 1] r2 ?_; clear r2) | (refine z1b [0, 1] r3 ?_; clear r3) | refine z3i e3 ?_ tru tru <;> intros | refine z3i e3 ?_ ?_ tru <;> intros | refine z3i e3 ?_ ?_ ?_ <;> intros | exact z3i e3 tru tru tru | fail
               · have n3 := n3 d3
                 subst n3
                 repeat' first | (refine z1b [0, 1] r1 ?_; clear r1) | (refine z1b [0, 1] r2 ?_; clear r2) | refine z3i e3 ?_ tru tru <;> intros | refine z3i e3 ?_ ?_ tru <;> intros | refine z3i e3 ?_ ?_ ?_ <;> intros | exact z3i e3 tru tru tru | fail
             · have n2 := n2 d2
               subst n2
               rcases d3 with d3 | d3
               · have r3 := r3 d3
                 repeat' first | (refine z1b [0, 1] r1 ?_; clear r1) | (refine z1b [0, 1] r3 ?_; clear r3) | refine z3i e3 ?_ tru tru <;> intros | refine z3i e3 ?_ ?_ tru <;> intros | refine z3i e3 ?_ ?_ ?_ <;> intros | exact z3i e3 tru tru tru | fail
               · have n3 := n3 d3
                 subst n3
                 repeat' first | (refine z1b [0, 1] r1 ?_; clear r1) | refine z3i e3 ?_ tru tru <;> intros | refine z3i e3 ?_ ?_ tru <;> intros | refine z3i e3 ?_ ?_ ?_ <;> intros | exact z3i e3 tru tru tru | fail
           · have n1 := n1 d1
             subst n1
             rcases d2 with d2 | d2
             · have r2 := r2 d2
               rcases d3 with d3 | d3
               · have r3 := r3 d3
                 repeat' first | (refine z1b [0, 1] r2 ?_; clear r2) | (refine z1b [0, 1] r3 ?_; clear r3) | refine z3i e3 ?_ tru tru <;> intros | refine z3i e3 ?_ ?_ tru <;> intros | refine z3i e3 ?_ ?_ ?_ <;> intros | exact z3i e3 tru tru tru | fail
               · have n3 := n3 d3
                 subst n3
                 repeat' first | (refine z1b [0, 1] r2 ?_; clear r2) | refine z3i e3 ?_ tru tru <;> intros | refine z3i e3 ?_ ?_ tru <;> intros | refine z3i e3 ?_ ?_ ?_ <;> intros | exact z3i e3 tru tru tru | fail
             · have n2 := n2 d2
               subst n2
               rcases d3 with d3 | d3
               · have r3 := r3 d3
                 repeat' first | (refine z1b [0, 1] r3 ?_; clear r3) | refine z3i e3 ?_ tru tru <;> intros | refine z3i e3 ?_ ?_ tru <;> intros | refine z3i e3 ?_ ?_ ?_ <;> intros | exact z3i e3 tru tru tru | fail
               · have n3 := n3 d3
                 subst n3
                 exact z3i e3 tru tru tru
     · obtain ⟨hlo1, hlo2⟩ := hhi hmm
       refine z3i e0 ?_ tru tru <;> intros
       refine z0j (fun p : Nat × Nat => ⟨[(0, .ref 1 off len), (1, I64 a), (2, I64 m), (3, I64 b), (4, .fn 165 [] [.ptr 0 0]), (18, I64 mid), (19, I64 (mid + m)), (20, I64 p.1), (21, I64 p.2), (22, I64 (mid + m - 1))], [.row true 1 z0f, .row false 1 ((A ++ X ++ Y ++ B).map I32), .fence]⟩)
         (fun p => lo ≤ p.1 ∧ p.1 ≤ p.2 ∧ p.2 ≤ hi ∧ (lo < p.1 → cls (X.getD (p.1 - 1 - a) 0) ≤ cls (Y.getD (mid - p.1) 0)) ∧ (p.2 < hi → cls (Y.getD (mid - 1 - p.2) 0) < cls (X.getD (p.2 - a) 0))) (fun p => p.2 - p.1) (lo, hi) ⟨Nat.le_refl _, g2, Nat.le_refl _, fun h => absurd h (by simp), fun h => absurd h (by simp)⟩ ?_ ?_
       · (simp (disch := omega) [wk, wkT, wkM, noF, isF, get, z0b, belowM, below, belows, I64, I32, Bv, U8, Sv, z0d] <;> try omega)
       · rintro ⟨s, r⟩ ⟨h0, h1, h2, h3, h4⟩
         dsimp only at h0 h1 h2 h3 h4
         by_cases hlt : s < r
         · have e1 : ((s : Int) + (r : Int)) / 2 = (((s + r) / 2 : Nat) : Int) := by omega
           obtain ⟨c, hc⟩ : ∃ c, c = (s + r) / 2 := ⟨_, rfl⟩
           rw [← hc] at e1
           have e2 : ((mid : Int) + (m : Int) - 1 - (c : Int)).toNat = mid + m - 1 - c := by omega
           have hp : (A ++ X ++ Y ++ B).getD (off + (mid + m - 1 - c)) 0 = Y.getD (mid - 1 - c) 0 := by
             rw [hgY _ (by omega) (by omega)]; congr 1; omega
           have hcx := hgX c (by omega) (by omega)
           have hyr := hy _ (z6n (X := Y) (k := mid - 1 - c) (by omega))
           have hxr := hx _ (z6n (X := X) (k := c - a) (by omega))
           by_cases hcc : cls (Y.getD (mid - 1 - c) 0) < cls (X.getD (c - a) 0)
           · (have := @z3c; refine z3i (And.intro e1 (And.intro e2 (And.intro hp hcx))) ?_ tru tru <;> intros)
             refine ⟨(s, c), ⟨h0, by dsimp only; omega, by dsimp only; omega, h3, fun _ => hcc⟩, by dsimp only; omega, ?_⟩
             (simp (disch := omega) [wk, wkT, wkM, noF, isF, get, z0b, belowM, below, belows, I64, I32, Bv, U8, Sv, z0d] <;> try omega)
           · (have := @z3c; refine z3i (And.intro e1 (And.intro e2 (And.intro hp hcx))) ?_ tru tru <;> intros)
             refine ⟨(c + 1, r), ⟨by dsimp only; omega, by dsimp only; omega, h2, fun _ => ?_, h4⟩, by dsimp only; omega, ?_⟩
             · dsimp only
               rw [show c + 1 - 1 - a = c - a by omega, show mid - (c + 1) = mid - 1 - c by omega]
               omega
             · (simp (disch := omega) [wk, wkT, wkM, noF, isF, get, z0b, belowM, below, belows, I64, I32, Bv, U8, Sv, z0d] <;> try omega)
         · have e : s = r := by omega
           subst e
           have hC := y0eo hm hb huX huY hlo hhi g1 h0 h2 g3 g4 g6 h3 h4
           obtain ⟨L1, L2, r1, n1, r2, n2, r3, n3⟩ := (zy9 ih hn ha hm hb hl ho hL hx hy huX huY hmid (by omega) (by omega) (show a ≤ s by omega) (by omega) (by omega) (by omega) hC).p
           generalize A ++ X ++ Y ++ B = L0 at *
           generalize A ++ ssort cls (X ++ Y) ++ B = L3 at *
           have e3 : ((mid : Int) + (m : Int) - (s : Int)) = ((mid + m - s : Nat) : Int) := by omega
           have d1 : s < m ∧ m < mid + m - s ∨ ¬ (s < m ∧ m < mid + m - s) := Decidable.em _
           have d2 : a < s ∧ s < mid ∨ ¬ (a < s ∧ s < mid) := Decidable.em _
           have d3 : mid < mid + m - s ∧ mid + m - s < b ∨ ¬ (mid < mid + m - s ∧ mid + m - s < b) := Decidable.em _
           generalize mid + m - s = en at *
           rcases d1 with d1 | d1
           · have r1 := r1 d1
             rcases d2 with d2 | d2
             · have r2 := r2 d2
               rcases d3 with d3 | d3
               · have r3 := r3 d3
                 repeat' first | (refine z1b [0, 1] r1 ?_; clear r1) | (refine z1b [0, 1] r2 ?_; clear r2) | (refine z1b [0, 1] r3 ?_; clear r3) | refine z3i e3 ?_ tru tru <;> intros | refine z3i e3 ?_ ?_ tru <;> intros | refine z3i e3 ?_ ?_ ?_ <;> intros | exact z3i e3 tru tru tru | fail
               · have n3 := n3 d3
                 subst n3
                 repeat' first | (refine z1b [0, 1] r1 ?_; clear r1) | (refine z1b [0, 1] r2 ?_; clear r2) | refine z3i e3 ?_ tru tru <;> intros | refine z3i e3 ?_ ?_ tru <;> intros | refine z3i e3 ?_ ?_ ?_ <;> intros | exact z3i e3 tru tru tru | fail
             · have n2 := n2 d2
               subst n2
               rcases d3 with d3 | d3
               · have r3 := r3 d3
                 repeat' first | (refine z1b [0, 1] r1 ?_; clear r1) | (refine z1b [0, 1] r3 ?_; clear r3) | refine z3i e3 ?_ tru tru <;> intros | refine z3i e3 ?_ ?_ tru <;> intros | refine z3i e3 ?_ ?_ ?_ <;> intros | exact z3i e3 tru tru tru | fail
               · have n3 := n3 d3
                 subst n3
                 repeat' first | (refine z1b [0, 1] r1 ?_; clear r1) | refine z3i e3 ?_ tru tru <;> intros | refine z3i e3 ?_ ?_ tru <;> intros | refine z3i e3 ?_ ?_ ?_ <;> intros | exact z3i e3 tru tru tru | fail
           · have n1 := n1 d1
             subst n1
             rcases d2 with d2 | d2
             · have r2 := r2 d2
               rcases d3 with d3 | d3
               · have r3 := r3 d3
                 repeat' first | (refine z1b [0, 1] r2 ?_; clear r2) | (refine z1b [0, 1] r3 ?_; clear r3) | refine z3i e3 ?_ tru tru <;> intros | refine z3i e3 ?_ ?_ tru <;> intros | refine z3i e3 ?_ ?_ ?_ <;> intros | exact z3i e3 tru tru tru | fail
               · have n3 := n3 d3
                 subst n3
                 repeat' first | (refine z1b [0, 1] r2 ?_; clear r2) | refine z3i e3 ?_ tru tru <;> intros | refine z3i e3 ?_ ?_ tru <;> intros | refine z3i e3 ?_ ?_ ?_ <;> intros | exact z3i e3 tru tru tru | fail
             · have n2 := n2 d2
               subst n2
               rcases d3 with d3 | d3
               · have r3 := r3 d3
                 repeat' first | (refine z1b [0, 1] r3 ?_; clear r3) | refine z3i e3 ?_ tru tru <;> intros | refine z3i e3 ?_ ?_ tru <;> intros | refine z3i e3 ?_ ?_ ?_ <;> intros | exact z3i e3 tru tru tru | fail
               · have n3 := n3 d3
                 subst n3
                 exact z3i e3 tru tru tru
theorem zyz (n : Nat) : SymR n := by
 induction n with
 | zero => intro A X Y B off len a m b hn hX0; omega
 | succ n ih => exact y0ce ih
def seg (k j : Nat) (W : List Int) : List Int := (W.drop (k * j)).take k
theorem z5z {k j : Nat} {P Q : List Int} (h : k * j + k ≤ P.length) : seg k j (P ++ Q) = seg k j P := by
 unfold seg
 rw [List.drop_append_of_le_length (by omega), List.take_append_of_le_length (by simp; omega)]
theorem y09d {k j : Nat} {P P' Q : List Int} (h : P.length ≤ k * j) (he : P'.length = P.length) : seg k j (P ++ Q) = seg k j (P' ++ Q) := by
 unfold seg
 rw [List.drop_append, List.drop_append, List.drop_of_length_le h, List.drop_of_length_le (l := P') (by omega), he]
theorem y09c {k j : Nat} {P M Q : List Int} (h : P.length = k * j) (hM : M.length = k) : seg k j (P ++ M ++ Q) = M := by
 unfold seg
 rw [List.append_assoc, ← h, List.drop_left, ← hM, List.take_left]
theorem y09b {k j : Nat} {P M : List Int} (h : P.length = k * j) (hM : M.length ≤ k) : seg k j (P ++ M) = M := by
 unfold seg
 rw [← h, List.drop_left, List.take_of_length_le hM]
theorem znt {k j : Nat} {W : List Int} (h : W.length ≤ k * j) : seg k j W = [] := by
 unfold seg
 rw [List.drop_of_length_le h, List.take_nil]
theorem zn8 {P M Q S : List Int} (h : Kin cls (P ++ M ++ Q) S) : Kin cls (P ++ ssort cls M ++ Q) S :=
 (Kin.app (Kin.app (Kin.refl _ P) (z2h cls M).2) (Kin.refl _ Q)).trans h
theorem y0j7 {P Q R S : Prop} (a : Q) (b : R) (c : S) (h : Mk P → Hid Q → Hid R → Hid S → P := by
 intro m q r s
 repeat' first | refine z07 (by first | assumption | (apply_assumption <;> first | assumption | omega)) ?_ ?_ | refine LSp.fit (by assumption) ?_ | simp (maxSteps := 4000000) (disch := omega) only [z13, z12, bun, ↓z05, ↓z01, z03, findLabel, ↓reduceIte, imp, shift, z0g, z0c, unown, names, z08, below, noF, isF, z04, z0a, z09, ren, z0t, z0u, z0h, renO, belowM, seval, -Int.reduceToNat, bT, z14, z2c, z0d, *] | exact z0n _ | refine z0m _ _ ?_ | exact Cln.cl | refine z02 _ ?_ | refine z00 _ _ ?_ ?_ | refine z10 _ ?_ | (refine Fk.fk ?_ ?_ <;> intro hg <;> (try simp only [hg]) <;> (try simp only [z11] at hg) <;> try (exfalso; first | omega | exact Bool.noConfusion hg | exact hg trivial)) | refine And.intro (by omega) ?_ | omega
 first
 | done
 | all_goals (repeat revert hg)
   fail_if_success with_reducible refine m.use ?_
   exact q.out
   first
   | done
   | exact r.out
     first
     | done
     | exact s.out
       first | done | fail) : P := h ⟨tru⟩ ⟨a⟩ ⟨b⟩ ⟨c⟩
theorem ztw (A S B : List Int) (off n : Nat) (ho : off = A.length) (hn : n = S.length) (hL : (A ++ S ++ B).length ≤ 1000000) (hr : ∀ r ∈ S, okR r) :
   z4a Tryz.prog 191 [.row true 1 z0f, .row false 1 ((A ++ S ++ B).map I32)] [.ref 1 off n, I64 n, .fn 165 [] [.ptr 0 0]] [.row true 1 z0f, .row false 1 ((A ++ ssort cls S ++ B).map I32), .fence] (.tup []) := by
 refine z2g (ts := []) ok1 Tryz.func191 rfl rfl (by decide +kernel) (by simp [Tryz.ntmps191]) rfl ?_
 have hlen : (A ++ S ++ B).length = A.length + S.length + B.length := by simp; omega
 refine y0j7 ?_ tru tru <;> intros
 refine z0j (fun x : Nat × List Int => ⟨[(0, .ref 1 off n), (1, I64 n), (2, .fn 165 [] [.ptr 0 0]), (6, I64 20), (7, I64 (20 * x.1)), (8, I64 (20 * x.1 + 20))], [.row true 1 z0f, .row false 1 ((A ++ x.2 ++ B).map I32), .fence]⟩)
   (fun x => x.2.length = n ∧ Kin cls x.2 S ∧ 20 * x.1 ≤ n ∧ ∀ j, j < x.1 → Up cls (seg 20 j x.2)) (fun x => n - 20 * x.1) (0, S) ⟨hn.symm, Kin.refl _ _, by simp, fun j hj => absurd hj (by simp)⟩ (by (simp (disch := omega) [wk, wkT, wkM, noF, isF, get, z0b, belowM, below, belows, I64, I32, Bv, U8, Sv, z0d] <;> try omega)) ?_
 rintro ⟨i, W⟩ ⟨w1, w2, w3, w4⟩
 dsimp only at w1 w2 w3 w4
 have hrW : ∀ r ∈ W, okR r := fun r hr' => hr r (w2.mem.1 hr')
 by_cases hlt : 20 * i + 20 ≤ n
 · have eW : W = W.take (20 * i) ++ (W.drop (20 * i)).take 20 ++ W.drop (20 * i + 20) := by
     rw [List.append_assoc, ← List.drop_drop, List.take_append_drop, List.take_append_drop]
   have l1 : (W.take (20 * i)).length = 20 * i := by simp; omega
   have l2 : ((W.drop (20 * i)).take 20).length = 20 := by simp; omega
   have l3 : (W.drop (20 * i + 20)).length = n - (20 * i + 20) := by simp; omega
   generalize W.take (20 * i) = P at *
   generalize (W.drop (20 * i)).take 20 = M at *
   generalize W.drop (20 * i + 20) = Q at *
   subst eW
   have hc := za5 (A ++ P) M (Q ++ B) off n (20 * i) (20 * i + 20) (by simp; omega) (by omega) hlt (by simp; omega) (by simp; omega) (fun r hr' => hrW r (by simp [hr']))
   rw [show A ++ P ++ M ++ (Q ++ B) = A ++ (P ++ M ++ Q) ++ B by simp] at hc
   have e1 : (20 : Int) * (i : Int) = ((20 * i : Nat) : Int) := by omega
   have e2 : ((20 * i : Nat) : Int) + 20 = ((20 * i + 20 : Nat) : Int) := by omega
   repeat' first | (refine z1b [0, 1] (hc) ?_; clear hc) | simp (maxSteps := 4000000) (disch := omega) only [z13, z12, bun, ↓z05, ↓z01, z03, findLabel, ↓reduceIte, imp, shift, z0g, z0c, unown, names, z08, below, noF, isF, z04, z0a, z09, ren, z0t, z0u, z0h, renO, belowM, seval, -Int.reduceToNat, e1, e2, B3, B4, B21, B63, z36, z14, z2c, z0d] | exact z0n _ | refine z0m _ _ ?_ | exact Cln.cl | refine z02 _ ?_ | refine z00 _ _ ?_ ?_ | refine z10 _ ?_ | (refine Fk.fk ?_ ?_ <;> intro hg <;> (try simp only [hg]) <;> (try simp only [z11] at hg) <;> try (exfalso; first | omega | exact Bool.noConfusion hg | exact hg trivial)) | refine And.intro (by omega) ?_ | omega
   have hsl := z1n cls M
   refine ⟨(i + 1, P ++ ssort cls M ++ Q), ⟨by simp; omega, zn8 w2, by dsimp only; omega, fun j hj => ?_⟩, by dsimp only; omega, ?_⟩
   · by_cases hji : j < i
     · have := w4 j hji
       rw [List.append_assoc, z5z (by omega)] at this
       rw [List.append_assoc, z5z (by omega)]
       exact this
     · have : j = i := by omega
       subst this
       rw [y09c (by omega) (by omega)]
       exact (z2h cls M).1
   · (simp (disch := omega) [wk, wkT, wkM, noF, isF, get, z0b, belowM, below, belows, I64, I32, Bv, U8, Sv, z0d, List.append_assoc] <;> try omega)
 · have eW : W = W.take (20 * i) ++ W.drop (20 * i) := (List.take_append_drop _ _).symm
   have l1 : (W.take (20 * i)).length = 20 * i := by simp; omega
   have l2 : (W.drop (20 * i)).length = n - 20 * i := by simp; omega
   generalize W.take (20 * i) = P at *
   generalize W.drop (20 * i) = M at *
   subst eW
   have hc := za5 (A ++ P) M B off n (20 * i) n (by simp; omega) (by omega) (by omega) (by simp; omega) (by simp; omega) (fun r hr' => hrW r (by simp [hr']))
   rw [show A ++ P ++ M ++ B = A ++ (P ++ M) ++ B by simp] at hc
   have e1 : (20 : Int) * (i : Int) = ((20 * i : Nat) : Int) := by omega
   have hsl := z1n cls M
   have hW : ∃ W : List Int, P ++ ssort cls M = W ∧ W.length = n ∧ Kin cls W S ∧ ∀ j, Up cls (seg 20 j W) := by
     refine ⟨_, rfl, by simp; omega, ?_, fun j => ?_⟩
     · have := zn8 (P := P) (M := M) (Q := []) (by simpa using w2)
       simpa using this
     · by_cases hji : j < i
       · have := w4 j hji
         rw [z5z (by omega)] at this
         rw [z5z (by omega)]
         exact this
       · by_cases hje : j = i
         · subst hje
           rw [y09b (by omega) (by omega)]
           exact (z2h cls M).1
         · rw [znt (by simp; omega)]; trivial
   obtain ⟨W, hWe, v1, v2, v3⟩ := hW
   rw [show A ++ P ++ ssort cls M ++ B = A ++ W ++ B by rw [← hWe, List.append_assoc A]] at hc
   repeat' first | (refine z1b [0, 1] (hc) ?_; clear hc) | simp (maxSteps := 4000000) (disch := omega) only [z13, z12, bun, ↓z05, ↓z01, z03, findLabel, ↓reduceIte, imp, shift, z0g, z0c, unown, names, z08, below, noF, isF, z04, z0a, z09, ren, z0t, z0u, z0h, renO, belowM, seval, -Int.reduceToNat, e1, B3, B4, B21, B63, z36, z14, z2c, z0d] | exact z0n _ | refine z0m _ _ ?_ | exact Cln.cl | refine z02 _ ?_ | refine z00 _ _ ?_ ?_ | refine z10 _ ?_ | (refine Fk.fk ?_ ?_ <;> intro hg <;> (try simp only [hg]) <;> (try simp only [z11] at hg) <;> try (exfalso; first | omega | exact Bool.noConfusion hg | exact hg trivial)) | refine And.intro (by omega) ?_ | omega
   clear hWe hsl e1 l2 l1 w4 w3 w2 w1 hrW hlt
   refine z0j (fun x : Nat × List Int => ⟨[(0, .ref 1 off n), (1, I64 n), (2, .fn 165 [] [.ptr 0 0]), (6, I64 x.1)], [.row true 1 z0f, .row false 1 ((A ++ x.2 ++ B).map I32), .fence]⟩)
     (fun x => x.2.length = n ∧ Kin cls x.2 S ∧ 0 < x.1 ∧ x.1 ≤ 2 * n + 20 ∧ ∀ j, Up cls (seg x.1 j x.2)) (fun x => n - x.1) (20, W) ⟨v1, v2, by simp, by dsimp only; omega, v3⟩ (by (simp (disch := omega) [wk, wkT, wkM, noF, isF, get, z0b, belowM, below, belows, I64, I32, Bv, U8, Sv, z0d] <;> try omega)) ?_
   clear v1 v2 v3 W
   rintro ⟨bs, W⟩ ⟨w1, w2, hb0, hb1, w3⟩
   dsimp only at w1 w2 hb0 hb1 w3
   by_cases hbn : bs < n
   · repeat' first | simp (maxSteps := 4000000) (disch := omega) only [z13, z12, bun, ↓z05, ↓z01, z03, findLabel, ↓reduceIte, imp, shift, z0g, z0c, unown, names, z08, below, noF, isF, z04, z0a, z09, ren, z0t, z0u, z0h, renO, belowM, seval, -Int.reduceToNat, B3, B4, B21, B63, z36, z14, z2c, z0d] | refine z10 _ ?_ | (refine Fk.fk ?_ ?_ <;> intro hg <;> (try simp only [hg]) <;> (try simp only [z11] at hg) <;> try (exfalso; first | omega | exact Bool.noConfusion hg | exact hg trivial)) | refine And.intro (by omega) ?_ | omega
     refine z0j (fun x : Nat × Nat × List Int => ⟨[(0, .ref 1 off n), (1, I64 n), (2, .fn 165 [] [.ptr 0 0]), (6, I64 bs), (7, I64 x.2.1), (8, I64 (x.2.1 + 2 * bs))], [.row true 1 z0f, .row false 1 ((A ++ x.2.2 ++ B).map I32), .fence]⟩)
       (fun x => x.2.1 = 2 * bs * x.1 ∧ x.2.1 ≤ n ∧ x.2.2.length = n ∧ Kin cls x.2.2 S ∧ (∀ j, j < x.1 → Up cls (seg (2 * bs) j x.2.2)) ∧ ∀ j, 2 * x.1 ≤ j → Up cls (seg bs j x.2.2)) (fun x => n - x.2.1) (0, 0, W) ⟨by simp, by simp, w1, w2, fun j hj => absurd hj (by simp), fun j _ => w3 j⟩ (by (simp (disch := omega) [wk, wkT, wkM, noF, isF, get, z0b, belowM, below, belows, I64, I32, Bv, U8, Sv, z0d] <;> try omega)) ?_
     clear w1 w2 w3
     rintro ⟨i, k, W⟩ ⟨hk, hkn, w1, w2, w3, w4⟩
     dsimp only at hk hkn w1 w2 w3 w4
     have hrW : ∀ r ∈ W, okR r := fun r hr' => hr r (w2.mem.1 hr')
     have hk2 : bs * (2 * i) = k := by rw [hk, Nat.mul_comm 2 bs, Nat.mul_assoc]
     have hk3 : bs * (2 * i + 1) = k + bs := by rw [Nat.mul_succ, hk2]
     have hk4 : bs * (2 * (i + 1)) = k + 2 * bs := by rw [show 2 * (i + 1) = 2 * i + 1 + 1 by omega, Nat.mul_succ, hk3]; omega
     have hk5 : 2 * bs * (i + 1) = k + 2 * bs := by rw [Nat.mul_succ, ← hk]
     have hkj : ∀ j, j < i → 2 * bs * j + 2 * bs ≤ k := fun j hj => by
       rw [hk, ← Nat.mul_succ]; exact Nat.mul_le_mul_left _ hj
     have hkj2 : ∀ j, i < j → k + 2 * bs ≤ 2 * bs * j := fun j hj => by
       rw [← hk5]; exact Nat.mul_le_mul_left _ hj
     have hkj3 : ∀ j, 2 * (i + 1) ≤ j → k + 2 * bs ≤ bs * j := fun j hj => by
       rw [← hk4]; exact Nat.mul_le_mul_left _ hj
     have uX := w4 (2 * i) (Nat.le_refl _)
     have uY := w4 (2 * i + 1) (by omega)
     unfold seg at uX uY
     rw [hk2] at uX
     rw [hk3] at uY
     by_cases hlt2 : k + 2 * bs ≤ n
     · have eW : W = W.take k ++ (W.drop k).take bs ++ (W.drop (k + bs)).take bs ++ W.drop (k + bs + bs) := by
         have d1 : W.drop (k + bs + bs) = (W.drop (k + bs)).drop bs := by rw [List.drop_drop]
         have d2 : W.drop (k + bs) = (W.drop k).drop bs := by rw [List.drop_drop]
         rw [d1, List.append_assoc, List.take_append_drop, d2, List.append_assoc, List.take_append_drop, List.take_append_drop]
       have l1 : (W.take k).length = k := by simp; omega
       have l2 : ((W.drop k).take bs).length = bs := by simp; omega
       have l3 : ((W.drop (k + bs)).take bs).length = bs := by simp; omega
       have l4 : (W.drop (k + bs + bs)).length = n - (k + bs + bs) := by simp; omega
       generalize W.take k = P at *
       generalize (W.drop k).take bs = X at *
       generalize (W.drop (k + bs)).take bs = Y at *
       generalize W.drop (k + bs + bs) = Q at *
       subst eW
       have hc := zyz _ (A ++ P) X Y (Q ++ B) off n k (k + bs) (k + 2 * bs) (Nat.le_refl _) (by omega) (by omega) (by simp; omega) (by omega) (by omega) (by omega) (by simp; omega) (by simp; omega) (fun r hr' => hrW r (by simp [hr'])) (fun r hr' => hrW r (by simp [hr'])) uX uY
       rw [show A ++ P ++ X ++ Y ++ (Q ++ B) = A ++ (P ++ X ++ Y ++ Q) ++ B by simp] at hc
       have e1 : (k : Int) + (bs : Int) = ((k + bs : Nat) : Int) := by omega
       have e2 : (k : Int) + 2 * (bs : Int) = ((k + 2 * bs : Nat) : Int) := by omega
       have hsl := z1n cls (X ++ Y)
       rw [List.length_append] at hsl
       repeat' first | (refine z1b [0, 1] (hc) ?_; clear hc) | simp (maxSteps := 4000000) (disch := omega) only [z13, z12, bun, ↓z05, ↓z01, z03, findLabel, ↓reduceIte, imp, shift, z0g, z0c, unown, names, z08, below, noF, isF, z04, z0a, z09, ren, z0t, z0u, z0h, renO, belowM, seval, -Int.reduceToNat, e1, e2, B3, B4, B21, B63, z36, z14, z2c, z0d] | exact z0n _ | refine z0m _ _ ?_ | exact Cln.cl | refine z02 _ ?_ | refine z00 _ _ ?_ ?_ | refine z10 _ ?_ | (refine Fk.fk ?_ ?_ <;> intro hg <;> (try simp only [hg]) <;> (try simp only [z11] at hg) <;> try (exfalso; first | omega | exact Bool.noConfusion hg | exact hg trivial)) | refine And.intro (by omega) ?_ | omega
       refine ⟨(i + 1, k + 2 * bs, P ++ ssort cls (X ++ Y) ++ Q), ⟨hk5.symm, hlt2, by simp; omega, zn8 (by rw [← List.append_assoc P]; exact w2), fun j hj => ?_, fun j hj => ?_⟩, by dsimp only; omega, ?_⟩
       · by_cases hji : j < i
         · have q := w3 j hji
           have := hkj j hji
           rw [List.append_assoc, List.append_assoc, z5z (by omega)] at q
           rw [List.append_assoc, z5z (by omega)]
           exact q
         · have : j = i := by omega
           subst this
           rw [y09c (by omega) (by omega)]
           exact (z2h cls (X ++ Y)).1
       · have q := w4 j (by omega)
         have := hkj3 j hj
         rw [y09d (P' := P ++ X ++ Y) (by simp; omega) (by simp; omega)]
         exact q
       · (simp (disch := omega) [wk, wkT, wkM, noF, isF, get, z0b, belowM, below, belows, I64, I32, Bv, U8, Sv, z0d, List.append_assoc] <;> try omega)
     · by_cases hm : k + bs < n
       · have eW : W = W.take k ++ (W.drop k).take bs ++ W.drop (k + bs) := by
           rw [List.append_assoc, ← List.drop_drop, List.take_append_drop, List.take_append_drop]
         have l1 : (W.take k).length = k := by simp; omega
         have l2 : ((W.drop k).take bs).length = bs := by simp; omega
         have l3 : (W.drop (k + bs)).length = n - (k + bs) := by simp; omega
         rw [List.take_of_length_le (by omega)] at uY
         generalize W.take k = P at *
         generalize (W.drop k).take bs = X at *
         generalize W.drop (k + bs) = Y at *
         subst eW
         have hc := zyz _ (A ++ P) X Y B off n k (k + bs) n (Nat.le_refl _) (by omega) (by omega) (by simp; omega) (by omega) (by omega) (by omega) (by simp; omega) (by simp; omega) (fun r hr' => hrW r (by simp [hr'])) (fun r hr' => hrW r (by simp [hr'])) uX uY
         rw [show A ++ P ++ X ++ Y ++ B = A ++ (P ++ X ++ Y) ++ B by simp] at hc
         have e1 : (k : Int) + (bs : Int) = ((k + bs : Nat) : Int) := by omega
         have hsl := z1n cls (X ++ Y)
         rw [List.length_append] at hsl
         repeat' first | (refine z1b [0, 1] (hc) ?_; clear hc) | simp (maxSteps := 4000000) (disch := omega) only [z13, z12, bun, ↓z05, ↓z01, z03, findLabel, ↓reduceIte, imp, shift, z0g, z0c, unown, names, z08, below, noF, isF, z04, z0a, z09, ren, z0t, z0u, z0h, renO, belowM, seval, -Int.reduceToNat, e1, B3, B4, B21, B63, z36, z14, z2c, z0d] | exact z0n _ | refine z0m _ _ ?_ | exact Cln.cl | refine z02 _ ?_ | refine z00 _ _ ?_ ?_ | refine z10 _ ?_ | (refine Fk.fk ?_ ?_ <;> intro hg <;> (try simp only [hg]) <;> (try simp only [z11] at hg) <;> try (exfalso; first | omega | exact Bool.noConfusion hg | exact hg trivial)) | refine And.intro (by omega) ?_ | omega
         refine ⟨(bs * 2, P ++ ssort cls (X ++ Y)), ⟨by simp; omega, ?_, by dsimp only; omega, by dsimp only; omega, fun j => ?_⟩, by dsimp only; omega, ?_⟩
         · have := zn8 (P := P) (M := X ++ Y) (Q := []) (by simpa using w2)
           simpa using this
         · dsimp only
           rw [Nat.mul_comm bs 2]
           by_cases hji : j < i
           · have q := w3 j hji
             have := hkj j hji
             rw [List.append_assoc, z5z (by omega)] at q
             rw [z5z (by omega)]
             exact q
           · by_cases hje : j = i
             · subst hje
               rw [y09b (by omega) (by omega)]
               exact (z2h cls (X ++ Y)).1
             · have := hkj2 j (by omega)
               rw [znt (by simp; omega)]; trivial
         · (simp (disch := omega) [wk, wkT, wkM, noF, isF, get, z0b, belowM, below, belows, I64, I32, Bv, U8, Sv, z0d, List.append_assoc] <;> try omega)
       · have e1 : (k : Int) + (bs : Int) = ((k + bs : Nat) : Int) := by omega
         repeat' first | simp (maxSteps := 4000000) (disch := omega) only [z13, z12, bun, ↓z05, ↓z01, z03, findLabel, ↓reduceIte, imp, shift, z0g, z0c, unown, names, z08, below, noF, isF, z04, z0a, z09, ren, z0t, z0u, z0h, renO, belowM, seval, -Int.reduceToNat, e1, B3, B4, B21, B63, z36, z14, z2c, z0d] | refine z10 _ ?_ | (refine Fk.fk ?_ ?_ <;> intro hg <;> (try simp only [hg]) <;> (try simp only [z11] at hg) <;> try (exfalso; first | omega | exact Bool.noConfusion hg | exact hg trivial)) | refine And.intro (by omega) ?_ | omega
         refine ⟨(bs * 2, W), ⟨w1, w2, by dsimp only; omega, by dsimp only; omega, fun j => ?_⟩, by dsimp only; omega, ?_⟩
         · dsimp only
           rw [Nat.mul_comm bs 2]
           by_cases hji : j < i
           · exact w3 j hji
           · by_cases hje : j = i
             · subst hje
               unfold seg
               rw [← hk, List.take_of_length_le (by simp; omega)]
               rw [List.take_of_length_le (by simp; omega)] at uX
               exact uX
             · have := hkj2 j (by omega)
               rw [znt (by omega)]; trivial
         · (simp (disch := omega) [wk, wkT, wkM, noF, isF, get, z0b, belowM, below, belows, I64, I32, Bv, U8, Sv, z0d] <;> try omega)
   · have hup : Up cls W := by
       have := w3 0
       unfold seg at this
       rw [Nat.mul_zero, List.drop_zero, List.take_of_length_le (by omega)] at this
       exact this
     rw [← z5f hup w2]
     exact y0j7 tru tru tru
theorem zqz (A S B : List Int) (off n : Nat) (ho : off = A.length) (hn : n = S.length) (hL : (A ++ S ++ B).length ≤ 1000000) (hr : ∀ r ∈ S, okR r) :
   z4a Tryz.prog 164 [.row true 1 z0f, .row false 1 ((A ++ S ++ B).map I32)] [.ref 1 off n, .fn 165 [] [.ptr 0 0]] [.row true 1 z0f, .row false 1 ((A ++ ssort cls S ++ B).map I32), .fence] (.tup []) := by
 refine z2g (ts := []) ok1 Tryz.func164 rfl rfl (by decide +kernel) (by simp [Tryz.ntmps164]) rfl ?_
 have hc := ztw A S B off n ho hn hL hr
 repeat' first | (refine z1b [0, 1] hc ?_; clear hc) | refine y0j7 ?_ tru tru <;> intros | refine y0j7 ?_ ?_ tru <;> intros | refine y0j7 ?_ ?_ ?_ <;> intros | exact y0j7 tru tru tru | fail
theorem zi1 (s : St) : fz s tab = tab := rfl
theorem zb5 (n : Nat) : below n tab = true := rfl
theorem z5o : names tab = false := rfl
theorem y0n6 (s : St) : z0f.map (fz1 s) = z0f := rfl
theorem y0j8 {P Q R S : Prop} (a : Q) (b : R) (c : S) (h : Mk P → Hid Q → Hid R → Hid S → P := by
 intro m q r s
 repeat' first | refine z07 (by first | assumption | (apply_assumption <;> first | assumption | omega)) ?_ ?_ | refine LSp.fit (by assumption) ?_ | simp (maxSteps := 4000000) (disch := omega) only [z13, z12, bun, ↓z05, ↓z01, z03, findLabel, ↓reduceIte, imp, shift, z0g, z0c, unown, names, z08, below, noF, isF, z04, z0a, z09, ren, z0t, z0u, z0h, renO, belowM, seval, -Int.reduceToNat, bT, z14, z2c, z0d, zi1, zb5, z5o, z2p, z39, z7q, y0n6, z0e, List.append_nil, *] | exact z0n _ | refine z0m _ _ ?_ | exact Cln.cl | refine z02 _ ?_ | refine z00 _ _ ?_ ?_ | refine z10 _ ?_ | (refine Fk.fk ?_ ?_ <;> intro hg <;> (try simp only [hg]) <;> (try simp only [z11] at hg) <;> try (exfalso; first | omega | exact Bool.noConfusion hg | exact hg trivial)) | refine And.intro (by omega) ?_ | omega
 first
 | done
 | all_goals (repeat revert hg)
   fail_if_success with_reducible refine m.use ?_
   exact q.out
   first
   | done
   | exact r.out
     first
     | done
     | exact s.out
       first | done | fail) : P := h ⟨tru⟩ ⟨a⟩ ⟨b⟩ ⟨c⟩
theorem y0ho : z0q Tryz.prog 207 [.sl 0 [], I64 0, I64 0, .fn 165 [] [.cp z0f]] (.tup []) := by
 refine sp [] Tryz.func207 Tryz.ntmps207 ?_
 refine y0j8 ?_ tru tru <;> intros
 refine z0j (fun i : Nat => ⟨[(2, I64 0), (8, I64 1)], []⟩) (fun i => i = 0) (fun i => 0) 0 rfl wk0 ?_
 rintro i rfl
 exact y0j8 tru tru tru
theorem y01b : z0q Tryz.prog 191 [.sl 0 [], I64 0, .fn 165 [] [.cp z0f]] (.tup []) := by
 refine sp [] Tryz.func191 Tryz.ntmps191 ?_
 refine y0j8 ?_ tru tru <;> intros
 refine z0j (fun i : Nat => ⟨[(0, .sl 0 []), (1, I64 0), (2, .fn 165 [] [.cp z0f]), (6, I64 20), (7, I64 0), (8, I64 20)], []⟩) (fun i => i = 0) (fun i => 0) 0 rfl wk0 ?_
 rintro i rfl
 (have := y0ho; refine y0j8 ?_ tru tru <;> intros)
 refine z0j (fun i : Nat => ⟨[(1, I64 0), (6, I64 20)], []⟩) (fun i => i = 0) (fun i => 0) 0 rfl wk0 ?_
 rintro i rfl
 exact y0j8 tru tru tru
theorem y0cc : z0q Tryz.prog 164 [.sl 0 [], .fn 165 [] [.cp z0f]] (.tup []) := by
 refine sp [] Tryz.func164 Tryz.ntmps164 ?_
 (have := y01b; exact y0j8 tru tru tru)
theorem y00t (l : List Int) (hl : l.length ≤ 500000) (hr : ∀ r ∈ l, okR r) : z0q Tryz.prog 124 [tab, .sl l.length (l.map I32)] (.own 21 1 l.length ((z8m l).map I32)) := by
 rw [← z0e]
 refine sp [.tmp 4] Tryz.func124 Tryz.ntmps124 ?_
 repeat' first | refine z07 (zzm l (by omega)) ?_ ?_ | simp (maxSteps := 4000000) (disch := omega) only [z13, z12, bun, ↓z05, ↓z01, z03, findLabel, ↓reduceIte, imp, shift, z0g, z0c, unown, names, z08, below, noF, isF, z04, z0a, z09, ren, z0t, z0u, z0h, renO, belowM, seval, -Int.reduceToNat, z2p, z39, D29, B21, B63, z36, z14, z2c, z0d, zi1, zb5, z5o] | exact z0n _ | refine z0m _ _ ?_ | exact Cln.cl | refine z02 _ ?_ | refine z00 _ _ ?_ ?_ | refine z10 _ ?_ | (refine Fk.fk ?_ ?_ <;> intro hg <;> (try simp only [hg]) <;> (try simp only [z11] at hg) <;> try (exfalso; first | omega | exact Bool.noConfusion hg | exact hg trivial)) | refine And.intro (by omega) ?_ | omega
 refine z0j (fun x : Nat × Nat × List Int × List Int × List Int => ⟨[(2, .ptr 0 0), (5, .ref 2 0 l.length), (6, I64 x.1), (7, I64 x.2.1)], [.row true 1 z0f, .dead, .arr 21 1 ((x.2.2.1 ++ x.2.2.2.1 ++ x.2.2.2.2).map I32)]⟩)
   (fun x => (x.2.2.1 ++ x.2.2.2.1 ++ x.2.2.2.2).length = l.length ∧ ((x.1 = x.2.2.1.length ∧ x.2.1 = x.1 + x.2.2.2.1.length ∧ x.2.2.1 ++ z5k x.2.2.2.1 x.2.2.2.2 = z8m l ∧ (∀ r ∈ x.2.2.2.1, okR r) ∧ ∀ r ∈ x.2.2.2.2, okR r) ∨ (x.2.1 = l.length + 1 ∧ x.2.2.2.1 = [] ∧ x.2.2.2.2 = [] ∧ x.2.2.1 = z8m l)))
   (fun x => l.length + 1 - x.2.1) (0, 0, [], [], l) ⟨by simp, .inl ⟨rfl, rfl, rfl, by simp, hr⟩⟩ (by (simp (disch := omega) [wk, wkT, wkM, noF, isF, get, z0b, belowM, below, belows, I64, I32, Bv, U8, Sv, z0d] <;> try omega)) ?_
 rintro ⟨fr, k, D, R, T⟩ ⟨h1, h2⟩
 dsimp only at h1 h2
 rcases h2 with ⟨q1, q2, q3, q4, q5⟩ | ⟨q1, q2, q3, q4⟩
 · have hlen : D.length + R.length + T.length = l.length := by simpa [Nat.add_assoc] using h1
   cases T with
   | nil =>
     simp only [List.append_nil] at *
     rw [z5k] at q3
     have hk : k = l.length := by simp at hlen; omega
     by_cases h0 : 0 < l.length
     · have hc := zqz D R [] fr R.length q1 rfl (by simp at hlen; simp; omega) q4
       simp only [List.append_nil] at hc
       have e1 : k - fr = R.length := by omega
       repeat' first | (refine z1b [0, 2] (hc) ?_; clear hc) | simp (maxSteps := 4000000) (disch := omega) only [z13, z12, bun, ↓z05, ↓z01, z03, findLabel, ↓reduceIte, imp, shift, z0g, z0c, unown, names, z08, below, noF, isF, z04, z0a, z09, ren, z0t, z0u, z0h, renO, belowM, seval, -Int.reduceToNat, z2p, z39, z7q, e1, h1, D29, B21, B63, z36, z14, z2c, z0d, zi1, zb5, z5o] | exact z0n _ | refine z0m _ _ ?_ | exact Cln.cl | refine z02 _ ?_ | refine z00 _ _ ?_ ?_ | refine z10 _ ?_ | (refine Fk.fk ?_ ?_ <;> intro hg <;> (try simp only [hg]) <;> (try simp only [z11] at hg) <;> try (exfalso; first | omega | exact Bool.noConfusion hg | exact hg trivial)) | refine And.intro (by omega) ?_ | omega
       have hsl := z1n cls R
       refine ⟨(k + 1, k + 1, z8m l, [], []), ⟨by dsimp only; rw [← q3]; simp at hlen; simp; omega, .inr ⟨by dsimp only; omega, rfl, rfl, rfl⟩⟩, by dsimp only; omega, ?_⟩
       rw [← q3]
       (simp (disch := omega) [wk, wkT, wkM, noF, isF, get, z0b, belowM, below, belows, I64, I32, Bv, U8, Sv, z0d] <;> try omega)
     · have hR : R = [] := List.length_eq_zero_iff.1 (by simp at hlen; omega)
       have hD : D = [] := List.length_eq_zero_iff.1 (by simp at hlen; omega)
       have hl0 : l = [] := List.length_eq_zero_iff.1 (by omega)
       subst hR; subst hD; subst hl0
       simp only [List.length_nil] at *
       subst q1
       have hk0 : k = 0 := hk
       subst hk0
       repeat' first | refine z07 (y0cc) ?_ ?_ | simp (maxSteps := 4000000) (disch := omega) only [z13, z12, bun, ↓z05, ↓z01, z03, findLabel, ↓reduceIte, imp, shift, z0g, z0c, unown, names, z08, below, noF, isF, z04, z0a, z09, ren, z0t, z0u, z0h, renO, belowM, seval, -Int.reduceToNat, z2p, z39, z7q, y0n6, D29, B21, B63, z36, z14, z2c, z0d, zi1, zb5, z5o] | exact z0n _ | refine z0m _ _ ?_ | exact Cln.cl | refine z02 _ ?_ | refine z00 _ _ ?_ ?_ | refine z10 _ ?_ | (refine Fk.fk ?_ ?_ <;> intro hg <;> (try simp only [hg]) <;> (try simp only [z11] at hg) <;> try (exfalso; first | omega | exact Bool.noConfusion hg | exact hg trivial)) | refine And.intro (by omega) ?_ | omega
       refine ⟨(1, 1, [], [], []), ⟨rfl, .inr ⟨rfl, rfl, rfl, rfl⟩⟩, by simp, ?_⟩
       (simp (disch := omega) [wk, wkT, wkM, noF, isF, get, z0b, belowM, below, belows, I64, I32, Bv, U8, Sv, z0d] <;> try omega)
   | cons x T =>
     have hx : okR x := q5 x (by simp)
     have hT : ∀ r ∈ T, okR r := fun r hr' => q5 r (by simp [hr'])
     rw [z5k] at q3
     simp only [List.length_cons] at hlen
     have e0 : (D ++ R ++ x :: T).getD k 0 = x := z4p (by simp; omega)
     by_cases hc : 0 < cls x
     · rw [if_pos hc] at q3
       repeat' first | refine z07 (z5c x hx.1 hx.2) ?_ ?_ | simp (maxSteps := 4000000) (disch := omega) only [z13, z12, bun, ↓z05, ↓z01, z03, findLabel, ↓reduceIte, imp, shift, z0g, z0c, unown, names, z08, below, noF, isF, z04, z0a, z09, ren, z0t, z0u, z0h, renO, belowM, seval, -Int.reduceToNat, z2p, z39, z7q, h1, e0, z0e, D29, B21, B63, z36, z14, z2c, z0d, zi1, zb5, z5o] | exact z0n _ | refine z0m _ _ ?_ | exact Cln.cl | refine z02 _ ?_ | refine z00 _ _ ?_ ?_ | refine z10 _ ?_ | (refine Fk.fk ?_ ?_ <;> intro hg <;> (try simp only [hg]) <;> (try simp only [z11] at hg) <;> try (exfalso; first | omega | exact Bool.noConfusion hg | exact hg trivial)) | refine And.intro (by omega) ?_ | omega
       refine ⟨(fr, k + 1, D, R ++ [x], T), ⟨by simp; omega, .inl ⟨q1, by simp; omega, q3, fun r hr' => ?_, hT⟩⟩, by dsimp only; omega, ?_⟩
       · rcases List.mem_append.1 hr' with h | h
         · exact q4 r h
         · simp at h; subst h; exact hx
       · (simp (disch := omega) [wk, wkT, wkM, noF, isF, get, z0b, belowM, below, belows, I64, I32, Bv, U8, Sv, z0d, List.append_assoc] <;> try omega)
     · rw [if_neg hc] at q3
       have hs := zqz D R (x :: T) fr R.length q1 rfl (by simp; omega) q4
       have e1 : k - fr = R.length := by omega
       have hsl := z1n cls R
       repeat' first | refine z07 (z5c x hx.1 hx.2) ?_ ?_ | (refine z1b [0, 2] (hs) ?_; clear hs) | simp (maxSteps := 4000000) (disch := omega) only [z13, z12, bun, ↓z05, ↓z01, z03, findLabel, ↓reduceIte, imp, shift, z0g, z0c, unown, names, z08, below, noF, isF, z04, z0a, z09, ren, z0t, z0u, z0h, renO, belowM, seval, -Int.reduceToNat, z2p, z39, z7q, e1, h1, e0, z0e, D29, B21, B63, z36, z14, z2c, z0d, zi1, zb5, z5o] | exact z0n _ | refine z0m _ _ ?_ | exact Cln.cl | refine z02 _ ?_ | refine z00 _ _ ?_ ?_ | refine z10 _ ?_ | (refine Fk.fk ?_ ?_ <;> intro hg <;> (try simp only [hg]) <;> (try simp only [z11] at hg) <;> try (exfalso; first | omega | exact Bool.noConfusion hg | exact hg trivial)) | refine And.intro (by omega) ?_ | omega
       refine ⟨(k + 1, k + 1, D ++ ssort cls R ++ [x], [], T), ⟨by simp; omega, .inl ⟨by simp; omega, by simp, ?_, by simp, hT⟩⟩, by dsimp only; omega, ?_⟩
       · simpa using q3
       · (simp (disch := omega) [wk, wkT, wkM, noF, isF, get, z0b, belowM, below, belows, I64, I32, Bv, U8, Sv, z0d, List.append_assoc] <;> try omega)
 · subst q2; subst q3; subst q4
   simp only [List.append_nil] at h1
   repeat' first | simp (maxSteps := 4000000) (disch := omega) only [z13, z12, bun, ↓z05, ↓z01, z03, findLabel, ↓reduceIte, imp, shift, z0g, z0c, unown, names, z08, below, noF, isF, z04, z0a, z09, ren, z0t, z0u, z0h, renO, belowM, seval, -Int.reduceToNat, h1, List.append_nil, D29, B21, B63, z36, z14, z2c, z0d, zi1, zb5, z5o] | refine z10 _ ?_ | (refine Fk.fk ?_ ?_ <;> intro hg <;> (try simp only [hg]) <;> (try simp only [z11] at hg) <;> try (exfalso; first | omega | exact Bool.noConfusion hg | exact hg trivial)) | refine And.intro (by omega) ?_ | omega
theorem y09g (soft : Bool) (l : List Int) (i : Nat) (h : i < l.length) : z0x soft (l.take (i + 1)) = z0x soft (l.take i) ++ z5x soft (l.getD i 0) := by
 unfold z0x
 rw [z1h l i 0 h, List.flatMap_append]; simp
theorem y0bq (soft : Bool) (r : Int) : (z5x soft r).length ≤ 4 := by
 rw [z32]
 split
 · unfold syl; split <;> simp
 · split
   · simp
   · rename_i hst
     have hs : (spl r).2 = true := by
       unfold stop at hst
       cases hq : (spl r).2
       · rw [hq] at hst; simp at hst
       · rfl
     have h := z4n (q := fun _ s => decide ((za9 5 true s.2.1).length + (za9 5 true s.2.2.1).length ≤ 4) && decide ((za9 5 false s.2.1).length + (za9 5 false s.2.2.1).length ≤ 4)) (by decide +kernel) (by decide +kernel) hs
     simp only [Bool.and_eq_true, decide_eq_true_eq] at h
     have h' : (za9 5 soft (spl r).1.2.1).length + (za9 5 soft (spl r).1.2.2.1).length ≤ 4 := by cases soft; exact h.2; exact h.1
     change (za9 5 soft (spl r).1.2.1).length + _ ≤ 4 at h'
     split
     · show (za9 5 soft (spl r).1.2.1).length ≤ 4; omega
     · rw [List.length_append]; exact h'
theorem zfb (soft : Bool) : ∀ (l : List Int), (z0x soft l).length ≤ 4 * l.length
 | [] => by simp [z0x]
 | a :: l => by
   have h1 := zfb soft l
   have h2 := y0bq soft a
   simp only [z0x, List.flatMap_cons, List.length_append, List.length_cons] at h1 ⊢
   omega
theorem zm6 (s : St) : fzs s z0f = z0f := rfl
theorem z9t : namess z0f = false := rfl
theorem zsc {P Q R S : Prop} (a : Q) (b : R) (c : S) (h : Mk P → Hid Q → Hid R → Hid S → P := by
 intro m q r s
 repeat' first | refine z07 (by first | assumption | (apply_assumption <;> first | assumption | omega)) ?_ ?_ | refine LSp.fit (by assumption) ?_ | simp (maxSteps := 4000000) (disch := omega) only [z13, z12, bun, ↓z05, ↓z01, z03, findLabel, ↓reduceIte, imp, shift, z0g, z0c, unown, names, z08, below, noF, isF, z04, z0a, z09, ren, z0t, z0u, z0h, renO, belowM, seval, -Int.reduceToNat, bT, z14, zm6, z0d, z9t, z2p, z39, z7q, *] | exact z0n _ | refine z0m _ _ ?_ | exact Cln.cl | refine z02 _ ?_ | refine z00 _ _ ?_ ?_ | refine z10 _ ?_ | (refine Fk.fk ?_ ?_ <;> intro hg <;> (try simp only [hg]) <;> (try simp only [z11] at hg) <;> try (exfalso; first | omega | exact Bool.noConfusion hg | exact hg trivial)) | refine And.intro (by omega) ?_ | omega
 first
 | done
 | all_goals (repeat revert hg)
   fail_if_success with_reducible refine m.use ?_
   exact q.out
   first
   | done
   | exact r.out
     first
     | done
     | exact s.out
       first | done | fail) : P := h ⟨tru⟩ ⟨a⟩ ⟨b⟩ ⟨c⟩
theorem z9h (r a n : Int) (h0 : 0 ≤ a) (h1 : 0 ≤ n) (h2 : a + n ≤ 2147483647) : z0q Tryz.prog 192 [I32 r, I32 a, I64 n] (Bv (decide (a ≤ r ∧ r < a + n))) := by
 refine sp [.tmp 6] Tryz.func192 Tryz.ntmps192 ?_
 by_cases c1 : a ≤ r
 · by_cases c2 : r < a + n
   · repeat' first | simp (maxSteps := 4000000) (disch := omega) only [z13, z12, bun, ↓z05, ↓z01, z03, findLabel, ↓reduceIte, imp, shift, z0g, z0c, unown, names, z08, below, noF, isF, z04, z0a, z09, ren, z0t, z0u, z0h, renO, belowM, seval, -Int.reduceToNat, B3, B4, B21, z14, zm6, z0d, z9t] | refine z10 _ ?_ | (refine Fk.fk ?_ ?_ <;> intro hg <;> (try simp only [hg]) <;> (try simp only [z11] at hg) <;> try (exfalso; first | omega | exact Bool.noConfusion hg | exact hg trivial)) | refine And.intro (by omega) ?_ | omega
     all_goals (simp [c1, c2])
   · repeat' first | simp (maxSteps := 4000000) (disch := omega) only [z13, z12, bun, ↓z05, ↓z01, z03, findLabel, ↓reduceIte, imp, shift, z0g, z0c, unown, names, z08, below, noF, isF, z04, z0a, z09, ren, z0t, z0u, z0h, renO, belowM, seval, -Int.reduceToNat, B3, B4, B21, z14, zm6, z0d, z9t] | refine z10 _ ?_ | (refine Fk.fk ?_ ?_ <;> intro hg <;> (try simp only [hg]) <;> (try simp only [z11] at hg) <;> try (exfalso; first | omega | exact Bool.noConfusion hg | exact hg trivial)) | refine And.intro (by omega) ?_ | omega
     all_goals (simp [c1, c2])
 · refine zsc ?_ tru tru <;> intros
   all_goals (simp [c1])
theorem y00m (a b : Int) (ha : okR a) (hb : okR b) : z0q Tryz.prog 167 [tab, I32 a, I32 b] (.tup [I32 (mk2 a b).1, Bv (mk2 a b).2]) := by
 rw [← z0e]
 refine sp [.tmp 6, .tmp 7] Tryz.func167 Tryz.ntmps167 ?_
 have hp := y08k a b
 rw [← z0e] at hp
 obtain ⟨ha0, ha1⟩ := ha
 obtain ⟨hb0, hb1⟩ := hb
 have n1 := z9h a 4352 19 (by decide) (by decide) (by decide)
 have n2 := z9h b 4449 21 (by decide) (by decide) (by decide)
 have n3 := z9h a 44032 11172 (by decide) (by decide) (by decide)
 have n4 := z9h b 4520 27 (by decide) (by decide) (by decide)
 by_cases h1 : 4352 ≤ a ∧ a < 4352 + 19
 · rw [decide_eq_true h1] at n1
   rw [decide_eq_false (show ¬ (44032 ≤ a ∧ a < 44032 + 11172) by omega)] at n3
   have hh : han a = false := by simp [han]; omega
   by_cases h2 : 4449 ≤ b ∧ b < 4449 + 21
   · rw [decide_eq_true h2] at n2
     have e : mk2 a b = (44032 + (a - 4352) * 588 + (b - 4449) * 28, true) := by unfold mk2; rw [if_pos (by omega)]
     rw [e]
     refine zsc ?_ tru tru <;> intros
     all_goals (congr 4; omega)
   · rw [decide_eq_false h2] at n2
     have e : mk2 a b = pr a b := by unfold mk2; rw [if_neg (by omega), if_neg (by rw [hh]; simp)]
     rw [e]
     exact zsc tru tru tru
 · rw [decide_eq_false h1] at n1
   by_cases h3 : 44032 ≤ a ∧ a < 44032 + 11172
   · rw [decide_eq_true h3] at n3
     have hh : han a = true := by simp [han]; omega
     by_cases h5 : (a - 44032) % 28 = 0
     · by_cases h4 : 4520 ≤ b ∧ b < 4520 + 27
       · rw [decide_eq_true h4] at n4
         have e : mk2 a b = (a + b - 4519, true) := by unfold mk2; rw [if_neg (by omega), if_pos ⟨hh, h5, by omega⟩]
         rw [e]
         exact zsc tru tru tru
       · rw [decide_eq_false h4] at n4
         have e : mk2 a b = pr a b := by unfold mk2; rw [if_neg (by omega), if_neg (by rintro ⟨_, _, h⟩; omega)]
         rw [e]
         exact zsc tru tru tru
     · have e : mk2 a b = pr a b := by unfold mk2; rw [if_neg (by omega), if_neg (by rintro ⟨_, h, _⟩; omega)]
       rw [e]
       exact zsc tru tru tru
   · rw [decide_eq_false h3] at n3
     have hh : han a = false := by simp [han]; omega
     have e : mk2 a b = pr a b := by unfold mk2; rw [if_neg (by omega), if_neg (by rw [hh]; simp)]
     rw [e]
     exact zsc tru tru tru
theorem y09m (k : Nat) : z2d k z0f = false := rfl
theorem zu0 (k : Nat) : z56 k z0f = z0f := rfl
theorem tbB : type_of% (And.intro @zm6 (And.intro @z0d (And.intro @z9t (And.intro @z2p (And.intro @z39 (And.intro @z7q (And.intro @y09m @zu0))))))) := (And.intro @zm6 (And.intro @z0d (And.intro @z9t (And.intro @z2p (And.intro @z39 (And.intro @z7q (And.intro @y09m @zu0)))))))
def mx (ms : List Int) : Int := ms.foldl (fun a m => max a (cls m)) 0
theorem y0i3 (ms : List Int) (x : Int) : mx (ms ++ [x]) = max (mx ms) (cls x) := by simp [mx]
theorem y07z (ms : List Int) : 0 ≤ mx ms ∧ mx ms ≤ 300 := by
 have key : ∀ (ms : List Int) (a : Int), 0 ≤ a → a ≤ 300 → 0 ≤ ms.foldl (fun a m => max a (cls m)) a ∧ ms.foldl (fun a m => max a (cls m)) a ≤ 300 := fun ms => by
   induction ms with
   | nil => intro a h h'; exact ⟨h, h'⟩
   | cons m ms ih => intro a h h'; have := zwn m; exact ih _ (show 0 ≤ max a (cls m) by omega) (show max a (cls m) ≤ 300 by omega)
 exact key ms 0 (Int.le_refl 0) (by decide)
theorem y0mt {c : Int} : ∀ {ms : List Int}, ms ≠ [] → (∀ m ∈ ms, 0 < cls m) → ((ms.all fun m => decide (cls m < c)) = true ↔ mx ms < c) := by
 intro ms h0 hp
 have key : ∀ (ms : List Int) (a : Int), (ms.foldl (fun a m => max a (cls m)) a < c ↔ a < c ∧ ∀ m ∈ ms, cls m < c) := fun ms => by
   induction ms with
   | nil => intro a; simp
   | cons m ms ih =>
     intro a
     rw [List.foldl_cons, ih]
     simp only [List.mem_cons, forall_eq_or_imp]
     constructor
     · rintro ⟨h1, h2⟩; exact ⟨by omega, by omega, h2⟩
     · rintro ⟨h1, h2, h3⟩; exact ⟨by omega, h3⟩
 have := key ms 0
 unfold mx
 rw [this]
 simp only [List.all_eq_true, decide_eq_true_eq]
 refine ⟨fun h => ⟨?_, h⟩, fun h => h.2⟩
 cases ms with
 | nil => exact absurd rfl h0
 | cons m ms =>
   have h1 := h m (by simp)
   have h2 := hp m (by simp)
   omega
def stI (s : JS) : Int := match s.st with
 | none => -1
 | some _ => s.pre.length
theorem y0n1 (s : JS) (x : Int) : stI (s.put x) = (if cls x = 0 then (s.out.length : Int) else stI s) ∧ mx (s.put x).ms = (if cls x = 0 then 0 else max (mx s.ms) (cls x)) := by
 unfold JS.put
 split
 · exact ⟨rfl, rfl⟩
 · exact ⟨rfl, y0i3 _ _⟩
structure JOk (s : JS) : Prop where
 pre : ∀ r ∈ s.out, okR r
theorem y0hq {l : List Int} (h : ∀ r ∈ l, okR r) : ∀ r ∈ (zsy l).out, okR r := by
 have key : ∀ (l : List Int) (s : JS), (∀ r ∈ l, okR r) → (∀ r ∈ s.out, okR r) → ∀ r ∈ (l.foldl z1p s).out, okR r := fun l => by
   induction l with
   | nil => intro s _ h; exact h
   | cons x l ih =>
     intro s h1 h2
     refine ih _ (fun r hr => h1 r (by simp [hr])) ?_
     have hp : ∀ r ∈ (s.put x).out, okR r := fun r hr => by
       rw [z7j] at hr
       rcases List.mem_append.1 hr with hr | hr
       · exact h2 r hr
       · simp at hr; subst hr; exact h1 _ (by simp)
     unfold z1p
     split
     · exact hp
     · rename_i b hb
       split
       · split
         · rename_i h3
           intro r hr
           simp only [JS.out, Option.toList_some, List.mem_append, List.mem_cons, List.not_mem_nil, or_false] at hr
           rcases hr with (hr | hr) | hr
           · exact h2 r (by simp [JS.out, hr])
           · subst hr; have := y07w h3; unfold okR; omega
           · exact h2 r (by simp [JS.out, hr])
         · exact hp
       · exact hp
 exact key l _ h (by simp [JS.out])
theorem zep {P Q R S : Prop} {H : Prop} (o : H) (a : Q) (b : R) (c : S) (h : H → Mk P → Hid Q → Hid R → Hid S → P := by
 intro w m q r s
 repeat' first | refine z07 (by first | assumption | (apply_assumption <;> first | assumption | omega)) ?_ ?_ | refine LSp.fit (by assumption) ?_ | simp (maxSteps := 4000000) (disch := omega) only [z13, z12, bun, ↓z05, ↓z01, z03, findLabel, ↓reduceIte, imp, shift, z0g, z0c, unown, names, z08, below, noF, isF, z04, z0a, z09, ren, z0t, z0u, z0h, renO, belowM, seval, -Int.reduceToNat, bT, z14, zm6, z0d, z9t, z2p, z39, z7q, y09m, zu0, z38, w] | exact z0n _ | refine z0m _ _ ?_ | exact Cln.cl | refine z02 _ ?_ | refine z00 _ _ ?_ ?_ | refine z10 _ ?_ | (refine Fk.fk ?_ ?_ <;> intro hg <;> (try simp only [hg]) <;> (try simp only [z11] at hg) <;> try (exfalso; first | omega | exact Bool.noConfusion hg | exact hg trivial)) | refine And.intro (by omega) ?_ | omega
 first
 | done
 | all_goals (repeat revert hg)
   fail_if_success with_reducible refine m.use ?_
   exact q.out
   first
   | done
   | exact r.out
     first
     | done
     | exact s.out
       first | done | fail) : P := h o ⟨tru⟩ ⟨a⟩ ⟨b⟩ ⟨c⟩
theorem y009 (l : List Int) (hl : l.length ≤ 500000) (hr : ∀ r ∈ l, okR r) : z0q Tryz.prog 126 [tab, .sl l.length (l.map I32)] (.own 21 1 (z7b l).length ((z7b l).map I32)) := by
 rw [← z0e]
 refine sp [.tmp 4] Tryz.func126 Tryz.ntmps126 ?_
 refine zep tru ?_ tru tru <;> intros
 refine z0j (fun i : Nat => ⟨[(2, .ptr 0 0), (5, .ref 2 0 (zsy (l.take i)).out.length), (6, I64 (stI (zsy (l.take i)))), (7, I64 (mx (zsy (l.take i)).ms)), (13, .sl l.length (l.map I32)), (14, I64 l.length), (15, I64 i)], [.row true 1 z0f, .dead, .arr 21 1 ((zsy (l.take i)).out.map I32)]⟩)
   (fun i => i ≤ l.length) (fun i => l.length - i) 0 (by simp) (by (simp (disch := omega) [wk, wkT, wkM, noF, isF, get, z0b, belowM, below, belows, I64, I32, Bv, U8, Sv, z0d, zsy, JS.out, stI, mx] <;> try omega)) ?_
 intro i hi
 by_cases hlt : i < l.length
 · have hjt := y072 l i hlt
   have hJ := JI.run (l.take i)
   have hJl := zn7 (l.take i)
   have hJr := y0hq (l := l.take i) (fun r h => hr r (List.mem_of_mem_take h))
   have hlt0 : (l.take i).length = i := by simp; omega
   have hx : okR (l.getD i 0) := hr _ (by simp [List.getD, hlt])
   obtain ⟨x, hxe⟩ : ∃ x, l.getD i 0 = x := ⟨_, rfl⟩
   rw [hxe] at hjt hx
   have hc := z5c x hx.1 hx.2
   rw [← z0e] at hc
   have hc0 := z9a x
   have hc1 := zwn x
   generalize zsy (l.take i) = J at *
   obtain ⟨hp1, hp2⟩ := y0n1 J x
   have hpo := z7j J x
   have hmx := y07z J.ms
   cases hst : J.st with
   | none =>
     have hj : z1p J x = J.put x := by unfold z1p; rw [hst]
     have hs0 : stI J = -1 := by unfold stI; rw [hst]
     by_cases hcx : cls x = 0
     · rw [if_pos hcx] at hp1 hp2
       refine zep (And.intro hxe (And.intro hcx hs0)) ?_ tru tru <;> intros
       refine ⟨i + 1, by omega, by omega, ?_⟩
       rw [hjt, hj, hp1, hp2, hpo]
       (simp (disch := omega) [wk, wkT, wkM, noF, isF, get, z0b, belowM, below, belows, I64, I32, Bv, U8, Sv, z0d] <;> try omega)
     · rw [if_neg hcx] at hp1 hp2
       refine zep (And.intro hxe hs0) ?_ tru tru <;> intros
       refine ⟨i + 1, by omega, by omega, ?_⟩
       rw [hjt, hj, hp1, hp2, hpo, hs0]
       (simp (disch := omega) [wk, wkT, wkM, noF, isF, get, z0b, belowM, below, belows, I64, I32, Bv, U8, Sv, z0d] <;> try omega)
   | some b =>
     have hs0 : stI J = J.pre.length := by unfold stI; rw [hst]
     have hout : J.out = J.pre ++ b :: J.ms := by simp [JS.out, hst]
     have hbo : okR b := hJr b (by rw [hout]; simp)
     have hnp := y00m b x hbo hx
     rw [← z0e] at hnp
     have hol : J.out.length = J.pre.length + (J.ms.length + 1) := by rw [hout]; simp
     have hgb : J.out.getD J.pre.length 0 = b := by rw [hout]; exact z4p rfl
     have hall : ((J.ms.all fun m => decide (cls m < cls x)) = true) ↔ (J.ms = [] ∨ mx J.ms < cls x) := by
       by_cases h0 : J.ms = []
       · rw [h0]; simp
       · rw [y0mt h0 hJ.ms]; simp [h0]
     by_cases hm : mx J.ms < cls x
     · skip
       have hal := hall.2 (.inr hm)
       cases hmk : (mk2 b x).2 with
       | true =>
         have hj : z1p J x = ⟨J.pre, some (mk2 b x).1, J.ms⟩ := by
           unfold z1p; rw [hst]; dsimp only; rw [if_pos hal, if_pos hmk]
         have hset : J.out.set J.pre.length (mk2 b x).1 = J.pre ++ (mk2 b x).1 :: J.ms := by rw [hout]; exact znu rfl
         refine zep (And.intro hxe (And.intro hs0 (And.intro hgb (And.intro hmk hset)))) ?_ tru tru <;> intros
         refine ⟨i + 1, by omega, by omega, ?_⟩
         have o1 : (JS.out ⟨J.pre, some (mk2 b x).1, J.ms⟩) = J.pre ++ (mk2 b x).1 :: J.ms := by simp [JS.out]
         have o2 : stI ⟨J.pre, some (mk2 b x).1, J.ms⟩ = J.pre.length := rfl
         rw [hjt, hj, o1, o2]
         (simp (disch := omega) [wk, wkT, wkM, noF, isF, get, z0b, belowM, below, belows, I64, I32, Bv, U8, Sv, z0d, hol] <;> try omega)
       | false =>
         have hj : z1p J x = J.put x := by
           unfold z1p; rw [hst]; dsimp only; rw [if_pos hal, if_neg (by rw [hmk]; simp)]
         by_cases hcx : cls x = 0
         · rw [if_pos hcx] at hp1 hp2
           exact zep (And.intro hxe (And.intro hcx (And.intro hs0 (And.intro hgb hmk)))) tru tru tru
           all_goals refine ⟨i + 1, by omega, by omega, ?_⟩
           all_goals rw [hjt, hj, hp1, hp2, hpo]
           all_goals (simp (disch := omega) [wk, wkT, wkM, noF, isF, get, z0b, belowM, below, belows, I64, I32, Bv, U8, Sv, z0d] <;> try omega)
         · rw [if_neg hcx] at hp1 hp2
           refine zep (And.intro hxe (And.intro hs0 (And.intro hgb hmk))) ?_ tru tru <;> intros
           all_goals refine ⟨i + 1, by omega, by omega, ?_⟩
           all_goals rw [hjt, hj, hp1, hp2, hpo, hs0]
           all_goals (simp (disch := omega) [wk, wkT, wkM, noF, isF, get, z0b, belowM, below, belows, I64, I32, Bv, U8, Sv, z0d] <;> try omega)
     · by_cases h0 : J.ms = []
       · have hml : J.ms.length = 0 := by rw [h0]; rfl
         have hal := hall.2 (.inl h0)
         cases hmk : (mk2 b x).2 with
         | true =>
           have hj : z1p J x = ⟨J.pre, some (mk2 b x).1, J.ms⟩ := by
             unfold z1p; rw [hst]; dsimp only; rw [if_pos hal, if_pos hmk]
           have hset : J.out.set J.pre.length (mk2 b x).1 = J.pre ++ (mk2 b x).1 :: J.ms := by rw [hout]; exact znu rfl
           refine zep (And.intro hxe (And.intro hs0 (And.intro hgb (And.intro hmk hset)))) ?_ tru tru <;> intros
           refine ⟨i + 1, by omega, by omega, ?_⟩
           have o1 : (JS.out ⟨J.pre, some (mk2 b x).1, J.ms⟩) = J.pre ++ (mk2 b x).1 :: J.ms := by simp [JS.out]
           have o2 : stI ⟨J.pre, some (mk2 b x).1, J.ms⟩ = J.pre.length := rfl
           rw [hjt, hj, o1, o2]
           (simp (disch := omega) [wk, wkT, wkM, noF, isF, get, z0b, belowM, below, belows, I64, I32, Bv, U8, Sv, z0d, hol] <;> try omega)
         | false =>
           have hj : z1p J x = J.put x := by
             unfold z1p; rw [hst]; dsimp only; rw [if_pos hal, if_neg (by rw [hmk]; simp)]
           by_cases hcx : cls x = 0
           · rw [if_pos hcx] at hp1 hp2
             refine zep (And.intro hxe (And.intro hcx (And.intro hs0 (And.intro hgb hmk)))) ?_ tru tru <;> intros
             all_goals refine ⟨i + 1, by omega, by omega, ?_⟩
             all_goals rw [hjt, hj, hp1, hp2, hpo]
             all_goals (simp (disch := omega) [wk, wkT, wkM, noF, isF, get, z0b, belowM, below, belows, I64, I32, Bv, U8, Sv, z0d] <;> try omega)
           · rw [if_neg hcx] at hp1 hp2
             refine zep (And.intro hxe (And.intro hs0 (And.intro hgb hmk))) ?_ tru tru <;> intros
             all_goals refine ⟨i + 1, by omega, by omega, ?_⟩
             all_goals rw [hjt, hj, hp1, hp2, hpo, hs0]
             all_goals (simp (disch := omega) [wk, wkT, wkM, noF, isF, get, z0b, belowM, below, belows, I64, I32, Bv, U8, Sv, z0d] <;> try omega)
       · have hml : 0 < J.ms.length := List.length_pos_iff.2 h0
         have hj : z1p J x = J.put x := by
           unfold z1p; rw [hst]; dsimp only; rw [if_neg (fun h => (hall.1 h).elim h0 hm)]
         by_cases hcx : cls x = 0
         · rw [if_pos hcx] at hp1 hp2
           refine zep (And.intro hxe (And.intro hcx (And.intro hs0 hgb))) ?_ tru tru <;> intros
           all_goals refine ⟨i + 1, by omega, by omega, ?_⟩
           all_goals rw [hjt, hj, hp1, hp2, hpo]
           all_goals (simp (disch := omega) [wk, wkT, wkM, noF, isF, get, z0b, belowM, below, belows, I64, I32, Bv, U8, Sv, z0d] <;> try omega)
         · rw [if_neg hcx] at hp1 hp2
           refine zep (And.intro hxe (And.intro hs0 hgb)) ?_ tru tru <;> intros
           all_goals refine ⟨i + 1, by omega, by omega, ?_⟩
           all_goals rw [hjt, hj, hp1, hp2, hpo, hs0]
           all_goals (simp (disch := omega) [wk, wkT, wkM, noF, isF, get, z0b, belowM, below, belows, I64, I32, Bv, U8, Sv, z0d] <;> try omega)
 · have e : i = l.length := by omega
   subst e
   rw [List.take_length] at *
   refine zep tru ?_ tru tru <;> intros
   rfl
end Go.AE
end
