/- Contracts of functions that the laws of this seat reach, and plain laws of what they compute. No condition beyond each statement's own. -/
import Derived.Test.YtekgeapohenheaaGreatSG
import Derived.Test.YtekgeapohenheaaGreatXA
import Derived.Test.YtekgeapohenheaaGreatXE
import Derived.Test.YtekgeapohenheaaGreatV1
set_option linter.unusedVariables false
set_option linter.unusedSimpArgs false
section
namespace Go.AE
open Go.Proofs
set_option maxRecDepth 20000
set_option maxHeartbeats 8000000
set_option linter.unusedSimpArgs false
end Go.AE
end
section
namespace Go.AE
open Go.Proofs
set_option maxRecDepth 20000
set_option maxHeartbeats 8000000
set_option linter.unusedSimpArgs false
end Go.AE
end
section
namespace Go.AE
open Go.Proofs
set_option maxRecDepth 20000
set_option maxHeartbeats 8000000
set_option linter.unusedSimpArgs false
theorem zrj (k : Nat) : imps k z0n = (z0n, []) := rfl
theorem zzl (a b c d e : AV) : z0x [a, b, c, d, e] 0 z0n = z0n := rfl
theorem zgz (k : Nat) : shifts k z0n = z0n := rfl
theorem tbB2 : type_of% (And.intro @tbB (And.intro @zrj (And.intro @zgz @zzl))) := (And.intro @tbB (And.intro @zrj (And.intro @zgz @zzl)))
theorem nar_spec (r : Int) (hr : okR r) : Spec Tryz.prog 81 [.ag z0n, I32 r] (I32 (nar r)) := by
  have hs := z61 r
  rw [← z0r] at hs
  refine z0g (z := false) (ts := [.tmp 4]) ok1 Tryz.func81 rfl rfl (by decide +kernel) (by simp [Tryz.ntmps81]) rfl ?_
  cases hw : wide r with
  | true =>
    have hw' : 65281 ≤ r ∧ r ≤ 65374 := by simpa [wide] using hw
    have e : nar r = (spl r).1.2.1 := by unfold nar; rw [hw, (zh2 hw).1]; rfl
    rw [e]
    repeat' first | refine z09 (hs) ?_ ?_ | simp (maxSteps := 4000000) (disch := omega) only [bunL, bunD, bun, ↓z04, ↓z00, z02, findLabel, ↓reduceIte, imp, shift, z0b, z0a, unown, names, z06, below, noF, isF, z03, z08, z07, ren, givL, updM, z0c, renO, belowM, seval, -Int.reduceToNat, D107, bunN, tbB2, List.map_nil, List.nil_append, z0j] | exact z0i _ | refine z0h _ _ ?_ | exact Cln.cl | refine z05 _ ?_ | refine z01 _ _ ?_ ?_ | refine DR_q _ ?_ | (refine Fk.fk ?_ ?_ <;> intro hg <;> (try simp only [hg]) <;> (try simp only [bunB] at hg) <;> try (exfalso; first | omega | exact Bool.noConfusion hg | exact hg trivial)) | refine And.intro (by omega) ?_ | omega
    all_goals trace_state
  | false =>
    have hw' : ¬ (65281 ≤ r ∧ r ≤ 65374) := by simpa [wide] using hw
    have e : nar r = r := by unfold nar; rw [hw]; rfl
    rw [e]
    repeat' first | refine z09 (hs) ?_ ?_ | simp (maxSteps := 4000000) (disch := omega) only [bunL, bunD, bun, ↓z04, ↓z00, z02, findLabel, ↓reduceIte, imp, shift, z0b, z0a, unown, names, z06, below, noF, isF, z03, z08, z07, ren, givL, updM, z0c, renO, belowM, seval, -Int.reduceToNat, D107, bunN, tbB2, List.map_nil, List.nil_append, z0j] | exact z0i _ | refine z0h _ _ ?_ | exact Cln.cl | refine z05 _ ?_ | refine z01 _ _ ?_ ?_ | refine DR_q _ ?_ | (refine Fk.fk ?_ ?_ <;> intro hg <;> (try simp only [hg]) <;> (try simp only [bunB] at hg) <;> try (exfalso; first | omega | exact Bool.noConfusion hg | exact hg trivial)) | refine And.intro (by omega) ?_ | omega
    all_goals first | omega | trace_state
theorem zs5 (l : List Int) (hl : l.length ≤ 100000) (hr : ∀ r ∈ l, okR r) : Spec Tryz.prog 79 [.sl l.length (l.map I32), .fn 81 [.ag z0n] []] (.own 21 1 l.length ((l.map nar).map I32)) := by
  refine z0g (z := false) (ts := [.tmp 4]) ok1 Tryz.func79 rfl rfl (by decide +kernel) (by simp [Tryz.ntmps79]) rfl ?_
  repeat' first | simp (maxSteps := 4000000) (disch := omega) only [bunL, bunD, bun, ↓z04, ↓z00, z02, findLabel, ↓reduceIte, imp, shift, z0b, z0a, unown, names, z06, below, noF, isF, z03, z08, z07, ren, givL, updM, z0c, renO, belowM, seval, -Int.reduceToNat, B3, B21, B53, B105, bunN, tbB2, List.map_nil, List.nil_append, z0j] | refine DR_q _ ?_ | (refine Fk.fk ?_ ?_ <;> intro hg <;> (try simp only [hg]) <;> (try simp only [bunB] at hg) <;> try (exfalso; first | omega | exact Bool.noConfusion hg | exact hg trivial)) | refine And.intro (by omega) ?_ | omega
  refine z0p (fun i : Nat => ⟨[(1, .fn 81 [.ag z0n] []), (5, .ref 1 0 i), (8, .sl l.length (l.map I32)), (9, I64 l.length), (10, I64 i)], [.dead, .arr 21 1 (((l.take i).map nar).map I32)]⟩) (fun i => i ≤ l.length) (fun i => l.length - i) 0 (by simp) (by (simp (disch := omega) [wk, wkT, wkM, noF, isF, get, z0e, belowM, below, belows, I64, I32, Bv, U8, Sv, z0d] <;> try omega)) ?_
  intro i hi
  have hlt0 : (l.take i).length = i := by simp; omega
  by_cases hlt : i < l.length
  · have ht : (l.take (i + 1)).map nar = (l.take i).map nar ++ [nar (l.getD i 0)] := by rw [z1p l i 0 hlt, List.map_append]; rfl
    have hg0 : okR (l.getD i 0) := hr _ (by simp [List.getD, hlt])
    have hs := nar_spec (l.getD i 0) hg0
    repeat' first | refine z09 (hs) ?_ ?_ | simp (maxSteps := 4000000) (disch := omega) only [bunL, bunD, bun, ↓z04, ↓z00, z02, findLabel, ↓reduceIte, imp, shift, z0b, z0a, unown, names, z06, below, noF, isF, z03, z08, z07, ren, givL, updM, z0c, renO, belowM, seval, -Int.reduceToNat, B3, B21, B53, B105, bunN, tbB2, List.map_nil, List.nil_append, z0j] | exact z0i _ | refine z0h _ _ ?_ | exact Cln.cl | refine z05 _ ?_ | refine z01 _ _ ?_ ?_ | refine DR_q _ ?_ | (refine Fk.fk ?_ ?_ <;> intro hg <;> (try simp only [hg]) <;> (try simp only [bunB] at hg) <;> try (exfalso; first | omega | exact Bool.noConfusion hg | exact hg trivial)) | refine And.intro (by omega) ?_ | omega
    refine ⟨i + 1, by omega, by omega, ?_⟩
    rw [ht]
    (simp (disch := omega) [wk, wkT, wkM, noF, isF, get, z0e, belowM, below, belows, I64, I32, Bv, U8, Sv, List.map_append, z0d] <;> try omega)
  · have e : i = l.length := by omega
    subst e
    rw [List.take_length] at *
    repeat' first | simp (maxSteps := 4000000) (disch := omega) only [bunL, bunD, bun, ↓z04, ↓z00, z02, findLabel, ↓reduceIte, imp, shift, z0b, z0a, unown, names, z06, below, noF, isF, z03, z08, z07, ren, givL, updM, z0c, renO, belowM, seval, -Int.reduceToNat, B3, B21, B53, B105, bunN, tbB2, List.map_nil, List.nil_append, z0j] | refine DR_q _ ?_ | (refine Fk.fk ?_ ?_ <;> intro hg <;> (try simp only [hg]) <;> (try simp only [bunB] at hg) <;> try (exfalso; first | omega | exact Bool.noConfusion hg | exact hg trivial)) | refine And.intro (by omega) ?_ | omega
theorem zs4 (l : List Int) (hl : l.length ≤ 100000) (hr : ∀ r ∈ l, okR r) : Spec Tryz.prog 79 [.sl l.length (l.map I32), .fn 80 [.ag z0n] []] (.own 21 1 l.length ((l.map low).map I32)) := by
  refine z0g (z := false) (ts := [.tmp 4]) ok1 Tryz.func79 rfl rfl (by decide +kernel) (by simp [Tryz.ntmps79]) rfl ?_
  repeat' first | simp (maxSteps := 4000000) (disch := omega) only [bunL, bunD, bun, ↓z04, ↓z00, z02, findLabel, ↓reduceIte, imp, shift, z0b, z0a, unown, names, z06, below, noF, isF, z03, z08, z07, ren, givL, updM, z0c, renO, belowM, seval, -Int.reduceToNat, B3, B21, B53, B105, bunN, tbB2, List.map_nil, List.nil_append, z0j] | refine DR_q _ ?_ | (refine Fk.fk ?_ ?_ <;> intro hg <;> (try simp only [hg]) <;> (try simp only [bunB] at hg) <;> try (exfalso; first | omega | exact Bool.noConfusion hg | exact hg trivial)) | refine And.intro (by omega) ?_ | omega
  refine z0p (fun i : Nat => ⟨[(1, .fn 80 [.ag z0n] []), (5, .ref 1 0 i), (8, .sl l.length (l.map I32)), (9, I64 l.length), (10, I64 i)], [.dead, .arr 21 1 (((l.take i).map low).map I32)]⟩) (fun i => i ≤ l.length) (fun i => l.length - i) 0 (by simp) (by (simp (disch := omega) [wk, wkT, wkM, noF, isF, get, z0e, belowM, below, belows, I64, I32, Bv, U8, Sv, z0d] <;> try omega)) ?_
  intro i hi
  have hlt0 : (l.take i).length = i := by simp; omega
  by_cases hlt : i < l.length
  · have ht : (l.take (i + 1)).map low = (l.take i).map low ++ [low (l.getD i 0)] := by rw [z1p l i 0 hlt, List.map_append]; rfl
    have hg0 : okR (l.getD i 0) := hr _ (by simp [List.getD, hlt])
    have hs := zss (l.getD i 0)
    rw [← z0r] at hs
    repeat' first | refine z09 (hs) ?_ ?_ | simp (maxSteps := 4000000) (disch := omega) only [bunL, bunD, bun, ↓z04, ↓z00, z02, findLabel, ↓reduceIte, imp, shift, z0b, z0a, unown, names, z06, below, noF, isF, z03, z08, z07, ren, givL, updM, z0c, renO, belowM, seval, -Int.reduceToNat, B3, B21, B53, B105, bunN, tbB2, List.map_nil, List.nil_append, z0j] | exact z0i _ | refine z0h _ _ ?_ | exact Cln.cl | refine z05 _ ?_ | refine z01 _ _ ?_ ?_ | refine DR_q _ ?_ | (refine Fk.fk ?_ ?_ <;> intro hg <;> (try simp only [hg]) <;> (try simp only [bunB] at hg) <;> try (exfalso; first | omega | exact Bool.noConfusion hg | exact hg trivial)) | refine And.intro (by omega) ?_ | omega
    refine ⟨i + 1, by omega, by omega, ?_⟩
    rw [ht]
    (simp (disch := omega) [wk, wkT, wkM, noF, isF, get, z0e, belowM, below, belows, I64, I32, Bv, U8, Sv, List.map_append, z0d] <;> try omega)
  · have e : i = l.length := by omega
    subst e
    rw [List.take_length] at *
    repeat' first | simp (maxSteps := 4000000) (disch := omega) only [bunL, bunD, bun, ↓z04, ↓z00, z02, findLabel, ↓reduceIte, imp, shift, z0b, z0a, unown, names, z06, below, noF, isF, z03, z08, z07, ren, givL, updM, z0c, renO, belowM, seval, -Int.reduceToNat, B3, B21, B53, B105, bunN, tbB2, List.map_nil, List.nil_append, z0j] | refine DR_q _ ?_ | (refine Fk.fk ?_ ?_ <;> intro hg <;> (try simp only [hg]) <;> (try simp only [bunB] at hg) <;> try (exfalso; first | omega | exact Bool.noConfusion hg | exact hg trivial)) | refine And.intro (by omega) ?_ | omega
theorem ztf (l : List Int) (hl : l.length ≤ 100000) (hr : ∀ r ∈ l, okR r) : Spec Tryz.prog 52 [tab, .sl l.length (l.map I32)] (.own 21 1 l.length ((l.map nar).map I32)) := by
  rw [← z0r]
  have h := zs5 l hl hr
  refine z0g (z := false) (ts := [.tmp 4]) ok1 Tryz.func52 rfl rfl (by decide +kernel) (by simp [Tryz.ntmps52]) rfl ?_
  repeat' first | refine z09 (h) ?_ ?_ | simp (maxSteps := 4000000) (disch := omega) only [bunL, bunD, bun, ↓z04, ↓z00, z02, findLabel, ↓reduceIte, imp, shift, z0b, z0a, unown, names, z06, below, noF, isF, z03, z08, z07, ren, givL, updM, z0c, renO, belowM, seval, -Int.reduceToNat, B21, B53, B105, D107, bunN, tbB2, List.map_nil, List.nil_append, z0j] | exact z0i _ | refine z0h _ _ ?_ | exact Cln.cl | refine z05 _ ?_ | refine z01 _ _ ?_ ?_ | refine DR_q _ ?_ | (refine Fk.fk ?_ ?_ <;> intro hg <;> (try simp only [hg]) <;> (try simp only [bunB] at hg) <;> try (exfalso; first | omega | exact Bool.noConfusion hg | exact hg trivial)) | refine And.intro (by omega) ?_ | omega
  all_goals trace_state
theorem zk8 (l : List Int) (hl : l.length ≤ 100000) (hr : ∀ r ∈ l, okR r) : Spec Tryz.prog 51 [tab, .sl l.length (l.map I32)] (.own 21 1 l.length ((l.map low).map I32)) := by
  rw [← z0r]
  have h := zs4 l hl hr
  refine z0g (z := false) (ts := [.tmp 4]) ok1 Tryz.func51 rfl rfl (by decide +kernel) (by simp [Tryz.ntmps51]) rfl ?_
  repeat' first | refine z09 (h) ?_ ?_ | simp (maxSteps := 4000000) (disch := omega) only [bunL, bunD, bun, ↓z04, ↓z00, z02, findLabel, ↓reduceIte, imp, shift, z0b, z0a, unown, names, z06, below, noF, isF, z03, z08, z07, ren, givL, updM, z0c, renO, belowM, seval, -Int.reduceToNat, D29, B21, B53, B105, bunN, tbB2, List.map_nil, List.nil_append, z0j] | exact z0i _ | refine z0h _ _ ?_ | exact Cln.cl | refine z05 _ ?_ | refine z01 _ _ ?_ ?_ | refine DR_q _ ?_ | (refine Fk.fk ?_ ?_ <;> intro hg <;> (try simp only [hg]) <;> (try simp only [bunB] at hg) <;> try (exfalso; first | omega | exact Bool.noConfusion hg | exact hg trivial)) | refine And.intro (by omega) ?_ | omega
  all_goals trace_state
end Go.AE
end
section
namespace Go.AE
open Go.Proofs
set_option maxRecDepth 20000
set_option maxHeartbeats 8000000
set_option linter.unusedSimpArgs false
theorem lw_okR {l : List Int} (h : z1z l = true) : ∀ r ∈ l, okR r := fun r hr => by
  have := (z4f r).1 (z4v.1 h r hr); unfold okR; omega
theorem zyf {r : Int} (h : right r = true) : right (nar r) = true := by
  unfold nar
  split
  · rename_i hw
    have : 65281 ≤ r ∧ r ≤ 65374 := by simpa [wide] using hw
    exact z9m (by omega)
  · exact h
theorem map_lw (l : List Int) : (l.map nar).map low = l.map lw := by rw [List.map_map]; rfl
theorem zsa (s : List UInt8) (hs : s.length ≤ 10000000) (hl : (runes s).1.length ≤ 10000) : Spec Tryz.prog 19 [tab, Sv s] (.tup [Sv (za3 s).1, Bv (za3 s).2]) := by
  have hr := z6g s
  have h1 := ztf (runes s).1 (by omega) (lw_okR hr)
  have h2 := zk8 ((runes s).1.map nar) (by rw [List.length_map]; omega) (lw_okR (z4v.2 fun r hr' => by
    obtain ⟨a, ha, rfl⟩ := List.mem_map.1 hr'
    exact zyf (z4v.1 hr a ha)))
  rw [map_lw, List.length_map] at h2
  have h3 := z5k ((runes s).1.map lw) (by rw [List.length_map]; omega)
  rw [List.length_map] at h3
  have hn := zrg ((runes s).1.map lw)
  rw [List.length_map] at hn
  have hrr := zdh (zhv hr)
  have h4 := zkc (strS ((runes s).1.map lw)) (by omega) (by rw [hrr]; simp; omega)
  have hk1 : List.take (runes s).1.length (((runes s).1.map nar).map I32) = ((runes s).1.map nar).map I32 := List.take_of_length_le (by simp)
  have hk2 : List.take (runes s).1.length (((runes s).1.map lw).map I32) = ((runes s).1.map lw).map I32 := List.take_of_length_le (by simp)
  rw [← z0r] at h1 h2 h4 ⊢
  refine z0g (z := false) (ts := [.tmp 4, .tmp 5]) ok1 Tryz.func19 rfl rfl (by decide +kernel) (by simp [Tryz.ntmps19]) rfl ?_
  rw [foldS_eq]
  generalize strS ((runes s).1.map lw) = Z at *
  generalize z1z ((runes s).1.map lw) = zo at *
  generalize hf : z5f false true Z = fz at *
  clear hrr hn
  by_cases h0 : 0 ≤ (runes s).2
  · rw [if_pos h0]
    repeat' first | refine z09 (z28 s (by omega)) ?_ ?_ | simp (maxSteps := 4000000) (disch := omega) only [bunL, bunD, bun, ↓z04, ↓z00, z02, findLabel, ↓reduceIte, imp, shift, z0b, z0a, unown, names, z06, below, noF, isF, z03, z08, z07, ren, givL, updM, z0c, renO, belowM, seval, -Int.reduceToNat, B9, D29, B21, B53, bunN, tbB2, List.map_nil, List.nil_append] | exact z0i _ | refine z0h _ _ ?_ | exact Cln.cl | refine z05 _ ?_ | refine z01 _ _ ?_ ?_ | refine DR_q _ ?_ | (refine Fk.fk ?_ ?_ <;> intro hg <;> (try simp only [hg]) <;> (try simp only [bunB] at hg) <;> try (exfalso; first | omega | exact Bool.noConfusion hg | exact hg trivial)) | refine And.intro (by omega) ?_ | omega
    all_goals trace_state
  · rw [if_neg h0]
    repeat' first | refine z09 (z28 s (by omega)) ?_ ?_ | refine DR_p (.take 2 (.two 0 (.one 1 (.one 3 (.one 4 (.one 5 (.take 6 (.two 7 (.take 9 (.one 8 (.take 10 (.done)))) 8 (.one 7 (.take 9 (.take 10 (.done)))))))))) 1 (.two 0 (.one 3 (.one 4 (.one 5 (.take 6 (.two 7 (.take 9 (.one 8 (.take 10 (.done)))) 8 (.one 7 (.take 9 (.take 10 (.done))))))))) 3 (.one 0 (.one 4 (.one 5 (.take 6 (.two 7 (.take 9 (.one 8 (.take 10 (.done)))) 8 (.one 7 (.take 9 (.take 10 (.done)))))))))))) _ (by decide +kernel) ?_ | simp (maxSteps := 4000000) (disch := omega) only [bunL, bunD, bun, ↓z04, ↓z00, z02, findLabel, ↓reduceIte, imp, shift, z0b, z0a, unown, names, z06, below, noF, isF, z03, z08, z07, ren, givL, updM, z0c, renO, belowM, seval, -Int.reduceToNat, List.length_map, hk1, hk2, B9, D29, B21, B53, bunN, tbB2, List.map_nil, List.nil_append] | exact z0i _ | refine z0h _ _ ?_ | exact Cln.cl | refine z05 _ ?_ | refine z01 _ _ ?_ ?_ | refine DR_q _ ?_ | (refine Fk.fk ?_ ?_ <;> intro hg <;> (try simp only [hg]) <;> (try simp only [bunB] at hg) <;> try (exfalso; first | omega | exact Bool.noConfusion hg | exact hg trivial)) | refine And.intro (by omega) ?_ | omega
    repeat' refine And.intro ?_ ?_
    all_goals (repeat' first | refine z09 (h1) ?_ ?_ | refine z09 (h2) ?_ ?_ | refine z09 (h3) ?_ ?_ | refine z09 (h4) ?_ ?_ | simp (maxSteps := 4000000) (disch := omega) only [bunL, bunD, bun, ↓z04, ↓z00, z02, findLabel, ↓reduceIte, imp, shift, z0b, z0a, unown, names, z06, below, noF, isF, z03, z08, z07, ren, givL, updM, z0c, renO, belowM, seval, -Int.reduceToNat, List.length_map, hk1, hk2, B9, D29, B21, B53, bunN, tbB2, List.map_nil, List.nil_append] | exact z0i _ | refine z0h _ _ ?_ | exact Cln.cl | refine z05 _ ?_ | refine z01 _ _ ?_ ?_ | refine DR_q _ ?_ | (refine Fk.fk ?_ ?_ <;> intro hg <;> (try simp only [hg]) <;> (try simp only [bunB] at hg) <;> try (exfalso; first | omega | exact Bool.noConfusion hg | exact hg trivial)) | refine And.intro (by omega) ?_ | omega)
    all_goals (repeat' refine And.intro ?_ ?_)
    all_goals (repeat' first | refine z09 (h1) ?_ ?_ | refine z09 (h2) ?_ ?_ | refine z09 (h3) ?_ ?_ | refine z09 (h4) ?_ ?_ | simp (maxSteps := 4000000) (disch := omega) only [bunL, bunD, bun, ↓z04, ↓z00, z02, findLabel, ↓reduceIte, imp, shift, z0b, z0a, unown, names, z06, below, noF, isF, z03, z08, z07, ren, givL, updM, z0c, renO, belowM, seval, -Int.reduceToNat, List.length_map, hk1, hk2, B9, D29, B21, B53, bunN, tbB2, List.map_nil, List.nil_append] | exact z0i _ | refine z0h _ _ ?_ | exact Cln.cl | refine z05 _ ?_ | refine z01 _ _ ?_ ?_ | refine DR_q _ ?_ | (refine Fk.fk ?_ ?_ <;> intro hg <;> (try simp only [hg]) <;> (try simp only [bunB] at hg) <;> try (exfalso; first | omega | exact Bool.noConfusion hg | exact hg trivial)) | refine And.intro (by omega) ?_ | omega)
    all_goals trace_state
end Go.AE
end
section
namespace Go.AE
open Go.Proofs
set_option maxRecDepth 20000
set_option maxHeartbeats 8000000
set_option linter.unusedSimpArgs false
theorem zhy : Spec Tryz.prog 6 [] (.ag z0n) := new_spec
end Go.AE
end
section
namespace Go.AE
open Go.Proofs
set_option maxRecDepth 20000
set_option maxHeartbeats 8000000
set_option linter.unusedSimpArgs false
end Go.AE
end
section
namespace Go.AE
set_option linter.unusedSimpArgs false
def soB (r : Int) : Bool := (spl r).2 && ((spl r).1.2.2.2.1 || (spl r).1.2.2.2.2)
def lch (r : Int) : Bool := !soB r && (decide (2 ≤ cat r ∧ cat r ≤ 5) || r == 45)
def pch (r : Int) : Bool := decide (33 ≤ r ∧ r ≤ 126) || (if cat r = 1 then !soB r else lch r)
def badK (L : List Int) (k : Nat) : Bool := z4x L k == 2 || (z4x L k == 0 && !pch (L.getD k 0))
def badL (L : List Int) : Bool := (List.range L.length).any (badK L)
def claV (s : List UInt8) : Int := if 0 ≤ (runes s).2 then 7 else if (runes s).1.length = 0 then 13 else if badL (runes s).1 then 8 else 0
def namR (X : List UInt8) : List UInt8 × Int := if claV X ≠ 0 then ([], claV X) else if hasB (runes X).1 && !zia (runes X).1 then ([], 9) else (X, 0)
def namV (s : List UInt8) : List UInt8 × Int := if (za3 s).2 = false then ([], 7) else namR (za3 s).1
def sameN (a b : List UInt8) : Bool := ((namV a).2 == 0) && ((namV b).2 == 0) && ((namV a).1 == (namV b).1)
theorem namV_nil : namV [] = ([], 13) := by decide +kernel
structure Firm (c : Int) : Prop where
  fx : lw c = c
  one : one1 false c = [c]
  cl : cls c = 0
  l : ∀ a, (mk2 a c).2 = false
  r : ∀ b, (mk2 c b).2 = false
end Go.AE
end
section
namespace Go.AE
open Go.Proofs
set_option maxRecDepth 20000
set_option maxHeartbeats 8000000
set_option linter.unusedSimpArgs false
theorem zfu (r : Int) : Spec Tryz.prog 32 [tab, I32 r] (Bv (lch r)) := by
  have hs := z61 r
  have hc := zhi r
  rw [← z0r] at hs hc ⊢
  refine z0g (z := false) (ts := [.tmp 4]) ok1 Tryz.func32 rfl rfl (by decide +kernel) (by simp [Tryz.ntmps32]) rfl ?_
  unfold lch soB
  cases h1 : (spl r).2 <;> cases h2 : (spl r).1.2.2.2.1 <;> cases h3 : (spl r).1.2.2.2.2
  all_goals
    repeat' first | refine z09 (hs) ?_ ?_ | refine z09 (hc) ?_ ?_ | simp (maxSteps := 4000000) (disch := omega) only [bunL, bunD, bun, ↓z04, ↓z00, z02, findLabel, ↓reduceIte, imp, shift, z0b, z0a, unown, names, z06, below, noF, isF, z03, z08, z07, ren, givL, updM, z0c, renO, belowM, seval, -Int.reduceToNat, h1, h2, h3, D29, bunN, Int.reduceToNat, tbB2, List.map_nil, List.nil_append, z0j] | exact z0i _ | refine z0h _ _ ?_ | exact Cln.cl | refine z05 _ ?_ | refine z01 _ _ ?_ ?_ | refine DR_q _ ?_ | (refine Fk.fk ?_ ?_ <;> intro hg <;> (try simp only [hg]) <;> (try simp only [bunB] at hg) <;> try (exfalso; first | omega | exact Bool.noConfusion hg | exact hg trivial)) | refine And.intro (by omega) ?_ | omega
  all_goals (congr 2; rw [Bool.eq_iff_iff]; simp only [Bool.or_eq_true, decide_eq_true_eq, beq_iff_eq, true_iff]; omega)
theorem z5v (r : Int) : Spec Tryz.prog 11 [tab, I32 r] (Bv (pch r)) := by
  have hs := z61 r
  have hc := zhi r
  have hl := zfu r
  rw [← z0r] at hs hc hl ⊢
  refine z0g (z := false) (ts := [.tmp 4]) ok1 Tryz.func11 rfl rfl (by decide +kernel) (by simp [Tryz.ntmps11]) rfl ?_
  by_cases hp : 33 ≤ r ∧ r ≤ 126
  · have e : pch r = true := by unfold pch; simp [hp]
    rw [e]
    repeat' first | refine z09 (hs) ?_ ?_ | refine z09 (hc) ?_ ?_ | refine z09 (hl) ?_ ?_ | simp (maxSteps := 4000000) (disch := omega) only [bunL, bunD, bun, ↓z04, ↓z00, z02, findLabel, ↓reduceIte, imp, shift, z0b, z0a, unown, names, z06, below, noF, isF, z03, z08, z07, ren, givL, updM, z0c, renO, belowM, seval, -Int.reduceToNat, D29, bunN, Int.reduceToNat, tbB2, List.map_nil, List.nil_append, z0j] | exact z0i _ | refine z0h _ _ ?_ | exact Cln.cl | refine z05 _ ?_ | refine z01 _ _ ?_ ?_ | refine DR_q _ ?_ | (refine Fk.fk ?_ ?_ <;> intro hg <;> (try simp only [hg]) <;> (try simp only [bunB] at hg) <;> try (exfalso; first | omega | exact Bool.noConfusion hg | exact hg trivial)) | refine And.intro (by omega) ?_ | omega
  · by_cases h1 : cat r = 1
    · have e : pch r = !soB r := by unfold pch; simp only [hp, decide_false, Bool.false_or, h1, if_true]
      rw [e]
      unfold soB
      cases h1 : (spl r).2 <;> cases h2 : (spl r).1.2.2.2.1 <;> cases h3 : (spl r).1.2.2.2.2
      all_goals
        repeat' first | refine z09 (hs) ?_ ?_ | refine z09 (hc) ?_ ?_ | refine z09 (hl) ?_ ?_ | simp (maxSteps := 4000000) (disch := omega) only [bunL, bunD, bun, ↓z04, ↓z00, z02, findLabel, ↓reduceIte, imp, shift, z0b, z0a, unown, names, z06, below, noF, isF, z03, z08, z07, ren, givL, updM, z0c, renO, belowM, seval, -Int.reduceToNat, h1, h2, h3, D29, bunN, Int.reduceToNat, tbB2, List.map_nil, List.nil_append, z0j] | exact z0i _ | refine z0h _ _ ?_ | exact Cln.cl | refine z05 _ ?_ | refine z01 _ _ ?_ ?_ | refine DR_q _ ?_ | (refine Fk.fk ?_ ?_ <;> intro hg <;> (try simp only [hg]) <;> (try simp only [bunB] at hg) <;> try (exfalso; first | omega | exact Bool.noConfusion hg | exact hg trivial)) | refine And.intro (by omega) ?_ | omega
        all_goals trace_state
    · have e : pch r = lch r := by unfold pch; simp only [hp, decide_false, Bool.false_or, h1, if_false]
      rw [e]
      repeat' first | refine z09 (hs) ?_ ?_ | refine z09 (hc) ?_ ?_ | refine z09 (hl) ?_ ?_ | simp (maxSteps := 4000000) (disch := omega) only [bunL, bunD, bun, ↓z04, ↓z00, z02, findLabel, ↓reduceIte, imp, shift, z0b, z0a, unown, names, z06, below, noF, isF, z03, z08, z07, ren, givL, updM, z0c, renO, belowM, seval, -Int.reduceToNat, D29, bunN, Int.reduceToNat, tbB2, List.map_nil, List.nil_append, z0j] | exact z0i _ | refine z0h _ _ ?_ | exact Cln.cl | refine z05 _ ?_ | refine z01 _ _ ?_ ?_ | refine DR_q _ ?_ | (refine Fk.fk ?_ ?_ <;> intro hg <;> (try simp only [hg]) <;> (try simp only [bunB] at hg) <;> try (exfalso; first | omega | exact Bool.noConfusion hg | exact hg trivial)) | refine And.intro (by omega) ?_ | omega
      all_goals trace_state
theorem zyg (L : List Int) (k : Nat) (hk : k < L.length) : need L (k : Int) = z4x L k := by
  unfold need
  rw [if_pos (by omega)]; rfl
theorem zwu (L : List Int) (hL : L.length ≤ 1000) (hb : ∀ c ∈ L, inI c) (k : Nat) (hk : k < L.length) : Spec Tryz.prog 27 [I64 k, .cp z0n, .cp [.sl L.length (L.map I32)]] (Bv (badK L k)) := by
  have h1 := zkb L hL hb k (by omega) (by omega)
  have h2 := z5v (L.getD k 0)
  rw [zyg L k hk] at h1
  rw [← z0r] at h1 h2
  unfold badK
  refine z0g (z := false) (ts := [.tmp 4]) ok1 Tryz.func27 rfl rfl (by decide +kernel) (by simp [Tryz.ntmps27]) rfl ?_
  repeat' first | refine z09 (h1) ?_ ?_ | refine z09 (h2) ?_ ?_ | simp (maxSteps := 4000000) (disch := omega) only [bunL, bunD, bun, ↓z04, ↓z00, z02, findLabel, ↓reduceIte, imp, shift, z0b, z0a, unown, names, z06, below, noF, isF, z03, z08, z07, ren, givL, updM, z0c, renO, belowM, seval, -Int.reduceToNat, D29, B21, B53, bunN, Int.reduceToNat, tbB2, List.map_nil, List.nil_append, z0j] | exact z0i _ | refine z0h _ _ ?_ | exact Cln.cl | refine z05 _ ?_ | refine z01 _ _ ?_ ?_ | refine DR_q _ ?_ | (refine Fk.fk ?_ ?_ <;> intro hg <;> (try simp only [hg]) <;> (try simp only [bunB] at hg) <;> try (exfalso; first | omega | exact Bool.noConfusion hg | exact hg trivial)) | refine And.intro (by omega) ?_ | omega
  all_goals trace_state
end Go.AE
end
section
namespace Go.AE
open Go.Proofs
set_option maxRecDepth 20000
set_option maxHeartbeats 8000000
set_option linter.unusedSimpArgs false
theorem z0q : (Value.slice none 0 0).cells.toList = [Value.slice none 0 0] := rfl
theorem z0u : ((Value.slice none 0 0).cells.all fun x => x.oneCell') = true := by decide +kernel
theorem zpk {p : Nat → Bool} {i n : Nat} (h : ∀ j, j < i → p j = false) (hi : i < n) (hp : p i = true) : (List.range n).any p = true := List.any_eq_true.2 ⟨i, List.mem_range.2 hi, hp⟩
theorem zpj {p : Nat → Bool} {n : Nat} (h : ∀ j, j < n → p j = false) : (List.range n).any p = false := by
  rw [List.any_eq_false]
  intro k hk
  rw [h k (List.mem_range.1 hk)]; simp
theorem z8z (s : List UInt8) (hs : s.length ≤ 10000000) (hl : (runes s).1.length ≤ 1000) : Spec Tryz.prog 9 [tab, Sv s] (I64 (claV s)) := by
  have hr := zib s
  have hi : ∀ c ∈ (runes s).1, inI c := fun c hc => by have := hr c hc; unfold okR at this; unfold inI; omega
  have hb := zwu (runes s).1 hl hi
  have hu := z28 s (by omega)
  rw [← z0r]
  refine z0g (z := false) (ts := [.tmp 4]) ok1 Tryz.func9 rfl rfl (by decide +kernel) (by simp [Tryz.ntmps9]) rfl ?_
  unfold claV
  generalize (runes s).1 = L at *
  generalize (runes s).2 = a at *
  by_cases h0 : 0 ≤ a
  · rw [if_pos h0]
    repeat' first | refine z09 (hu) ?_ ?_ | simp (maxSteps := 4000000) (disch := omega) only [bunL, bunD, bun, ↓z04, ↓z00, z02, findLabel, ↓reduceIte, imp, shift, z0b, z0a, unown, names, z06, below, noF, isF, z03, z08, z07, ren, givL, updM, z0c, renO, belowM, seval, -Int.reduceToNat, B9, D29, B31, B21, B53, B60, bunN, Int.reduceToNat, tbB2, List.map_nil, List.nil_append, z0j, z0q, z0u, z0k] | exact z0i _ | refine z0h _ _ ?_ | exact Cln.cl | refine z05 _ ?_ | refine z01 _ _ ?_ ?_ | refine DR_q _ ?_ | (refine Fk.fk ?_ ?_ <;> intro hg <;> (try simp only [hg]) <;> (try simp only [bunB] at hg) <;> try (exfalso; first | omega | exact Bool.noConfusion hg | exact hg trivial)) | refine And.intro (by omega) ?_ | omega
  · rw [if_neg h0]
    by_cases h1 : L.length = 0
    · rw [if_pos h1]
      repeat' first | refine z09 (hu) ?_ ?_ | simp (maxSteps := 4000000) (disch := omega) only [bunL, bunD, bun, ↓z04, ↓z00, z02, findLabel, ↓reduceIte, imp, shift, z0b, z0a, unown, names, z06, below, noF, isF, z03, z08, z07, ren, givL, updM, z0c, renO, belowM, seval, -Int.reduceToNat, h1, B9, D29, B31, B21, B53, B60, bunN, Int.reduceToNat, tbB2, List.map_nil, List.nil_append, z0j, z0q, z0u, z0k] | exact z0i _ | refine z0h _ _ ?_ | exact Cln.cl | refine z05 _ ?_ | refine z01 _ _ ?_ ?_ | refine DR_q _ ?_ | (refine Fk.fk ?_ ?_ <;> intro hg <;> (try simp only [hg]) <;> (try simp only [bunB] at hg) <;> try (exfalso; first | omega | exact Bool.noConfusion hg | exact hg trivial)) | refine And.intro (by omega) ?_ | omega
    · rw [if_neg h1]
      repeat' first | refine z09 (hu) ?_ ?_ | simp (maxSteps := 4000000) (disch := omega) only [bunL, bunD, bun, ↓z04, ↓z00, z02, findLabel, ↓reduceIte, imp, shift, z0b, z0a, unown, names, z06, below, noF, isF, z03, z08, z07, ren, givL, updM, z0c, renO, belowM, seval, -Int.reduceToNat, B9, D29, B31, B21, B53, B60, bunN, Int.reduceToNat, tbB2, List.map_nil, List.nil_append, z0j, z0q, z0u, z0k] | exact z0i _ | refine z0h _ _ ?_ | exact Cln.cl | refine z05 _ ?_ | refine z01 _ _ ?_ ?_ | refine DR_q _ ?_ | (refine Fk.fk ?_ ?_ <;> intro hg <;> (try simp only [hg]) <;> (try simp only [bunB] at hg) <;> try (exfalso; first | omega | exact Bool.noConfusion hg | exact hg trivial)) | refine And.intro (by omega) ?_ | omega
      refine z0p (fun i : Nat => ⟨[(2, .ptr 0 0), (5, .ptr 2 0), (7, .fn 27 [] [.ptr 0 0, .ptr 2 0]), (23, I64 L.length), (24, I64 i)], [.row true 1 z0n, .arr 21 1 (L.map I32), .row true 1 [.ref 1 0 L.length]]⟩) (fun i => i ≤ L.length ∧ ∀ j, j < i → badK L j = false) (fun i => L.length - i) 0 (by simp) (by (simp (disch := omega) [wk, wkT, wkM, noF, isF, get, z0e, belowM, below, belows, I64, I32, Bv, U8, Sv, z0d] <;> try omega)) ?_
      rintro i ⟨hi1, hi2⟩
      by_cases hlt : i < L.length
      · have hbi := hb i hlt
        cases hq : badK L i with
        | true =>
          rw [hq] at hbi
          have e : badL L = true := zpk hi2 hlt hq
          repeat' first | refine z09 (hbi) ?_ ?_ | simp (maxSteps := 4000000) (disch := omega) only [bunL, bunD, bun, ↓z04, ↓z00, z02, findLabel, ↓reduceIte, imp, shift, z0b, z0a, unown, names, z06, below, noF, isF, z03, z08, z07, ren, givL, updM, z0c, renO, belowM, seval, -Int.reduceToNat, e, B9, D29, B31, B21, B53, B60, bunN, Int.reduceToNat, tbB2, List.map_nil, List.nil_append, z0j, z0q, z0u, z0k] | exact z0i _ | refine z0h _ _ ?_ | exact Cln.cl | refine z05 _ ?_ | refine z01 _ _ ?_ ?_ | refine DR_q _ ?_ | (refine Fk.fk ?_ ?_ <;> intro hg <;> (try simp only [hg]) <;> (try simp only [bunB] at hg) <;> try (exfalso; first | omega | exact Bool.noConfusion hg | exact hg trivial)) | refine And.intro (by omega) ?_ | omega
          all_goals trace_state
        | false =>
          rw [hq] at hbi
          repeat' first | refine z09 (hbi) ?_ ?_ | simp (maxSteps := 4000000) (disch := omega) only [bunL, bunD, bun, ↓z04, ↓z00, z02, findLabel, ↓reduceIte, imp, shift, z0b, z0a, unown, names, z06, below, noF, isF, z03, z08, z07, ren, givL, updM, z0c, renO, belowM, seval, -Int.reduceToNat, B9, D29, B31, B21, B53, B60, bunN, Int.reduceToNat, tbB2, List.map_nil, List.nil_append, z0j, z0q, z0u, z0k] | exact z0i _ | refine z0h _ _ ?_ | exact Cln.cl | refine z05 _ ?_ | refine z01 _ _ ?_ ?_ | refine DR_q _ ?_ | (refine Fk.fk ?_ ?_ <;> intro hg <;> (try simp only [hg]) <;> (try simp only [bunB] at hg) <;> try (exfalso; first | omega | exact Bool.noConfusion hg | exact hg trivial)) | refine And.intro (by omega) ?_ | omega
          refine ⟨i + 1, ⟨by omega, fun j hj => ?_⟩, by omega, by (simp (disch := omega) [wk, wkT, wkM, noF, isF, get, z0e, belowM, below, belows, I64, I32, Bv, U8, Sv, z0d] <;> try omega)⟩
          by_cases hji : j = i
          · subst hji; exact hq
          · exact hi2 j (by omega)
      · have e : badL L = false := zpj fun j hj => hi2 j (by omega)
        repeat' first | refine z09 (hu) ?_ ?_ | simp (maxSteps := 4000000) (disch := omega) only [bunL, bunD, bun, ↓z04, ↓z00, z02, findLabel, ↓reduceIte, imp, shift, z0b, z0a, unown, names, z06, below, noF, isF, z03, z08, z07, ren, givL, updM, z0c, renO, belowM, seval, -Int.reduceToNat, e, B9, D29, B31, B21, B53, B60, bunN, Int.reduceToNat, tbB2, List.map_nil, List.nil_append, z0j, z0q, z0u, z0k] | exact z0i _ | refine z0h _ _ ?_ | exact Cln.cl | refine z05 _ ?_ | refine z01 _ _ ?_ ?_ | refine DR_q _ ?_ | (refine Fk.fk ?_ ?_ <;> intro hg <;> (try simp only [hg]) <;> (try simp only [bunB] at hg) <;> try (exfalso; first | omega | exact Bool.noConfusion hg | exact hg trivial)) | refine And.intro (by omega) ?_ | omega
        all_goals trace_state
theorem nam_core (s X : List UInt8) (o : Bool) (hs : s.length ≤ 10000000) (hl : (runes s).1.length ≤ 10000) (e1 : za3 s = (X, o)) (e2 : X.length ≤ 10000000) (e3 : (runes X).1.length ≤ 1000) : Spec Tryz.prog 7 [tab, Sv s] (.tup [Sv (namV s).1, I64 (namV s).2]) := by
  have c1 := zsa s hs hl
  have c2 := z8z X e2 e3
  have c3 := z28 X (by omega)
  have c4 := zho (runes X).1 e3
  have c5 := zgp (runes X).1 e3
  unfold namV
  rw [e1] at c1 ⊢
  rw [← z0r] at c1 c2 c4 c5 ⊢
  refine z0g (z := false) (ts := [.tmp 4, .tmp 5]) ok1 Tryz.func7 rfl rfl (by decide +kernel) (by simp [Tryz.ntmps7]) rfl ?_
  unfold namR
  dsimp only at c1 ⊢
  generalize claV X = e at *
  generalize hasB (runes X).1 = b1 at *
  generalize zia (runes X).1 = b2 at *
  generalize (runes X).1 = L at *
  generalize (runes X).2 = a at *
  cases o with
  | false =>
    repeat' first | refine z09 (c1) ?_ ?_ | simp (maxSteps := 4000000) (disch := omega) only [bunL, bunD, bun, ↓z04, ↓z00, z02, findLabel, ↓reduceIte, imp, shift, z0b, z0a, unown, names, z06, below, noF, isF, z03, z08, z07, ren, givL, updM, z0c, renO, belowM, seval, -Int.reduceToNat, B9, D29, B31, B21, B53, bunN, Int.reduceToNat, tbB2, List.map_nil, List.nil_append, z0j, z0q, z0u, z0k] | exact z0i _ | refine z0h _ _ ?_ | exact Cln.cl | refine z05 _ ?_ | refine z01 _ _ ?_ ?_ | refine DR_q _ ?_ | (refine Fk.fk ?_ ?_ <;> intro hg <;> (try simp only [hg]) <;> (try simp only [bunB] at hg) <;> try (exfalso; first | omega | exact Bool.noConfusion hg | exact hg trivial)) | refine And.intro (by omega) ?_ | omega
    all_goals trace_state
  | true =>
    by_cases he : e = 0
    · subst he
      cases b1 <;> cases b2
      all_goals
        simp only [ne_eq, not_true_eq_false, if_false, Bool.not_true, Bool.not_false, Bool.and_true, Bool.and_false, Bool.false_eq_true, if_true, Bool.true_eq_false, Bool.and_self]
        repeat' first | refine z09 (c1) ?_ ?_ | refine z09 (c2) ?_ ?_ | refine z09 (c3) ?_ ?_ | refine z09 (c4) ?_ ?_ | refine z09 (c5) ?_ ?_ | simp (maxSteps := 4000000) (disch := omega) only [bunL, bunD, bun, ↓z04, ↓z00, z02, findLabel, ↓reduceIte, imp, shift, z0b, z0a, unown, names, z06, below, noF, isF, z03, z08, z07, ren, givL, updM, z0c, renO, belowM, seval, -Int.reduceToNat, B9, D29, B31, B21, B53, bunN, Int.reduceToNat, tbB2, List.map_nil, List.nil_append, z0j, z0q, z0u, z0k] | exact z0i _ | refine z0h _ _ ?_ | exact Cln.cl | refine z05 _ ?_ | refine z01 _ _ ?_ ?_ | refine DR_q _ ?_ | (refine Fk.fk ?_ ?_ <;> intro hg <;> (try simp only [hg]) <;> (try simp only [bunB] at hg) <;> try (exfalso; first | omega | exact Bool.noConfusion hg | exact hg trivial)) | refine And.intro (by omega) ?_ | omega
        all_goals trace_state
    · repeat' first | refine z09 (c1) ?_ ?_ | refine z09 (c2) ?_ ?_ | refine z09 (c3) ?_ ?_ | refine z09 (c4) ?_ ?_ | refine z09 (c5) ?_ ?_ | simp (maxSteps := 4000000) (disch := omega) only [bunL, bunD, bun, ↓z04, ↓z00, z02, findLabel, ↓reduceIte, imp, shift, z0b, z0a, unown, names, z06, below, noF, isF, z03, z08, z07, ren, givL, updM, z0c, renO, belowM, seval, -Int.reduceToNat, he, B9, D29, B31, B21, B53, bunN, Int.reduceToNat, tbB2, List.map_nil, List.nil_append, z0j, z0q, z0u, z0k] | exact z0i _ | refine z0h _ _ ?_ | exact Cln.cl | refine z05 _ ?_ | refine z01 _ _ ?_ ?_ | refine DR_q _ ?_ | (refine Fk.fk ?_ ?_ <;> intro hg <;> (try simp only [hg]) <;> (try simp only [bunB] at hg) <;> try (exfalso; first | omega | exact Bool.noConfusion hg | exact hg trivial)) | refine And.intro (by omega) ?_ | omega
      all_goals trace_state
theorem z56 (s : List UInt8) (hs : s.length ≤ 10000000) (hl : (runes s).1.length ≤ 240) : Spec Tryz.prog 7 [tab, Sv s] (.tup [Sv (namV s).1, I64 (namV s).2]) := by
  obtain ⟨X, o, e1, e2, e3⟩ : ∃ X o, za3 s = (X, o) ∧ X.length ≤ 10000000 ∧ (runes X).1.length ≤ 1000 := by
    by_cases h0 : 0 ≤ (runes s).2
    · exact ⟨[], false, by unfold za3; rw [if_pos h0], by decide, by decide⟩
    · have h1 := zxj (runes s).1
      have h2 := zrg (zjl (runes s).1)
      have h3 := zt6 (s := s)
      exact ⟨_, true, zq5 h0, by omega, by rw [h3]; dsimp only; omega⟩
  exact nam_core s X o hs (by omega) e1 e2 e3
end Go.AE
end
section
namespace Go.AE
set_option linter.unusedSimpArgs false
def z4p : List (Bool × Int) → Int
  | [] => 0
  | (b, e) :: l => if b then e else z4p l
def zlx (s : List UInt8) : Bool := (decide (1 ≤ s.length) && (s.take 1 == [45])) || (decide (1 ≤ s.length) && (s.drop (s.length - 1) == [45])) || (decide (3 < s.length) && ((s.take 4).drop 2 == [45, 45]))
def strK (L : List Int) (k : Nat) : Bool := z4x L k == 2 || (z4x L k == 0 && !lch (L.getD k 0))
def strL (L : List Int) : Bool := (List.range L.length).any (strK L)
def codB (s : List UInt8) : Bool := decide (eight s < 0) || !((z5f false true s).2 && ((z5f false true s).1 == s))
def zzs (s : List UInt8) : Int := z4p [(decide (0 ≤ (runes s).2), 7), (codB s, 4), (zlx s, 11), (cat ((runes s).1.getD 0 0) == 4, 10), (strL (runes s).1, 8), (hasB (runes s).1 && !zia (runes s).1, 9),
  (!z1z (runes s).1, 12), (decide (63 < 4 + (pnS (runes s).1).length), 5)]
theorem zca : ∀ {l : List (Bool × Int)}, (∀ p ∈ l, p.2 ≠ 0) → z4p l = 0 → ∀ p ∈ l, p.1 = false
  | [], _, _, p, hp => by cases hp
  | (b, e) :: l, h, h0, p, hp => by
    unfold z4p at h0
    cases b with
    | true => exact absurd h0 (h (true, e) (by simp))
    | false =>
      rcases List.mem_cons.1 hp with rfl | hp
      · rfl
      · exact zca (fun q hq => h q (List.mem_cons_of_mem _ hq)) h0 p hp
structure Wide (s : List UInt8) : Prop where
  at_ : ¬ 0 ≤ (runes s).2
  big : 0 ≤ eight s
  form : z5f false true s = (s, true)
  dash : zlx s = false
  mark : cat ((runes s).1.getD 0 0) ≠ 4
  chars : strL (runes s).1 = false
  bidi : (hasB (runes s).1 && !zia (runes s).1) = false
  len : 4 + (pnS (runes s).1).length ≤ 63
theorem wide_of {s : List UInt8} (h : zzs s = 0) : Wide s := by
  have k := zca (l := [(decide (0 ≤ (runes s).2), 7), (codB s, 4), (zlx s, 11), (cat ((runes s).1.getD 0 0) == 4, 10), (strL (runes s).1, 8), (hasB (runes s).1 && !zia (runes s).1, 9),
    (!z1z (runes s).1, 12), (decide (63 < 4 + (pnS (runes s).1).length), 5)]) (by simp) h
  simp only [List.mem_cons, List.not_mem_nil, or_false, forall_eq_or_imp, forall_eq, decide_eq_false_iff_not] at k
  obtain ⟨k1, k2, k3, k4, k5, k6, k7, k8⟩ := k
  unfold codB at k2
  rw [Bool.or_eq_false_iff] at k2
  obtain ⟨k2, k9⟩ := k2
  simp only [decide_eq_false_iff_not, Bool.not_eq_false', Bool.and_eq_true, beq_iff_eq] at k2 k9
  exact ⟨k1, by omega, Prod.ext k9.2 k9.1, k3, by simpa using k4, k5, k6, by omega⟩
theorem zlc {s : List UInt8} (h : Wide s) {k : Nat} (hk : k < (runes s).1.length) : z4x (runes s).1 k ≠ 2 ∧ (z4x (runes s).1 k = 0 → lch ((runes s).1.getD k 0) = true) := by
  have := List.any_eq_false.1 h.chars k (List.mem_range.2 hk)
  unfold strK at this
  simp only [Bool.or_eq_true, Bool.and_eq_true, beq_iff_eq, Bool.not_eq_true', not_or, not_and, Bool.not_eq_false] at this
  exact this
theorem lch_fx {r : Int} (h : lch r = true) : lw r = r ∧ cat r ≠ 1 ∧ (cat r = 0 ∨ cat r = 8 → r = 45) := by
  unfold lch at h
  simp only [Bool.and_eq_true, Bool.not_eq_true', Bool.or_eq_true, decide_eq_true_eq, beq_iff_eq] at h
  obtain ⟨h1, h2⟩ := h
  have hw : wide r = false := by
    cases hq : wide r with
    | false => rfl
    | true =>
      obtain ⟨_, a2, _, a4, _⟩ := zh2 hq
      unfold soB at h1
      rw [a2, a4] at h1
      cases h1
  have hc : cat r ≠ 1 := by
    rcases h2 with h2 | h2
    · omega
    · subst h2; decide +kernel
  refine ⟨?_, hc, ?_⟩
  · unfold lw nar
    rw [hw]
    exact low_fix hc
  · rintro (h | h)
    · rcases h2 with h2 | h2
      · omega
      · exact h2
    · rcases h2 with h2 | h2
      · omega
      · exact h2
theorem rl_fx {r : Int} (h : rl r ≠ .no) : lw r = r ∧ cat r ≠ 1 ∧ cat r ≠ 0 ∧ cat r ≠ 8 := by
  have key : ∀ x ∈ (expand 1632 1641 ++ expand 1776 1785 ++ [8205, 8204, 183, 885, 1523, 1524, 12539]), lw x = x ∧ cat x ≠ 1 ∧ cat x ≠ 0 ∧ cat x ≠ 8 := fun x hx => by
    have := List.all_eq_true.1 (show ((expand 1632 1641 ++ expand 1776 1785 ++ [8205, 8204, 183, 885, 1523, 1524, 12539]).all fun x => decide (lw x = x) && (decide (cat x ≠ 1) && (decide (cat x ≠ 0) && decide (cat x ≠ 8)))) = true by decide +kernel) x hx
    simp only [Bool.and_eq_true, decide_eq_true_eq] at this
    exact this
  rcases zr9 r with ⟨q, _⟩ | ⟨_, q, _⟩ | ⟨q, _⟩ | ⟨q, _⟩ | ⟨q, _⟩ | ⟨q, _⟩ | ⟨q, _⟩ | ⟨q, _⟩ | ⟨q, _⟩ | ⟨_, q⟩
  · unfold arA at q
    simp only [Bool.and_eq_true, decide_eq_true_eq] at q
    exact key r (List.mem_append.2 (Or.inl (List.mem_append.2 (Or.inl (z5u q.1 q.2)))))
  · unfold arB at q
    simp only [Bool.and_eq_true, decide_eq_true_eq] at q
    exact key r (List.mem_append.2 (Or.inl (List.mem_append.2 (Or.inr (z5u q.1 q.2)))))
  all_goals first
    | (subst q; exact key _ (List.mem_append.2 (Or.inr (by simp))))
    | exact absurd q h
theorem zyh {L : List Int} {k : Nat} (h : z4x L k ≠ 2) : z4x L k = 0 ∧ rl (L.getD k 0) = .no ∨ rl (L.getD k 0) ≠ .no := by
  by_cases hr : rl (L.getD k 0) = .no
  · left
    refine ⟨?_, hr⟩
    unfold z4x
    rw [if_pos hr]
  · right; exact hr
theorem wide_fx {s : List UInt8} (h : Wide s) : ∀ r ∈ (runes s).1, lw r = r ∧ cat r ≠ 1 ∧ (cat r = 0 ∨ cat r = 8 → r = 45) := fun r hr => by
  obtain ⟨k, hk1, hk2⟩ := List.getElem_of_mem hr
  have e : (runes s).1.getD k 0 = r := by simp [List.getD, hk1, hk2]
  have hc := zlc h hk1
  rcases zyh hc.1 with ⟨q1, _⟩ | q
  · have := lch_fx (hc.2 q1)
    rwa [e] at this
  · rw [e] at q
    obtain ⟨a, b, c, d⟩ := rl_fx q
    exact ⟨a, b, fun h => by rcases h with h | h <;> contradiction⟩
theorem zzt {s : List UInt8} (h : Wide s) : za3 s = (s, true) := by
  have e : za3 s = z5f false true s := by
    rw [zq5 h.at_, zq6 h.at_]
    unfold zjl
    rw [map_fix fun r hr => (wide_fx h r hr).1]
  rw [e, h.form]
theorem zfc {s : List UInt8} (h : 0 ≤ eight s) : s ≠ [] := fun e => by subst e; simp [eight, zan] at h
theorem wide_ne {s : List UInt8} (h : Wide s) : (runes s).1.length ≠ 0 := fun e => by
  have hb := zgq s
  have ha : (runes s).2 = -1 := (zra s).resolve_right h.at_
  rw [ha, z90, List.take_length] at hb
  have : (runes s).1 = [] := List.eq_nil_of_length_eq_zero e
  rw [this] at hb
  exact zfc h.big (by rw [← hb.2.1]; rfl)
theorem lch_pch {r : Int} (h : lch r = true) : pch r = true := by
  unfold pch
  rw [if_neg (lch_fx h).2.1, h, Bool.or_true]
theorem zzu {s : List UInt8} (h : Wide s) : claV s = 0 ∧ namV s = (s, 0) := by
  have hb : badL (runes s).1 = false := by
    unfold badL
    rw [List.any_eq_false]
    intro k hk
    have hc := zlc h (List.mem_range.1 hk)
    unfold badK
    simp only [Bool.or_eq_true, Bool.and_eq_true, beq_iff_eq, Bool.not_eq_true', not_or, not_and, Bool.not_eq_false]
    exact ⟨hc.1, fun h0 => lch_pch (hc.2 h0)⟩
  have hc : claV s = 0 := by
    unfold claV
    rw [if_neg h.at_, if_neg (wide_ne h), hb]; rfl
  refine ⟨hc, ?_⟩
  unfold namV
  rw [zzt h, if_neg (by simp)]
  dsimp only
  unfold namR
  rw [hc, if_neg (by simp), h.bidi]; rfl
end Go.AE
end
section
namespace Go.AE
set_option linter.unusedSimpArgs false
theorem evB_le : ∀ (E : List (Int × Nat)) (x : DcS), (evB x E).length ≤ 64 * E.length
  | [], _ => Nat.le_refl _
  | e :: E, x => by
    have h1 := evB_le E (z0z x e)
    have h2 := zzy (evD x e) x.bias
    rw [evB, List.length_append, List.length_cons]
    omega
theorem pnS_len (l : List Int) (hl : l.length ≤ 1000) : (pnS l).length ≤ 65 * l.length + 1 := by
  unfold pnS
  split
  · rename_i h
    obtain ⟨E, e⟩ := enc_all h hl
    have h1 := evB_le E (x0 l)
    have h2 := e.len
    have h3 := zcv l
    have h4 : (z94 l).length ≤ (z10 l).length + 1 := by unfold z94; split <;> simp
    rw [e.enc, List.length_append]
    omega
  · simp
end Go.AE
end
