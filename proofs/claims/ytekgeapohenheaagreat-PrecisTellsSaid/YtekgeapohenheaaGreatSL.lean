/- Contracts of functions that the laws of this seat reach, and plain laws of what they compute. No condition beyond each statement's own. -/
import Derived.Test.YtekgeapohenheaaGreatSI
import Derived.Test.YtekgeapohenheaaGreatXA
import Derived.Test.YtekgeapohenheaaGreatXE
import Derived.Test.YtekgeapohenheaaGreatSJ
import Derived.Test.YtekgeapohenheaaGreatXB
set_option linter.unusedVariables false
set_option linter.unusedSimpArgs false
section
/- Names of users: plain laws. -/
namespace Go.AE
set_option linter.unusedSimpArgs false
/-- A character that is but alike, or taken out. -/
def soB (r : Int) : Bool := (spl r).2 && ((spl r).1.2.2.2.1 || (spl r).1.2.2.2.2)
def lch (r : Int) : Bool := !soB r && (decide (2 ≤ cat r ∧ cat r ≤ 5) || r == 45)
def pch (r : Int) : Bool := decide (33 ≤ r ∧ r ≤ 126) || (if cat r = 1 then !soB r else lch r)
def badK (L : List Int) (k : Nat) : Bool := needN L k == 2 || (needN L k == 0 && !pch (L.getD k 0))
def badL (L : List Int) : Bool := (List.range L.length).any (badK L)
def claV (s : List UInt8) : Int := if 0 ≤ (runes s).2 then 7 else if (runes s).1.length = 0 then 13 else if badL (runes s).1 then 8 else 0
def namR (X : List UInt8) : List UInt8 × Int := if claV X ≠ 0 then ([], claV X) else if hasB (runes X).1 && !ruleB (runes X).1 then ([], 9) else (X, 0)
def namV (s : List UInt8) : List UInt8 × Int := if (foldS s).2 = false then ([], 7) else namR (foldS s).1
def sameN (a b : List UInt8) : Bool := ((namV a).2 == 0) && ((namV b).2 == 0) && ((namV a).1 == (namV b).1)
theorem namR_ok {X : List UInt8} (h : (namR X).2 = 0) : namR X = (X, 0) ∧ claV X = 0 := by
  unfold namR at h ⊢
  by_cases h1 : claV X = 0
  · rw [if_neg (by simp [h1])] at h ⊢
    by_cases h2 : (hasB (runes X).1 && !ruleB (runes X).1) = true
    · rw [if_pos h2] at h; simp at h
    · rw [if_neg h2]; exact ⟨rfl, h1⟩
  · rw [if_pos h1] at h; exact absurd h h1
theorem namR_bad {X : List UInt8} (h : (namR X).2 ≠ 0) : (namR X).1 = [] := by
  unfold namR at h ⊢
  split
  · rfl
  · split
    · rfl
    · rename_i h1 h2
      rw [if_neg h1, if_neg h2] at h
      simp at h
theorem claV_cases (s : List UInt8) : claV s = 7 ∨ claV s = 13 ∨ claV s = 8 ∨ claV s = 0 := by
  unfold claV
  repeat' split
  all_goals simp
theorem namV_nil : namV [] = ([], 13) := by decide +kernel
/-! ### ASCII -/
def okA (n : Nat) : Bool := decide (33 ≤ n) && decide (n ≤ 126)
theorem asc_pch {c : UInt8} (h : c.toNat < 128) : pch (c.toNat : Int) = okA c.toNat ∧ rl (c.toNat : Int) = .no ∧ rtl (c.toNat : Int) = false := by
  have := List.all_eq_true.1 (show ((List.range 128).all fun n => decide (pch (n : Int) = okA n) && (decide (rl (n : Int) = .no) && decide (rtl (n : Int) = false))) = true by decide +kernel) c.toNat (by simp; omega)
  simp only [Bool.and_eq_true, decide_eq_true_eq] at this
  exact this
theorem asc_getD (s : List UInt8) (k : Nat) (h : k < s.length) : (asc s).getD k 0 = ((s.getD k 0).toNat : Int) := by
  simp [asc, List.getD, h]
theorem asc_bad {s : List UInt8} (h : ∀ c ∈ s, c.toNat < 128) : badL (asc s) = !s.all fun c => okA c.toNat := by
  have hl : (asc s).length = s.length := by simp [asc]
  have hk : ∀ k, k < s.length → badK (asc s) k = !okA (s.getD k 0).toNat := fun k hk => by
    have hc : (s.getD k 0).toNat < 128 := h _ (by simp [List.getD, hk])
    obtain ⟨h1, h2, h3⟩ := asc_pch hc
    unfold badK needN
    rw [asc_getD s k hk, h2, h1]
    simp
  unfold badL
  rw [hl, Bool.eq_iff_iff]
  simp only [List.any_eq_true, List.mem_range, Bool.not_eq_true', List.all_eq_false]
  constructor
  · rintro ⟨k, hk1, hk2⟩
    rw [hk k hk1] at hk2
    exact ⟨s.getD k 0, by simp [List.getD, hk1], by simpa using hk2⟩
  · rintro ⟨c, hc, h2⟩
    obtain ⟨k, hk1, hk2⟩ := List.getElem_of_mem hc
    refine ⟨k, hk1, ?_⟩
    rw [hk k hk1]
    have : s.getD k 0 = c := by simp [List.getD, hk1, hk2]
    rw [this]
    simpa using h2
theorem asc_has {s : List UInt8} (h : ∀ c ∈ s, c.toNat < 128) : hasB (asc s) = false := by
  unfold hasB asc
  rw [List.any_map, List.any_eq_false]
  intro c hc
  have := (asc_pch (h c hc)).2.2
  simpa using this
def fineS (s : List UInt8) : Bool := decide (0 < s.length) && s.all fun c => okA c.toNat
theorem runes_asc10 {s : List UInt8} (h : ∀ c ∈ s, c.toNat < 128) : runes s = (asc s, -1) := runesF_asc _ _ _ (by omega) h
theorem claV_asc {s : List UInt8} (h : ∀ c ∈ s, c.toNat < 128) : (claV s = 0 ↔ fineS s = true) := by
  unfold claV fineS
  rw [runes_asc10 h, asc_bad h]
  have hl : (asc s).length = s.length := by simp [asc]
  rw [if_neg (by dsimp only; omega)]
  dsimp only
  rw [hl]
  by_cases h0 : s.length = 0
  · rw [if_pos h0]; simp [h0]
  · rw [if_neg h0]
    cases hq : s.all fun c => okA c.toNat <;> simp <;> omega
/-! ### A blank, or a control sign -/
theorem encB_small {r : Int} {c : UInt8} (hc : c.toNat < 128) (h : c ∈ enc r) : r = (c.toNat : Int) := by
  unfold enc at h
  have key : ∀ x : Int, 128 ≤ x → x ≤ 255 → c ≠ ofI x := fun x h1 h2 he => by
    have : c.toNat = x.toNat := by rw [he]; unfold ofI; simp; omega
    omega
  split at h
  · rename_i hr
    have hr := (right_iff r).1 hr
    split at h
    · simp only [List.mem_singleton] at h
      rw [h]
      unfold ofI
      have : (UInt8.ofNat r.toNat).toNat = r.toNat := by simp; omega
      rw [this]; omega
    · exfalso
      split at h
      · simp only [List.mem_cons, List.not_mem_nil, or_false] at h
        rcases h with h | h
        · exact key _ (by omega) (by omega) h
        · exact key _ (by omega) (by omega) h
      · split at h
        · simp only [List.mem_cons, List.not_mem_nil, or_false] at h
          rcases h with h | h | h
          · exact key _ (by omega) (by omega) h
          · exact key _ (by omega) (by omega) h
          · exact key _ (by omega) (by omega) h
        · simp only [List.mem_cons, List.not_mem_nil, or_false] at h
          rcases h with h | h | h | h
          · exact key _ (by omega) (by omega) h
          · exact key _ (by omega) (by omega) h
          · exact key _ (by omega) (by omega) h
          · exact key _ (by omega) (by omega) h
  · cases h
theorem rune_of_byte {s : List UInt8} (h : ¬ 0 ≤ (runes s).2) {c : UInt8} (hc : c ∈ s) (hs : c.toNat < 128) : (c.toNat : Int) ∈ (runes s).1 := by
  have hb := runes_back s
  have ha : (runes s).2 = -1 := (runes_at s).resolve_right h
  rw [ha, cutAt_neg, List.take_length] at hb
  have hs2 : strS (runes s).1 = (runes s).1.flatMap enc := by unfold strS; rw [if_pos hb.1]
  have : c ∈ (runes s).1.flatMap enc := by rw [← hs2, hb.2.1]; exact hc
  obtain ⟨r, hr, hcr⟩ := List.mem_flatMap.1 this
  rw [← encB_small hs hcr]
  exact hr
/-- What folding leaves where it stands. -/
structure Firm (c : Int) : Prop where
  fx : lw c = c
  one : one1 false c = [c]
  cl : cls c = 0
  l : ∀ a, (mk2 a c).2 = false
  r : ∀ b, (mk2 c b).2 = false
theorem put_keep {s : JS} {c : Int} (x : Int) (h : c ∈ s.out) : c ∈ (s.put x).out := by rw [put_out]; exact List.mem_append.2 (Or.inl h)
theorem jStep_keep {s : JS} {c : Int} (hf : Firm c) (x : Int) (h : c ∈ s.out) : c ∈ (jStep s x).out := by
  unfold jStep
  split
  · exact put_keep x h
  · rename_i b hb
    split
    · split
      · rename_i h2
        simp only [JS.out, hb, Option.toList, List.mem_append, List.mem_singleton] at h ⊢
        rcases h with (h | h) | h
        · exact Or.inl (Or.inl h)
        · subst h; rw [hf.r x] at h2; cases h2
        · exact Or.inr h
      · exact put_keep x h
    · exact put_keep x h
theorem jStep_new {s : JS} {c : Int} (hf : Firm c) : c ∈ (jStep s c).out := by
  have hp : c ∈ (s.put c).out := by rw [put_out]; simp
  unfold jStep
  split
  · exact hp
  · rename_i b hb
    split
    · rw [hf.l b]
      exact hp
    · exact hp
theorem joinL_keep {c : Int} (hf : Firm c) {l : List Int} (h : c ∈ l) : c ∈ joinL l := by
  have key : ∀ (l : List Int) (s : JS), c ∈ s.out ∨ c ∈ l → c ∈ (l.foldl jStep s).out := fun l => by
    induction l with
    | nil => intro s h; rcases h with h | h; exact h; cases h
    | cons x l ih =>
      intro s h
      refine ih (jStep s x) ?_
      rcases h with h | h
      · exact Or.inl (jStep_keep hf x h)
      · rcases List.mem_cons.1 h with rfl | h
        · exact Or.inl (jStep_new hf)
        · exact Or.inr h
  exact key l _ (Or.inr h)
theorem fold_keep {c : Int} (hf : Firm c) {l : List Int} (h : c ∈ l) : c ∈ foldL l := by
  rw [foldL_eq]
  refine joinL_keep hf ((ord_kin _).1.mem.2 ?_)
  refine List.mem_flatMap.2 ⟨c, List.mem_map.2 ⟨c, h, hf.fx⟩, ?_⟩
  rw [hf.one]; simp
theorem mk2_no {a b : Int} (ha : ∀ x ∈ splits, x.2.1 ≠ a ∨ x.2.2.1 ≠ b) (h1 : ¬ (4352 ≤ a ∧ a ≤ 4370 ∧ 4449 ≤ b ∧ b ≤ 4469)) (h2 : ¬ (han a = true ∧ (a - 44032) % 28 = 0 ∧ 4520 ≤ b ∧ b ≤ 4546)) : (mk2 a b).2 = false := by
  unfold mk2
  rw [if_neg h1, if_neg h2]
  unfold pr
  have : splits.find? (pairP a b) = none := by
    rw [List.find?_eq_none]
    intro x hx hp
    unfold pairP at hp
    simp only [Bool.and_eq_true, beq_iff_eq] at hp
    rcases ha x hx with h | h
    · exact h hp.1.2
    · exact h hp.2
  rw [this]; rfl
theorem firm_of {n : Nat} (h : n ≤ 32 ∨ n = 127) : Firm (n : Int) := by
  have hn : n < 128 := by omega
  have hall := List.all_eq_true.1 (show ((List.range 128).all fun n => !(decide (n ≤ 32) || n == 127) || (decide (lw (n : Int) = n) && decide (one1 false (n : Int) = [(n : Int)]) && decide (cls (n : Int) = 0) && splits.all fun x => (decide (x.2.1 ≠ (n : Int)) || x.2.2.2.1) && (decide (x.2.2.1 ≠ (n : Int)) || n == 0))) = true by decide +kernel) n (by simp; omega)
  have hb : (decide (n ≤ 32) || n == 127) = true := by simp; omega
  rw [hb] at hall
  simp only [Bool.not_true, Bool.false_or, Bool.and_eq_true, decide_eq_true_eq, List.all_eq_true, Bool.or_eq_true, beq_iff_eq] at hall
  obtain ⟨⟨⟨a1, a2⟩, a3⟩, a4⟩ := hall
  refine ⟨a1, a2, a3, fun a => ?_, fun b => ?_⟩
  · have h1 : ¬ (4352 ≤ a ∧ a ≤ 4370 ∧ 4449 ≤ (n : Int) ∧ (n : Int) ≤ 4469) := by omega
    have h2 : ¬ (han a = true ∧ (a - 44032) % 28 = 0 ∧ 4520 ≤ (n : Int) ∧ (n : Int) ≤ 4546) := by omega
    unfold mk2
    rw [if_neg h1, if_neg h2]
    unfold pr
    have : splits.find? (pairP a (n : Int)) = none := by
      rw [List.find?_eq_none]
      intro x hx hp
      unfold pairP at hp
      simp only [Bool.and_eq_true, beq_iff_eq, Bool.not_eq_true'] at hp
      rcases (a4 x hx).2 with h | h
      · exact h hp.2
      · have := List.all_eq_true.1 (show (splits.all fun x => x.2.2.2.1 || x.2.2.2.2 || decide (x.2.2.1 ≠ 0)) = true by decide +kernel) x hx
        rw [hp.1.1.1, hp.1.1.2] at this
        simp only [Bool.false_or, decide_eq_true_eq] at this
        have := hp.2
        subst h
        simp at this
        contradiction
    rw [this]; rfl
  · have h1 : ¬ (4352 ≤ (n : Int) ∧ (n : Int) ≤ 4370 ∧ 4449 ≤ b ∧ b ≤ 4469) := by omega
    have h2 : ¬ (han (n : Int) = true ∧ ((n : Int) - 44032) % 28 = 0 ∧ 4520 ≤ b ∧ b ≤ 4546) := by
      intro h
      have : 44032 ≤ (n : Int) ∧ (n : Int) ≤ 55203 := by simpa [han] using h.1
      omega
    unfold mk2
    rw [if_neg h1, if_neg h2]
    unfold pr
    have : splits.find? (pairP (n : Int) b) = none := by
      rw [List.find?_eq_none]
      intro x hx hp
      unfold pairP at hp
      simp only [Bool.and_eq_true, beq_iff_eq, Bool.not_eq_true'] at hp
      rcases (a4 x hx).1 with h | h
      · exact h hp.1.2
      · rw [hp.1.1.1] at h; cases h
    rw [this]; rfl
theorem firm_bad {n : Nat} (h : n ≤ 32 ∨ n = 127) {L : List Int} {k : Nat} (hk : L.getD k 0 = (n : Int)) : badK L k = true := by
  have hall := List.all_eq_true.1 (show ((List.range 128).all fun n => !(decide (n ≤ 32) || n == 127) || (decide (rl (n : Int) = .no) && !pch (n : Int))) = true by decide +kernel) n (by simp; omega)
  have hb : (decide (n ≤ 32) || n == 127) = true := by simp; omega
  rw [hb] at hall
  simp only [Bool.not_true, Bool.false_or, Bool.and_eq_true, decide_eq_true_eq] at hall
  unfold badK needN
  rw [hk, hall.1, hall.2]
  simp
theorem blank_name {s : List UInt8} {c : UInt8} (hc : c ∈ s) (h : c.toNat ≤ 32 ∨ c.toNat = 127) : (namV s).2 = 8 ∨ (namV s).2 = 7 := by
  by_cases h0 : 0 ≤ (runes s).2
  · right
    unfold namV foldS
    rw [if_pos h0]; rfl
  · left
    have hm := fold_keep (firm_of h) (rune_of_byte h0 hc (by omega))
    have hr := runes_fold (s := s)
    obtain ⟨k, hk1, hk2⟩ := List.getElem_of_mem hm
    have hbad : badL (foldL (runes s).1) = true := by
      unfold badL
      rw [List.any_eq_true]
      exact ⟨k, List.mem_range.2 hk1, firm_bad h (by simp [List.getD, hk1, hk2])⟩
    have hv : claV (strS (foldL (runes s).1)) = 8 := by
      unfold claV
      rw [hr, if_neg (by dsimp only; omega)]
      dsimp only
      rw [if_neg (by omega), hbad]; rfl
    unfold namV
    rw [foldS_at h0, if_neg (by simp)]
    dsimp only
    unfold namR
    rw [hv]; rfl
end Go.AE
end
section
/- Precis: contracts. -/
namespace Go.AE
open Go.Proofs
set_option maxRecDepth 20000
set_option maxHeartbeats 8000000
set_option linter.unusedSimpArgs false
theorem lchar_spec (r : Int) : Spec Tryz.prog 32 [tab, I32 r] (Bv (lch r)) := by
  have hs := split_spec r
  have hc := cat_spec r
  rw [← tabBox_eq] at hs hc ⊢
  refine spec_mk (z := false) (ts := [.tmp 4]) ok1 Tryz.func32 rfl rfl (by decide +kernel) (by simp [Tryz.ntmps32]) rfl ?_
  unfold lch soB
  cases h1 : (spl r).2 <;> cases h2 : (spl r).1.2.2.2.1 <;> cases h3 : (spl r).1.2.2.2.2
  all_goals
    repeat' first | refine WE_fit (hs) ?_ ?_ | refine WE_fit (hc) ?_ ?_ | simp (maxSteps := 4000000) (disch := omega) only [bunL, bunD, bun, ↓WG_true, ↓WG_false, labelOf, findLabel, ↓reduceIte, imp, shift, killO, cond_true, cond_false, hasId, ne_eq, unown, names, plainR, below, noF, isF, lendObs, lendOb, kindOk, ren, givL, updM, backO, renO, belowM, seval, -Int.reduceToNat, h1, h2, h3, D29, bunN, Int.reduceToNat, tbB2, List.map_nil, List.nil_append, splitC] | exact NK_no _ | refine NK_cl _ _ ?_ | exact Cln.cl | refine clean_tup _ ?_ | refine cleans_cons _ _ ?_ ?_ | refine DR_q _ ?_ | (refine Fk.fk ?_ ?_ <;> intro hg <;> (try simp only [hg]) <;> (try simp only [bunB, ne_eq] at hg) <;> try (exfalso; first | omega | exact Bool.noConfusion hg | exact hg trivial)) | refine And.intro (by omega) ?_ | omega
  all_goals (congr 2; rw [Bool.eq_iff_iff]; simp only [Bool.or_eq_true, decide_eq_true_eq, beq_iff_eq, true_iff]; omega)
theorem pchar_spec (r : Int) : Spec Tryz.prog 11 [tab, I32 r] (Bv (pch r)) := by
  have hs := split_spec r
  have hc := cat_spec r
  have hl := lchar_spec r
  rw [← tabBox_eq] at hs hc hl ⊢
  refine spec_mk (z := false) (ts := [.tmp 4]) ok1 Tryz.func11 rfl rfl (by decide +kernel) (by simp [Tryz.ntmps11]) rfl ?_
  by_cases hp : 33 ≤ r ∧ r ≤ 126
  · have e : pch r = true := by unfold pch; simp [hp]
    rw [e]
    repeat' first | refine WE_fit (hs) ?_ ?_ | refine WE_fit (hc) ?_ ?_ | refine WE_fit (hl) ?_ ?_ | simp (maxSteps := 4000000) (disch := omega) only [bunL, bunD, bun, ↓WG_true, ↓WG_false, labelOf, findLabel, ↓reduceIte, imp, shift, killO, cond_true, cond_false, hasId, ne_eq, unown, names, plainR, below, noF, isF, lendObs, lendOb, kindOk, ren, givL, updM, backO, renO, belowM, seval, -Int.reduceToNat, D29, bunN, Int.reduceToNat, tbB2, List.map_nil, List.nil_append, splitC] | exact NK_no _ | refine NK_cl _ _ ?_ | exact Cln.cl | refine clean_tup _ ?_ | refine cleans_cons _ _ ?_ ?_ | refine DR_q _ ?_ | (refine Fk.fk ?_ ?_ <;> intro hg <;> (try simp only [hg]) <;> (try simp only [bunB, ne_eq] at hg) <;> try (exfalso; first | omega | exact Bool.noConfusion hg | exact hg trivial)) | refine And.intro (by omega) ?_ | omega
  · by_cases h1 : cat r = 1
    · have e : pch r = !soB r := by unfold pch; simp only [hp, decide_false, Bool.false_or, h1, if_true]
      rw [e]
      unfold soB
      cases h1 : (spl r).2 <;> cases h2 : (spl r).1.2.2.2.1 <;> cases h3 : (spl r).1.2.2.2.2
      all_goals
        repeat' first | refine WE_fit (hs) ?_ ?_ | refine WE_fit (hc) ?_ ?_ | refine WE_fit (hl) ?_ ?_ | simp (maxSteps := 4000000) (disch := omega) only [bunL, bunD, bun, ↓WG_true, ↓WG_false, labelOf, findLabel, ↓reduceIte, imp, shift, killO, cond_true, cond_false, hasId, ne_eq, unown, names, plainR, below, noF, isF, lendObs, lendOb, kindOk, ren, givL, updM, backO, renO, belowM, seval, -Int.reduceToNat, h1, h2, h3, D29, bunN, Int.reduceToNat, tbB2, List.map_nil, List.nil_append, splitC] | exact NK_no _ | refine NK_cl _ _ ?_ | exact Cln.cl | refine clean_tup _ ?_ | refine cleans_cons _ _ ?_ ?_ | refine DR_q _ ?_ | (refine Fk.fk ?_ ?_ <;> intro hg <;> (try simp only [hg]) <;> (try simp only [bunB, ne_eq] at hg) <;> try (exfalso; first | omega | exact Bool.noConfusion hg | exact hg trivial)) | refine And.intro (by omega) ?_ | omega
        all_goals trace_state
    · have e : pch r = lch r := by unfold pch; simp only [hp, decide_false, Bool.false_or, h1, if_false]
      rw [e]
      repeat' first | refine WE_fit (hs) ?_ ?_ | refine WE_fit (hc) ?_ ?_ | refine WE_fit (hl) ?_ ?_ | simp (maxSteps := 4000000) (disch := omega) only [bunL, bunD, bun, ↓WG_true, ↓WG_false, labelOf, findLabel, ↓reduceIte, imp, shift, killO, cond_true, cond_false, hasId, ne_eq, unown, names, plainR, below, noF, isF, lendObs, lendOb, kindOk, ren, givL, updM, backO, renO, belowM, seval, -Int.reduceToNat, D29, bunN, Int.reduceToNat, tbB2, List.map_nil, List.nil_append, splitC] | exact NK_no _ | refine NK_cl _ _ ?_ | exact Cln.cl | refine clean_tup _ ?_ | refine cleans_cons _ _ ?_ ?_ | refine DR_q _ ?_ | (refine Fk.fk ?_ ?_ <;> intro hg <;> (try simp only [hg]) <;> (try simp only [bunB, ne_eq] at hg) <;> try (exfalso; first | omega | exact Bool.noConfusion hg | exact hg trivial)) | refine And.intro (by omega) ?_ | omega
      all_goals trace_state
theorem need_at (L : List Int) (k : Nat) (hk : k < L.length) : need L (k : Int) = needN L k := by
  unfold need
  rw [if_pos (by omega)]; rfl
theorem badK_spec (L : List Int) (hL : L.length ≤ 1000) (hb : ∀ c ∈ L, inI c) (k : Nat) (hk : k < L.length) : Spec Tryz.prog 27 [I64 k, .cp tabBox, .cp [.sl L.length (L.map I32)]] (Bv (badK L k)) := by
  have h1 := need_spec L hL hb k (by omega) (by omega)
  have h2 := pchar_spec (L.getD k 0)
  rw [need_at L k hk] at h1
  rw [← tabBox_eq] at h1 h2
  unfold badK
  refine spec_mk (z := false) (ts := [.tmp 4]) ok1 Tryz.func27 rfl rfl (by decide +kernel) (by simp [Tryz.ntmps27]) rfl ?_
  repeat' first | refine WE_fit (h1) ?_ ?_ | refine WE_fit (h2) ?_ ?_ | simp (maxSteps := 4000000) (disch := omega) only [bunL, bunD, bun, ↓WG_true, ↓WG_false, labelOf, findLabel, ↓reduceIte, imp, shift, killO, cond_true, cond_false, hasId, ne_eq, unown, names, plainR, below, noF, isF, lendObs, lendOb, kindOk, ren, givL, updM, backO, renO, belowM, seval, -Int.reduceToNat, D29, B21, B53, bunN, Int.reduceToNat, tbB2, List.map_nil, List.nil_append, splitC] | exact NK_no _ | refine NK_cl _ _ ?_ | exact Cln.cl | refine clean_tup _ ?_ | refine cleans_cons _ _ ?_ ?_ | refine DR_q _ ?_ | (refine Fk.fk ?_ ?_ <;> intro hg <;> (try simp only [hg]) <;> (try simp only [bunB, ne_eq] at hg) <;> try (exfalso; first | omega | exact Bool.noConfusion hg | exact hg trivial)) | refine And.intro (by omega) ?_ | omega
  all_goals trace_state
end Go.AE
end
section
/- Precis: Class, Name, Alike. -/
namespace Go.AE
open Go.Proofs
set_option maxRecDepth 20000
set_option maxHeartbeats 8000000
set_option linter.unusedSimpArgs false
theorem cells_sl0 : (Value.slice none 0 0).cells.toList = [Value.slice none 0 0] := rfl
theorem all_sl0 : ((Value.slice none 0 0).cells.all fun x => x.oneCell') = true := by decide +kernel
theorem any_take {p : Nat → Bool} {i n : Nat} (h : ∀ j, j < i → p j = false) (hi : i < n) (hp : p i = true) : (List.range n).any p = true := List.any_eq_true.2 ⟨i, List.mem_range.2 hi, hp⟩
theorem any_none {p : Nat → Bool} {n : Nat} (h : ∀ j, j < n → p j = false) : (List.range n).any p = false := by
  rw [List.any_eq_false]
  intro k hk
  rw [h k (List.mem_range.1 hk)]; simp
theorem cla_spec (s : List UInt8) (hs : s.length ≤ 10000000) (hl : (runes s).1.length ≤ 1000) : Spec Tryz.prog 9 [tab, Sv s] (I64 (claV s)) := by
  have hr := runes_ok s
  have hi : ∀ c ∈ (runes s).1, inI c := fun c hc => by have := hr c hc; unfold okR at this; unfold inI; omega
  have hb := badK_spec (runes s).1 hl hi
  have hu := utfRunes_spec s (by omega)
  rw [← tabBox_eq]
  refine spec_mk (z := false) (ts := [.tmp 4]) ok1 Tryz.func9 rfl rfl (by decide +kernel) (by simp [Tryz.ntmps9]) rfl ?_
  unfold claV
  generalize (runes s).1 = L at *
  generalize (runes s).2 = a at *
  by_cases h0 : 0 ≤ a
  · rw [if_pos h0]
    repeat' first | refine WE_fit (hu) ?_ ?_ | simp (maxSteps := 4000000) (disch := omega) only [bunL, bunD, bun, ↓WG_true, ↓WG_false, labelOf, findLabel, ↓reduceIte, imp, shift, killO, cond_true, cond_false, hasId, ne_eq, unown, names, plainR, below, noF, isF, lendObs, lendOb, kindOk, ren, givL, updM, backO, renO, belowM, seval, -Int.reduceToNat, B9, D29, B31, B21, B53, B60, bunN, Int.reduceToNat, tbB2, List.map_nil, List.nil_append, splitC, cells_sl0, all_sl0, setNth_zero] | exact NK_no _ | refine NK_cl _ _ ?_ | exact Cln.cl | refine clean_tup _ ?_ | refine cleans_cons _ _ ?_ ?_ | refine DR_q _ ?_ | (refine Fk.fk ?_ ?_ <;> intro hg <;> (try simp only [hg]) <;> (try simp only [bunB, ne_eq] at hg) <;> try (exfalso; first | omega | exact Bool.noConfusion hg | exact hg trivial)) | refine And.intro (by omega) ?_ | omega
  · rw [if_neg h0]
    by_cases h1 : L.length = 0
    · rw [if_pos h1]
      repeat' first | refine WE_fit (hu) ?_ ?_ | simp (maxSteps := 4000000) (disch := omega) only [bunL, bunD, bun, ↓WG_true, ↓WG_false, labelOf, findLabel, ↓reduceIte, imp, shift, killO, cond_true, cond_false, hasId, ne_eq, unown, names, plainR, below, noF, isF, lendObs, lendOb, kindOk, ren, givL, updM, backO, renO, belowM, seval, -Int.reduceToNat, h1, B9, D29, B31, B21, B53, B60, bunN, Int.reduceToNat, tbB2, List.map_nil, List.nil_append, splitC, cells_sl0, all_sl0, setNth_zero] | exact NK_no _ | refine NK_cl _ _ ?_ | exact Cln.cl | refine clean_tup _ ?_ | refine cleans_cons _ _ ?_ ?_ | refine DR_q _ ?_ | (refine Fk.fk ?_ ?_ <;> intro hg <;> (try simp only [hg]) <;> (try simp only [bunB, ne_eq] at hg) <;> try (exfalso; first | omega | exact Bool.noConfusion hg | exact hg trivial)) | refine And.intro (by omega) ?_ | omega
    · rw [if_neg h1]
      repeat' first | refine WE_fit (hu) ?_ ?_ | simp (maxSteps := 4000000) (disch := omega) only [bunL, bunD, bun, ↓WG_true, ↓WG_false, labelOf, findLabel, ↓reduceIte, imp, shift, killO, cond_true, cond_false, hasId, ne_eq, unown, names, plainR, below, noF, isF, lendObs, lendOb, kindOk, ren, givL, updM, backO, renO, belowM, seval, -Int.reduceToNat, B9, D29, B31, B21, B53, B60, bunN, Int.reduceToNat, tbB2, List.map_nil, List.nil_append, splitC, cells_sl0, all_sl0, setNth_zero] | exact NK_no _ | refine NK_cl _ _ ?_ | exact Cln.cl | refine clean_tup _ ?_ | refine cleans_cons _ _ ?_ ?_ | refine DR_q _ ?_ | (refine Fk.fk ?_ ?_ <;> intro hg <;> (try simp only [hg]) <;> (try simp only [bunB, ne_eq] at hg) <;> try (exfalso; first | omega | exact Bool.noConfusion hg | exact hg trivial)) | refine And.intro (by omega) ?_ | omega
      refine LP_intro (fun i : Nat => ⟨[(2, .ptr 0 0), (5, .ptr 2 0), (7, .fn 27 [] [.ptr 0 0, .ptr 2 0]), (23, I64 L.length), (24, I64 i)], [.row true 1 tabBox, .arr 21 1 (L.map I32), .row true 1 [.ref 1 0 L.length]]⟩) (fun i => i ≤ L.length ∧ ∀ j, j < i → badK L j = false) (fun i => L.length - i) 0 (by simp) (by (simp (disch := omega) [wk, wkT, wkM, noF, isF, get, belowT, belowM, below, belows, I64, I32, Bv, U8, Sv, tb_bel] <;> try omega)) ?_
      rintro i ⟨hi1, hi2⟩
      by_cases hlt : i < L.length
      · have hbi := hb i hlt
        cases hq : badK L i with
        | true =>
          rw [hq] at hbi
          have e : badL L = true := any_take hi2 hlt hq
          repeat' first | refine WE_fit (hbi) ?_ ?_ | simp (maxSteps := 4000000) (disch := omega) only [bunL, bunD, bun, ↓WG_true, ↓WG_false, labelOf, findLabel, ↓reduceIte, imp, shift, killO, cond_true, cond_false, hasId, ne_eq, unown, names, plainR, below, noF, isF, lendObs, lendOb, kindOk, ren, givL, updM, backO, renO, belowM, seval, -Int.reduceToNat, e, B9, D29, B31, B21, B53, B60, bunN, Int.reduceToNat, tbB2, List.map_nil, List.nil_append, splitC, cells_sl0, all_sl0, setNth_zero] | exact NK_no _ | refine NK_cl _ _ ?_ | exact Cln.cl | refine clean_tup _ ?_ | refine cleans_cons _ _ ?_ ?_ | refine DR_q _ ?_ | (refine Fk.fk ?_ ?_ <;> intro hg <;> (try simp only [hg]) <;> (try simp only [bunB, ne_eq] at hg) <;> try (exfalso; first | omega | exact Bool.noConfusion hg | exact hg trivial)) | refine And.intro (by omega) ?_ | omega
          all_goals trace_state
        | false =>
          rw [hq] at hbi
          repeat' first | refine WE_fit (hbi) ?_ ?_ | simp (maxSteps := 4000000) (disch := omega) only [bunL, bunD, bun, ↓WG_true, ↓WG_false, labelOf, findLabel, ↓reduceIte, imp, shift, killO, cond_true, cond_false, hasId, ne_eq, unown, names, plainR, below, noF, isF, lendObs, lendOb, kindOk, ren, givL, updM, backO, renO, belowM, seval, -Int.reduceToNat, B9, D29, B31, B21, B53, B60, bunN, Int.reduceToNat, tbB2, List.map_nil, List.nil_append, splitC, cells_sl0, all_sl0, setNth_zero] | exact NK_no _ | refine NK_cl _ _ ?_ | exact Cln.cl | refine clean_tup _ ?_ | refine cleans_cons _ _ ?_ ?_ | refine DR_q _ ?_ | (refine Fk.fk ?_ ?_ <;> intro hg <;> (try simp only [hg]) <;> (try simp only [bunB, ne_eq] at hg) <;> try (exfalso; first | omega | exact Bool.noConfusion hg | exact hg trivial)) | refine And.intro (by omega) ?_ | omega
          refine ⟨i + 1, ⟨by omega, fun j hj => ?_⟩, by omega, by (simp (disch := omega) [wk, wkT, wkM, noF, isF, get, belowT, belowM, below, belows, I64, I32, Bv, U8, Sv, tb_bel] <;> try omega)⟩
          by_cases hji : j = i
          · subst hji; exact hq
          · exact hi2 j (by omega)
      · have e : badL L = false := any_none fun j hj => hi2 j (by omega)
        repeat' first | refine WE_fit (hu) ?_ ?_ | simp (maxSteps := 4000000) (disch := omega) only [bunL, bunD, bun, ↓WG_true, ↓WG_false, labelOf, findLabel, ↓reduceIte, imp, shift, killO, cond_true, cond_false, hasId, ne_eq, unown, names, plainR, below, noF, isF, lendObs, lendOb, kindOk, ren, givL, updM, backO, renO, belowM, seval, -Int.reduceToNat, e, B9, D29, B31, B21, B53, B60, bunN, Int.reduceToNat, tbB2, List.map_nil, List.nil_append, splitC, cells_sl0, all_sl0, setNth_zero] | exact NK_no _ | refine NK_cl _ _ ?_ | exact Cln.cl | refine clean_tup _ ?_ | refine cleans_cons _ _ ?_ ?_ | refine DR_q _ ?_ | (refine Fk.fk ?_ ?_ <;> intro hg <;> (try simp only [hg]) <;> (try simp only [bunB, ne_eq] at hg) <;> try (exfalso; first | omega | exact Bool.noConfusion hg | exact hg trivial)) | refine And.intro (by omega) ?_ | omega
        all_goals trace_state
theorem nam_core (s X : List UInt8) (o : Bool) (hs : s.length ≤ 10000000) (hl : (runes s).1.length ≤ 10000) (e1 : foldS s = (X, o)) (e2 : X.length ≤ 10000000) (e3 : (runes X).1.length ≤ 1000) : Spec Tryz.prog 7 [tab, Sv s] (.tup [Sv (namV s).1, I64 (namV s).2]) := by
  have c1 := fold_spec' s hs hl
  have c2 := cla_spec X e2 e3
  have c3 := utfRunes_spec X (by omega)
  have c4 := has_spec (runes X).1 e3
  have c5 := rule_spec6 (runes X).1 e3
  unfold namV
  rw [e1] at c1 ⊢
  rw [← tabBox_eq] at c1 c2 c4 c5 ⊢
  refine spec_mk (z := false) (ts := [.tmp 4, .tmp 5]) ok1 Tryz.func7 rfl rfl (by decide +kernel) (by simp [Tryz.ntmps7]) rfl ?_
  unfold namR
  dsimp only at c1 ⊢
  generalize claV X = e at *
  generalize hasB (runes X).1 = b1 at *
  generalize ruleB (runes X).1 = b2 at *
  generalize (runes X).1 = L at *
  generalize (runes X).2 = a at *
  cases o with
  | false =>
    repeat' first | refine WE_fit (c1) ?_ ?_ | simp (maxSteps := 4000000) (disch := omega) only [bunL, bunD, bun, ↓WG_true, ↓WG_false, labelOf, findLabel, ↓reduceIte, imp, shift, killO, cond_true, cond_false, hasId, ne_eq, unown, names, plainR, below, noF, isF, lendObs, lendOb, kindOk, ren, givL, updM, backO, renO, belowM, seval, -Int.reduceToNat, B9, D29, B31, B21, B53, bunN, Int.reduceToNat, tbB2, List.map_nil, List.nil_append, splitC, cells_sl0, all_sl0, setNth_zero] | exact NK_no _ | refine NK_cl _ _ ?_ | exact Cln.cl | refine clean_tup _ ?_ | refine cleans_cons _ _ ?_ ?_ | refine DR_q _ ?_ | (refine Fk.fk ?_ ?_ <;> intro hg <;> (try simp only [hg]) <;> (try simp only [bunB, ne_eq] at hg) <;> try (exfalso; first | omega | exact Bool.noConfusion hg | exact hg trivial)) | refine And.intro (by omega) ?_ | omega
    all_goals trace_state
  | true =>
    by_cases he : e = 0
    · subst he
      cases b1 <;> cases b2
      all_goals
        simp only [ne_eq, not_true_eq_false, if_false, Bool.not_true, Bool.not_false, Bool.and_true, Bool.and_false, Bool.false_eq_true, if_true, Bool.true_eq_false, Bool.and_self]
        repeat' first | refine WE_fit (c1) ?_ ?_ | refine WE_fit (c2) ?_ ?_ | refine WE_fit (c3) ?_ ?_ | refine WE_fit (c4) ?_ ?_ | refine WE_fit (c5) ?_ ?_ | simp (maxSteps := 4000000) (disch := omega) only [bunL, bunD, bun, ↓WG_true, ↓WG_false, labelOf, findLabel, ↓reduceIte, imp, shift, killO, cond_true, cond_false, hasId, ne_eq, unown, names, plainR, below, noF, isF, lendObs, lendOb, kindOk, ren, givL, updM, backO, renO, belowM, seval, -Int.reduceToNat, B9, D29, B31, B21, B53, bunN, Int.reduceToNat, tbB2, List.map_nil, List.nil_append, splitC, cells_sl0, all_sl0, setNth_zero] | exact NK_no _ | refine NK_cl _ _ ?_ | exact Cln.cl | refine clean_tup _ ?_ | refine cleans_cons _ _ ?_ ?_ | refine DR_q _ ?_ | (refine Fk.fk ?_ ?_ <;> intro hg <;> (try simp only [hg]) <;> (try simp only [bunB, ne_eq] at hg) <;> try (exfalso; first | omega | exact Bool.noConfusion hg | exact hg trivial)) | refine And.intro (by omega) ?_ | omega
        all_goals trace_state
    · repeat' first | refine WE_fit (c1) ?_ ?_ | refine WE_fit (c2) ?_ ?_ | refine WE_fit (c3) ?_ ?_ | refine WE_fit (c4) ?_ ?_ | refine WE_fit (c5) ?_ ?_ | simp (maxSteps := 4000000) (disch := omega) only [bunL, bunD, bun, ↓WG_true, ↓WG_false, labelOf, findLabel, ↓reduceIte, imp, shift, killO, cond_true, cond_false, hasId, ne_eq, unown, names, plainR, below, noF, isF, lendObs, lendOb, kindOk, ren, givL, updM, backO, renO, belowM, seval, -Int.reduceToNat, he, B9, D29, B31, B21, B53, bunN, Int.reduceToNat, tbB2, List.map_nil, List.nil_append, splitC, cells_sl0, all_sl0, setNth_zero] | exact NK_no _ | refine NK_cl _ _ ?_ | exact Cln.cl | refine clean_tup _ ?_ | refine cleans_cons _ _ ?_ ?_ | refine DR_q _ ?_ | (refine Fk.fk ?_ ?_ <;> intro hg <;> (try simp only [hg]) <;> (try simp only [bunB, ne_eq] at hg) <;> try (exfalso; first | omega | exact Bool.noConfusion hg | exact hg trivial)) | refine And.intro (by omega) ?_ | omega
      all_goals trace_state
theorem nam_spec (s : List UInt8) (hs : s.length ≤ 10000000) (hl : (runes s).1.length ≤ 240) : Spec Tryz.prog 7 [tab, Sv s] (.tup [Sv (namV s).1, I64 (namV s).2]) := by
  obtain ⟨X, o, e1, e2, e3⟩ : ∃ X o, foldS s = (X, o) ∧ X.length ≤ 10000000 ∧ (runes X).1.length ≤ 1000 := by
    by_cases h0 : 0 ≤ (runes s).2
    · exact ⟨[], false, by unfold foldS; rw [if_pos h0], by decide, by decide⟩
    · have h1 := foldL_len (runes s).1
      have h2 := strS_len (foldL (runes s).1)
      have h3 := runes_fold (s := s)
      exact ⟨_, true, foldS_at h0, by omega, by rw [h3]; dsimp only; omega⟩
  exact nam_core s X o hs (by omega) e1 e2 e3
theorem nam_spec' (X : List UInt8) (hs : X.length ≤ 10000000) (hf : foldS X = (X, true)) (hl : (runes X).1.length ≤ 1000) : Spec Tryz.prog 7 [tab, Sv X] (.tup [Sv (namV X).1, I64 (namV X).2]) := nam_core X X true hs (by omega) hf hs hl
end Go.AE
end
section
/- Precis: the laws. -/
namespace Go.AE
open Go.Proofs
set_option maxRecDepth 20000
set_option maxHeartbeats 8000000
set_option linter.unusedSimpArgs false
theorem palike_spec' (a b : List UInt8) (ha : a.length ≤ 10000000) (hal : (runes a).1.length ≤ 240) (hb : b.length ≤ 10000000) (hf : foldS b = (b, true)) (hbl : (runes b).1.length ≤ 1000) : Spec Tryz.prog 13 [tab, Sv a, Sv b] (Bv (sameN a b)) := by
  have h1 := nam_spec a ha hal
  have h2 := nam_spec' b hb hf hbl
  rw [← tabBox_eq] at h1 h2 ⊢
  refine spec_mk (z := false) (ts := [.tmp 6]) ok1 Tryz.func13 rfl rfl (by decide +kernel) (by simp [Tryz.ntmps13]) rfl ?_
  unfold sameN
  generalize namV a = x at *
  generalize namV b = y at *
  obtain ⟨x1, x2⟩ := x
  obtain ⟨y1, y2⟩ := y
  dsimp only at h1 h2 ⊢
  by_cases e1 : x2 = 0 <;> by_cases e2 : y2 = 0
  · subst e1 e2
    repeat' first | refine WE_fit (h1) ?_ ?_ | refine WE_fit (h2) ?_ ?_ | simp (maxSteps := 4000000) (disch := omega) only [bunL, bunD, bun, ↓WG_true, ↓WG_false, labelOf, findLabel, ↓reduceIte, imp, shift, killO, cond_true, cond_false, hasId, ne_eq, unown, names, plainR, below, noF, isF, lendObs, lendOb, kindOk, ren, givL, updM, backO, renO, belowM, seval, -Int.reduceToNat, B9, D29, B31, bunN, Int.reduceToNat, tbB2, List.map_nil, List.nil_append, splitC] | exact NK_no _ | refine NK_cl _ _ ?_ | exact Cln.cl | refine clean_tup _ ?_ | refine cleans_cons _ _ ?_ ?_ | refine DR_q _ ?_ | (refine Fk.fk ?_ ?_ <;> intro hg <;> (try simp only [hg]) <;> (try simp only [bunB, ne_eq] at hg) <;> try (exfalso; first | omega | exact Bool.noConfusion hg | exact hg trivial)) | refine And.intro (by omega) ?_ | omega
    all_goals simp
  · subst e1
    have e : (y2 == 0) = false := by simpa using e2
    repeat' first | refine WE_fit (h1) ?_ ?_ | refine WE_fit (h2) ?_ ?_ | simp (maxSteps := 4000000) (disch := omega) only [bunL, bunD, bun, ↓WG_true, ↓WG_false, labelOf, findLabel, ↓reduceIte, imp, shift, killO, cond_true, cond_false, hasId, ne_eq, unown, names, plainR, below, noF, isF, lendObs, lendOb, kindOk, ren, givL, updM, backO, renO, belowM, seval, -Int.reduceToNat, e2, e, B9, D29, B31, bunN, Int.reduceToNat, tbB2, List.map_nil, List.nil_append, splitC] | exact NK_no _ | refine NK_cl _ _ ?_ | exact Cln.cl | refine clean_tup _ ?_ | refine cleans_cons _ _ ?_ ?_ | refine DR_q _ ?_ | (refine Fk.fk ?_ ?_ <;> intro hg <;> (try simp only [hg]) <;> (try simp only [bunB, ne_eq] at hg) <;> try (exfalso; first | omega | exact Bool.noConfusion hg | exact hg trivial)) | refine And.intro (by omega) ?_ | omega
    all_goals simp [e2]
  · subst e2
    have e : (x2 == 0) = false := by simpa using e1
    repeat' first | refine WE_fit (h1) ?_ ?_ | refine WE_fit (h2) ?_ ?_ | simp (maxSteps := 4000000) (disch := omega) only [bunL, bunD, bun, ↓WG_true, ↓WG_false, labelOf, findLabel, ↓reduceIte, imp, shift, killO, cond_true, cond_false, hasId, ne_eq, unown, names, plainR, below, noF, isF, lendObs, lendOb, kindOk, ren, givL, updM, backO, renO, belowM, seval, -Int.reduceToNat, e1, e, B9, D29, B31, bunN, Int.reduceToNat, tbB2, List.map_nil, List.nil_append, splitC] | exact NK_no _ | refine NK_cl _ _ ?_ | exact Cln.cl | refine clean_tup _ ?_ | refine cleans_cons _ _ ?_ ?_ | refine DR_q _ ?_ | (refine Fk.fk ?_ ?_ <;> intro hg <;> (try simp only [hg]) <;> (try simp only [bunB, ne_eq] at hg) <;> try (exfalso; first | omega | exact Bool.noConfusion hg | exact hg trivial)) | refine And.intro (by omega) ?_ | omega
    all_goals simp [e1]
  · have e : (x2 == 0) = false := by simpa using e1
    repeat' first | refine WE_fit (h1) ?_ ?_ | refine WE_fit (h2) ?_ ?_ | simp (maxSteps := 4000000) (disch := omega) only [bunL, bunD, bun, ↓WG_true, ↓WG_false, labelOf, findLabel, ↓reduceIte, imp, shift, killO, cond_true, cond_false, hasId, ne_eq, unown, names, plainR, below, noF, isF, lendObs, lendOb, kindOk, ren, givL, updM, backO, renO, belowM, seval, -Int.reduceToNat, e1, e, B9, D29, B31, bunN, Int.reduceToNat, tbB2, List.map_nil, List.nil_append, splitC] | exact NK_no _ | refine NK_cl _ _ ?_ | exact Cln.cl | refine clean_tup _ ?_ | refine cleans_cons _ _ ?_ ?_ | refine DR_q _ ?_ | (refine Fk.fk ?_ ?_ <;> intro hg <;> (try simp only [hg]) <;> (try simp only [bunB, ne_eq] at hg) <;> try (exfalso; first | omega | exact Bool.noConfusion hg | exact hg trivial)) | refine And.intro (by omega) ?_ | omega
    all_goals simp [e1]
theorem palike_spec (a b : List UInt8) (ha : a.length ≤ 10000000) (hal : (runes a).1.length ≤ 240) (hb : b.length ≤ 10000000) (hbl : (runes b).1.length ≤ 240) : Spec Tryz.prog 13 [tab, Sv a, Sv b] (Bv (sameN a b)) := by
  have h1 := nam_spec a ha hal
  have h2 := nam_spec b hb hbl
  rw [← tabBox_eq] at h1 h2 ⊢
  refine spec_mk (z := false) (ts := [.tmp 6]) ok1 Tryz.func13 rfl rfl (by decide +kernel) (by simp [Tryz.ntmps13]) rfl ?_
  unfold sameN
  generalize namV a = x at *
  generalize namV b = y at *
  obtain ⟨x1, x2⟩ := x
  obtain ⟨y1, y2⟩ := y
  dsimp only at h1 h2 ⊢
  by_cases e1 : x2 = 0 <;> by_cases e2 : y2 = 0
  · subst e1 e2
    repeat' first | refine WE_fit (h1) ?_ ?_ | refine WE_fit (h2) ?_ ?_ | simp (maxSteps := 4000000) (disch := omega) only [bunL, bunD, bun, ↓WG_true, ↓WG_false, labelOf, findLabel, ↓reduceIte, imp, shift, killO, cond_true, cond_false, hasId, ne_eq, unown, names, plainR, below, noF, isF, lendObs, lendOb, kindOk, ren, givL, updM, backO, renO, belowM, seval, -Int.reduceToNat, B9, D29, B31, bunN, Int.reduceToNat, tbB2, List.map_nil, List.nil_append, splitC] | exact NK_no _ | refine NK_cl _ _ ?_ | exact Cln.cl | refine clean_tup _ ?_ | refine cleans_cons _ _ ?_ ?_ | refine DR_q _ ?_ | (refine Fk.fk ?_ ?_ <;> intro hg <;> (try simp only [hg]) <;> (try simp only [bunB, ne_eq] at hg) <;> try (exfalso; first | omega | exact Bool.noConfusion hg | exact hg trivial)) | refine And.intro (by omega) ?_ | omega
    all_goals simp
  · subst e1
    have e : (y2 == 0) = false := by simpa using e2
    repeat' first | refine WE_fit (h1) ?_ ?_ | refine WE_fit (h2) ?_ ?_ | simp (maxSteps := 4000000) (disch := omega) only [bunL, bunD, bun, ↓WG_true, ↓WG_false, labelOf, findLabel, ↓reduceIte, imp, shift, killO, cond_true, cond_false, hasId, ne_eq, unown, names, plainR, below, noF, isF, lendObs, lendOb, kindOk, ren, givL, updM, backO, renO, belowM, seval, -Int.reduceToNat, e2, e, B9, D29, B31, bunN, Int.reduceToNat, tbB2, List.map_nil, List.nil_append, splitC] | exact NK_no _ | refine NK_cl _ _ ?_ | exact Cln.cl | refine clean_tup _ ?_ | refine cleans_cons _ _ ?_ ?_ | refine DR_q _ ?_ | (refine Fk.fk ?_ ?_ <;> intro hg <;> (try simp only [hg]) <;> (try simp only [bunB, ne_eq] at hg) <;> try (exfalso; first | omega | exact Bool.noConfusion hg | exact hg trivial)) | refine And.intro (by omega) ?_ | omega
    all_goals simp [e2]
  · subst e2
    have e : (x2 == 0) = false := by simpa using e1
    repeat' first | refine WE_fit (h1) ?_ ?_ | refine WE_fit (h2) ?_ ?_ | simp (maxSteps := 4000000) (disch := omega) only [bunL, bunD, bun, ↓WG_true, ↓WG_false, labelOf, findLabel, ↓reduceIte, imp, shift, killO, cond_true, cond_false, hasId, ne_eq, unown, names, plainR, below, noF, isF, lendObs, lendOb, kindOk, ren, givL, updM, backO, renO, belowM, seval, -Int.reduceToNat, e1, e, B9, D29, B31, bunN, Int.reduceToNat, tbB2, List.map_nil, List.nil_append, splitC] | exact NK_no _ | refine NK_cl _ _ ?_ | exact Cln.cl | refine clean_tup _ ?_ | refine cleans_cons _ _ ?_ ?_ | refine DR_q _ ?_ | (refine Fk.fk ?_ ?_ <;> intro hg <;> (try simp only [hg]) <;> (try simp only [bunB, ne_eq] at hg) <;> try (exfalso; first | omega | exact Bool.noConfusion hg | exact hg trivial)) | refine And.intro (by omega) ?_ | omega
    all_goals simp [e1]
  · have e : (x2 == 0) = false := by simpa using e1
    repeat' first | refine WE_fit (h1) ?_ ?_ | refine WE_fit (h2) ?_ ?_ | simp (maxSteps := 4000000) (disch := omega) only [bunL, bunD, bun, ↓WG_true, ↓WG_false, labelOf, findLabel, ↓reduceIte, imp, shift, killO, cond_true, cond_false, hasId, ne_eq, unown, names, plainR, below, noF, isF, lendObs, lendOb, kindOk, ren, givL, updM, backO, renO, belowM, seval, -Int.reduceToNat, e1, e, B9, D29, B31, bunN, Int.reduceToNat, tbB2, List.map_nil, List.nil_append, splitC] | exact NK_no _ | refine NK_cl _ _ ?_ | exact Cln.cl | refine clean_tup _ ?_ | refine cleans_cons _ _ ?_ ?_ | refine DR_q _ ?_ | (refine Fk.fk ?_ ?_ <;> intro hg <;> (try simp only [hg]) <;> (try simp only [bunB, ne_eq] at hg) <;> try (exfalso; first | omega | exact Bool.noConfusion hg | exact hg trivial)) | refine And.intro (by omega) ?_ | omega
    all_goals simp [e1]
theorem small10_spec : Spec Tryz.prog 5 [] (Bv true) := by
  have n1 := nam_spec [65, 110, 110, 46, 66, 239, 188, 161] (by decide) (by decide)
  rw [show namV [65, 110, 110, 46, 66, 239, 188, 161] = ([97, 110, 110, 46, 98, 97], 0) by decide +kernel] at n1
  have n2 := nam_spec [97, 32, 98] (by decide) (by decide)
  rw [show namV [97, 32, 98] = ([], 8) by decide +kernel] at n2
  have n3 := nam_spec [] (by decide) (by decide)
  rw [namV_nil] at n3
  have n4 := nam_spec [215, 144, 97] (by decide) (by decide)
  rw [show namV [215, 144, 97] = ([], 9) by decide +kernel] at n4
  have n5 := nam_spec [255] (by decide) (by decide)
  rw [show namV [255] = ([], 7) by decide +kernel] at n5
  have k1 := cla_spec [65, 195, 132] (by decide) (by decide)
  rw [show claV [65, 195, 132] = 0 by decide +kernel] at k1
  have k2 := cla_spec [239, 188, 161] (by decide) (by decide)
  rw [show claV [239, 188, 161] = 8 by decide +kernel] at k2
  have k3 := cla_spec [194, 183] (by decide) (by decide)
  rw [show claV [194, 183] = 8 by decide +kernel] at k3
  have a1 := palike_spec [65, 78, 78] [97, 110, 110] (by decide) (by decide) (by decide) (by decide)
  rw [show sameN [65, 78, 78] [97, 110, 110] = true by decide +kernel] at a1
  have a2 := palike_spec [97] [98] (by decide) (by decide) (by decide) (by decide)
  rw [show sameN [97] [98] = false by decide +kernel] at a2
  have p1 := pchar_spec 126
  rw [show pch 126 = true by decide +kernel] at p1
  have p2 := pchar_spec 32
  rw [show pch 32 = false by decide +kernel] at p2
  have p3 := pchar_spec 913
  rw [show pch 913 = true by decide +kernel] at p3
  have p4 := pchar_spec 8490
  rw [show pch 8490 = false by decide +kernel] at p4
  rw [← tabBox_eq] at n1 n2 n3 n4 n5 k1 k2 k3 a1 a2 p1 p2 p3 p4
  refine spec_mk (z := false) (ts := [.tmp 0]) ok1 Tryz.func5 rfl rfl (by decide +kernel) (by simp [Tryz.ntmps5]) rfl ?_
  repeat' first | refine WE_fit (new_box4) ?_ ?_ | refine WE_fit (n1) ?_ ?_ | refine WE_fit (n2) ?_ ?_ | refine WE_fit (n3) ?_ ?_ | refine WE_fit (n4) ?_ ?_ | refine WE_fit (n5) ?_ ?_ | refine WE_fit (k1) ?_ ?_ | refine WE_fit (k2) ?_ ?_ | refine WE_fit (k3) ?_ ?_ | refine WE_fit (a1) ?_ ?_ | refine WE_fit (a2) ?_ ?_ | refine WE_fit (p1) ?_ ?_ | refine WE_fit (p2) ?_ ?_ | refine WE_fit (p3) ?_ ?_ | refine WE_fit (p4) ?_ ?_ | simp (maxSteps := 4000000) (disch := omega) only [bunL, bunD, bun, ↓WG_true, ↓WG_false, labelOf, findLabel, ↓reduceIte, imp, shift, killO, cond_true, cond_false, hasId, ne_eq, unown, names, plainR, below, noF, isF, lendObs, lendOb, kindOk, ren, givL, updM, backO, renO, belowM, seval, -Int.reduceToNat, B9, D29, B31, bunN, Int.reduceToNat, tbB2, List.map_nil, List.nil_append, splitC] | exact NK_no _ | refine NK_cl _ _ ?_ | exact Cln.cl | refine clean_tup _ ?_ | refine cleans_cons _ _ ?_ ?_ | refine DR_q _ ?_ | (refine Fk.fk ?_ ?_ <;> intro hg <;> (try simp only [hg]) <;> (try simp only [bunB, ne_eq] at hg) <;> try (exfalso; first | omega | exact Bool.noConfusion hg | exact hg trivial)) | refine And.intro (by omega) ?_ | omega
  all_goals trace_state
theorem fold_key10 {s : List UInt8} (hs : (runes s).1.length ≤ 240) (h : ¬ 0 ≤ (runes s).2) : ∃ X, foldS s = (X, true) ∧ X.length ≤ 10000000 ∧ (runes X).1.length ≤ 1000 ∧ foldS X = (X, true) := by
  obtain ⟨X, x1, x2, x3, _, x5, _⟩ := foldS_key (s := s) (by omega) h
  have := foldL_len (runes s).1
  exact ⟨X, x1, by omega, by rw [x3]; dsimp only; omega, x5⟩
end Go.AE
end
section
/- Precis: the document's, and PrecisTells. -/
namespace Go.AE
open Go.Proofs
set_option maxRecDepth 20000
set_option maxHeartbeats 8000000
set_option linter.unusedSimpArgs false
theorem dash_pch : lch 45 = true := by decide +kernel
theorem rlchar_spec (r : Int) : Spec Tryz.prog 35 [I32 r] (Bv (lch r)) := by
  have hs := rsplit_spec r
  have hc := rcat_spec r
  refine spec_mk (z := false) (ts := [.tmp 2]) ok1 Tryz.func35 rfl rfl (by decide +kernel) (by simp [Tryz.ntmps35]) rfl ?_
  by_cases h45 : r = 45
  · subst h45
    rw [dash_pch]
    repeat' first | refine WE_fit (hs) ?_ ?_ | refine WE_fit (hc) ?_ ?_ | simp (maxSteps := 4000000) (disch := omega) only [bunL, bunD, bun, ↓WG_true, ↓WG_false, labelOf, findLabel, ↓reduceIte, imp, shift, killO, cond_true, cond_false, hasId, ne_eq, unown, names, plainR, below, noF, isF, lendObs, lendOb, kindOk, ren, givL, updM, backO, renO, belowM, seval, -Int.reduceToNat, B3, D48, bunN, Int.reduceToNat, tbB2, List.map_nil, List.nil_append, splitC] | exact NK_no _ | refine NK_cl _ _ ?_ | exact Cln.cl | refine clean_tup _ ?_ | refine cleans_cons _ _ ?_ ?_ | refine DR_q _ ?_ | (refine Fk.fk ?_ ?_ <;> intro hg <;> (try simp only [hg]) <;> (try simp only [bunB, ne_eq] at hg) <;> try (exfalso; first | omega | exact Bool.noConfusion hg | exact hg trivial)) | refine And.intro (by omega) ?_ | omega
  · have e : lch r = (!soB r && decide (2 ≤ cat r ∧ cat r ≤ 5)) := by
      have e45 : (r == 45) = false := by simpa using h45
      unfold lch; rw [e45, Bool.or_false]
    rw [e]
    unfold soB
    cases h1 : (spl r).2 <;> cases h2 : (spl r).1.2.2.2.1 <;> cases h3 : (spl r).1.2.2.2.2
    all_goals
      repeat' first | refine WE_fit (hs) ?_ ?_ | refine WE_fit (hc) ?_ ?_ | simp (maxSteps := 4000000) (disch := omega) only [bunL, bunD, bun, ↓WG_true, ↓WG_false, labelOf, findLabel, ↓reduceIte, imp, shift, killO, cond_true, cond_false, hasId, ne_eq, unown, names, plainR, below, noF, isF, lendObs, lendOb, kindOk, ren, givL, updM, backO, renO, belowM, seval, -Int.reduceToNat, h1, h2, h3, B3, D48, bunN, Int.reduceToNat, tbB2, List.map_nil, List.nil_append, splitC] | exact NK_no _ | refine NK_cl _ _ ?_ | exact Cln.cl | refine clean_tup _ ?_ | refine cleans_cons _ _ ?_ ?_ | refine DR_q _ ?_ | (refine Fk.fk ?_ ?_ <;> intro hg <;> (try simp only [hg]) <;> (try simp only [bunB, ne_eq] at hg) <;> try (exfalso; first | omega | exact Bool.noConfusion hg | exact hg trivial)) | refine And.intro (by omega) ?_ | omega
    all_goals (congr 2; rw [Bool.eq_iff_iff]; simp only [decide_eq_true_eq, true_iff, Bool.false_eq_true, false_iff, iff_false, iff_true, Bool.and_eq_true]; omega)
theorem rpchar_spec (r : Int) : Spec Tryz.prog 12 [I32 r] (Bv (pch r)) := by
  have hs := rsplit_spec r
  have hc := rcat_spec r
  have hl := rlchar_spec r
  refine spec_mk (z := false) (ts := [.tmp 2]) ok1 Tryz.func12 rfl rfl (by decide +kernel) (by simp [Tryz.ntmps12]) rfl ?_
  by_cases hp : 33 ≤ r ∧ r ≤ 126
  · have e : pch r = true := by unfold pch; simp [hp]
    rw [e]
    repeat' first | refine WE_fit (hs) ?_ ?_ | refine WE_fit (hc) ?_ ?_ | refine WE_fit (hl) ?_ ?_ | simp (maxSteps := 4000000) (disch := omega) only [bunL, bunD, bun, ↓WG_true, ↓WG_false, labelOf, findLabel, ↓reduceIte, imp, shift, killO, cond_true, cond_false, hasId, ne_eq, unown, names, plainR, below, noF, isF, lendObs, lendOb, kindOk, ren, givL, updM, backO, renO, belowM, seval, -Int.reduceToNat, B3, D48, bunN, Int.reduceToNat, tbB2, List.map_nil, List.nil_append, splitC] | exact NK_no _ | refine NK_cl _ _ ?_ | exact Cln.cl | refine clean_tup _ ?_ | refine cleans_cons _ _ ?_ ?_ | refine DR_q _ ?_ | (refine Fk.fk ?_ ?_ <;> intro hg <;> (try simp only [hg]) <;> (try simp only [bunB, ne_eq] at hg) <;> try (exfalso; first | omega | exact Bool.noConfusion hg | exact hg trivial)) | refine And.intro (by omega) ?_ | omega
  · by_cases h1 : cat r = 1
    · have e : pch r = !soB r := by unfold pch; simp only [hp, decide_false, Bool.false_or, h1, if_true]
      have e2 : lch r = false := by
        unfold lch
        rw [h1]
        have : (r == 45) = false := by simp; omega
        rw [this]; simp
      rw [e2] at hl
      rw [e]
      unfold soB
      cases h4 : (spl r).2 <;> cases h2 : (spl r).1.2.2.2.1 <;> cases h3 : (spl r).1.2.2.2.2
      all_goals
        repeat' first | refine WE_fit (hs) ?_ ?_ | refine WE_fit (hc) ?_ ?_ | refine WE_fit (hl) ?_ ?_ | simp (maxSteps := 4000000) (disch := omega) only [bunL, bunD, bun, ↓WG_true, ↓WG_false, labelOf, findLabel, ↓reduceIte, imp, shift, killO, cond_true, cond_false, hasId, ne_eq, unown, names, plainR, below, noF, isF, lendObs, lendOb, kindOk, ren, givL, updM, backO, renO, belowM, seval, -Int.reduceToNat, h1, h4, h2, h3, B3, D48, bunN, Int.reduceToNat, tbB2, List.map_nil, List.nil_append, splitC] | exact NK_no _ | refine NK_cl _ _ ?_ | exact Cln.cl | refine clean_tup _ ?_ | refine cleans_cons _ _ ?_ ?_ | refine DR_q _ ?_ | (refine Fk.fk ?_ ?_ <;> intro hg <;> (try simp only [hg]) <;> (try simp only [bunB, ne_eq] at hg) <;> try (exfalso; first | omega | exact Bool.noConfusion hg | exact hg trivial)) | refine And.intro (by omega) ?_ | omega
        all_goals trace_state
    · have e : pch r = lch r := by unfold pch; simp only [hp, decide_false, Bool.false_or, h1, if_false]
      rw [e]
      repeat' first | refine WE_fit (hs) ?_ ?_ | refine WE_fit (hc) ?_ ?_ | refine WE_fit (hl) ?_ ?_ | simp (maxSteps := 4000000) (disch := omega) only [bunL, bunD, bun, ↓WG_true, ↓WG_false, labelOf, findLabel, ↓reduceIte, imp, shift, killO, cond_true, cond_false, hasId, ne_eq, unown, names, plainR, below, noF, isF, lendObs, lendOb, kindOk, ren, givL, updM, backO, renO, belowM, seval, -Int.reduceToNat, h1, B3, D48, bunN, Int.reduceToNat, tbB2, List.map_nil, List.nil_append, splitC] | exact NK_no _ | refine NK_cl _ _ ?_ | exact Cln.cl | refine clean_tup _ ?_ | refine cleans_cons _ _ ?_ ?_ | refine DR_q _ ?_ | (refine Fk.fk ?_ ?_ <;> intro hg <;> (try simp only [hg]) <;> (try simp only [bunB, ne_eq] at hg) <;> try (exfalso; first | omega | exact Bool.noConfusion hg | exact hg trivial)) | refine And.intro (by omega) ?_ | omega
      all_goals trace_state
theorem rcla_spec (s : List UInt8) (hs : s.length ≤ 10000000) (hl : (runes s).1.length ≤ 1000) : Spec Tryz.prog 10 [Sv s] (I64 (claV s)) := by
  have hr := runes_ok s
  have hi : ∀ c ∈ (runes s).1, inI c := fun c hc => by have := hr c hc; unfold okR at this; unfold inI; omega
  have hu := refRunes_spec s (by omega)
  refine spec_mk (z := false) (ts := [.tmp 2]) ok1 Tryz.func10 rfl rfl (by decide +kernel) (by simp [Tryz.ntmps10]) rfl ?_
  unfold claV
  generalize (runes s).1 = L at *
  generalize (runes s).2 = a at *
  by_cases h0 : 0 ≤ a
  · rw [if_pos h0]
    repeat' first | refine WE_fit (hu) ?_ ?_ | simp (maxSteps := 4000000) (disch := omega) only [bunL, bunD, bun, ↓WG_true, ↓WG_false, labelOf, findLabel, ↓reduceIte, imp, shift, killO, cond_true, cond_false, hasId, ne_eq, unown, names, plainR, below, noF, isF, lendObs, lendOb, kindOk, ren, givL, updM, backO, renO, belowM, seval, -Int.reduceToNat, B3, B4, B9, B31, B21, B53, bunN, Int.reduceToNat, tbB2, List.map_nil, List.nil_append, splitC] | exact NK_no _ | refine NK_cl _ _ ?_ | exact Cln.cl | refine clean_tup _ ?_ | refine cleans_cons _ _ ?_ ?_ | refine DR_q _ ?_ | (refine Fk.fk ?_ ?_ <;> intro hg <;> (try simp only [hg]) <;> (try simp only [bunB, ne_eq] at hg) <;> try (exfalso; first | omega | exact Bool.noConfusion hg | exact hg trivial)) | refine And.intro (by omega) ?_ | omega
  · rw [if_neg h0]
    by_cases h1 : L.length = 0
    · rw [if_pos h1]
      repeat' first | refine WE_fit (hu) ?_ ?_ | simp (maxSteps := 4000000) (disch := omega) only [bunL, bunD, bun, ↓WG_true, ↓WG_false, labelOf, findLabel, ↓reduceIte, imp, shift, killO, cond_true, cond_false, hasId, ne_eq, unown, names, plainR, below, noF, isF, lendObs, lendOb, kindOk, ren, givL, updM, backO, renO, belowM, seval, -Int.reduceToNat, h1, B3, B4, B9, B31, B21, B53, bunN, Int.reduceToNat, tbB2, List.map_nil, List.nil_append, splitC] | exact NK_no _ | refine NK_cl _ _ ?_ | exact Cln.cl | refine clean_tup _ ?_ | refine cleans_cons _ _ ?_ ?_ | refine DR_q _ ?_ | (refine Fk.fk ?_ ?_ <;> intro hg <;> (try simp only [hg]) <;> (try simp only [bunB, ne_eq] at hg) <;> try (exfalso; first | omega | exact Bool.noConfusion hg | exact hg trivial)) | refine And.intro (by omega) ?_ | omega
    · rw [if_neg h1]
      repeat' first | refine WE_fit (hu) ?_ ?_ | simp (maxSteps := 4000000) (disch := omega) only [bunL, bunD, bun, ↓WG_true, ↓WG_false, labelOf, findLabel, ↓reduceIte, imp, shift, killO, cond_true, cond_false, hasId, ne_eq, unown, names, plainR, below, noF, isF, lendObs, lendOb, kindOk, ren, givL, updM, backO, renO, belowM, seval, -Int.reduceToNat, B3, B4, B9, B31, B21, B53, bunN, Int.reduceToNat, tbB2, List.map_nil, List.nil_append, splitC] | exact NK_no _ | refine NK_cl _ _ ?_ | exact Cln.cl | refine clean_tup _ ?_ | refine cleans_cons _ _ ?_ ?_ | refine DR_q _ ?_ | (refine Fk.fk ?_ ?_ <;> intro hg <;> (try simp only [hg]) <;> (try simp only [bunB, ne_eq] at hg) <;> try (exfalso; first | omega | exact Bool.noConfusion hg | exact hg trivial)) | refine And.intro (by omega) ?_ | omega
      refine LP_intro (fun i : Nat => ⟨[(3, .ref 0 0 L.length), (5, I64 i)], [.arr 21 1 (L.map I32)]⟩) (fun i => i ≤ L.length ∧ ∀ j, j < i → badK L j = false) (fun i => L.length - i) 0 (by simp) (by simp [wk, wkT, wkM, noF, isF, get, belowT, belowM, below, belows, I64, I32, Bv, U8, Sv] <;> try omega) ?_
      rintro i ⟨hi1, hi2⟩
      by_cases hlt : i < L.length
      · have hn := rneed_spec L hl hi i (by omega) (by omega)
        rw [need_at L i hlt] at hn
        have hp := rpchar_spec (L.getD i 0)
        have hbk : badK L i = (needN L i == 2 || (needN L i == 0 && !pch (L.getD i 0))) := rfl
        cases hq : badK L i with
        | true =>
          have e : badL L = true := any_take hi2 hlt hq
          rw [hq] at hbk
          by_cases g2 : needN L i = 2
          · repeat' first | refine WE_fit (hn) ?_ ?_ | refine WE_fit (hp) ?_ ?_ | simp (maxSteps := 4000000) (disch := omega) only [bunL, bunD, bun, ↓WG_true, ↓WG_false, labelOf, findLabel, ↓reduceIte, imp, shift, killO, cond_true, cond_false, hasId, ne_eq, unown, names, plainR, below, noF, isF, lendObs, lendOb, kindOk, ren, givL, updM, backO, renO, belowM, seval, -Int.reduceToNat, e, g2, B3, B4, B9, B31, B21, B53, bunN, Int.reduceToNat, tbB2, List.map_nil, List.nil_append, splitC] | exact NK_no _ | refine NK_cl _ _ ?_ | exact Cln.cl | refine clean_tup _ ?_ | refine cleans_cons _ _ ?_ ?_ | refine DR_q _ ?_ | (refine Fk.fk ?_ ?_ <;> intro hg <;> (try simp only [hg]) <;> (try simp only [bunB, ne_eq] at hg) <;> try (exfalso; first | omega | exact Bool.noConfusion hg | exact hg trivial)) | refine And.intro (by omega) ?_ | omega
            all_goals trace_state
          · have g3 : needN L i = 0 ∧ pch (L.getD i 0) = false := by
              have g2' : (needN L i == 2) = false := by simpa using g2
              rw [g2', Bool.false_or] at hbk
              simpa using hbk.symm
            repeat' first | refine WE_fit (hn) ?_ ?_ | refine WE_fit (hp) ?_ ?_ | simp (maxSteps := 4000000) (disch := omega) only [bunL, bunD, bun, ↓WG_true, ↓WG_false, labelOf, findLabel, ↓reduceIte, imp, shift, killO, cond_true, cond_false, hasId, ne_eq, unown, names, plainR, below, noF, isF, lendObs, lendOb, kindOk, ren, givL, updM, backO, renO, belowM, seval, -Int.reduceToNat, e, g3.1, g3.2, B3, B4, B9, B31, B21, B53, bunN, Int.reduceToNat, tbB2, List.map_nil, List.nil_append, splitC] | exact NK_no _ | refine NK_cl _ _ ?_ | exact Cln.cl | refine clean_tup _ ?_ | refine cleans_cons _ _ ?_ ?_ | refine DR_q _ ?_ | (refine Fk.fk ?_ ?_ <;> intro hg <;> (try simp only [hg]) <;> (try simp only [bunB, ne_eq] at hg) <;> try (exfalso; first | omega | exact Bool.noConfusion hg | exact hg trivial)) | refine And.intro (by omega) ?_ | omega
            all_goals trace_state
        | false =>
          rw [hq] at hbk
          have g2 : ¬ needN L i = 2 := fun h => by rw [h] at hbk; simp at hbk
          have g2' : (needN L i == 2) = false := by simpa using g2
          rw [g2', Bool.false_or] at hbk
          have nxt : ∀ j, j < i + 1 → badK L j = false := fun j hj => by
            by_cases hji : j = i
            · subst hji; exact hq
            · exact hi2 j (by omega)
          by_cases g3 : needN L i = 0
          · have g4 : pch (L.getD i 0) = true := by rw [g3] at hbk; simpa using hbk.symm
            repeat' first | refine WE_fit (hn) ?_ ?_ | refine WE_fit (hp) ?_ ?_ | simp (maxSteps := 4000000) (disch := omega) only [bunL, bunD, bun, ↓WG_true, ↓WG_false, labelOf, findLabel, ↓reduceIte, imp, shift, killO, cond_true, cond_false, hasId, ne_eq, unown, names, plainR, below, noF, isF, lendObs, lendOb, kindOk, ren, givL, updM, backO, renO, belowM, seval, -Int.reduceToNat, g2, g3, g4, B3, B4, B9, B31, B21, B53, bunN, Int.reduceToNat, tbB2, List.map_nil, List.nil_append, splitC] | exact NK_no _ | refine NK_cl _ _ ?_ | exact Cln.cl | refine clean_tup _ ?_ | refine cleans_cons _ _ ?_ ?_ | refine DR_q _ ?_ | (refine Fk.fk ?_ ?_ <;> intro hg <;> (try simp only [hg]) <;> (try simp only [bunB, ne_eq] at hg) <;> try (exfalso; first | omega | exact Bool.noConfusion hg | exact hg trivial)) | refine And.intro (by omega) ?_ | omega
            all_goals exact ⟨i + 1, ⟨by omega, nxt⟩, by omega, by (simp (disch := omega) [wk, wkT, wkM, noF, isF, get, belowT, belowM, below, belows, I64, I32, Bv, U8, Sv, List.map_nil] <;> try omega)⟩
          · repeat' first | refine WE_fit (hn) ?_ ?_ | refine WE_fit (hp) ?_ ?_ | simp (maxSteps := 4000000) (disch := omega) only [bunL, bunD, bun, ↓WG_true, ↓WG_false, labelOf, findLabel, ↓reduceIte, imp, shift, killO, cond_true, cond_false, hasId, ne_eq, unown, names, plainR, below, noF, isF, lendObs, lendOb, kindOk, ren, givL, updM, backO, renO, belowM, seval, -Int.reduceToNat, g2, g3, B3, B4, B9, B31, B21, B53, bunN, Int.reduceToNat, tbB2, List.map_nil, List.nil_append, splitC] | exact NK_no _ | refine NK_cl _ _ ?_ | exact Cln.cl | refine clean_tup _ ?_ | refine cleans_cons _ _ ?_ ?_ | refine DR_q _ ?_ | (refine Fk.fk ?_ ?_ <;> intro hg <;> (try simp only [hg]) <;> (try simp only [bunB, ne_eq] at hg) <;> try (exfalso; first | omega | exact Bool.noConfusion hg | exact hg trivial)) | refine And.intro (by omega) ?_ | omega
            all_goals exact ⟨i + 1, ⟨by omega, nxt⟩, by omega, by (simp (disch := omega) [wk, wkT, wkM, noF, isF, get, belowT, belowM, below, belows, I64, I32, Bv, U8, Sv, List.map_nil] <;> try omega)⟩
      · have e : badL L = false := any_none fun j hj => hi2 j (by omega)
        repeat' first | refine WE_fit (hu) ?_ ?_ | simp (maxSteps := 4000000) (disch := omega) only [bunL, bunD, bun, ↓WG_true, ↓WG_false, labelOf, findLabel, ↓reduceIte, imp, shift, killO, cond_true, cond_false, hasId, ne_eq, unown, names, plainR, below, noF, isF, lendObs, lendOb, kindOk, ren, givL, updM, backO, renO, belowM, seval, -Int.reduceToNat, e, B3, B4, B9, B31, B21, B53, bunN, Int.reduceToNat, tbB2, List.map_nil, List.nil_append, splitC] | exact NK_no _ | refine NK_cl _ _ ?_ | exact Cln.cl | refine clean_tup _ ?_ | refine cleans_cons _ _ ?_ ?_ | refine DR_q _ ?_ | (refine Fk.fk ?_ ?_ <;> intro hg <;> (try simp only [hg]) <;> (try simp only [bunB, ne_eq] at hg) <;> try (exfalso; first | omega | exact Bool.noConfusion hg | exact hg trivial)) | refine And.intro (by omega) ?_ | omega
        all_goals trace_state
theorem rnam_spec (s : List UInt8) (hs : s.length ≤ 240) : Spec Tryz.prog 8 [Sv s] (.tup [Sv (namV s).1, I64 (namV s).2]) := by
  have hrl := runes_len s
  have c1 := rfold_spec s (by omega)
  obtain ⟨X, o, e1, e2, e3⟩ : ∃ X o, foldS s = (X, o) ∧ X.length ≤ 10000000 ∧ (runes X).1.length ≤ 1000 := by
    by_cases h0 : 0 ≤ (runes s).2
    · exact ⟨[], false, by unfold foldS; rw [if_pos h0], by decide, by decide⟩
    · have h1 := foldL_len (runes s).1
      have h2 := strS_len (foldL (runes s).1)
      have h3 := runes_fold (s := s)
      exact ⟨_, true, foldS_at h0, by omega, by rw [h3]; dsimp only; omega⟩
  have c2 := rcla_spec X e2 e3
  have c3 := refRunes_spec X (by omega)
  have c4 := rhas_spec (runes X).1 e3
  have c5 := rrule_spec (runes X).1 e3
  unfold namV
  rw [e1] at c1 ⊢
  refine spec_mk (z := false) (ts := [.tmp 2, .tmp 3]) ok1 Tryz.func8 rfl rfl (by decide +kernel) (by simp [Tryz.ntmps8]) rfl ?_
  unfold namR
  dsimp only at c1 ⊢
  generalize claV X = e at *
  generalize hasB (runes X).1 = b1 at *
  generalize ruleB (runes X).1 = b2 at *
  generalize (runes X).1 = L at *
  generalize (runes X).2 = a at *
  cases o with
  | false =>
    repeat' first | refine WE_fit (c1) ?_ ?_ | simp (maxSteps := 4000000) (disch := omega) only [bunL, bunD, bun, ↓WG_true, ↓WG_false, labelOf, findLabel, ↓reduceIte, imp, shift, killO, cond_true, cond_false, hasId, ne_eq, unown, names, plainR, below, noF, isF, lendObs, lendOb, kindOk, ren, givL, updM, backO, renO, belowM, seval, -Int.reduceToNat, B3, B4, B9, B31, B21, B53, bunN, Int.reduceToNat, tbB2, List.map_nil, List.nil_append, splitC] | exact NK_no _ | refine NK_cl _ _ ?_ | exact Cln.cl | refine clean_tup _ ?_ | refine cleans_cons _ _ ?_ ?_ | refine DR_q _ ?_ | (refine Fk.fk ?_ ?_ <;> intro hg <;> (try simp only [hg]) <;> (try simp only [bunB, ne_eq] at hg) <;> try (exfalso; first | omega | exact Bool.noConfusion hg | exact hg trivial)) | refine And.intro (by omega) ?_ | omega
    all_goals trace_state
  | true =>
    by_cases he : e = 0
    · subst he
      cases b1 <;> cases b2
      all_goals
        simp only [ne_eq, not_true_eq_false, if_false, Bool.not_true, Bool.not_false, Bool.and_true, Bool.and_false, Bool.false_eq_true, if_true, Bool.true_eq_false, Bool.and_self]
        repeat' first | refine WE_fit (c1) ?_ ?_ | refine WE_fit (c2) ?_ ?_ | refine WE_fit (c3) ?_ ?_ | refine WE_fit (c4) ?_ ?_ | refine WE_fit (c5) ?_ ?_ | simp (maxSteps := 4000000) (disch := omega) only [bunL, bunD, bun, ↓WG_true, ↓WG_false, labelOf, findLabel, ↓reduceIte, imp, shift, killO, cond_true, cond_false, hasId, ne_eq, unown, names, plainR, below, noF, isF, lendObs, lendOb, kindOk, ren, givL, updM, backO, renO, belowM, seval, -Int.reduceToNat, B3, B4, B9, B31, B21, B53, bunN, Int.reduceToNat, tbB2, List.map_nil, List.nil_append, splitC] | exact NK_no _ | refine NK_cl _ _ ?_ | exact Cln.cl | refine clean_tup _ ?_ | refine cleans_cons _ _ ?_ ?_ | refine DR_q _ ?_ | (refine Fk.fk ?_ ?_ <;> intro hg <;> (try simp only [hg]) <;> (try simp only [bunB, ne_eq] at hg) <;> try (exfalso; first | omega | exact Bool.noConfusion hg | exact hg trivial)) | refine And.intro (by omega) ?_ | omega
        all_goals trace_state
    · repeat' first | refine WE_fit (c1) ?_ ?_ | refine WE_fit (c2) ?_ ?_ | refine WE_fit (c3) ?_ ?_ | refine WE_fit (c4) ?_ ?_ | refine WE_fit (c5) ?_ ?_ | simp (maxSteps := 4000000) (disch := omega) only [bunL, bunD, bun, ↓WG_true, ↓WG_false, labelOf, findLabel, ↓reduceIte, imp, shift, killO, cond_true, cond_false, hasId, ne_eq, unown, names, plainR, below, noF, isF, lendObs, lendOb, kindOk, ren, givL, updM, backO, renO, belowM, seval, -Int.reduceToNat, he, B3, B4, B9, B31, B21, B53, bunN, Int.reduceToNat, tbB2, List.map_nil, List.nil_append, splitC] | exact NK_no _ | refine NK_cl _ _ ?_ | exact Cln.cl | refine clean_tup _ ?_ | refine cleans_cons _ _ ?_ ?_ | refine DR_q _ ?_ | (refine Fk.fk ?_ ?_ <;> intro hg <;> (try simp only [hg]) <;> (try simp only [bunB, ne_eq] at hg) <;> try (exfalso; first | omega | exact Bool.noConfusion hg | exact hg trivial)) | refine And.intro (by omega) ?_ | omega
      all_goals trace_state
theorem precisTells_spec (s b : List UInt8) (r : Int) : Spec Tryz.prog 3 [Sv s, Sv b, I32 r] (Bv true) := by
  refine spec_mk (z := false) (ts := [.tmp 6]) ok1 Tryz.func3 rfl rfl (by decide +kernel) (by simp [Tryz.ntmps3]) rfl ?_
  by_cases hs : s.length ≤ 150
  · by_cases hb : b.length ≤ 150
    · have hl := runes_len s
      have hl2 := runes_len b
      have n1 := nam_spec s (by omega) (by omega)
      have n2 := rnam_spec s (by omega)
      have n3 := rnam_spec b (by omega)
      have k1 := cla_spec s (by omega) (by omega)
      have k2 := rcla_spec s (by omega) (by omega)
      have p1 := pchar_spec r
      have p2 := rpchar_spec r
      have a1 := palike_spec s b (by omega) (by omega) (by omega) (by omega)
      rw [← tabBox_eq] at n1 k1 p1 a1
      unfold sameN at a1
      generalize namV s = x at *
      generalize namV b = y at *
      generalize claV s = k at *
      obtain ⟨x1, x2⟩ := x
      obtain ⟨y1, y2⟩ := y
      dsimp only at n1 n2 n3 a1
      have bx : (x1 == x1) = true := by simp
      by_cases g1 : x2 = 0 <;> by_cases g2 : y2 = 0
      · subst g1 g2
        repeat' first | refine WE_fit (small10_spec) ?_ ?_ | refine WE_fit (new_box4) ?_ ?_ | refine WE_fit (n1) ?_ ?_ | refine WE_fit (n2) ?_ ?_ | refine WE_fit (n3) ?_ ?_ | refine WE_fit (k1) ?_ ?_ | refine WE_fit (k2) ?_ ?_ | refine WE_fit (p1) ?_ ?_ | refine WE_fit (p2) ?_ ?_ | refine WE_fit (a1) ?_ ?_ | simp (maxSteps := 4000000) (disch := omega) only [bunL, bunD, bun, ↓WG_true, ↓WG_false, labelOf, findLabel, ↓reduceIte, imp, shift, killO, cond_true, cond_false, hasId, ne_eq, unown, names, plainR, below, noF, isF, lendObs, lendOb, kindOk, ren, givL, updM, backO, renO, belowM, seval, -Int.reduceToNat, bx, B9, D29, B31, bunN, Int.reduceToNat, tbB2, List.map_nil, List.nil_append, splitC] | exact NK_no _ | refine NK_cl _ _ ?_ | exact Cln.cl | refine clean_tup _ ?_ | refine cleans_cons _ _ ?_ ?_ | refine DR_q _ ?_ | (refine Fk.fk ?_ ?_ <;> intro hg <;> (try simp only [hg]) <;> (try simp only [bunB, ne_eq] at hg) <;> try (exfalso; first | omega | exact Bool.noConfusion hg | exact hg trivial)) | refine And.intro (by omega) ?_ | omega
        all_goals trace_state
      · subst g1
        have q2 : (y2 == 0) = false := by simpa using g2
        repeat' first | refine WE_fit (small10_spec) ?_ ?_ | refine WE_fit (new_box4) ?_ ?_ | refine WE_fit (n1) ?_ ?_ | refine WE_fit (n2) ?_ ?_ | refine WE_fit (n3) ?_ ?_ | refine WE_fit (k1) ?_ ?_ | refine WE_fit (k2) ?_ ?_ | refine WE_fit (p1) ?_ ?_ | refine WE_fit (p2) ?_ ?_ | refine WE_fit (a1) ?_ ?_ | simp (maxSteps := 4000000) (disch := omega) only [bunL, bunD, bun, ↓WG_true, ↓WG_false, labelOf, findLabel, ↓reduceIte, imp, shift, killO, cond_true, cond_false, hasId, ne_eq, unown, names, plainR, below, noF, isF, lendObs, lendOb, kindOk, ren, givL, updM, backO, renO, belowM, seval, -Int.reduceToNat, bx, g2, q2, B9, D29, B31, bunN, Int.reduceToNat, tbB2, List.map_nil, List.nil_append, splitC] | exact NK_no _ | refine NK_cl _ _ ?_ | exact Cln.cl | refine clean_tup _ ?_ | refine cleans_cons _ _ ?_ ?_ | refine DR_q _ ?_ | (refine Fk.fk ?_ ?_ <;> intro hg <;> (try simp only [hg]) <;> (try simp only [bunB, ne_eq] at hg) <;> try (exfalso; first | omega | exact Bool.noConfusion hg | exact hg trivial)) | refine And.intro (by omega) ?_ | omega
        all_goals trace_state
      · subst g2
        have q1 : (x2 == 0) = false := by simpa using g1
        repeat' first | refine WE_fit (small10_spec) ?_ ?_ | refine WE_fit (new_box4) ?_ ?_ | refine WE_fit (n1) ?_ ?_ | refine WE_fit (n2) ?_ ?_ | refine WE_fit (n3) ?_ ?_ | refine WE_fit (k1) ?_ ?_ | refine WE_fit (k2) ?_ ?_ | refine WE_fit (p1) ?_ ?_ | refine WE_fit (p2) ?_ ?_ | refine WE_fit (a1) ?_ ?_ | simp (maxSteps := 4000000) (disch := omega) only [bunL, bunD, bun, ↓WG_true, ↓WG_false, labelOf, findLabel, ↓reduceIte, imp, shift, killO, cond_true, cond_false, hasId, ne_eq, unown, names, plainR, below, noF, isF, lendObs, lendOb, kindOk, ren, givL, updM, backO, renO, belowM, seval, -Int.reduceToNat, bx, g1, q1, B9, D29, B31, bunN, Int.reduceToNat, tbB2, List.map_nil, List.nil_append, splitC] | exact NK_no _ | refine NK_cl _ _ ?_ | exact Cln.cl | refine clean_tup _ ?_ | refine cleans_cons _ _ ?_ ?_ | refine DR_q _ ?_ | (refine Fk.fk ?_ ?_ <;> intro hg <;> (try simp only [hg]) <;> (try simp only [bunB, ne_eq] at hg) <;> try (exfalso; first | omega | exact Bool.noConfusion hg | exact hg trivial)) | refine And.intro (by omega) ?_ | omega
        all_goals trace_state
      · have q1 : (x2 == 0) = false := by simpa using g1
        repeat' first | refine WE_fit (small10_spec) ?_ ?_ | refine WE_fit (new_box4) ?_ ?_ | refine WE_fit (n1) ?_ ?_ | refine WE_fit (n2) ?_ ?_ | refine WE_fit (n3) ?_ ?_ | refine WE_fit (k1) ?_ ?_ | refine WE_fit (k2) ?_ ?_ | refine WE_fit (p1) ?_ ?_ | refine WE_fit (p2) ?_ ?_ | refine WE_fit (a1) ?_ ?_ | simp (maxSteps := 4000000) (disch := omega) only [bunL, bunD, bun, ↓WG_true, ↓WG_false, labelOf, findLabel, ↓reduceIte, imp, shift, killO, cond_true, cond_false, hasId, ne_eq, unown, names, plainR, below, noF, isF, lendObs, lendOb, kindOk, ren, givL, updM, backO, renO, belowM, seval, -Int.reduceToNat, bx, g1, q1, B9, D29, B31, bunN, Int.reduceToNat, tbB2, List.map_nil, List.nil_append, splitC] | exact NK_no _ | refine NK_cl _ _ ?_ | exact Cln.cl | refine clean_tup _ ?_ | refine cleans_cons _ _ ?_ ?_ | refine DR_q _ ?_ | (refine Fk.fk ?_ ?_ <;> intro hg <;> (try simp only [hg]) <;> (try simp only [bunB, ne_eq] at hg) <;> try (exfalso; first | omega | exact Bool.noConfusion hg | exact hg trivial)) | refine And.intro (by omega) ?_ | omega
        all_goals trace_state
    · repeat' first | refine WE_fit (small10_spec) ?_ ?_ | simp (maxSteps := 4000000) (disch := omega) only [bunL, bunD, bun, ↓WG_true, ↓WG_false, labelOf, findLabel, ↓reduceIte, imp, shift, killO, cond_true, cond_false, hasId, ne_eq, unown, names, plainR, below, noF, isF, lendObs, lendOb, kindOk, ren, givL, updM, backO, renO, belowM, seval, -Int.reduceToNat, B9, D29, B31, bunN, Int.reduceToNat, tbB2, List.map_nil, List.nil_append, splitC] | exact NK_no _ | refine NK_cl _ _ ?_ | exact Cln.cl | refine clean_tup _ ?_ | refine cleans_cons _ _ ?_ ?_ | refine DR_q _ ?_ | (refine Fk.fk ?_ ?_ <;> intro hg <;> (try simp only [hg]) <;> (try simp only [bunB, ne_eq] at hg) <;> try (exfalso; first | omega | exact Bool.noConfusion hg | exact hg trivial)) | refine And.intro (by omega) ?_ | omega
  · repeat' first | refine WE_fit (small10_spec) ?_ ?_ | simp (maxSteps := 4000000) (disch := omega) only [bunL, bunD, bun, ↓WG_true, ↓WG_false, labelOf, findLabel, ↓reduceIte, imp, shift, killO, cond_true, cond_false, hasId, ne_eq, unown, names, plainR, below, noF, isF, lendObs, lendOb, kindOk, ren, givL, updM, backO, renO, belowM, seval, -Int.reduceToNat, B9, D29, B31, bunN, Int.reduceToNat, tbB2, List.map_nil, List.nil_append, splitC] | exact NK_no _ | refine NK_cl _ _ ?_ | exact Cln.cl | refine clean_tup _ ?_ | refine cleans_cons _ _ ?_ ?_ | refine DR_q _ ?_ | (refine Fk.fk ?_ ?_ <;> intro hg <;> (try simp only [hg]) <;> (try simp only [bunB, ne_eq] at hg) <;> try (exfalso; first | omega | exact Bool.noConfusion hg | exact hg trivial)) | refine And.intro (by omega) ?_ | omega
end Go.AE
end
