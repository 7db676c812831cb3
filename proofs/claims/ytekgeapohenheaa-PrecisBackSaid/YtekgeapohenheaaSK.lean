/- Contracts of functions that the laws of this seat reach, and plain laws of what they compute. No condition beyond each statement's own. -/
import Derived.Test.YtekgeapohenheaaSJ
import Derived.Test.YtekgeapohenheaaSI
import Derived.Test.YtekgeapohenheaaXA
import Derived.Test.YtekgeapohenheaaXE
import Derived.Test.YtekgeapohenheaaXB
set_option linter.unusedVariables false
set_option linter.unusedSimpArgs false
section
/- Fold: the document's, Alike, a small case; FoldSame, FoldSmall. -/
namespace Go.AE
open Go.Proofs
set_option maxRecDepth 20000
set_option maxHeartbeats 8000000
set_option linter.unusedSimpArgs false
theorem new_box4 : Spec Try.prog 7 [] (.ag tabBox) := new_spec
def alB (a b : List UInt8) : Bool := (foldS a).2 && (foldS b).2 && ((foldS a).1 == (foldS b).1)
theorem fold_spec (s : List UInt8) (hs : s.length ≤ 10000) : Spec Try.prog 9 [tab, Sv s] (.tup [Sv (foldS s).1, Bv (foldS s).2]) := fold_spec' s (by omega) (rl_le hs)
theorem foldS_key {s : List UInt8} (hs : (runes s).1.length ≤ 2500) (h : ¬ 0 ≤ (runes s).2) : ∃ X, foldS s = (X, true) ∧ X.length ≤ 40000 ∧ runes X = (foldL (runes s).1, -1) ∧ (runes X).1.length ≤ 10000 ∧ foldS X = (X, true) ∧ formS false true X = (X, true) := by
  have h1 := foldL_len (runes s).1
  have h2 := strS_len (foldL (runes s).1)
  have e1 := foldS_foldS h
  have e2 := form_foldS h
  have h3 := runes_fold (s := s)
  rw [foldS_at h] at e1 e2
  exact ⟨strS (foldL (runes s).1), foldS_at h, by omega, h3, by rw [h3]; dsimp only; omega, e1, e2⟩
end Go.AE
end
section
/- Fold: FoldSmall, FoldPlain. -/
namespace Go.AE
open Go.Proofs
set_option maxRecDepth 20000
set_option maxHeartbeats 8000000
set_option linter.unusedSimpArgs false
theorem eight_asc {s : List UInt8} (h8 : ¬ 0 ≤ eight s) : ∀ c ∈ s, c.toNat < 128 := by
  have key : ∀ (s : List UInt8) (k : Nat), ¬ 0 ≤ eightF k s → ∀ c ∈ s, c.toNat < 128 := fun s => by
    induction s with
    | nil => intro k _ c hc; cases hc
    | cons b l ih =>
      intro k h c hc
      rw [eightF] at h
      split at h
      · omega
      · rcases List.mem_cons.1 hc with rfl | hc
        · omega
        · exact ih (k + 1) h c hc
  exact key s 0 h8
theorem plC_big (c : UInt8) : 128 ≤ (plC c).toNat ↔ 128 ≤ c.toNat := by
  by_cases h : 65 ≤ c.toNat ∧ c.toNat ≤ 90
  · rw [plC_yes h]; omega
  · rw [plC_no h]
theorem plC_idem (c : UInt8) : plC (plC c) = plC c := by
  by_cases h : 65 ≤ c.toNat ∧ c.toNat ≤ 90
  · exact plC_no (by rw [plC_yes h]; omega)
  · rw [plC_no h, plC_no h]
theorem plS_idem (s : List UInt8) : plS (plS s) = plS s := by unfold plS; rw [List.map_map]; congr 1; funext c; exact plC_idem c
theorem plS_eight (s : List UInt8) : eight (plS s) = eight s := by
  have key : ∀ (s : List UInt8) (k : Nat), eightF k (plS s) = eightF k s := fun s => by
    induction s with
    | nil => intro k; rfl
    | cons c s ih =>
      intro k
      show (if 128 ≤ (plC c).toNat then (k : Int) else eightF (k + 1) (plS s)) = _
      rw [eightF, ih]
      simp only [plC_big]
  exact key s 0
theorem lw_asc {c : UInt8} (h : c.toNat < 128) : lw (c.toNat : Int) = ((plC c).toNat : Int) := by
  have := List.all_eq_true.1 (show ((List.range 128).all fun n => decide (lw (n : Int) = if 65 ≤ n ∧ n ≤ 90 then (n : Int) + 32 else n)) = true by decide +kernel) c.toNat (by simp; omega)
  have e := of_decide_eq_true this
  rw [e]
  by_cases h : 65 ≤ c.toNat ∧ c.toNat ≤ 90
  · rw [if_pos h, plC_yes h]; omega
  · rw [if_neg h, plC_no h]
theorem plS_asc {s : List UInt8} (h : ∀ c ∈ s, c.toNat < 128) : ∀ c ∈ plS s, c.toNat < 128 := fun c hc => by
  obtain ⟨a, ha, rfl⟩ := List.mem_map.1 hc
  have := plC_big a
  have := h a ha
  omega
theorem asc_map_lw {s : List UInt8} (h : ∀ c ∈ s, c.toNat < 128) : (asc s).map lw = asc (plS s) := by
  induction s with
  | nil => rfl
  | cons c s ih =>
    show lw (c.toNat : Int) :: (asc s).map lw = ((plC c).toNat : Int) :: asc (plS s)
    rw [lw_asc (h c (by simp)), ih fun d hd => h d (List.mem_cons_of_mem _ hd)]
theorem formL_asc {s : List UInt8} (h : ∀ c ∈ s, c.toNat < 128) (soft join : Bool) : formL soft join (asc s) = asc s := by
  have ha := asc_mem h
  unfold formL
  rw [splt_asc ha, ord_asc ha, join_asc ha]
  split <;> rfl
theorem runes_asc {s : List UInt8} (h : ∀ c ∈ s, c.toNat < 128) : runes s = (asc s, -1) := runesF_asc _ _ _ (by omega) h
theorem foldS_asc {s : List UInt8} (h : ∀ c ∈ s, c.toNat < 128) : foldS s = (plS s, true) := by
  have hp := plS_asc h
  rw [foldS_at (by rw [runes_asc h]; dsimp only; omega), runes_asc h]
  dsimp only
  unfold foldL
  rw [asc_map_lw h, formL_asc hp, (str_asc hp).1]
end Go.AE
end
section
/- Names of users: plain laws. -/
namespace Go.AE
set_option linter.unusedSimpArgs false
/-- A character that is but alike, or taken out. -/
def soB (r : Int) : Bool := (spl r).2 && ((spl r).1.2.2.2.1 || (spl r).1.2.2.2.2)
def lch (r : Int) : Bool := !soB r && (decide (2 ≤ cat r ∧ cat r ≤ 5) || r == 45)
def pch (r : Int) : Bool := decide (33 ≤ r ∧ r ≤ 126) || (if cat r = 1 then !soB r else lch r)
def badK (L : List Int) (k : Nat) : Bool := needN L k == 2 || (needN L k == 0 && !pch (L.getD k 0))
def badL (L : List Int) : Bool := (List.range L.length).any (badK L)
def claV (s : List UInt8) : Int := if 0 ≤ (runes s).2 then 7 else if (runes s).1.length = 0 then 13 else if badL (runes s).1 then 8 else 0
def namR (X : List UInt8) : List UInt8 × Int := if claV X ≠ 0 then ([], claV X) else if hasB (runes X).1 && !ruleB (runes X).1 then ([], 9) else (X, 0)
def namV (s : List UInt8) : List UInt8 × Int := if (foldS s).2 = false then ([], 7) else namR (foldS s).1
def sameN (a b : List UInt8) : Bool := ((namV a).2 == 0) && ((namV b).2 == 0) && ((namV a).1 == (namV b).1)
theorem namR_ok {X : List UInt8} (h : (namR X).2 = 0) : namR X = (X, 0) ∧ claV X = 0 := by
  unfold namR at h ⊢
  by_cases h1 : claV X = 0
  · rw [if_neg (by simp [h1])] at h ⊢
    by_cases h2 : (hasB (runes X).1 && !ruleB (runes X).1) = true
    · rw [if_pos h2] at h; simp at h
    · rw [if_neg h2]; exact ⟨rfl, h1⟩
  · rw [if_pos h1] at h; exact absurd h h1
theorem namR_bad {X : List UInt8} (h : (namR X).2 ≠ 0) : (namR X).1 = [] := by
  unfold namR at h ⊢
  split
  · rfl
  · split
    · rfl
    · rename_i h1 h2
      rw [if_neg h1, if_neg h2] at h
      simp at h
theorem claV_cases (s : List UInt8) : claV s = 7 ∨ claV s = 13 ∨ claV s = 8 ∨ claV s = 0 := by
  unfold claV
  repeat' split
  all_goals simp
theorem namV_nil : namV [] = ([], 13) := by decide +kernel
/-! ### ASCII -/
def okA (n : Nat) : Bool := decide (33 ≤ n) && decide (n ≤ 126)
theorem asc_pch {c : UInt8} (h : c.toNat < 128) : pch (c.toNat : Int) = okA c.toNat ∧ rl (c.toNat : Int) = .no ∧ rtl (c.toNat : Int) = false := by
  have := List.all_eq_true.1 (show ((List.range 128).all fun n => decide (pch (n : Int) = okA n) && (decide (rl (n : Int) = .no) && decide (rtl (n : Int) = false))) = true by decide +kernel) c.toNat (by simp; omega)
  simp only [Bool.and_eq_true, decide_eq_true_eq] at this
  exact this
theorem asc_getD (s : List UInt8) (k : Nat) (h : k < s.length) : (asc s).getD k 0 = ((s.getD k 0).toNat : Int) := by
  simp [asc, List.getD, h]
theorem asc_bad {s : List UInt8} (h : ∀ c ∈ s, c.toNat < 128) : badL (asc s) = !s.all fun c => okA c.toNat := by
  have hl : (asc s).length = s.length := by simp [asc]
  have hk : ∀ k, k < s.length → badK (asc s) k = !okA (s.getD k 0).toNat := fun k hk => by
    have hc : (s.getD k 0).toNat < 128 := h _ (by simp [List.getD, hk])
    obtain ⟨h1, h2, h3⟩ := asc_pch hc
    unfold badK needN
    rw [asc_getD s k hk, h2, h1]
    simp
  unfold badL
  rw [hl, Bool.eq_iff_iff]
  simp only [List.any_eq_true, List.mem_range, Bool.not_eq_true', List.all_eq_false]
  constructor
  · rintro ⟨k, hk1, hk2⟩
    rw [hk k hk1] at hk2
    exact ⟨s.getD k 0, by simp [List.getD, hk1], by simpa using hk2⟩
  · rintro ⟨c, hc, h2⟩
    obtain ⟨k, hk1, hk2⟩ := List.getElem_of_mem hc
    refine ⟨k, hk1, ?_⟩
    rw [hk k hk1]
    have : s.getD k 0 = c := by simp [List.getD, hk1, hk2]
    rw [this]
    simpa using h2
theorem asc_has {s : List UInt8} (h : ∀ c ∈ s, c.toNat < 128) : hasB (asc s) = false := by
  unfold hasB asc
  rw [List.any_map, List.any_eq_false]
  intro c hc
  have := (asc_pch (h c hc)).2.2
  simpa using this
def fineS (s : List UInt8) : Bool := decide (0 < s.length) && s.all fun c => okA c.toNat
theorem runes_asc10 {s : List UInt8} (h : ∀ c ∈ s, c.toNat < 128) : runes s = (asc s, -1) := runesF_asc _ _ _ (by omega) h
theorem claV_asc {s : List UInt8} (h : ∀ c ∈ s, c.toNat < 128) : (claV s = 0 ↔ fineS s = true) := by
  unfold claV fineS
  rw [runes_asc10 h, asc_bad h]
  have hl : (asc s).length = s.length := by simp [asc]
  rw [if_neg (by dsimp only; omega)]
  dsimp only
  rw [hl]
  by_cases h0 : s.length = 0
  · rw [if_pos h0]; simp [h0]
  · rw [if_neg h0]
    cases hq : s.all fun c => okA c.toNat <;> simp <;> omega
/-! ### A blank, or a control sign -/
theorem enc_small {r : Int} {c : UInt8} (hc : c.toNat < 128) (h : c ∈ enc r) : r = (c.toNat : Int) := by
  unfold enc at h
  have key : ∀ x : Int, 128 ≤ x → x ≤ 255 → c ≠ ofI x := fun x h1 h2 he => by
    have : c.toNat = x.toNat := by rw [he]; unfold ofI; simp; omega
    omega
  split at h
  · rename_i hr
    have hr := (right_iff r).1 hr
    split at h
    · simp only [List.mem_singleton] at h
      rw [h]
      unfold ofI
      have : (UInt8.ofNat r.toNat).toNat = r.toNat := by simp; omega
      rw [this]; omega
    · exfalso
      split at h
      · simp only [List.mem_cons, List.not_mem_nil, or_false] at h
        rcases h with h | h
        · exact key _ (by omega) (by omega) h
        · exact key _ (by omega) (by omega) h
      · split at h
        · simp only [List.mem_cons, List.not_mem_nil, or_false] at h
          rcases h with h | h | h
          · exact key _ (by omega) (by omega) h
          · exact key _ (by omega) (by omega) h
          · exact key _ (by omega) (by omega) h
        · simp only [List.mem_cons, List.not_mem_nil, or_false] at h
          rcases h with h | h | h | h
          · exact key _ (by omega) (by omega) h
          · exact key _ (by omega) (by omega) h
          · exact key _ (by omega) (by omega) h
          · exact key _ (by omega) (by omega) h
  · cases h
theorem rune_of_byte {s : List UInt8} (h : ¬ 0 ≤ (runes s).2) {c : UInt8} (hc : c ∈ s) (hs : c.toNat < 128) : (c.toNat : Int) ∈ (runes s).1 := by
  have hb := runes_back s
  have ha : (runes s).2 = -1 := (runes_at s).resolve_right h
  rw [ha, cutAt_neg, List.take_length] at hb
  have hs2 : strS (runes s).1 = (runes s).1.flatMap enc := by unfold strS; rw [if_pos hb.1]
  have : c ∈ (runes s).1.flatMap enc := by rw [← hs2, hb.2.1]; exact hc
  obtain ⟨r, hr, hcr⟩ := List.mem_flatMap.1 this
  rw [← enc_small hs hcr]
  exact hr
/-- What folding leaves where it stands. -/
structure Firm (c : Int) : Prop where
  fx : lw c = c
  one : one1 false c = [c]
  cl : cls c = 0
  l : ∀ a, (mk2 a c).2 = false
  r : ∀ b, (mk2 c b).2 = false
theorem put_keep {s : JS} {c : Int} (x : Int) (h : c ∈ s.out) : c ∈ (s.put x).out := by rw [put_out]; exact List.mem_append.2 (Or.inl h)
theorem jStep_keep {s : JS} {c : Int} (hf : Firm c) (x : Int) (h : c ∈ s.out) : c ∈ (jStep s x).out := by
  unfold jStep
  split
  · exact put_keep x h
  · rename_i b hb
    split
    · split
      · rename_i h2
        simp only [JS.out, hb, Option.toList, List.mem_append, List.mem_singleton] at h ⊢
        rcases h with (h | h) | h
        · exact Or.inl (Or.inl h)
        · subst h; rw [hf.r x] at h2; cases h2
        · exact Or.inr h
      · exact put_keep x h
    · exact put_keep x h
theorem jStep_new {s : JS} {c : Int} (hf : Firm c) : c ∈ (jStep s c).out := by
  have hp : c ∈ (s.put c).out := by rw [put_out]; simp
  unfold jStep
  split
  · exact hp
  · rename_i b hb
    split
    · rw [hf.l b]
      exact hp
    · exact hp
theorem joinL_keep {c : Int} (hf : Firm c) {l : List Int} (h : c ∈ l) : c ∈ joinL l := by
  have key : ∀ (l : List Int) (s : JS), c ∈ s.out ∨ c ∈ l → c ∈ (l.foldl jStep s).out := fun l => by
    induction l with
    | nil => intro s h; rcases h with h | h; exact h; cases h
    | cons x l ih =>
      intro s h
      refine ih (jStep s x) ?_
      rcases h with h | h
      · exact Or.inl (jStep_keep hf x h)
      · rcases List.mem_cons.1 h with rfl | h
        · exact Or.inl (jStep_new hf)
        · exact Or.inr h
  exact key l _ (Or.inr h)
theorem fold_keep {c : Int} (hf : Firm c) {l : List Int} (h : c ∈ l) : c ∈ foldL l := by
  rw [foldL_eq]
  refine joinL_keep hf ((ord_kin _).1.mem.2 ?_)
  refine List.mem_flatMap.2 ⟨c, List.mem_map.2 ⟨c, h, hf.fx⟩, ?_⟩
  rw [hf.one]; simp
theorem mk2_no {a b : Int} (ha : ∀ x ∈ splits, x.2.1 ≠ a ∨ x.2.2.1 ≠ b) (h1 : ¬ (4352 ≤ a ∧ a ≤ 4370 ∧ 4449 ≤ b ∧ b ≤ 4469)) (h2 : ¬ (han a = true ∧ (a - 44032) % 28 = 0 ∧ 4520 ≤ b ∧ b ≤ 4546)) : (mk2 a b).2 = false := by
  unfold mk2
  rw [if_neg h1, if_neg h2]
  unfold pr
  have : splits.find? (pairP a b) = none := by
    rw [List.find?_eq_none]
    intro x hx hp
    unfold pairP at hp
    simp only [Bool.and_eq_true, beq_iff_eq] at hp
    rcases ha x hx with h | h
    · exact h hp.1.2
    · exact h hp.2
  rw [this]; rfl
theorem firm_of {n : Nat} (h : n ≤ 32 ∨ n = 127) : Firm (n : Int) := by
  have hn : n < 128 := by omega
  have hall := List.all_eq_true.1 (show ((List.range 128).all fun n => !(decide (n ≤ 32) || n == 127) || (decide (lw (n : Int) = n) && decide (one1 false (n : Int) = [(n : Int)]) && decide (cls (n : Int) = 0) && splits.all fun x => (decide (x.2.1 ≠ (n : Int)) || x.2.2.2.1) && (decide (x.2.2.1 ≠ (n : Int)) || n == 0))) = true by decide +kernel) n (by simp; omega)
  have hb : (decide (n ≤ 32) || n == 127) = true := by simp; omega
  rw [hb] at hall
  simp only [Bool.not_true, Bool.false_or, Bool.and_eq_true, decide_eq_true_eq, List.all_eq_true, Bool.or_eq_true, beq_iff_eq] at hall
  obtain ⟨⟨⟨a1, a2⟩, a3⟩, a4⟩ := hall
  refine ⟨a1, a2, a3, fun a => ?_, fun b => ?_⟩
  · have h1 : ¬ (4352 ≤ a ∧ a ≤ 4370 ∧ 4449 ≤ (n : Int) ∧ (n : Int) ≤ 4469) := by omega
    have h2 : ¬ (han a = true ∧ (a - 44032) % 28 = 0 ∧ 4520 ≤ (n : Int) ∧ (n : Int) ≤ 4546) := by omega
    unfold mk2
    rw [if_neg h1, if_neg h2]
    unfold pr
    have : splits.find? (pairP a (n : Int)) = none := by
      rw [List.find?_eq_none]
      intro x hx hp
      unfold pairP at hp
      simp only [Bool.and_eq_true, beq_iff_eq, Bool.not_eq_true'] at hp
      rcases (a4 x hx).2 with h | h
      · exact h hp.2
      · have := List.all_eq_true.1 (show (splits.all fun x => x.2.2.2.1 || x.2.2.2.2 || decide (x.2.2.1 ≠ 0)) = true by decide +kernel) x hx
        rw [hp.1.1.1, hp.1.1.2] at this
        simp only [Bool.false_or, decide_eq_true_eq] at this
        have := hp.2
        subst h
        simp at this
        contradiction
    rw [this]; rfl
  · have h1 : ¬ (4352 ≤ (n : Int) ∧ (n : Int) ≤ 4370 ∧ 4449 ≤ b ∧ b ≤ 4469) := by omega
    have h2 : ¬ (han (n : Int) = true ∧ ((n : Int) - 44032) % 28 = 0 ∧ 4520 ≤ b ∧ b ≤ 4546) := by
      intro h
      have : 44032 ≤ (n : Int) ∧ (n : Int) ≤ 55203 := by simpa [han] using h.1
      omega
    unfold mk2
    rw [if_neg h1, if_neg h2]
    unfold pr
    have : splits.find? (pairP (n : Int) b) = none := by
      rw [List.find?_eq_none]
      intro x hx hp
      unfold pairP at hp
      simp only [Bool.and_eq_true, beq_iff_eq, Bool.not_eq_true'] at hp
      rcases (a4 x hx).1 with h | h
      · exact h hp.1.2
      · rw [hp.1.1.1] at h; cases h
    rw [this]; rfl
theorem firm_bad {n : Nat} (h : n ≤ 32 ∨ n = 127) {L : List Int} {k : Nat} (hk : L.getD k 0 = (n : Int)) : badK L k = true := by
  have hall := List.all_eq_true.1 (show ((List.range 128).all fun n => !(decide (n ≤ 32) || n == 127) || (decide (rl (n : Int) = .no) && !pch (n : Int))) = true by decide +kernel) n (by simp; omega)
  have hb : (decide (n ≤ 32) || n == 127) = true := by simp; omega
  rw [hb] at hall
  simp only [Bool.not_true, Bool.false_or, Bool.and_eq_true, decide_eq_true_eq] at hall
  unfold badK needN
  rw [hk, hall.1, hall.2]
  simp
theorem blank_name {s : List UInt8} {c : UInt8} (hc : c ∈ s) (h : c.toNat ≤ 32 ∨ c.toNat = 127) : (namV s).2 = 8 ∨ (namV s).2 = 7 := by
  by_cases h0 : 0 ≤ (runes s).2
  · right
    unfold namV foldS
    rw [if_pos h0]; rfl
  · left
    have hm := fold_keep (firm_of h) (rune_of_byte h0 hc (by omega))
    have hr := runes_fold (s := s)
    obtain ⟨k, hk1, hk2⟩ := List.getElem_of_mem hm
    have hbad : badL (foldL (runes s).1) = true := by
      unfold badL
      rw [List.any_eq_true]
      exact ⟨k, List.mem_range.2 hk1, firm_bad h (by simp [List.getD, hk1, hk2])⟩
    have hv : claV (strS (foldL (runes s).1)) = 8 := by
      unfold claV
      rw [hr, if_neg (by dsimp only; omega)]
      dsimp only
      rw [if_neg (by omega), hbad]; rfl
    unfold namV
    rw [foldS_at h0, if_neg (by simp)]
    dsimp only
    unfold namR
    rw [hv]; rfl
end Go.AE
end
section
/- Precis: contracts. -/
namespace Go.AE
open Go.Proofs
set_option maxRecDepth 20000
set_option maxHeartbeats 8000000
set_option linter.unusedSimpArgs false
theorem lchar_spec (r : Int) : Spec Try.prog 32 [tab, I32 r] (Bv (lch r)) := by
  have hs := split_spec r
  have hc := cat_spec r
  rw [← tabBox_eq] at hs hc ⊢
  refine spec_mk (z := false) (ts := [.tmp 4]) ok1 Try.func32 rfl rfl (by decide +kernel) (by simp [Try.ntmps32]) rfl ?_
  unfold lch soB
  cases h1 : (spl r).2 <;> cases h2 : (spl r).1.2.2.2.1 <;> cases h3 : (spl r).1.2.2.2.2
  all_goals
    repeat' first | refine WE_fit (hs) ?_ ?_ | refine WE_fit (hc) ?_ ?_ | simp (maxSteps := 4000000) (disch := omega) only [bunD, bun, ↓WG_true, ↓WG_false, labelOf, findLabel, Nat.reduceEqDiff, ↓reduceIte, imp, shift, killO, cond_true, cond_false, Nat.reduceBEq, hasId, Nat.reduceAdd, Nat.reduceMul, Nat.reduceSub, Nat.reduceLeDiff, reduceCtorEq, Int.reduceNe, Int.reduceLE, Int.reduceEq, ne_eq, Int.reducePow, Int.reduceAdd, Int.reduceSub, Int.reduceMul, unown, names, plainR, Int.reduceBEq, Int.reduceLT, Int.reduceGT, Int.reduceGE, Int.reduceBNe, below, noF, isF, lendObs, lendOb, kindOk, ren, givL, updM, backO, renO, belowM, h1, h2, h3, B3, B4, B21, B23, B24, B25, B26, B27, B29, B50, B52, B67, B69, B71, bunN, Int.reduceToNat, tbB2, List.map_nil, List.nil_append, splitC] | exact NK_no _ | refine NK_cl _ _ ?_ | exact clean_v _ | exact clean_u8 _ _ _ _ | exact clean_i32 _ _ _ _ | exact clean_str _ _ _ _ | refine clean_tup _ ?_ | refine clean_ag _ ?_ | exact cleans_nil | refine cleans_cons _ _ ?_ ?_ | refine DR_q _ ?_ | ((first | refine WG_mk ?_ ?_ | refine CD_mk ?_ ?_ | refine GD_mk ?_ ?_ | refine GQ_mk ?_ ?_ | refine PK_mk ?_ ?_) <;> intro hg <;> (try simp only [hg]) <;> (try simp only [bunB, ne_eq] at hg) <;> first | (exfalso; omega) | (exfalso; exact Bool.noConfusion hg) | (exfalso; exact hg trivial) | skip) | refine And.intro (by omega) ?_ | omega
  all_goals (congr 2; rw [Bool.eq_iff_iff]; simp only [Bool.or_eq_true, decide_eq_true_eq, beq_iff_eq, true_iff]; omega)
theorem pchar_spec (r : Int) : Spec Try.prog 14 [tab, I32 r] (Bv (pch r)) := by
  have hs := split_spec r
  have hc := cat_spec r
  have hl := lchar_spec r
  rw [← tabBox_eq] at hs hc hl ⊢
  refine spec_mk (z := false) (ts := [.tmp 4]) ok1 Try.func14 rfl rfl (by decide +kernel) (by simp [Try.ntmps14]) rfl ?_
  by_cases hp : 33 ≤ r ∧ r ≤ 126
  · have e : pch r = true := by unfold pch; simp [hp]
    rw [e]
    repeat' first | refine WE_fit (hs) ?_ ?_ | refine WE_fit (hc) ?_ ?_ | refine WE_fit (hl) ?_ ?_ | simp (maxSteps := 4000000) (disch := omega) only [bunD, bun, ↓WG_true, ↓WG_false, labelOf, findLabel, Nat.reduceEqDiff, ↓reduceIte, imp, shift, killO, cond_true, cond_false, Nat.reduceBEq, hasId, Nat.reduceAdd, Nat.reduceMul, Nat.reduceSub, Nat.reduceLeDiff, reduceCtorEq, Int.reduceNe, Int.reduceLE, Int.reduceEq, ne_eq, Int.reducePow, Int.reduceAdd, Int.reduceSub, Int.reduceMul, unown, names, plainR, Int.reduceBEq, Int.reduceLT, Int.reduceGT, Int.reduceGE, Int.reduceBNe, below, noF, isF, lendObs, lendOb, kindOk, ren, givL, updM, backO, renO, belowM, B3, B4, B21, B23, B24, B25, B26, B27, B29, B50, B52, B67, B69, B71, bunN, Int.reduceToNat, tbB2, List.map_nil, List.nil_append, splitC] | exact NK_no _ | refine NK_cl _ _ ?_ | exact clean_v _ | exact clean_u8 _ _ _ _ | exact clean_i32 _ _ _ _ | exact clean_str _ _ _ _ | refine clean_tup _ ?_ | refine clean_ag _ ?_ | exact cleans_nil | refine cleans_cons _ _ ?_ ?_ | refine DR_q _ ?_ | ((first | refine WG_mk ?_ ?_ | refine CD_mk ?_ ?_ | refine GD_mk ?_ ?_ | refine GQ_mk ?_ ?_ | refine PK_mk ?_ ?_) <;> intro hg <;> (try simp only [hg]) <;> (try simp only [bunB, ne_eq] at hg) <;> first | (exfalso; omega) | (exfalso; exact Bool.noConfusion hg) | (exfalso; exact hg trivial) | skip) | refine And.intro (by omega) ?_ | omega
  · by_cases h1 : cat r = 1
    · have e : pch r = !soB r := by unfold pch; simp only [hp, decide_false, Bool.false_or, h1, if_true]
      rw [e]
      unfold soB
      cases h1 : (spl r).2 <;> cases h2 : (spl r).1.2.2.2.1 <;> cases h3 : (spl r).1.2.2.2.2
      all_goals
        repeat' first | refine WE_fit (hs) ?_ ?_ | refine WE_fit (hc) ?_ ?_ | refine WE_fit (hl) ?_ ?_ | simp (maxSteps := 4000000) (disch := omega) only [bunD, bun, ↓WG_true, ↓WG_false, labelOf, findLabel, Nat.reduceEqDiff, ↓reduceIte, imp, shift, killO, cond_true, cond_false, Nat.reduceBEq, hasId, Nat.reduceAdd, Nat.reduceMul, Nat.reduceSub, Nat.reduceLeDiff, reduceCtorEq, Int.reduceNe, Int.reduceLE, Int.reduceEq, ne_eq, Int.reducePow, Int.reduceAdd, Int.reduceSub, Int.reduceMul, unown, names, plainR, Int.reduceBEq, Int.reduceLT, Int.reduceGT, Int.reduceGE, Int.reduceBNe, below, noF, isF, lendObs, lendOb, kindOk, ren, givL, updM, backO, renO, belowM, h1, h2, h3, B3, B4, B21, B23, B24, B25, B26, B27, B29, B50, B52, B67, B69, B71, bunN, Int.reduceToNat, tbB2, List.map_nil, List.nil_append, splitC] | exact NK_no _ | refine NK_cl _ _ ?_ | exact clean_v _ | exact clean_u8 _ _ _ _ | exact clean_i32 _ _ _ _ | exact clean_str _ _ _ _ | refine clean_tup _ ?_ | refine clean_ag _ ?_ | exact cleans_nil | refine cleans_cons _ _ ?_ ?_ | refine DR_q _ ?_ | ((first | refine WG_mk ?_ ?_ | refine CD_mk ?_ ?_ | refine GD_mk ?_ ?_ | refine GQ_mk ?_ ?_ | refine PK_mk ?_ ?_) <;> intro hg <;> (try simp only [hg]) <;> (try simp only [bunB, ne_eq] at hg) <;> first | (exfalso; omega) | (exfalso; exact Bool.noConfusion hg) | (exfalso; exact hg trivial) | skip) | refine And.intro (by omega) ?_ | omega
        all_goals trace_state
    · have e : pch r = lch r := by unfold pch; simp only [hp, decide_false, Bool.false_or, h1, if_false]
      rw [e]
      repeat' first | refine WE_fit (hs) ?_ ?_ | refine WE_fit (hc) ?_ ?_ | refine WE_fit (hl) ?_ ?_ | simp (maxSteps := 4000000) (disch := omega) only [bunD, bun, ↓WG_true, ↓WG_false, labelOf, findLabel, Nat.reduceEqDiff, ↓reduceIte, imp, shift, killO, cond_true, cond_false, Nat.reduceBEq, hasId, Nat.reduceAdd, Nat.reduceMul, Nat.reduceSub, Nat.reduceLeDiff, reduceCtorEq, Int.reduceNe, Int.reduceLE, Int.reduceEq, ne_eq, Int.reducePow, Int.reduceAdd, Int.reduceSub, Int.reduceMul, unown, names, plainR, Int.reduceBEq, Int.reduceLT, Int.reduceGT, Int.reduceGE, Int.reduceBNe, below, noF, isF, lendObs, lendOb, kindOk, ren, givL, updM, backO, renO, belowM, B3, B4, B21, B23, B24, B25, B26, B27, B29, B50, B52, B67, B69, B71, bunN, Int.reduceToNat, tbB2, List.map_nil, List.nil_append, splitC] | exact NK_no _ | refine NK_cl _ _ ?_ | exact clean_v _ | exact clean_u8 _ _ _ _ | exact clean_i32 _ _ _ _ | exact clean_str _ _ _ _ | refine clean_tup _ ?_ | refine clean_ag _ ?_ | exact cleans_nil | refine cleans_cons _ _ ?_ ?_ | refine DR_q _ ?_ | ((first | refine WG_mk ?_ ?_ | refine CD_mk ?_ ?_ | refine GD_mk ?_ ?_ | refine GQ_mk ?_ ?_ | refine PK_mk ?_ ?_) <;> intro hg <;> (try simp only [hg]) <;> (try simp only [bunB, ne_eq] at hg) <;> first | (exfalso; omega) | (exfalso; exact Bool.noConfusion hg) | (exfalso; exact hg trivial) | skip) | refine And.intro (by omega) ?_ | omega
      all_goals trace_state
theorem need_at (L : List Int) (k : Nat) (hk : k < L.length) : need L (k : Int) = needN L k := by
  unfold need
  rw [if_pos (by omega)]; rfl
theorem badK_spec (L : List Int) (hL : L.length ≤ 1000) (hb : ∀ c ∈ L, inI c) (k : Nat) (hk : k < L.length) : Spec Try.prog 26 [I64 k, .cp tabBox, .cp [.sl L.length (L.map I32)]] (Bv (badK L k)) := by
  have h1 := need_spec L hL hb k (by omega) (by omega)
  have h2 := pchar_spec (L.getD k 0)
  rw [need_at L k hk] at h1
  rw [← tabBox_eq] at h1 h2
  unfold badK
  refine spec_mk (z := false) (ts := [.tmp 4]) ok1 Try.func26 rfl rfl (by decide +kernel) (by simp [Try.ntmps26]) rfl ?_
  repeat' first | refine WE_fit (h1) ?_ ?_ | refine WE_fit (h2) ?_ ?_ | simp (maxSteps := 4000000) (disch := omega) only [bunD, bun, ↓WG_true, ↓WG_false, labelOf, findLabel, Nat.reduceEqDiff, ↓reduceIte, imp, shift, killO, cond_true, cond_false, Nat.reduceBEq, hasId, Nat.reduceAdd, Nat.reduceMul, Nat.reduceSub, Nat.reduceLeDiff, reduceCtorEq, Int.reduceNe, Int.reduceLE, Int.reduceEq, ne_eq, Int.reducePow, Int.reduceAdd, Int.reduceSub, Int.reduceMul, unown, names, plainR, Int.reduceBEq, Int.reduceLT, Int.reduceGT, Int.reduceGE, Int.reduceBNe, below, noF, isF, lendObs, lendOb, kindOk, ren, givL, updM, backO, renO, belowM, B3, B4, B21, B23, B24, B25, B26, B27, B29, B50, B52, B53, B67, B69, B71, bunN, Int.reduceToNat, tbB2, List.map_nil, List.nil_append, splitC] | exact NK_no _ | refine NK_cl _ _ ?_ | exact clean_v _ | exact clean_u8 _ _ _ _ | exact clean_i32 _ _ _ _ | exact clean_str _ _ _ _ | refine clean_tup _ ?_ | refine clean_ag _ ?_ | exact cleans_nil | refine cleans_cons _ _ ?_ ?_ | refine DR_q _ ?_ | ((first | refine WG_mk ?_ ?_ | refine CD_mk ?_ ?_ | refine GD_mk ?_ ?_ | refine GQ_mk ?_ ?_ | refine PK_mk ?_ ?_) <;> intro hg <;> (try simp only [hg]) <;> (try simp only [bunB, ne_eq] at hg) <;> first | (exfalso; omega) | (exfalso; exact Bool.noConfusion hg) | (exfalso; exact hg trivial) | skip) | refine And.intro (by omega) ?_ | omega
  all_goals trace_state
end Go.AE
end
