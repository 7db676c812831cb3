/- Contracts of functions that the laws of this seat reach, and plain laws of what they compute. No condition beyond each statement's own. -/
import Derived.Test.YtkokdbkkiffjjaaL6
set_option linter.unusedVariables false
namespace Go.AE
open Go.Proofs
set_option maxRecDepth 10000
set_option linter.unusedSimpArgs false

theorem ofI_self (c : UInt8) : ofI (c.toNat : Int) = c := by simp [ofI]
theorem ofI_eq {n : Int} {c : UInt8} (h : n = c.toNat) : ofI n = c := by rw [h, ofI_self]

def dec (m : Nat) (s : List UInt8) : Int :=
  if m = 2 then ((s.getD 0 0).toNat : Int) % 32 * 64 + ((s.getD 1 0).toNat : Int) % 64
  else if m = 3 then ((s.getD 0 0).toNat : Int) % 16 * 4096 + ((s.getD 1 0).toNat : Int) % 64 * 64 + ((s.getD 2 0).toNat : Int) % 64
  else if m = 4 then ((s.getD 0 0).toNat : Int) % 8 * 262144 + ((s.getD 1 0).toNat : Int) % 64 * 4096 + ((s.getD 2 0).toNat : Int) % 64 * 64 + ((s.getD 3 0).toNat : Int) % 64
  else ((s.getD 0 0).toNat : Int)

theorem lead_inv {c : Int} {n : Nat} (h : (lead c).1 = n) : (n = 0 ∧ c < 128 ∧ (lead c).2 = c) ∨ (n = 1 ∧ 194 ≤ c ∧ c < 224 ∧ (lead c).2 = c % 32) ∨ (n = 2 ∧ 224 ≤ c ∧ c < 240 ∧ (lead c).2 = c % 16) ∨ (n = 3 ∧ 240 ≤ c ∧ c < 245 ∧ (lead c).2 = c % 8) := by
  unfold lead at h ⊢
  repeat' (split at h)
  all_goals (simp at h; try omega)
  all_goals (simp (disch := omega) only [if_pos, if_neg]; simp; omega)

theorem one_some {s : List UInt8} {r : Int} {k : Nat} (h : one s = some (r, k)) : rlen r = k ∧ enc r = s.take k ∧ k ≤ s.length ∧ 0 < k := by
  cases s with
  | nil => simp [one] at h
  | cons c t =>
    simp only [one] at h
    split at h
    · simp at h
    · rename_i h0
      split at h
      · rename_i h1
        obtain ⟨n, hn⟩ : ∃ n : Nat, (lead c.toNat).1 = n := ⟨(lead c.toNat).1.toNat, by omega⟩
        rw [hn] at h0 h1 h
        simp only [Int.toNat_natCast, Option.some.injEq, Prod.mk.injEq] at h h1
        obtain ⟨h2, h3⟩ := h
        obtain ⟨hc, hl⟩ := h1
        have hlt := u8_lt c
        rw [h2] at hl
        subst h3
        refine ⟨by omega, ?_, by simp; omega, by omega⟩
        rcases lead_inv hn with ⟨e, h4, h5⟩ | ⟨e, h4, h6, h5⟩ | ⟨e, h4, h6, h5⟩ | ⟨e, h4, h6, h5⟩
        · subst e
          rw [h5] at h2
          simp [foldB] at h2
          rw [enc1 (by omega), ← h2, ofI_self]; rfl
        · subst e
          match t, hc, h2, h0 with
          | b1 :: t, hc, h2, h0 =>
            have hb := u8_lt b1
            simp [isCont] at hc
            rw [h5] at h2
            simp [foldB] at h2
            rw [enc2 ((rlen2 r).1 (by omega)), ofI_eq (c := c) (by omega), ofI_eq (c := b1) (by omega)]; rfl
          | [], _, _, h0 => simp at h0; try omega
        · subst e
          match t, hc, h2, h0 with
          | b1 :: b2 :: t, hc, h2, h0 =>
            have hb := u8_lt b1
            have hb := u8_lt b2
            simp [isCont] at hc
            rw [h5] at h2
            simp [foldB] at h2
            rw [enc3 ((rlen3 r).1 (by omega)), ofI_eq (c := c) (by omega), ofI_eq (c := b1) (by omega), ofI_eq (c := b2) (by omega)]; rfl
          | [], _, _, h0 => simp at h0; try omega
          | [_], _, _, h0 => simp at h0; try omega
        · subst e
          match t, hc, h2, h0 with
          | b1 :: b2 :: b3 :: t, hc, h2, h0 =>
            have hb := u8_lt b1
            have hb := u8_lt b2
            have hb := u8_lt b3
            simp [isCont] at hc
            rw [h5] at h2
            simp [foldB] at h2
            rw [enc4 ((rlen4 r).1 (by omega)), ofI_eq (c := c) (by omega), ofI_eq (c := b1) (by omega), ofI_eq (c := b2) (by omega), ofI_eq (c := b3) (by omega)]; rfl
          | [], _, _, h0 => simp at h0; try omega
          | [_], _, _, h0 => simp at h0; try omega
          | [_, _], _, _, h0 => simp at h0; try omega
      · simp at h

theorem one_mk {c : UInt8} {t : List UInt8} {r : Int} {n : Nat} (h1 : (lead c.toNat).1 = n) (h2 : n ≤ t.length) (h3 : (t.take n).all isCont = true) (h4 : foldB (lead c.toNat).2 (t.take n) = r) (h5 : rlen r = n + 1) : one (c :: t) = some (r, n + 1) := by
  have := one_last (s := c :: t) (n := n) (by simp) h1 (by simp; omega) h3
  rw [this, if_pos]
  · simp only [List.getD_cons_zero, List.drop_succ_cons, List.drop_zero, h4]
  · simp only [List.getD_cons_zero, List.drop_succ_cons, List.drop_zero, h4, h5]

theorem isCont_ofI {n : Int} (h : 128 ≤ n) (k : n < 192) : isCont (ofI n) = true := by
  have := ofI_toNat (n := n) (by omega) (by omega)
  simp [isCont]; omega

theorem one_enc {r : Int} (h : right r = true) (t : List UInt8) : one (enc r ++ t) = some (r, (enc r).length) := by
  rcases rlen_or r with hr | hr | hr | hr | hr
  · rw [(rlen0 r).1 hr] at h; simp at h
  · have hb := (rlen1 r).1 hr
    rw [enc1 hb]; simp only [List.cons_append, List.nil_append]
    refine one_mk (n := 0) ?_ (by simp) (by simp) ?_ (by omega) <;> rw [ofI_toNat (by omega) (by omega)]
    · simp (disch := omega) only [lead, if_pos]; rfl
    · simp (disch := omega) only [lead, if_pos]; rfl
  · have hb := (rlen2 r).1 hr
    rw [enc2 hb]; simp only [List.cons_append, List.nil_append]
    refine one_mk (n := 1) ?_ (by simp) ?_ ?_ (by omega)
    · rw [ofI_toNat (by omega) (by omega)]; simp (disch := omega) only [lead, if_pos, if_neg]; rfl
    · simp only [List.nil_append, List.cons_append, List.take_succ_cons, List.take_zero, List.all_cons, List.all_nil]
      rw [isCont_ofI (by omega) (by omega)]; rfl
    · rw [ofI_toNat (by omega) (by omega)]
      simp (disch := omega) only [lead, if_pos, if_neg, List.nil_append, List.cons_append, List.take_succ_cons, List.take_zero, foldB, List.foldl_cons, List.foldl_nil, ofI_toNat]
      omega
  · have hb := (rlen3 r).1 hr
    rw [enc3 hb]; simp only [List.cons_append, List.nil_append]
    refine one_mk (n := 2) ?_ (by simp) ?_ ?_ (by omega)
    · rw [ofI_toNat (by omega) (by omega)]; simp (disch := omega) only [lead, if_pos, if_neg]; rfl
    · simp only [List.nil_append, List.cons_append, List.take_succ_cons, List.take_zero, List.all_cons, List.all_nil]
      rw [isCont_ofI (by omega) (by omega), isCont_ofI (by omega) (by omega)]; rfl
    · rw [ofI_toNat (by omega) (by omega)]
      simp (disch := omega) only [lead, if_pos, if_neg, List.nil_append, List.cons_append, List.take_succ_cons, List.take_zero, foldB, List.foldl_cons, List.foldl_nil, ofI_toNat]
      omega
  · have hb := (rlen4 r).1 hr
    rw [enc4 hb]; simp only [List.cons_append, List.nil_append]
    refine one_mk (n := 3) ?_ (by simp) ?_ ?_ (by omega)
    · rw [ofI_toNat (by omega) (by omega)]; simp (disch := omega) only [lead, if_pos, if_neg]; rfl
    · simp only [List.nil_append, List.cons_append, List.take_succ_cons, List.take_zero, List.all_cons, List.all_nil]
      rw [isCont_ofI (by omega) (by omega), isCont_ofI (by omega) (by omega), isCont_ofI (by omega) (by omega)]; rfl
    · rw [ofI_toNat (by omega) (by omega)]
      simp (disch := omega) only [lead, if_pos, if_neg, List.nil_append, List.cons_append, List.take_succ_cons, List.take_zero, foldB, List.foldl_cons, List.foldl_nil, ofI_toNat]
      omega

theorem dec2 (s : List UInt8) : dec 2 s = ((s.getD 0 0).toNat : Int) % 32 * 64 + ((s.getD 1 0).toNat : Int) % 64 := rfl
theorem dec3 (s : List UInt8) : dec 3 s = ((s.getD 0 0).toNat : Int) % 16 * 4096 + ((s.getD 1 0).toNat : Int) % 64 * 64 + ((s.getD 2 0).toNat : Int) % 64 := rfl
theorem dec4 (s : List UInt8) : dec 4 s = ((s.getD 0 0).toNat : Int) % 8 * 262144 + ((s.getD 1 0).toNat : Int) % 64 * 4096 + ((s.getD 2 0).toNat : Int) % 64 * 64 + ((s.getD 3 0).toNat : Int) % 64 := rfl
theorem dec1 (s : List UInt8) : dec 1 s = ((s.getD 0 0).toNat : Int) := rfl
theorem dec_enc {r : Int} (h : right r = true) (t : List UInt8) : dec (rlen r).toNat (enc r ++ t) = r := by
  rcases rlen_or r with hr | hr | hr | hr | hr
  · rw [(rlen0 r).1 hr] at h; simp at h
  · have hb := (rlen1 r).1 hr
    rw [enc1 hb, hr, show (1 : Int).toNat = 1 from rfl, dec1]
    simp (disch := omega) only [ofI_toNat, List.cons_append, List.nil_append, List.getD_cons_zero, List.getD_cons_succ]
  · have hb := (rlen2 r).1 hr
    rw [enc2 hb, hr, show (2 : Int).toNat = 2 from rfl, dec2]
    simp (disch := omega) only [ofI_toNat, List.cons_append, List.nil_append, List.getD_cons_zero, List.getD_cons_succ]
    omega
  · have hb := (rlen3 r).1 hr
    rw [enc3 hb, hr, show (3 : Int).toNat = 3 from rfl, dec3]
    simp (disch := omega) only [ofI_toNat, List.cons_append, List.nil_append, List.getD_cons_zero, List.getD_cons_succ]
    omega
  · have hb := (rlen4 r).1 hr
    rw [enc4 hb, hr, show (4 : Int).toNat = 4 from rfl, dec4]
    simp (disch := omega) only [ofI_toNat, List.cons_append, List.nil_append, List.getD_cons_zero, List.getD_cons_succ]
    omega
theorem one_of {s : List UInt8} {n : Nat} (hn : rlen (dec n s) = n) (h0 : 0 < n) (he : enc (dec n s) = s.take n) : one s = some (dec n s, n) := by
  have hr : right (dec n s) = true := by
    cases h : right (dec n s) with
    | true => rfl
    | false => have := (rlen0 _).2 h; omega
  have hl := enc_length (dec n s)
  have := one_enc hr (s.drop n)
  rw [he, List.take_append_drop] at this
  rw [this, ← he]
  congr 2
  omega
theorem one_not {s : List UInt8} (h : ∀ n, 0 < n → n ≤ 4 → n ≤ s.length → ¬ (rlen (dec n s) = n ∧ enc (dec n s) = s.take n)) : one s = none := by
  cases ho : one s with
  | none => rfl
  | some p =>
    obtain ⟨r, k⟩ := p
    obtain ⟨h1, h2, h3, h4⟩ := one_some ho
    exfalso
    have hr : right r = true := by
      cases h : right r with
      | true => rfl
      | false => have := (rlen0 _).2 h; omega
    have h5 := dec_enc hr (s.drop k)
    rw [h2, List.take_append_drop, h1, Int.toNat_natCast] at h5
    refine h k h4 ?_ h3 ?_
    · have := rlen_or r; omega
    · rw [h5]; exact ⟨h1, h2⟩
end Go.AE
