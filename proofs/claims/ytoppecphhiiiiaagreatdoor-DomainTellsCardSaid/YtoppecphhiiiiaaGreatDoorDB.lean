/- Contracts of functions that the laws of this seat reach, and plain laws of what they compute. No condition beyond each statement's own. -/
import Derived.Test.YtoppecphhiiiiaaGreatDoorSE
import Derived.Test.YtoppecphhiiiiaaGreatDoorLA
import Derived.Lib.CountLaws
import Derived.Test.YtoppecphhiiiiaaGreatDoorV1
import Derived.Test.YtoppecphhiiiiaaGreatDoorK1
import Derived.Test.YtoppecphhiiiiaaGreatDoorXE
set_option linter.unusedVariables false
set_option linter.unusedSimpArgs false
section
namespace Go.AE
set_option maxRecDepth 20000
theorem E2 (s : List UInt8) : dX s = Lib.replaceK fdot [46] (Lib.count s fdot) s := by
 unfold dX Lib.replaceAll Lib.replace
 rw [if_neg (by decide)]
 congr 1
theorem ZQ {s : List UInt8} (h : Lib.index s fdot = -1) : dX s = s := by
 rw [E2, Lib.count_miss h]; rfl
theorem E3 {s : List UInt8} {i : Nat} (h : Lib.index s fdot = i) : dX s = s.take i ++ [46] ++ dX (s.drop (i + 3)) := by
 rw [E2, E2, Lib.count_hit (by decide) h, Nat.add_comm 1, Lib.replaceK_hit _ _ _ _ i h]
 rfl
theorem ziz : dX [] = [] := by decide
theorem zj0 (t : List UInt8) : dX (227 :: 128 :: 130 :: t) = 46 :: dX t := by
 have h : Lib.index (227 :: 128 :: 130 :: t) fdot = (0 : Nat) := by
  rw [Lib.index, if_pos (by simp [fdot, List.isPrefixOf])]; rfl
 rw [E3 h]; rfl
theorem ZO {c : UInt8} {t : List UInt8} (h : fdot.isPrefixOf (c :: t) = false) : dX (c :: t) = c :: dX t := by
 by_cases hm : Lib.index t fdot = -1
 ·have h2 : Lib.index (c :: t) fdot = -1 := by
   rw [Lib.index, if_neg (by simp [h]), if_pos (by rw [hm]; rfl)]
  rw [ZQ h2, ZQ hm]
 ·have hg := Lib.index_ge t fdot
  obtain ⟨i, hi⟩ : ∃ i : Nat, Lib.index t fdot = i := ⟨(Lib.index t fdot).toNat, by omega⟩
  have h2 : Lib.index (c :: t) fdot = (i + 1 : Nat) := by
   rw [Lib.index, if_neg (by simp [h]), if_neg (by simpa using hm), hi]; rfl
  rw [E3 h2, E3 hi]
  simp only [List.take_succ_cons, List.cons_append]
  congr 3
theorem nQ {c : UInt8} (h : c ≠ 227) (t : List UInt8) : dX (c :: t) = c :: dX t :=
 ZO (by simp [fdot, List.isPrefixOf, Ne.symm h])
def uQ (xs : List UInt8) : List (List UInt8) → List (List UInt8)
 | p :: ps => (xs ++ p) :: ps
 | [] => [xs]
theorem zi9 {c : UInt8} (h : c ≠ 46) (s : List UInt8) : pcs (c :: s) = uQ [c] (pcs s) := by
 rw [pcs, if_neg h]
 cases pcs s <;> rfl
theorem XN (s : List UInt8) : pcs (46 :: s) = [] :: pcs s := by rw [pcs, if_pos rfl]
theorem XO : ∀ (xs : List UInt8) (t : List UInt8), (∀ c ∈ xs, c ≠ 46) → pcs (xs ++ t) = uQ xs (pcs t)
 | [], t, _ => by
  have := DN t
  cases h : pcs t with
  | nil => exact absurd h this
  | cons p ps => simp [uQ, h]
 | c :: xs, t, h => by
  have ih := XO xs t fun c hc => h c (by simp [hc])
  show pcs (c :: (xs ++ t)) = _
  rw [zi9 (h c (by simp)), ih]
  cases hp : pcs t <;> simp [uQ]
theorem vU {n k : Int} (h0 : 0 ≤ n) (h1 : n < 256) (hk : n ≠ k) (k0 : 0 ≤ k) (k1 : k < 256) : cR n ≠ cR k := fun e => by
 have e1 := eM h0 h1
 have e2 := eM k0 k1
 rw [e] at e1
 omega
theorem QA {r : Int} (h : right r = true) : (∃ a, enc r = [cR a] ∧ a = r ∧ 0 ≤ a ∧ a ≤ 127) ∨ (∃ a b, enc r = [cR a, cR b] ∧ 192 ≤ a ∧ a < 224 ∧ 128 ≤ b ∧ b < 192) ∨
  (∃ a b c, enc r = [cR a, cR b, cR c] ∧ 224 ≤ a ∧ a < 240 ∧ 128 ≤ b ∧ b < 192 ∧ 128 ≤ c ∧ c < 192 ∧ r = (a - 224) * 4096 + (b - 128) * 64 + (c - 128)) ∨
  (∃ a b c d, enc r = [cR a, cR b, cR c, cR d] ∧ 240 ≤ a ∧ a < 248 ∧ 128 ≤ b ∧ b < 192 ∧ 128 ≤ c ∧ c < 192 ∧ 128 ≤ d ∧ d < 192) := by
 have hr := (lU r).1 h
 unfold enc
 rw [if_pos h]
 split
 ·exact .inl ⟨r, rfl, rfl, by omega, by omega⟩
 ·split
  ·exact .inr (.inl ⟨_, _, rfl, by omega, by omega, by omega, by omega⟩)
  ·split
   ·exact .inr (.inr (.inl ⟨_, _, _, rfl, by omega, by omega, by omega, by omega, by omega, by omega, by omega⟩))
   ·exact .inr (.inr (.inr ⟨_, _, _, _, rfl, by omega, by omega, by omega, by omega, by omega, by omega, by omega, by omega⟩))
theorem zby {r : Int} (h : right r = true) (hd : r ≠ 46) : ∀ c ∈ enc r, c ≠ 46 := by
 have e46 : (46 : UInt8) = cR 46 := rfl
 rw [e46]
 rcases QA h with ⟨a, e, h1, h2, h3⟩ | ⟨a, b, e, h1, h2, h3, h4⟩ | ⟨a, b, c, e, h1, h2, h3, h4, h5, h6, _⟩ | ⟨a, b, c, d, e, h1, h2, h3, h4, h5, h6, h7, h8⟩ <;> rw [e] <;> intro x hx <;>
  simp only [List.mem_cons, List.not_mem_nil, or_false] at hx
 ·subst hx; exact vU (by omega) (by omega) (by omega) (by decide) (by decide)
 ·rcases hx with rfl | rfl <;> exact vU (by omega) (by omega) (by omega) (by decide) (by decide)
 ·rcases hx with rfl | rfl | rfl <;> exact vU (by omega) (by omega) (by omega) (by decide) (by decide)
 ·rcases hx with rfl | rfl | rfl | rfl <;> exact vU (by omega) (by omega) (by omega) (by decide) (by decide)
theorem ziy {r : Int} (h : right r = true) (hd : r ≠ 12290) (t : List UInt8) : dX (enc r ++ t) = enc r ++ dX t := by
 have ne : ∀ {n : Int}, 0 ≤ n → n < 256 → n ≠ 227 → cR n ≠ 227 := fun h0 h1 h2 => vU (k := 227) h0 h1 h2 (by decide) (by decide)
 rcases QA h with ⟨a, e, h1, h2, h3⟩ | ⟨a, b, e, h1, h2, h3, h4⟩ | ⟨a, b, c, e, h1, h2, h3, h4, h5, h6, h7⟩ | ⟨a, b, c, d, e, h1, h2, h3, h4, h5, h6, h7, h8⟩ <;> rw [e] <;> simp only [List.cons_append, List.nil_append]
 ·rw [nQ (ne (by omega) (by omega) (by omega))]
 ·rw [nQ (ne (by omega) (by omega) (by omega)), nQ (ne (by omega) (by omega) (by omega))]
 ·have hp : fdot.isPrefixOf (cR a :: cR b :: cR c :: t) = false := by
   simp only [fdot, List.isPrefixOf, Bool.and_true]
   cases hq : ((227 : UInt8) == cR a && ((128 : UInt8) == cR b && (130 : UInt8) == cR c)) with
   | false => rfl
   | true =>
    simp only [Bool.and_eq_true, beq_iff_eq] at hq
    obtain ⟨q1, q2, q3⟩ := hq
    have e1 := eM (n := a) (by omega) (by omega)
    have e2 := eM (n := b) (by omega) (by omega)
    have e3 := eM (n := c) (by omega) (by omega)
    rw [← q1] at e1; rw [← q2] at e2; rw [← q3] at e3
    have t1 : ((227 : UInt8).toNat : Int) = 227 := rfl
    have t2 : ((128 : UInt8).toNat : Int) = 128 := rfl
    have t3 : ((130 : UInt8).toNat : Int) = 130 := rfl
    omega
  rw [ZO hp, nQ (ne (by omega) (by omega) (by omega)), nQ (ne (by omega) (by omega) (by omega))]
 ·rw [nQ (ne (by omega) (by omega) (by omega)), nQ (ne (by omega) (by omega) (by omega)), nQ (ne (by omega) (by omega) (by omega)), nQ (ne (by omega) (by omega) (by omega))]
theorem XR : ∀ l : List Int, bW l = true → pcs (dX (l.flatMap enc)) = (rpcs l).map fun p => p.flatMap enc
 | [], _ => by rw [List.flatMap_nil, ziz]; rfl
 | r :: l, h => by
  rw [l8] at h
  have hr := h r (by simp)
  have ih := XR l (l8.2 fun x hx => h x (by simp [hx]))
  rw [List.flatMap_cons]
  by_cases h1 : r = 46
  ·subst h1
   have e : enc 46 = [46] := by decide
   have e3 : rpcs (46 :: l) = [] :: rpcs l := by show (if c9 46 then _ else _) = _; rw [if_pos (by decide)]
   rw [e, e3, List.map_cons, ← ih]
   show pcs (dX (46 :: l.flatMap enc)) = _
   rw [nQ (by decide)]
   rw [XN]; rfl
  ·by_cases h2 : r = 12290
   ·subst h2
    have e : enc 12290 = [227, 128, 130] := by decide
    have e3 : rpcs (12290 :: l) = [] :: rpcs l := by show (if c9 12290 then _ else _) = _; rw [if_pos (by decide)]
    rw [e, e3, List.map_cons, ← ih]
    show pcs (dX (227 :: 128 :: 130 :: l.flatMap enc)) = _
    rw [zj0]
    rw [XN]; rfl
   ·have hd : c9 r = false := by simp [c9, h1, h2]
    have e3 : rpcs (r :: l) = match rpcs l with | p :: ps => (r :: p) :: ps | [] => [[r]] := by
     rw [rpcs, if_neg (by simp [hd])]; cases rpcs l <;> rfl
    rw [ziy hr h2, XO _ _ (zby hr h1), ih, e3]
    cases hq : rpcs l with
    | nil => exact absurd hq (z0f l)
    | cons p ps => simp [uQ]
structure PG (x : List UInt8) : Prop where
 fold : cF x = (x, true)
 nodot : ∀ r ∈ (runes x).1, c9 r = false
theorem PG.at_ {x : List UInt8} (h : cF x = (x, true)) : runes x = ((runes x).1, -1) ∧ x = (runes x).1.flatMap enc ∧ oV (runes x).1 ∧ bW (runes x).1 = true := by
 have h0 : ¬ 0 ≤ (runes x).2 := fun h0 => by unfold cF at h; rw [if_pos h0] at h; cases h
 have h1 := t7 h0
 rw [h] at h1
 have hx : x = d5 (dL (runes x).1) := congrArg Prod.fst h1
 have hr := oR x
 have h2 := EJ (s := x)
 rw [← hx] at h2
 have h3 : (runes x).1 = dL (runes x).1 := congrArg Prod.fst h2
 have e2 : (runes x).2 = -1 := by rw [h2]
 refine ⟨Prod.ext rfl e2, ?_, by rw [h3]; exact RR _, hr⟩
 have h4 : d5 (runes x).1 = (runes x).1.flatMap enc := by unfold d5; rw [if_pos hr]
 rw [← h4]
 rw [← h3] at hx
 exact hx
structure LabF (X A U : List UInt8) : Prop where
 a : bX X = (A, 0)
 u : dF X = (U, 0)
 pa : PG A
 pu : PG U
 aa : bX A = (A, 0)
 au : dF A = (U, 0)
 ua : bX U = (A, 0)
 uu : dF U = (U, 0)
 asc : ∀ c ∈ A, c.toNat < 128
 apos : 0 < A.length
 alen : A.length ≤ 63
 ulen : (runes U).1.length ≤ 63
 une : U ≠ []
theorem yL (x : List UInt8) {l : List (List UInt8)} (h : l ≠ []) : Lib.join (x :: l) [46] = x ++ 46 :: Lib.join l [46] := by
 cases l with
 | nil => exact absurd rfl h
 | cons y r => rw [Lib.join_cons, Lib.join_cons]; simp [Lib.joinTail]
theorem TG : ∀ (A B : List (List UInt8)), A ≠ [] → B ≠ [] → Lib.join (A ++ B) [46] = Lib.join A [46] ++ 46 :: Lib.join B [46]
 | [], _, h, _ => absurd rfl h
 | [x], B, _, h => by rw [List.singleton_append, yL x h, Lib.join_one]
 | x :: y :: A, B, _, h => by
  rw [List.cons_append, yL x (by simp), yL x (by simp), TG (y :: A) B (by simp) h]
  simp
theorem vK {m : Nat} : ∀ {l : List (List UInt8)}, (∀ x ∈ l, x.length ≤ m) → (Lib.join l [46]).length ≤ l.length * (m + 1)
 | [], _ => by rw [Lib.join_nil]; simp
 | [x], h => by rw [Lib.join_one]; have := h x (by simp); simp; omega
 | x :: y :: l, h => by
  have ih := vK (l := y :: l) fun z hz => h z (by simp [hz])
  have h1 := h x (by simp)
  have e : (x :: y :: l).length * (m + 1) = (y :: l).length * (m + 1) + (m + 1) := Nat.succ_mul _ _
  rw [yL x (by simp), List.length_append, e, List.length_cons]
  omega
theorem tX {l : List Int} (h : bW l = true) : d5 l = l.flatMap enc := by unfold d5; rw [if_pos h]
theorem zcl {l : List Int} (h : bW l = true) (hf : oV l) : cF (l.flatMap enc) = (l.flatMap enc, true) ∧ runes (l.flatMap enc) = (l, -1) := by
 have hr := rQ h
 rw [tX h] at hr
 refine ⟨?_, hr⟩
 rw [t7 (by rw [hr]; dsimp only; omega), hr]
 dsimp only
 rw [hf.1, tX h]
theorem UM {s : List UInt8} (h : ¬ 0 ≤ (runes s).2) : dD s = (rpcs (dL (runes s).1)).map (fun p => p.flatMap enc) ∧ ∀ x ∈ dD s, PG x ∧ (runes x).1.length ≤ (dL (runes s).1).length := by
 have hok := C9 (oR s)
 have e : dD s = (rpcs (dL (runes s).1)).map (fun p => p.flatMap enc) := by
  unfold dD
  rw [t7 h]
  dsimp only
  rw [tX hok, XR _ hok]
 refine ⟨e, fun x hx => ?_⟩
 rw [e] at hx
 obtain ⟨p, hp, rfl⟩ := List.mem_map.1 hx
 obtain ⟨q1, q2, q3, q4⟩ := zjk _ _ (Nat.le_refl _) (RR (runes s).1) p hp
 have hpo : bW p = true := l8.2 fun r hr => l8.1 hok r (q4 r hr)
 obtain ⟨f1, f2⟩ := zcl hpo q1
 exact ⟨⟨f1, by rw [f2]; exact q2⟩, by rw [f2]; exact q3⟩
theorem zfh {s : List UInt8} (h : dM s = 0) : ¬ 0 ≤ (runes s).2 := fun h0 => by
 unfold dM cF at h
 rw [if_pos h0] at h
 cases h
structure n8 (s : List UInt8) : Prop where
 len : s.length ≤ 100000
 run : (runes s).1.length ≤ 10000
 fl : (cF s).1.length ≤ 100000
 lab : dM s = 0 → ∀ x ∈ dD s, cF x = (x, true) ∧ (runes x).1.length ≤ 1000
theorem kM {s : List UInt8} (h : s.length ≤ 250) : n8 s := by
 have h1 := EK s
 have h2 := RS (runes s).1
 have h3 := nY (dL (runes s).1)
 refine ⟨by omega, by omega, ?_, fun he x hx => ?_⟩
 ·by_cases h0 : 0 ≤ (runes s).2
  ·unfold cF; rw [if_pos h0]; simp
  ·rw [t7 h0]; dsimp only; omega
 ·obtain ⟨_, q⟩ := UM (zfh he)
  obtain ⟨q1, q2⟩ := q x hx
  exact ⟨q1.fold, by omega⟩
def eR (s : List UInt8) : List UInt8 × List UInt8 × Int := if dM s ≠ 0 then ([], [], dM s) else jY (dD s)
theorem D0 {s : List UInt8} (h : dM s = 0) : (cF s).2 = true ∧ (cF s).1 ≠ [] ∧ (dD s).length ≤ 32 := by
 unfold dM at h
 split at h
 ·cases h
 ·rename_i h1
  split at h
  ·cases h
  ·rename_i h2
   split at h
   ·cases h
   ·rename_i h3
    exact ⟨by simpa using h1, h2, by unfold dD; omega⟩
theorem zfi (s : List UInt8) : dD s ≠ [] := DN _
end Go.AE
end
section
namespace Go.AE
set_option maxRecDepth 20000
theorem PX : ∀ {s : List UInt8}, s ≠ [] → s.drop (s.length - 1) = [s.getD (s.length - 1) 0]
 | [], h => absurd rfl h
 | [c], _ => rfl
 | c :: d :: l, _ => by
  have ih := PX (s := d :: l) (by simp)
  have e : (c :: d :: l).length - 1 = (d :: l).length - 1 + 1 := by simp
  rw [e, List.drop_succ_cons, ih]
  simp [List.getD]
theorem zbc (s : List UInt8) : i6 s = decide (0 < s.length ∧ ((s.getD 0 0).toNat = 45 ∨ (s.getD (s.length - 1) 0).toNat = 45 ∨ (3 < s.length ∧ (s.getD 2 0).toNat = 45 ∧ (s.getD 3 0).toNat = 45))) := by
 have e45 : ∀ c : UInt8, c = 45 ↔ c.toNat = 45 := fun c => ⟨fun h => by rw [h]; rfl, fun h => UInt8.toNat.inj (by rw [h]; rfl)⟩
 by_cases h0 : s = []
 ·subst h0; rfl
 have hd := PX h0
 have hl : 0 < s.length := List.length_pos_iff.2 h0
 unfold i6
 rw [hd, Bool.eq_iff_iff]
 obtain ⟨c, l, rfl⟩ := List.exists_cons_of_ne_nil h0
 simp only [Bool.or_eq_true, Bool.and_eq_true, decide_eq_true_eq, beq_iff_eq, List.cons.injEq, and_true, ← e45]
 have h3 : (3 < (c :: l).length ∧ List.drop 2 (List.take 4 (c :: l)) = [45, 45]) ↔ (3 < (c :: l).length ∧ (c :: l).getD 2 0 = 45 ∧ (c :: l).getD 3 0 = 45) := by
  refine and_congr_right fun h3 => ?_
  match l, h3 with
  | [], h => simp at h
  | [_], h => simp at h
  | [_, _], h => simp at h
  | x :: y :: z :: l, _ => simp
 rw [h3]
 simp only [List.take_succ_cons, List.take_zero, List.cons.injEq, and_true, List.getD_cons_zero]
 simp only [List.length_cons]
 constructor
 ·rintro ((⟨_, h⟩ | ⟨_, h⟩) | h)
  ·exact ⟨by omega, .inl h⟩
  ·exact ⟨by omega, .inr (.inl h)⟩
  ·exact ⟨by omega, .inr (.inr h)⟩
 ·rintro ⟨_, h | h | h⟩
  ·exact .inl (.inl ⟨by omega, h⟩)
  ·exact .inl (.inr ⟨by omega, h⟩)
  ·exact .inr h
theorem UQ (c : UInt8) : ldh c = true ↔ (97 ≤ c.toNat ∧ c.toNat ≤ 122) ∨ (65 ≤ c.toNat ∧ c.toNat ≤ 90) ∨ (48 ≤ c.toNat ∧ c.toNat ≤ 57) ∨ c.toNat = 45 := by
 have e45 : c = 45 ↔ c.toNat = 45 := ⟨fun h => by rw [h]; rfl, fun h => UInt8.toNat.inj (by rw [h]; rfl)⟩
 unfold ldh
 simp only [Bool.or_eq_true, Bool.and_eq_true, decide_eq_true_eq, beq_iff_eq, e45]
 omega
theorem z96 {s : List UInt8} (h : ∀ j, j < s.length → ldh (s.getD j 0) = true) : s.all ldh = true := List.all_eq_true.2 fun c hc => by
 obtain ⟨j, hj, e⟩ := List.getElem_of_mem hc
 have := h j hj
 rwa [show s.getD j 0 = c by simp [List.getD, hj, e]] at this
theorem zha {s : List UInt8} {j : Nat} (hj : j < s.length) (h : ldh (s.getD j 0) = false) : s.all ldh = false := by
 rw [List.all_eq_false]
 exact ⟨s.getD j 0, by simp [List.getD, hj], by rw [h]; simp⟩
theorem z9y {s : List UInt8} (h : 0 ≤ eight s) (ha : ¬ 0 ≤ (runes s).2) : 0 < (runes s).1.length := by
 apply Classical.byContradiction; intro h0
 have hb := z0s s
 have ha' : (runes s).2 = -1 := (z0r s).resolve_right ha
 rw [ha', xR, List.take_length] at hb
 have : (runes s).1 = [] := List.length_eq_zero_iff.1 (by omega)
 rw [this] at hb
 exact Q4 h (by rw [← hb.2.1]; rfl)
theorem zkq {L : List Int} {k : Nat} (hk : k < L.length) (h : n5 L k = true) : n6 L = true := List.any_eq_true.2 ⟨k, List.mem_range.2 hk, h⟩
theorem zkr {L : List Int} (h : ∀ k, k < L.length → n5 L k = false) : n6 L = false := List.any_eq_false.2 fun k hk => by rw [h k (List.mem_range.1 hk)]; simp
theorem zlh {s : List UInt8} (h : ¬ 0 ≤ (runes s).2) : jC s = if oA s = true then 4 else if i6 s = true then 11 else if (cat ((runes s).1.getD 0 0) == 4) = true then 10 else if n6 (runes s).1 = true then 8
  else if (gW (runes s).1 && !iE (runes s).1) = true then 9 else if (!bW (runes s).1) = true then 12 else if 63 < 4 + (fJ (runes s).1).length then 5 else 0 := by
 simp only [jC, gN, decide_eq_true_eq]
 rw [if_neg h]
def oO (x : List UInt8 × List UInt8 × Int) : List UInt8 × List UInt8 × Int := if x.2.2 ≠ 0 then ([], [], x.2.2) else x
theorem zS {a u : List UInt8} {e : Int} (h : e = 0) : oO (a, u, e) = (a, u, 0) := by unfold oO; rw [if_neg (by simp [h])]; rw [h]
theorem pW {a u : List UInt8} {e : Int} (h : e ≠ 0) : oO (a, u, e) = ([], [], e) := by unfold oO; rw [if_pos h]
theorem zip (s : List UInt8) : oO (dK s) = ((bX s).1, (dF s).1, (bX s).2) := by
 unfold oO bX dF
 by_cases h : (dK s).2.2 = 0
 ·rw [if_neg (by simp [h]), if_neg (by simp [h]), if_neg (by simp [h])]
  exact Prod.ext rfl (Prod.ext rfl h)
 ·rw [if_pos h, if_pos h, if_pos h]
theorem FJ {x : List UInt8} (hf : cF x = (x, true)) (hl : (runes x).1.length ≤ 1000) : (bX x).1.length ≤ 63 ∧ (dF x).1.length ≤ 4000 := by
 have h0 : ¬ 0 ≤ (runes x).2 := fun h0 => by unfold cF at hf; rw [if_pos h0] at hf; cases hf
 have h1 := t7 h0
 rw [hf] at h1
 have hx : x = d5 (dL (runes x).1) := congrArg Prod.fst h1
 have h2 := EJ (s := x)
 rw [← hx] at h2
 have h3 : (runes x).1 = dL (runes x).1 := congrArg Prod.fst h2
 have hxl := nY (dL (runes x).1)
 rw [← hx, ← h3] at hxl
 by_cases he : (dK x).2.2 = 0
 ·obtain ⟨e1, e2⟩ := zl4 he
  rw [e1, e2]
  rw [za7 hf] at he ⊢
  unfold uL at he ⊢
  split
  ·rename_i h8
   rw [if_pos h8] at he
   have := (zlj he).len
   refine ⟨?_, by dsimp only; omega⟩
   rw [List.length_append]; exact this
  ·rename_i h8
   rw [if_neg h8] at he
   split
   ·rename_i ha
    rw [if_pos ha] at he
    obtain ⟨_, q, _⟩ := zia.1 he
    exact ⟨q, by dsimp only; omega⟩
   ·rename_i ha
    rw [if_neg ha] at he
    cases hp : j5 (x.drop 4) with
    | none => rw [hp] at he; cases he
    | some l =>
     rw [hp] at he
     dsimp only at he ⊢
     split at he
     ·cases he
     ·rename_i h63
      rw [if_neg h63]
      have hd := (BP hp).2
      have hsl := nY l
      rw [List.length_drop] at hd
      split
      ·simp
      ·split
       ·simp
       ·exact ⟨by dsimp only; omega, by dsimp only; omega⟩
 ·obtain ⟨e1, e2⟩ := zl2 he
  rw [e1, e2]; simp
end Go.AE
end
section
namespace Go.AE
open Go.Proofs
set_option maxRecDepth 20000
set_option maxHeartbeats 8000000
set_option linter.unusedSimpArgs false
theorem sD (b : ByteArray) : (Value.string b).cells = [Value.string b].toArray := rfl
theorem nE {P Q R S : Prop} (a : Q) (b : R) (c : S) (h : Mk P → bD Q → bD R → bD S → P := by
 intro m q r s
 repeat' first | refine aM (by first | assumption | (apply_assumption <;> omega)) ?_ ?_ | refine cM.fit (by assumption) ?_ | simp (maxSteps := 4000000) (disch := omega) only [aZ, aY, bun, ↓aW, ↓aV, aO, findLabel, ↓reduceIte, imp, shift, aR, aJ, unown, names, aQ, below, aD, aC, aT, aU, aS, ren, aN, aP, aX, renO, belowM, seval, -Int.reduceToNat, bT, b9, Int.reduceToNat, eA, List.map_nil, List.nil_append, bR, sD, m5, gJ, *] | exact bH _ | refine bG _ _ ?_ | exact bC.cl | refine bE _ ?_ | refine bF _ _ ?_ ?_ | refine bA _ ?_ | refine fkx ?_ tru <;> intro hg | refine fkx ?_ ?_ <;> intro hg | exact fkx tru tru | refine And.intro (by omega) ?_ | omega
 first
 | done
 | all_goals (repeat revert hg)
   exact q.out
   first
   | done
   | exact r.out
     first
     | done
     | exact s.out
       first | done | fail) : P := h ⟨tru⟩ ⟨a⟩ ⟨b⟩ ⟨c⟩
theorem zbn (s : List UInt8) (hs : s.length ≤ 10000000) (hl : (runes s).1.length ≤ 10000) (hX : (cF s).1.length ≤ 100000) (h : dM s ≠ 0) : aG Tryz.prog 32 [tab, Sv s] (.tup [Sv [], Sv [], aA (dM s)]) := by
 have c := UO s hs hl hX h
 rw [← cT] at c ⊢
 refine sp [.cell 4 9, .cell 5 9, .cell 6 32] Tryz.func32 Tryz.ntmps32 ?_
 exact nE tru tru tru
theorem PP (s : List UInt8) (h : n8 s) : aG Tryz.prog 32 [tab, Sv s] (.tup [Sv (eR s).1, Sv (eR s).2.1, aA (eR s).2.2]) := by
 unfold eR
 by_cases he : dM s = 0
 ·rw [if_neg (by simp [he])]
  have hlab := h.lab he
  obtain ⟨_, _, h32⟩ := D0 he
  have hl := h.len
  have hjA : (jA (dD s)).length ≤ (dD s).length * (63 + 1) := by
   have := vK (m := 63) (l := (dD s).map fun x => (bX x).1) fun y hy => by
    obtain ⟨x, hx, rfl⟩ := List.mem_map.1 hy
    exact (FJ (hlab x hx).1 (hlab x hx).2).1
   rwa [List.length_map] at this
  have hjU : (jU (dD s)).length ≤ (dD s).length * (4000 + 1) := by
   have := vK (m := 4000) (l := (dD s).map fun x => (dF x).1) fun y hy => by
    obtain ⟨x, hx, rfl⟩ := List.mem_map.1 hy
    exact (FJ (hlab x hx).1 (hlab x hx).2).2
   rwa [List.length_map] at this
  have b1 : (dD s).length * (63 + 1) ≤ 32 * 64 := Nat.mul_le_mul_right _ h32
  have b2 : (dD s).length * (4000 + 1) ≤ 32 * 4001 := Nat.mul_le_mul_right _ h32
  refine zbo s (dD s) (zfi s) (by omega) (D1 s (by omega) h.run h.fl he) (fun x hx => ?_) (by omega) (by omega)
  obtain ⟨q1, q2⟩ := hlab x hx
  obtain ⟨_, p2, _, p4⟩ := PG.at_ q1
  have hxl := nY (runes x).1
  rw [tX p4, ← p2] at hxl
  exact za8 x x true (by omega) (by omega) q1 (by omega) q2
 ·rw [if_pos he]
  exact zbn s (by have := h.len; omega) h.run h.fl he
theorem qP (s : List UInt8) (h : n8 s) : aG Tryz.prog 12 [tab, Sv s] (.tup [Sv (eR s).1, aA (eR s).2.2]) := by
 have c := PP s h
 rw [← cT] at c ⊢
 refine sp [.tmp 4, .tmp 5] Tryz.func12 Tryz.ntmps12 ?_
 exact nE tru tru tru
theorem PC (s : List UInt8) (h : n8 s) : aG Tryz.prog 13 [tab, Sv s] (.tup [Sv (eR s).2.1, aA (eR s).2.2]) := by
 have c := PP s h
 rw [← cT] at c ⊢
 refine sp [.tmp 4, .tmp 5] Tryz.func13 Tryz.ntmps13 ?_
 exact nE tru tru tru
def tS (a b : List UInt8) : Bool := ((eR a).2.2 == 0 && (eR b).2.2 == 0) && (eR a).1 == (eR b).1
theorem A5 (a b : List UInt8) (ha : n8 a) (hb : n8 b) : aG Tryz.prog 18 [tab, Sv a, Sv b] (Bv (tS a b)) := by
 have c1 := qP a ha
 have c2 := qP b hb
 rw [← cT] at c1 c2 ⊢
 unfold tS
 generalize eR a = x at *
 generalize eR b = y at *
 obtain ⟨x1, x2, x3⟩ := x
 obtain ⟨y1, y2, y3⟩ := y
 dsimp only at *
 refine sp [.tmp 6] Tryz.func18 Tryz.ntmps18 ?_
 by_cases h1 : x3 = 0
 ·subst h1
  by_cases h2 : y3 = 0
  ·subst h2
   cases h3 : x1 == y1
   ·exact nE tru tru tru
   ·exact nE tru tru tru
  ·have h2' : (y3 == 0) = false := by simpa using h2
   exact nE tru tru tru
 ·have h1' : (x3 == 0) = false := by simpa using h1
  exact nE tru tru tru
def pC (s : List UInt8) : List UInt8 × Int := if (eR s).2.2 = 0 ∧ eight s < 0 then (s, 0) else ((eR s).1, (eR s).2.2)
theorem PU (s : List UInt8) (h : n8 s) : aG Tryz.prog 15 [tab, Sv s] (.tup [Sv (pC s).1, aA (pC s).2]) := by
 have c1 := qP s h
 have c2 := u7 s (by have := h.len; omega)
 rw [← cT] at c1 ⊢
 unfold pC
 generalize eR s = x at *
 obtain ⟨x1, x2, x3⟩ := x
 dsimp only at *
 refine sp [.tmp 4, .tmp 5] Tryz.func15 Tryz.ntmps15 ?_
 by_cases h1 : x3 = 0
 ·subst h1
  by_cases h2 : eight s < 0
  ·rw [if_pos ⟨rfl, h2⟩]
   exact nE tru tru tru
  ·rw [if_neg (fun h => h2 h.2)]
   exact nE tru tru tru
 ·rw [if_neg (fun h => h1 h.1)]
  have h1' : (x3 == 0) = false := by simpa using h1
  exact nE tru tru tru
end Go.AE
-- types: B0 B3 B4 B9 B29 B31 B32 B33 B36 B38 B76
end
section
namespace Go.AE
open Go.Proofs
set_option maxRecDepth 20000
set_option maxHeartbeats 8000000
set_option linter.unusedSimpArgs false
theorem lW : aG Tryz.prog 8 [] (Bv true) := by
 have a1 := qP [65, 46, 98, 195, 188, 99, 104, 101, 114, 227, 128, 130, 99] (kM (by decide))
 rw [show eR [65, 46, 98, 195, 188, 99, 104, 101, 114, 227, 128, 130, 99] = ([97, 46, 120, 110, 45, 45, 98, 99, 104, 101, 114, 45, 107, 118, 97, 46, 99], [97, 46, 98, 195, 188, 99, 104, 101, 114, 46, 99], 0) by decide +kernel] at a1
 have a2 := PC [65, 46, 120, 110, 45, 45, 98, 99, 104, 101, 114, 45, 107, 118, 97] (kM (by decide))
 rw [show eR [65, 46, 120, 110, 45, 45, 98, 99, 104, 101, 114, 45, 107, 118, 97] = ([97, 46, 120, 110, 45, 45, 98, 99, 104, 101, 114, 45, 107, 118, 97], [97, 46, 98, 195, 188, 99, 104, 101, 114], 0) by decide +kernel] at a2
 have a3 := qP [97, 46, 46, 98] (kM (by decide))
 rw [show eR [97, 46, 46, 98] = ([], [], 13) by decide +kernel] at a3
 have a4 := qP [] (kM (by decide))
 rw [show eR [] = ([], [], 13) by decide +kernel] at a4
 have a5 := PU [65, 46, 98] (kM (by decide))
 rw [show pC [65, 46, 98] = ([65, 46, 98], 0) by decide +kernel] at a5
 have a6 := D1 [97, 46, 98] (by decide) (by decide) (by decide +kernel) (by decide +kernel)
 rw [show dD [97, 46, 98] = [[97], [98]] by decide +kernel] at a6
 have b1 := A5 [98, 195, 156, 99, 104, 101, 114] [88, 78, 45, 45, 98, 99, 104, 101, 114, 45, 107, 118, 97] (kM (by decide)) (kM (by decide))
 rw [show tS [98, 195, 156, 99, 104, 101, 114] [88, 78, 45, 45, 98, 99, 104, 101, 114, 45, 107, 118, 97] = true by decide +kernel] at b1
 have b2 := A5 [97] [98] (kM (by decide)) (kM (by decide))
 rw [show tS [97] [98] = false by decide +kernel] at b2
 have b3 := A5 [] [] (kM (by decide)) (kM (by decide))
 rw [show tS [] [] = false by decide +kernel] at b3
 rw [← cT] at a1 a2 a3 a4 a5 a6 b1 b2 b3
 refine sp [.tmp 0] Tryz.func8 Tryz.ntmps8 ?_
 repeat' first | refine aM (mN) ?_ ?_ | refine aM (a1) ?_ ?_ | refine aM (a2) ?_ ?_ | refine aM (a3) ?_ ?_ | refine aM (a4) ?_ ?_ | refine aM (a5) ?_ ?_ | refine aM (a6) ?_ ?_ | refine aM (b1) ?_ ?_ | refine aM (b2) ?_ ?_ | refine aM (b3) ?_ ?_ | simp (maxSteps := 4000000) (disch := omega) only [aZ, aY, bun, ↓aW, ↓aV, aO, findLabel, ↓reduceIte, imp, shift, aR, aJ, unown, names, aQ, below, aD, aC, aT, aU, aS, ren, aN, aP, aX, renO, belowM, seval, -Int.reduceToNat, bT, b9, Int.reduceToNat, eA, List.map_nil, List.nil_append, sD, m5, gJ] | exact bH _ | refine bG _ _ ?_ | exact bC.cl | refine bE _ ?_ | refine bF _ _ ?_ ?_ | refine bA _ ?_ | refine fkx ?_ tru <;> intro hg | refine fkx ?_ ?_ <;> intro hg | exact fkx tru tru | refine And.intro (by omega) ?_ | omega
end Go.AE
-- types: B0 B3 B4 B9 B29 B31 B32 B33 B36
end
section
namespace Go.AE
set_option maxRecDepth 20000
theorem z0c {d : Int} (hd : c9 d = true) (B : List Int) : ∀ A : List Int, rpcs (A ++ d :: B) = rpcs A ++ rpcs B
 | [] => by show (if c9 d then _ else _) = _; rw [if_pos hd]; rfl
 | c :: A => by
  have ih := z0c hd B A
  show (if c9 c then _ else _) = (if c9 c then _ else _) ++ _
  split
  ·show [] :: rpcs (A ++ d :: B) = _
   rw [ih]; rfl
  ·show (match rpcs (A ++ d :: B) with | p :: ps => (c :: p) :: ps | [] => [[c]]) = (match rpcs A with | p :: ps => (c :: p) :: ps | [] => [[c]]) ++ _
   rw [ih]
   cases hq : rpcs A with
   | nil => exact absurd hq (z0f A)
   | cons p ps => rfl
end Go.AE
end
section
namespace Go.AE
open Go.Proofs
set_option maxRecDepth 20000
set_option maxHeartbeats 8000000
set_option linter.unusedSimpArgs false
theorem zh1 (L : List Int) (k : Nat) (hk : k < L.length) : need L (k : Int) = fI L k := by
 unfold need
 rw [if_pos (by omega)]; rfl
theorem zbd : lch 45 = true := by decide +kernel
theorem gV {P Q R S : Prop} {H : Prop} (o : H) (a : Q) (b : R) (c : S) (h : H → Mk P → bD Q → bD R → bD S → P := by
 intro w m q r s
 repeat' first | refine aM (by first | assumption | (apply_assumption <;> omega)) ?_ ?_ | refine cM.fit (by assumption) ?_ | simp (maxSteps := 4000000) (disch := omega) only [aZ, aY, bun, ↓aW, ↓aV, aO, findLabel, ↓reduceIte, imp, shift, aR, aJ, unown, names, aQ, below, aD, aC, aT, aU, aS, ren, aN, aP, aX, renO, belowM, seval, -Int.reduceToNat, bT, b9, Int.reduceToNat, eA, List.map_nil, List.nil_append, bR, List.length_map, w] | exact bH _ | refine bG _ _ ?_ | exact bC.cl | refine bE _ ?_ | refine bF _ _ ?_ ?_ | refine bA _ ?_ | refine fkx ?_ tru <;> intro hg | refine fkx ?_ ?_ <;> intro hg | exact fkx tru tru | refine And.intro (by omega) ?_ | omega
 first
 | done
 | all_goals (repeat revert hg)
   exact q.out
   first
   | done
   | exact r.out
     first
     | done
     | exact s.out
       first | done | fail) : P := h o ⟨tru⟩ ⟨a⟩ ⟨b⟩ ⟨c⟩
theorem zjb (r : Int) : aG Tryz.prog 86 [aB r] (Bv (lch r)) := by
 have hs := rN r
 have hc := ZF r
 refine sp [.tmp 2] Tryz.func86 Tryz.ntmps86 ?_
 by_cases h45 : r = 45
 ·subst h45
  rw [zbd]
  exact gV tru tru tru tru
 ·have e : lch r = (!soB r && decide (2 ≤ cat r ∧ cat r ≤ 5)) := by
   have e45 : (r == 45) = false := by simpa using h45
   unfold lch; rw [e45, Bool.or_false]
  rw [e]
  unfold soB
  cases h1 : (spl r).2 <;> cases h2 : (spl r).1.2.2.2.1 <;> cases h3 : (spl r).1.2.2.2.2
  all_goals
   repeat' first | refine aM (hs) ?_ ?_ | refine aM (hc) ?_ ?_ | simp (maxSteps := 4000000) (disch := omega) only [aZ, aY, bun, ↓aW, ↓aV, aO, findLabel, ↓reduceIte, imp, shift, aR, aJ, unown, names, aQ, below, aD, aC, aT, aU, aS, ren, aN, aP, aX, renO, belowM, seval, -Int.reduceToNat, h1, h2, h3, bT, b9, Int.reduceToNat, eA, List.map_nil, List.nil_append, bR] | exact bH _ | refine bG _ _ ?_ | exact bC.cl | refine bE _ ?_ | refine bF _ _ ?_ ?_ | refine bA _ ?_ | refine fkx ?_ tru <;> intro hg | refine fkx ?_ ?_ <;> intro hg | exact fkx tru tru | refine And.intro (by omega) ?_ | omega
  all_goals (congr 2; rw [Bool.eq_iff_iff]; simp only [decide_eq_true_eq, true_iff, Bool.false_eq_true, false_iff, iff_false, iff_true, Bool.and_eq_true]; omega)
theorem ZK (s : List UInt8) (hs : s.length ≤ 10000000) : aG Tryz.prog 83 [Sv s] (Bv (i6 s)) := by
 refine sp [.tmp 2] Tryz.func83 Tryz.ntmps83 ?_
 rw [zbc]
 have e1 : 0 < s.length → ((s.length : Int) - 1).toNat = s.length - 1 := fun h => by omega
 repeat' first | simp (maxSteps := 4000000) (disch := omega) only [aZ, aY, bun, ↓aW, ↓aV, aO, findLabel, ↓reduceIte, imp, shift, aR, aJ, unown, names, aQ, below, aD, aC, aT, aU, aS, ren, aN, aP, aX, renO, belowM, seval, -Int.reduceToNat, bT, b9, Int.reduceToNat, eA, List.map_nil, List.nil_append, bR] | refine bA _ ?_ | refine fkx ?_ tru <;> intro hg | refine fkx ?_ ?_ <;> intro hg | exact fkx tru tru | refine And.intro (by omega) ?_ | omega
 all_goals
  (try simp only [e1 (by omega)] at *)
  congr 2
  rw [Bool.eq_iff_iff]
  simp only [decide_eq_true_eq, beq_iff_eq, true_iff, Bool.false_eq_true, false_iff]
  omega
theorem zjm (s : List UInt8) (hs : s.length ≤ 10000000) : aG Tryz.prog 56 [Sv s] (aA (iD s)) := by
 have h := ZK s hs
 refine sp [.tmp 2] Tryz.func56 Tryz.ntmps56 ?_
 by_cases h0 : s = []
 ·subst h0
  rw [show iD [] = 13 by decide]
  exact gV tru tru tru tru
 ·have h0' : (s == []) = false := by simpa using h0
  by_cases h63 : 63 < s.length
  ·rw [show iD s = 5 by simp [iD, gN, h0, h63]]
   exact gV h0' tru tru tru
  ·refine gV h0' ?_ tru tru <;> intros
   refine bL (fun i : Nat => ⟨[(0, Sv s), (3, aA i)], []⟩) (fun i => i ≤ s.length ∧ ∀ j, j < i → ldh (s.getD j 0) = true) (fun i => s.length - i) 0 (by simp) bN ?_
   rintro i ⟨hi, ha⟩
   by_cases hlt : i < s.length
   ·cases hq : ldh (s.getD i 0) with
    | true =>
     have hq' := (UQ _).1 hq
     repeat' first | simp (maxSteps := 4000000) (disch := omega) only [aZ, aY, bun, ↓aW, ↓aV, aO, findLabel, ↓reduceIte, imp, shift, aR, aJ, unown, names, aQ, below, aD, aC, aT, aU, aS, ren, aN, aP, aX, renO, belowM, seval, -Int.reduceToNat, bT, b9, Int.reduceToNat, eA, List.map_nil, List.nil_append, bR] | refine bA _ ?_ | refine fkx ?_ tru <;> intro hg | refine fkx ?_ ?_ <;> intro hg | exact fkx tru tru | refine And.intro (by omega) ?_ | omega
     all_goals first
      | omega
      | exact ⟨i + 1, ⟨by omega, fun j hj => by
        by_cases e : j = i
        ·subst e; exact hq
        ·exact ha j (by omega)⟩, by omega, bN⟩
      | trace_state
    | false =>
     have hq' : ¬ _ := fun x => by rw [(UQ _).2 x] at hq; cases hq
     rw [show iD s = 8 by simp [iD, gN, h0, h63, zha hlt hq]]
     exact gV tru tru tru tru
     all_goals first | omega | trace_state
   ·have hall := z96 fun j hj => ha j (by omega)
    have e : iD s = if i6 s then 11 else 0 := by simp [iD, gN, h0, h63, hall]
    rw [e]
    cases hd : i6 s <;> rw [hd] at h
    ·exact gV tru tru tru tru
    ·exact gV tru tru tru tru
theorem z0t (s : List UInt8) (hs : s.length ≤ 10000000) (hl : (runes s).1.length ≤ 1000) : aG Tryz.prog 54 [Sv s] (aA (jC s)) := by
 have hr := A3 s
 have hi : ∀ c ∈ (runes s).1, iT c := fun c hc => by have := hr c hc; unfold bO at this; unfold iT; omega
 have hok := oR s
 have hu := pX s (by omega)
 have hf := z05 s false true (by omega) (by omega)
 have h8 := DZ s (by omega)
 have hd := ZK s (by omega)
 have hh := zj7 (runes s).1 hl
 have hru := zjn (runes s).1 hl
 have he := E1 (runes s).1 hl
 rw [hok] at he
 refine sp [.tmp 2] Tryz.func54 Tryz.ntmps54 ?_
 by_cases h0 : 0 ≤ (runes s).2
 ·rw [show jC s = 7 by simp [jC, gN, h0]]
  generalize (runes s).1 = L at *
  generalize (runes s).2 = a at *
  exact gV tru tru tru tru
 ·have hfs : (eG false true s).2 = true := by rw [RV h0]
  have hbig := fun h => @z9y s h h0
  rw [zlh h0]
  unfold oA
  rw [hfs] at hf ⊢
  rw [hok]
  generalize (eG false true s).1 = X at *
  have hpl := zR (runes s).1 (by omega)
  generalize (runes s).1 = L at *
  generalize (runes s).2 = a at *
  by_cases h1 : eight s < 0
  ·rw [if_pos (by simp [h1])]
   exact gV h1 tru tru tru
  ·cases hx : X == s with
   | false =>
    rw [if_pos (by simp)]
    exact gV (And.intro h1 hx) tru tru tru
   | true =>
    rw [if_neg (by simp; omega)]
    have hl0 := hbig (by omega)
    cases hdd : i6 s with
    | true =>
     rw [hdd] at hd
     rw [if_pos rfl]
     exact gV (And.intro h1 hx) tru tru tru
    | false =>
     rw [hdd] at hd
     rw [if_neg (by simp)]
     have hc0 := ZF (L.getD 0 0)
     by_cases hm : cat (L.getD 0 0) = 4
     ·rw [if_pos (by rw [hm]; rfl)]
      exact gV (And.intro h1 (And.intro hx hm)) tru tru tru
     ·rw [if_neg (fun h => hm (eq_of_beq h))]
      refine gV (And.intro h1 (And.intro hx hm)) ?_ tru tru <;> intros
      refine bL (fun i : Nat => ⟨[(3, .ref 0 0 L.length), (7, aA i)], [.arr 21 1 (L.map aB)]⟩) (fun i => i ≤ L.length ∧ ∀ j, j < i → n5 L j = false) (fun i => L.length - i) 0 (by simp) bN ?_
      rintro i ⟨hi1, hi2⟩
      by_cases hlt : i < L.length
      ·have hn := zjf L hl hi i (by omega) (by omega)
       rw [zh1 L i hlt] at hn
       have hp := zjb (L.getD i 0)
       have hbk : n5 L i = (fI L i == 2 || (fI L i == 0 && !lch (L.getD i 0))) := rfl
       cases hq : n5 L i with
       | true =>
        rw [if_pos (zkq hlt hq)]
        rw [hq] at hbk
        by_cases g2 : fI L i = 2
        ·exact gV g2 tru tru tru
        ·have g3 : fI L i = 0 ∧ lch (L.getD i 0) = false := by
          have g2' : (fI L i == 2) = false := by simpa using g2
          rw [g2', Bool.false_or] at hbk
          simpa using hbk.symm
         exact gV (And.intro g3.1 g3.2) tru tru tru
       | false =>
        rw [hq] at hbk
        have g2 : ¬ fI L i = 2 := fun h => by rw [h] at hbk; simp at hbk
        have g2' : (fI L i == 2) = false := by simpa using g2
        rw [g2', Bool.false_or] at hbk
        have nxt : ∀ j, j < i + 1 → n5 L j = false := fun j hj => by
         by_cases hji : j = i
         ·subst hji; exact hq
         ·exact hi2 j (by omega)
        by_cases g3 : fI L i = 0
        ·have g4 : lch (L.getD i 0) = true := by rw [g3] at hbk; simpa using hbk.symm
         refine gV (And.intro g2 (And.intro g3 g4)) ?_ tru tru <;> intros
         all_goals exact ⟨i + 1, ⟨by omega, nxt⟩, by omega, by (simp (disch := omega) [wk, aL, aI, aD, aC, get, aK, belowM, below, belows, aA, aB, Bv, U8, Sv, List.map_nil] <;> try omega)⟩
        ·refine gV (And.intro g2 g3) ?_ tru tru <;> intros
         all_goals exact ⟨i + 1, ⟨by omega, nxt⟩, by omega, by (simp (disch := omega) [wk, aL, aI, aD, aC, get, aK, belowM, below, belows, aA, aB, Bv, U8, Sv, List.map_nil] <;> try omega)⟩
      ·rw [if_neg (by rw [zkr fun j hj => hi2 j (by omega)]; simp)]
       cases hb1 : gW L <;> cases hb2 : iE L <;> rw [hb1] at hh <;> rw [hb2] at hru <;> simp only [Bool.not_true, Bool.not_false, Bool.and_true, Bool.and_false, Bool.false_eq_true, if_false, if_true, Bool.and_self]
       all_goals by_cases h63 : 63 < 4 + (fJ L).length
       all_goals first | rw [if_pos h63] | rw [if_neg h63] | skip
       all_goals
        exact gV tru tru tru tru
theorem E7 (s : List UInt8) (hs : s.length ≤ 10000000) (hl : (runes s).1.length ≤ 2500) : aG Tryz.prog 29 [Sv s] (.tup [Sv (cF s).1, Bv (cF s).2]) := by
 have hr := oR s
 have h1 := zk9 (runes s).1 (by omega)
 have h2 := zjd ((runes s).1.map nar) (by rw [List.length_map]; omega)
 rw [VZ, List.length_map] at h2
 have h3 := wH ((runes s).1.map lw) (by rw [List.length_map]; omega)
 rw [List.length_map] at h3
 have hn := nY ((runes s).1.map lw)
 rw [List.length_map] at hn
 have hrr := rQ (yZ hr)
 have h4 := z05 (d5 ((runes s).1.map lw)) false true (by omega) (by rw [hrr]; simp; omega)
 have hk1 : List.take (runes s).1.length (((runes s).1.map nar).map aB) = ((runes s).1.map nar).map aB := List.take_of_length_le (by simp)
 have hk2 : List.take (runes s).1.length (((runes s).1.map lw).map aB) = ((runes s).1.map lw).map aB := List.take_of_length_le (by simp)
 refine sp [.tmp 2, .tmp 3] Tryz.func29 Tryz.ntmps29 ?_
 rw [RT]
 generalize d5 ((runes s).1.map lw) = Z at *
 generalize bW ((runes s).1.map lw) = zo at *
 generalize hf : eG false true Z = fz at *
 clear hrr hn
 by_cases h0 : 0 ≤ (runes s).2
 ·rw [if_pos h0]
  (have := pX s (by omega); exact gV tru tru tru tru)
 ·rw [if_neg h0]
  (have := pX s (by omega); exact gV (And.intro hk1 hk2) tru tru tru)
end Go.AE
-- types: B0 B3 B4 B5 B9 B21 B32 B53 B56 B63 B64 B134
end
section
namespace Go.AE
open Go.Proofs
set_option maxRecDepth 20000
set_option maxHeartbeats 8000000
set_option linter.unusedSimpArgs false
theorem ziq (s X : List UInt8) (o : Bool) (hs : s.length ≤ 10000000) (hl : (runes s).1.length ≤ 2500) (e1 : cF s = (X, o)) (e2 : X.length ≤ 10000) (e3 : (runes X).1.length ≤ 1000) :
  aG Tryz.prog 33 [Sv s] (.tup [Sv (oO (dK s)).1, Sv (oO (dK s)).2.1, aA (oO (dK s)).2.2]) := by
 have c1 := E7 s hs hl
 have c3 := DZ X (by omega)
 have c4 := pX X (by omega)
 have c5 := E1 (runes X).1 (by omega)
 have c6 := z0t X (by omega) e3
 have c7 := zjm X (by omega)
 have hpl := zR (runes X).1 e3
 rw [e1] at c1
 dsimp only at c1
 unfold dK
 rw [e1]
 dsimp only
 refine sp [.tmp 2, .tmp 3, .tmp 4] Tryz.func33 Tryz.ntmps33 ?_
 unfold uL
 cases o with
 | false =>
  rw [if_pos rfl, pW (by decide)]
  exact eD tru tru tru
 | true =>
  rw [if_neg (by simp)]
  by_cases h8 : 0 ≤ eight X
  ·rw [if_pos h8]
   by_cases hw : jC X = 0
   ·rw [zS hw]
    rw [hw] at c6
    unfold ace
    exact eD tru tru tru
   ·rw [pW hw]
    generalize jC X = wv at *
    exact eD tru tru tru
  ·rw [if_neg h8]
   have plain : qK X = false → ∀ e, e = iD X → (X.length < 4 ∨ ((4 ≤ X.length) ∧ (X.take 4 == [120, 110, 45, 45]) = false)) := fun ha _ _ => by
    unfold qK ace at ha
    by_cases h4 : X.length < 4
    ·exact .inl h4
    ·rw [decide_eq_true (by omega), Bool.true_and] at ha
     exact .inr ⟨by omega, ha⟩
   cases ha : qK X with
   | false =>
    rw [if_pos rfl]
    rcases plain ha _ rfl with h4 | ⟨h4, h5⟩
    ·by_cases hp : iD X = 0
     ·rw [zS hp]
      rw [hp] at c7
      exact eD tru tru tru
     ·rw [pW hp]
      generalize iD X = pv at *
      exact eD tru tru tru
    ·by_cases hp : iD X = 0
     ·rw [zS hp]
      rw [hp] at c7
      exact eD tru tru tru
     ·rw [pW hp]
      generalize iD X = pv at *
      exact eD tru tru tru
   | true =>
    rw [if_neg (by simp)]
    have h4 : 4 ≤ X.length ∧ (X.take 4 == [120, 110, 45, 45]) = true := by
     unfold qK ace at ha
     rw [Bool.and_eq_true, decide_eq_true_eq] at ha
     exact ha
    obtain ⟨h4, h5⟩ := h4
    have c8 := zir (X.drop 4) (by simp; omega)
    cases hp : j5 (X.drop 4) with
    | none =>
     rw [hp] at c8
     unfold qQ at c8
     dsimp only
     rw [pW (by decide)]
     exact eD tru tru tru
    | some l =>
     rw [hp] at c8
     unfold qQ at c8
     dsimp only at c8 ⊢
     by_cases h63 : 63 < X.length
     ·rw [if_pos h63, pW (by decide)]
      exact eD tru tru tru
     ·rw [if_neg h63]
      obtain ⟨d1, d2⟩ := BP hp
      have hll : l.length ≤ 63 := by simp at d2; omega
      have hsl := nY l
      have hr := rQ d1
      have q1 := wH l (by omega)
      have q2 := z0t (d5 l) (by omega) (by rw [hr]; dsimp only; omega)
      have q3 := E1 l (by omega)
      generalize jC (d5 l) = wv at *
      generalize d5 l = u at *
      by_cases hw : wv = 0
      ·subst hw
       rw [if_neg (by simp)]
       by_cases hpe : fJ l = X.drop 4
       ·rw [if_neg (by simp [hpe]), zS rfl]
        rw [hpe] at q3
        exact eD tru tru tru
       ·rw [if_pos hpe, pW (by decide)]
        have hb : (fJ l == X.drop 4) = false := by simpa using hpe
        exact eD tru tru tru
      ·rw [if_pos hw, pW hw]
       exact eD tru tru tru
end Go.AE
-- types: B3 B4 B9 B32 B56 B63 B64 B90
end
section
namespace Go.AE
theorem zjl {d : Int} (hd : c9 d = true) (A : List Int) : rpcs (A ++ [d]) = rpcs A ++ [[]] := z0c hd [] A
theorem z0h {c : Int} (hc : c9 c = false) : ∀ A : List Int, ∃ R q, rpcs A = R ++ [q] ∧ rpcs (A ++ [c]) = R ++ [q ++ [c]]
 | [] => ⟨[], [], rfl, by show (if c9 c then _ else _) = _; rw [if_neg (by simp [hc])]; rfl⟩
 | a :: A => by
  obtain ⟨R, q, h1, h2⟩ := z0h hc A
  cases ha : c9 a with
  | true =>
   refine ⟨[] :: R, q, ?_, ?_⟩
   ·show (if c9 a then _ else _) = _; rw [if_pos ha, h1]; rfl
   ·show (if c9 a then _ else _) = _; rw [if_pos ha]; show [] :: rpcs (A ++ [c]) = _; rw [h2]; rfl
  | false =>
   have e : ∀ l, rpcs (a :: l) = match rpcs l with | p :: ps => (a :: p) :: ps | [] => [[a]] := fun l => by
    rw [rpcs, if_neg (by simp [ha])]
    cases rpcs l <;> rfl
   show ∃ R q, rpcs (a :: A) = R ++ [q] ∧ rpcs (a :: (A ++ [c])) = R ++ [q ++ [c]]
   rw [e, e, h1, h2]
   cases R with
   | nil => exact ⟨[], a :: q, rfl, rfl⟩
   | cons r R => exact ⟨(a :: r) :: R, q, rfl, rfl⟩
def mF (p : List Int) : List UInt8 := p.flatMap enc
theorem zbx (q : List Int) (c : Int) : mF (q ++ [c]) = mF q ++ enc c := by simp [mF]
theorem zks {c : Int} (h : right c = true) : d5 [c] = enc c := by
 rw [tX (by rw [l8]; simpa using h)]; simp
theorem T8 {A : List (List UInt8)} (x : List UInt8) (h : A ≠ []) : Lib.join (A ++ [x]) [46] = Lib.join A [46] ++ [46] ++ x := by
 rw [TG A [x] h (by simp), Lib.join_one]; simp
theorem z0e : ∀ (l : List Int) (p : List Int), p ∈ rpcs l → p.length ≤ l.length
 | [], p, h => by simp [rpcs] at h; subst h; simp
 | a :: A, p, h => by
  have ih := z0e A
  rw [rpcs] at h
  split at h
  ·rcases List.mem_cons.1 h with rfl | h
   ·simp
   ·have := ih p h; simp only [List.length_cons]; omega
  ·split at h
   ·rename_i q qs e
    rcases List.mem_cons.1 h with rfl | h
    ·have := ih q (by rw [e]; simp); simp only [List.length_cons]; omega
    ·have := ih p (by rw [e]; simp [h]); simp only [List.length_cons]; omega
   ·simp at h; subst h; simp
theorem zbw (q : List Int) : (mF q).length ≤ 4 * q.length := by
 induction q with
 | nil => simp [mF]
 | cons c q ih =>
  have := QB c
  unfold mF at ih ⊢
  rw [List.flatMap_cons, List.length_append, List.length_cons]; omega
end Go.AE
end
section
namespace Go.AE
open Go.Proofs
set_option maxRecDepth 20000
set_option maxHeartbeats 8000000
set_option linter.unusedSimpArgs false
theorem WJ : ∀ (R : List (List UInt8)) (x : AV), nth (R.map Sv ++ [x]) R.length = x
 | [], _ => rfl
 | _ :: R, x => WJ R x
theorem z18 : ∀ (R : List (List UInt8)) (x y : AV), nU (R.map Sv ++ [x]) R.length y = R.map Sv ++ [y]
 | [], _, _ => rfl
 | r :: R, x, y => congrArg (Sv r :: ·) (z18 R x y)
theorem lI {P Q R S : Prop} (a : Q) (b : R) (c : S) (h : Mk P → bD Q → bD R → bD S → P := by
 intro m q r s
 repeat' first | refine aM (by first | assumption | (apply_assumption <;> omega)) ?_ ?_ | refine cM.fit (by assumption) ?_ | simp (maxSteps := 4000000) (disch := omega) only [aZ, aY, bun, ↓aW, ↓aV, aO, findLabel, ↓reduceIte, imp, shift, aR, aJ, unown, names, aQ, below, aD, aC, aT, aU, aS, ren, aN, aP, aX, renO, belowM, seval, -Int.reduceToNat, bT, b9, Int.reduceToNat, eA, List.map_nil, List.nil_append, bR, WJ, z18, *] | exact bH _ | refine bG _ _ ?_ | exact bC.cl | refine bE _ ?_ | refine bF _ _ ?_ ?_ | refine bA _ ?_ | refine fkx ?_ tru <;> intro hg | refine fkx ?_ ?_ <;> intro hg | exact fkx tru tru | refine And.intro (by omega) ?_ | omega
 first
 | done
 | all_goals (repeat revert hg)
   exact q.out
   first
   | done
   | exact r.out
     first
     | done
     | exact s.out
       first | done | fail) : P := h ⟨tru⟩ ⟨a⟩ ⟨b⟩ ⟨c⟩
theorem z0b (l m : List (List UInt8)) (hl : l.length < 1000000000) : aG Tryz.prog 17 [.sl l.length (l.map Sv), .sl m.length (m.map Sv)] (Bv (decide (l = m))) := by
 refine sp [.tmp 4] Tryz.func17 Tryz.ntmps17 ?_
 refine lI ?_ ?_ tru <;> intros
 ·have : l ≠ m := by intro h; subst h; omega
  simp [this]
 ·refine bL (fun i : Nat => ⟨[(0, .sl l.length (l.map Sv)), (1, .sl m.length (m.map Sv)), (5, aA i)], []⟩) (fun i => i ≤ l.length ∧ l.take i = m.take i) (fun i => l.length - i) 0 (by simp) bN ?_
  intro i ⟨hi, he⟩
  by_cases hlt : i < l.length
  ·cases hb : (l.getD i [] == m.getD i []) with
   | false =>
    have : l ≠ m := by intro h; subst h; simp at hb
    have e : decide (l = m) = false := by simp [this]
    rw [e]
    exact lI tru tru tru
   | true =>
    refine lI ?_ tru tru <;> intros
    refine ⟨i + 1, ⟨by omega, ?_⟩, by omega, bN⟩
    rw [gB _ _ [] (by omega), gB _ _ [] (by omega), he, eq_of_beq hb]
  ·have : l = m := by
    have e : i = l.length := by omega
    subst e
    rw [List.take_length] at he
    rw [he, List.take_of_length_le (by omega)]
   have e : decide (l = m) = true := by simp [this]
   rw [e]
   exact lI tru tru tru
theorem zj9 (s : List UInt8) (hs : s.length ≤ 10000000) (hl : (runes s).1.length ≤ 2500) (h : (cF s).2 = false ∨ (cF s).1 = []) : aG Tryz.prog 11 [Sv s] (.tup [.own 9 1 0 [], aA (dM s)]) := by
 have c1 := E7 s hs hl
 refine sp [.tmp 2, .tmp 3] Tryz.func11 Tryz.ntmps11 ?_
 unfold dM
 generalize hf : cF s = fz at *
 obtain ⟨X, o⟩ := fz
 dsimp only at *
 cases o with
 | false =>
  rw [if_pos (by rfl)]
  exact lI tru tru tru
 | true =>
  rw [if_neg (by simp)]
  rcases h with h | rfl
  ·cases h
  ·rw [if_pos rfl]
   exact lI tru tru tru
theorem zja (s : List UInt8) (hs : s.length ≤ 10000000) (hl : (runes s).1.length ≤ 2500) (h : (cF s).2 = true) (h0 : (cF s).1 ≠ []) :
  aG Tryz.prog 11 [Sv s] (.tup [.own 9 1 (if 32 < (dD s).length then 0 else (dD s).length) ((if 32 < (dD s).length then [] else dD s).map Sv), aA (dM s)]) := by
 have hn : ¬ 0 ≤ (runes s).2 := fun h1 => by unfold cF at h; rw [if_pos h1] at h; cases h
 have c1 := E7 s hs hl
 have hfl := RS (runes s).1
 have hrf := EJ (s := s)
 have hxl := nY (dL (runes s).1)
 have hfs := t7 hn
 have hok := C9 (oR s)
 have e0 : dM s = if 32 < (dD s).length then 2 else 0 := by
  unfold dM dD
  rw [if_neg (by simp [h]), if_neg h0]
 rw [e0, (UM hn).1]
 rw [hfs] at c1 h0
 dsimp only at c1 h0
 have c2 := pX (d5 (dL (runes s).1)) (by omega)
 rw [hrf] at c2
 dsimp only at c2
 generalize d5 (dL (runes s).1) = X at *
 generalize dL (runes s).1 = L at *
 have hx : (X == []) = false := by simpa using h0
 have hLl : L.length ≤ 10000 := by omega
 clear hrf hfs h e0 hn
 refine sp [.tmp 2, .tmp 3] Tryz.func11 Tryz.ntmps11 ?_
 refine lI ?_ tru tru <;> intros
 refine bL (fun i : Nat => ⟨[(6, .ref 1 0 L.length), (8, .ref 2 0 (rpcs (L.take i)).length), (9, aA i)], [.dead, .arr 21 1 (L.map aB), .arr 9 1 (((rpcs (L.take i)).map mF).map Sv)]⟩) (fun i => i ≤ L.length ∧ (rpcs (L.take i)).length ≤ i + 1) (fun i => L.length - i) 0 (by simp [rpcs]) (by (simp (disch := omega) [wk, aL, aI, aD, aC, get, aK, belowM, below, belows, aA, aB, Bv, U8, Sv, rpcs, mF] <;> try omega)) ?_
 rintro i ⟨hi, hn⟩
 by_cases hlt : i < L.length
 ·have ht := gB L i 0 hlt
  have hr : right (L.getD i 0) = true := l8.1 hok _ (by simp [List.getD, hlt])
  cases hd : c9 (L.getD i 0) with
  | true =>
   have e := zjl hd (L.take i)
   rw [← ht] at e
   rcases PS.1 hd with hd' | hd'
   ·refine lI ?_ tru tru <;> intros
    all_goals
     refine ⟨i + 1, ⟨by omega, by rw [e]; simp; omega⟩, by omega, ?_⟩
     rw [e]
     (simp (disch := omega) [wk, aL, aI, aD, aC, get, aK, belowM, below, belows, aA, aB, Bv, U8, Sv, mF] <;> try omega)
   ·refine lI ?_ tru tru <;> intros
    all_goals
     refine ⟨i + 1, ⟨by omega, by rw [e]; simp; omega⟩, by omega, ?_⟩
     rw [e]
     (simp (disch := omega) [wk, aL, aI, aD, aC, get, aK, belowM, below, belows, aA, aB, Bv, U8, Sv, mF] <;> try omega)
  | false =>
   obtain ⟨R, q, e1, e2⟩ := z0h hd (L.take i)
   rw [← ht] at e2
   have d1 : ¬ L.getD i 0 = 46 := fun e => by rw [e] at hd; revert hd; decide
   have d2 : ¬ L.getD i 0 = 12290 := fun e => by rw [e] at hd; revert hd; decide
   have hs : aG Tryz.prog 31 [.sl 1 [aB (L.getD i 0)]] (.tup [Sv (d5 [L.getD i 0]), Bv (bW [L.getD i 0])]) := wH [L.getD i 0] (by simp)
   rw [zks hr] at hs
   have ew : ((i : Int) + 1).toNat - i = 1 := by omega
   have et : List.take 1 (List.drop i (L.map aB)) = [aB (L.getD i 0)] := by
    rw [List.drop_eq_getElem_cons (by simpa using hlt)]
    simp [List.getD, hlt]
   have es := zbx q (L.getD i 0)
   rw [e1] at hn ⊢
   obtain ⟨O, hO⟩ : ∃ O, R.map mF = O := ⟨_, rfl⟩
   have hOl : R.length = O.length := by rw [← hO]; simp
   simp only [List.map_append, List.map_cons, List.map_nil, List.length_append, List.length_cons, List.length_nil] at hn ⊢
   rw [hOl] at hn
   rw [hO, hOl]
   have ek : ((O.length + 1 : Nat) - 1 : Int).toNat = O.length := by omega
   have hq := z0e (L.take i) q (by rw [e1]; simp)
   rw [List.length_take] at hq
   have hq1 := zbw q
   have hq2 := BY (L.getD i 0)
   refine lI ?_ tru tru <;> intros
   all_goals
    refine ⟨i + 1, ⟨by omega, by rw [e2]; simp; omega⟩, by omega, ?_⟩
    rw [e2]
    simp only [List.map_append, List.map_cons, List.map_nil, List.length_append, List.length_cons, List.length_nil]
    rw [hO, es, hOl]
    (simp (disch := omega) [wk, aL, aI, aD, aC, get, aK, belowM, below, belows, aA, aB, Bv, U8, Sv, ] <;> try omega)
 ·have e : i = L.length := by omega
  subst e
  rw [List.take_length] at *
  by_cases h32 : 32 < (rpcs L).length
  ·rw [if_pos h32, if_pos h32, if_pos h32]
   exact lI tru tru tru
  ·rw [if_neg h32, if_neg h32, if_neg h32]
   refine lI ?_ tru tru <;> intros
   rfl
end Go.AE
-- types: B0 B3 B4 B9 B21 B31 B32 B56 B63 B64
end
