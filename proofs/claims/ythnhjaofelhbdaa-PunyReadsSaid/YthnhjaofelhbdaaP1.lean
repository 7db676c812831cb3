/- Contracts of functions that the laws of this seat reach, and plain laws of what they compute. No condition beyond each statement's own. -/
import Derived.Test.YthnhjaofelhbdaaAERule
import Derived.Test.YthnhjaofelhbdaaV3
import Derived.Laws.RangeString
set_option linter.unusedVariables false
set_option linter.unusedSimpArgs false
/- Numbers in digits: what is computed. -/
namespace Go.AE

def dg (n : Int) : Int := if 0 ≤ n ∧ n < 26 then 97 + n else if 26 ≤ n ∧ n < 36 then 22 + n else 0
def dgOk (n : Int) : Bool := decide (0 ≤ n) && decide (n < 36)
def vl (c : Int) : Int := if 48 ≤ c ∧ c ≤ 57 then c - 22 else if 65 ≤ c ∧ c ≤ 90 then c - 65 else if 97 ≤ c ∧ c ≤ 122 then c - 97 else 0
def vlOk (c : Int) : Bool := (decide (48 ≤ c) && decide (c ≤ 57)) || (decide (65 ≤ c) && decide (c ≤ 90)) || (decide (97 ≤ c) && decide (c ≤ 122))

/-- The bias behind a number: its last part. -/
def adF : Nat → Int → Int → Int
  | 0, _, k => k
  | f + 1, d, k => if 455 < d then adF f (d / 35) (k + 36) else k + 36 * d / (d + 38)
def adD (d c : Int) (first : Bool) : Int := (if first then d / 700 else d / 2) + (if first then d / 700 else d / 2) / c
def adapt (d c : Int) (first : Bool) : Int := adF 20 (adD d c first) 0

def thr (k b : Int) : Int := max 1 (min 26 (k - b))

def dgb (n : Int) : UInt8 := UInt8.ofNat (dg n).toNat

/-- A number in digits, from a place on. -/
def wrF : Nat → Int → Int → Int → List UInt8
  | 0, _, _, _ => []
  | f + 1, n, k, b => if n < thr k b then [dgb n] else dgb (thr k b + (n - thr k b) % (36 - thr k b)) :: wrF f ((n - thr k b) / (36 - thr k b)) (k + 36) b
def wr (n b : Int) : List UInt8 := wrF 64 n 36 b

/-- The least character from a number on; -1: there is none. -/
def nxt (l : List Int) (n : Int) : Int := l.foldl (fun o r => if n ≤ r ∧ (o < 0 ∨ r < o) then r else o) (-1)

theorem div_bound {x c : Int} (hx : 0 ≤ x) (hc : 1 ≤ c) : 0 ≤ x / c ∧ x / c ≤ x := ⟨Int.ediv_nonneg hx (by omega), Int.ediv_le_self _ hx⟩
theorem adapt_true (d c : Int) : adapt d c true = adF 20 (d / 700 + d / 700 / c) 0 := rfl
theorem adapt_false (d c : Int) : adapt d c false = adF 20 (d / 2 + d / 2 / c) 0 := rfl
theorem adF_ok {f : Nat} {d k : Int} (h : 0 ≤ d) (hk : 0 ≤ k) : 0 ≤ adF f d k ∧ adF f d k ≤ k + 36 * f + 36 := by
  induction f generalizing d k with
  | zero => simp [adF]; omega
  | succ f ih =>
    unfold adF
    split
    · have := ih (d := d / 35) (k := k + 36) (by omega) (by omega)
      omega
    · have h1 : 0 ≤ 36 * d / (d + 38) := Int.ediv_nonneg (by omega) (by omega)
      have h2 : 36 * d / (d + 38) ≤ 36 := Int.ediv_le_of_le_mul (by omega) (by omega)
      omega
theorem adapt_ok {d c : Int} {first : Bool} (h : 0 ≤ d) (hc : 1 ≤ c) : 0 ≤ adapt d c first ∧ adapt d c first ≤ 756 := by
  have hd : 0 ≤ adD d c first := by
    unfold adD
    split
    · have := div_bound (x := d / 700) (c := c) (by omega) hc; omega
    · have := div_bound (x := d / 2) (c := c) (by omega) hc; omega
  have := adF_ok (f := 20) hd (Int.le_refl 0)
  unfold adapt
  omega
theorem wrF_len (f : Nat) : ∀ (n k b : Int), (wrF f n k b).length ≤ f := by
  induction f with
  | zero => intro n k b; simp [wrF]
  | succ f ih =>
    intro n k b
    unfold wrF
    split
    · simp
    · have := ih ((n - thr k b) / (36 - thr k b)) (k + 36) b
      simp only [List.length_cons]; omega
theorem wr_len (n b : Int) : (wr n b).length ≤ 64 := wrF_len _ _ _ _

end Go.AE
/- Characters by deltas: how they are written; and what bounds the numbers on the way. -/
namespace Go.AE

theorem foldl_take_snoc {α β : Type} (f : β → α → β) (a : β) (l : List α) (i : Nat) (d : α) (h : i < l.length) : (l.take (i + 1)).foldl f a = f ((l.take i).foldl f a) (l.getD i d) := by
  rw [take_snocD l i d h, List.foldl_append]; rfl

def rx (l : List Int) (n : Int) : Int := l.foldl (fun m r => if n ≤ r ∧ r < m then r else m) 1114112

/-- m is the least character from n on. -/
def Least (l : List Int) (n m : Int) : Prop := m ∈ l ∧ n ≤ m ∧ ∀ r ∈ l, n ≤ r → m ≤ r

theorem nxt_spec {n : Int} (hn : 0 ≤ n) : ∀ (l : List Int), (nxt l n = -1 ∧ ∀ r ∈ l, r < n) ∨ Least l n (nxt l n) := by
  intro l
  have key : ∀ (l p : List Int) (o : Int), ((o = -1 ∧ ∀ r ∈ p, r < n) ∨ Least p n o) → ((l.foldl (fun o r => if n ≤ r ∧ (o < 0 ∨ r < o) then r else o) o = -1 ∧ ∀ r ∈ p ++ l, r < n) ∨ Least (p ++ l) n (l.foldl (fun o r => if n ≤ r ∧ (o < 0 ∨ r < o) then r else o) o)) := by
    intro l
    induction l with
    | nil => intro p o h; simpa using h
    | cons a l ih =>
      intro p o h
      have e : p ++ a :: l = (p ++ [a]) ++ l := by simp
      rw [e, List.foldl_cons]
      refine ih _ _ ?_
      rcases h with ⟨rfl, h⟩ | ⟨h1, h2, h3⟩
      · by_cases ha : n ≤ a
        · rw [if_pos ⟨ha, .inl (by omega)⟩]
          right
          refine ⟨by simp, ha, fun r hr hnr => ?_⟩
          rcases List.mem_append.1 hr with hr | hr
          · have := h r hr; omega
          · simp at hr; omega
        · rw [if_neg (by omega)]
          left
          refine ⟨rfl, fun r hr => ?_⟩
          rcases List.mem_append.1 hr with hr | hr
          · exact h r hr
          · simp at hr; omega
      · right
        by_cases ha : n ≤ a ∧ a < o
        · rw [if_pos ⟨ha.1, .inr ha.2⟩]
          refine ⟨by simp, ha.1, fun r hr hnr => ?_⟩
          rcases List.mem_append.1 hr with hr | hr
          · have := h3 r hr hnr; omega
          · simp at hr; omega
        · rw [if_neg (by omega)]
          refine ⟨by simp [h1], h2, fun r hr hnr => ?_⟩
          rcases List.mem_append.1 hr with hr | hr
          · exact h3 r hr hnr
          · simp at hr; omega
  exact key l [] (-1) (.inl ⟨rfl, by simp⟩)

theorem rx_spec {n : Int} : ∀ (l : List Int), (rx l n = 1114112 ∧ ∀ r ∈ l, n ≤ r → 1114112 ≤ r) ∨ Least l n (rx l n) := by
  intro l
  have key : ∀ (l p : List Int) (o : Int), ((o = 1114112 ∧ ∀ r ∈ p, n ≤ r → 1114112 ≤ r) ∨ Least p n o) → ((l.foldl (fun m r => if n ≤ r ∧ r < m then r else m) o = 1114112 ∧ ∀ r ∈ p ++ l, n ≤ r → 1114112 ≤ r) ∨ Least (p ++ l) n (l.foldl (fun m r => if n ≤ r ∧ r < m then r else m) o)) := by
    intro l
    induction l with
    | nil => intro p o h; simpa using h
    | cons a l ih =>
      intro p o h
      have e : p ++ a :: l = (p ++ [a]) ++ l := by simp
      rw [e, List.foldl_cons]
      refine ih _ _ ?_
      by_cases ha : n ≤ a ∧ a < o
      · rw [if_pos ha]
        right
        refine ⟨by simp, ha.1, fun r hr hnr => ?_⟩
        rcases List.mem_append.1 hr with hr | hr
        · rcases h with ⟨rfl, h⟩ | ⟨_, _, h⟩
          · have := h r hr hnr; omega
          · have := h r hr hnr; omega
        · simp at hr; omega
      · rw [if_neg ha]
        rcases h with ⟨rfl, h⟩ | ⟨h1, h2, h3⟩
        · left
          refine ⟨rfl, fun r hr hnr => ?_⟩
          rcases List.mem_append.1 hr with hr | hr
          · exact h r hr hnr
          · simp at hr; omega
        · right
          refine ⟨by simp [h1], h2, fun r hr hnr => ?_⟩
          rcases List.mem_append.1 hr with hr | hr
          · exact h3 r hr hnr
          · simp at hr; omega
  exact key l [] 1114112 (.inl ⟨rfl, by simp⟩)

theorem least_uniq {l : List Int} {n a b : Int} (h : Least l n a) (k : Least l n b) : a = b := by
  have h1 := h.2.2 b k.1 k.2.1
  have h2 := k.2.2 a h.1 h.2.1
  omega

/-- Where some are missing there is a next one. -/
theorem next_of {l : List Int} {n : Int} (hn : 0 ≤ n) (hl : ∀ r ∈ l, r ≤ 1114111) (hc : l.countP (· < n) < l.length) : Least l n (nxt l n) ∧ rx l n = nxt l n := by
  have hex : ∃ r ∈ l, n ≤ r := by
    by_cases h : ∃ r ∈ l, n ≤ r
    · exact h
    · exfalso
      have : l.countP (· < n) = l.length := List.countP_eq_length.2 fun r hr => by
        simp; exact Int.lt_of_not_ge fun hge => h ⟨r, hr, hge⟩
      omega
  obtain ⟨r, hr, hnr⟩ := hex
  have h1 : Least l n (nxt l n) := by
    rcases nxt_spec hn l with ⟨_, h⟩ | h
    · have := h r hr; omega
    · exact h
  refine ⟨h1, ?_⟩
  rcases rx_spec (n := n) l with ⟨_, h⟩ | h
  · have := h r hr hnr; have := hl r hr; omega
  · exact least_uniq h h1

theorem count_step {n m : Int} : ∀ {l : List Int}, (∀ r ∈ l, n ≤ r → m ≤ r) → n ≤ m → l.countP (· < m + 1) = l.countP (· < n) + l.countP (· == m)
  | [], _, _ => rfl
  | a :: l, h, hnm => by
    have ih := count_step (l := l) (fun r hr => h r (List.mem_cons_of_mem _ hr)) hnm
    have ha := h a (by simp)
    simp only [List.countP_cons, ih]
    by_cases h1 : a < n
    · have h2 : ¬ a = m := by omega
      have h3 : a < m + 1 := by omega
      simp [h1, h2, h3]; omega
    · by_cases h2 : a = m
      · subst h2
        have h3 : a < a + 1 := by omega
        simp [h1, h3]; omega
      · have h3 : ¬ a < m + 1 := by omega
        simp [h1, h2, h3]

structure EnS where
  out : List UInt8
  delta : Int
  bias : Int
  h : Int

def enStep (m plain : Int) (s : EnS) (r : Int) : EnS :=
  if r < m then ⟨s.out, s.delta + 1, s.bias, s.h⟩ else if r = m then ⟨s.out ++ wr s.delta s.bias, 0, adapt s.delta (s.h + 1) (s.h == plain), s.h + 1⟩ else s

def enPass (l : List Int) (m plain : Int) (s : EnS) : EnS := l.foldl (enStep m plain) s

def enF (l : List Int) (plain : Int) : Nat → Int → EnS → List UInt8
  | 0, _, s => s.out
  | f + 1, n, s => if s.h < l.length then enF l plain f (nxt l n + 1) ⟨(enPass l (nxt l n) plain ⟨s.out, s.delta + (nxt l n - n) * (s.h + 1), s.bias, s.h⟩).out, (enPass l (nxt l n) plain ⟨s.out, s.delta + (nxt l n - n) * (s.h + 1), s.bias, s.h⟩).delta + 1, (enPass l (nxt l n) plain ⟨s.out, s.delta + (nxt l n - n) * (s.h + 1), s.bias, s.h⟩).bias, (enPass l (nxt l n) plain ⟨s.out, s.delta + (nxt l n - n) * (s.h + 1), s.bias, s.h⟩).h⟩ else s.out

def plainB (l : List Int) : List UInt8 := (l.filter (· < 128)).map ofI
def head0 (l : List Int) : List UInt8 := if 0 < (plainB l).length then plainB l ++ [45] else plainB l
def pnEnc (l : List Int) : List UInt8 := enF l (plainB l).length (l.length + 1) 128 ⟨head0 l, 0, 72, (plainB l).length⟩
def pnS (l : List Int) : List UInt8 := if strOk l then pnEnc l else []

theorem plainB_take (l : List Int) (i : Nat) (h : i < l.length) : plainB (l.take (i + 1)) = plainB (l.take i) ++ (if l.getD i 0 < 128 then [ofI (l.getD i 0)] else []) := by
  unfold plainB
  rw [take_snocD l i 0 h, List.filter_append, List.map_append]
  congr 1
  generalize l.getD i 0 = a
  by_cases h : a < 128 <;> simp [h]
theorem plainB_len (l : List Int) : (plainB l).length = l.countP (· < 128) := by
  simp [plainB, List.countP_eq_length_filter]
theorem plainB_le (l : List Int) : (plainB l).length ≤ l.length := by rw [plainB_len]; exact List.countP_le_length

/-- The numbers stay small. -/
structure EnI (l : List Int) (n : Int) (s : EnS) : Prop where
  n0 : 128 ≤ n
  n1 : n ≤ 1114112
  d0 : 0 ≤ s.delta
  d1 : s.delta ≤ (n - 128) * (l.length + 1)
  b0 : 0 ≤ s.bias
  b1 : s.bias ≤ 756
  hh : s.h = l.countP (· < n)
  len : s.out.length ≤ 1 + l.length + 64 * s.h

/-- The same within a pass. -/
structure EnJ (l : List Int) (m : Int) (s0 : EnS) (j : Nat) (s : EnS) : Prop where
  eq : s = (l.take j).foldl (enStep m (plainB l).length) s0
  d0 : 0 ≤ s.delta
  d1 : s.delta ≤ s0.delta + j
  b0 : 0 ≤ s.bias
  b1 : s.bias ≤ 756
  hh : s.h = s0.h + (l.take j).countP (· == m)
  h0 : 0 ≤ s0.h
  hl : s.h ≤ l.length
  len : s.out.length ≤ 1 + l.length + 64 * s.h

theorem EnI.first {l : List Int} {n : Int} {s : EnS} (h : EnI l n s) (hl : ∀ r ∈ l, r ≤ 1114111) (hlen : l.length ≤ 400) (hs : s.h < l.length) :
    Least l n (nxt l n) ∧ rx l n = nxt l n ∧ EnJ l (nxt l n) ⟨s.out, s.delta + (nxt l n - n) * (s.h + 1), s.bias, s.h⟩ 0 ⟨s.out, s.delta + (nxt l n - n) * (s.h + 1), s.bias, s.h⟩ ∧
      s.delta + (nxt l n - n) * (s.h + 1) ≤ (nxt l n - 128) * (l.length + 1) ∧ (nxt l n - 128) * (l.length + 1) ≤ 500000000 ∧ nxt l n ≤ 1114111 ∧ 0 ≤ (nxt l n - n) * (s.h + 1) := by
  have hhh := h.hh
  obtain ⟨h1, h2⟩ := next_of (n := n) (by have := h.n0; omega) hl (by omega)
  have hm := hl _ h1.1
  have hnm := h1.2.1
  have hn0 := h.n0
  generalize nxt l n = m at *
  have e1 : (m - n) * (s.h + 1) ≤ (m - n) * (l.length + 1) := Int.mul_le_mul_of_nonneg_left (by omega) (by omega)
  have e2 : (m - 128) * ((l.length : Int) + 1) ≤ 1113983 * (l.length + 1) := Int.mul_le_mul_of_nonneg_right (by omega) (by omega)
  have e3 : 0 ≤ (m - n) * (s.h + 1) := Int.mul_nonneg (by omega) (by omega)
  have e4 : (m - 128) * ((l.length : Int) + 1) = (m - n) * (l.length + 1) + (n - 128) * (l.length + 1) := by rw [← Int.add_mul]; congr 1; omega
  have hd := h.d1
  have hd0 := h.d0
  have := h.len
  refine ⟨h1, h2, ⟨rfl, ?_, ?_, h.b0, h.b1, by simp, ?_, ?_, this⟩, by omega, by omega, hm, e3⟩ <;> dsimp only <;> omega

theorem EnJ.next {l : List Int} {m : Int} {s0 s : EnS} {j : Nat} (h : EnJ l m s0 j s) (hj : j < l.length) (hd0 : 0 ≤ s0.delta) (hroom : s0.h + l.countP (· == m) ≤ l.length) : EnJ l m s0 (j + 1) (enStep m (plainB l).length s (l.getD j 0)) := by
  have hc : (l.take (j + 1)).countP (· == m) = (l.take j).countP (· == m) + (if l.getD j 0 = m then 1 else 0) := by
    rw [take_snocD l j 0 hj, List.countP_append]
    simp [List.countP_cons]
  have hcl : (l.take (j + 1)).countP (· == m) ≤ l.countP (· == m) := (List.take_sublist _ _).countP_le
  have e1 := h.d0
  have e2 := h.d1
  have e3 := h.hh
  have e4 := h.h0
  have e5 := h.hl
  have e6 := h.len
  have e7 := h.b0
  have e8 := h.b1
  refine ⟨by rw [foldl_take_snoc _ _ l j 0 hj, ← h.eq], ?_, ?_, ?_, ?_, ?_, h.h0, ?_, ?_⟩
  all_goals
    unfold enStep
    split
    · rename_i hlt
      rw [if_neg (by omega)] at hc
      dsimp only
      omega
    · split
      · rename_i hne heq
        rw [if_pos heq] at hc
        have ha := adapt_ok (d := s.delta) (c := s.h + 1) (first := s.h == ((plainB l).length : Int)) e1 (by omega)
        have hw := wr_len s.delta s.bias
        dsimp only
        first | (simp only [List.length_append]; omega) | omega
      · rename_i hne heq
        rw [if_neg heq] at hc
        omega

theorem EnJ.last {l : List Int} {n : Int} {s0 s : EnS} {m : Int} (h : EnJ l m s0 l.length s) (hm : Least l n m) (hn : 128 ≤ n) (hm1 : m ≤ 1114111) (hs : s0.h = l.countP (· < n)) (hd : s0.delta ≤ (m - 128) * (l.length + 1)) :
    EnI l (m + 1) ⟨s.out, s.delta + 1, s.bias, s.h⟩ ∧ s0.h < s.h := by
  have e3 := h.hh
  rw [List.take_length] at e3
  have hc := count_step (l := l) (n := n) (m := m) hm.2.2 hm.2.1
  have hpos : 0 < l.countP (· == m) := List.countP_pos_iff.2 ⟨m, hm.1, by simp⟩
  have e4 : (m + 1 - 128) * ((l.length : Int) + 1) = (m - 128) * (l.length + 1) + (l.length + 1) := by
    rw [show m + 1 - 128 = (m - 128) + 1 by omega, Int.add_mul, Int.one_mul]
  have e1 := h.d0
  have e2 := h.d1
  have hnm := hm.2.1
  refine ⟨⟨by omega, by omega, by dsimp only; omega, by dsimp only; omega, h.b0, h.b1, by dsimp only; omega, h.len⟩, by omega⟩
end Go.AE
/- Characters by deltas: how they are read. -/
namespace Go.AE

def rdN (b : Int) : List UInt8 → Int → Int → Int → Option (Int × List UInt8)
  | [], _, _, _ => none
  | c :: t, k, n, w =>
    if vlOk c.toNat = true ∧ w ≤ 2147483647 ∧ n + vl c.toNat * w ≤ 2147483647 then
      (if vl c.toNat < thr k b then some (n + vl c.toNat * w, t) else rdN b t (k + 36) (n + vl c.toNat * w) (w * (36 - thr k b)))
    else none
def rd (s : List UInt8) (b : Int) : Option (Int × List UInt8) := rdN b s 36 0 1

theorem rdN_nil (b k n w : Int) : rdN b [] k n w = none := rfl
theorem rdN_bad {b k n w : Int} {s : List UInt8} (hs : 0 < s.length) (h : ¬ (vlOk (s.getD 0 0).toNat = true ∧ w ≤ 2147483647 ∧ n + vl (s.getD 0 0).toNat * w ≤ 2147483647)) : rdN b s k n w = none := by
  cases s with
  | nil => simp at hs
  | cons c t => simp only [List.getD_cons_zero] at h; rw [rdN, if_neg h]
theorem rdN_last {b k n w : Int} {s : List UInt8} (hs : 0 < s.length) (h : vlOk (s.getD 0 0).toNat = true ∧ w ≤ 2147483647 ∧ n + vl (s.getD 0 0).toNat * w ≤ 2147483647) (hd : vl (s.getD 0 0).toNat < thr k b) : rdN b s k n w = some (n + vl (s.getD 0 0).toNat * w, s.drop 1) := by
  cases s with
  | nil => simp at hs
  | cons c t => simp only [List.getD_cons_zero] at h hd ⊢; rw [rdN, if_pos h, if_pos hd]; rfl
theorem rdN_more {b k n w : Int} {s : List UInt8} (hs : 0 < s.length) (h : vlOk (s.getD 0 0).toNat = true ∧ w ≤ 2147483647 ∧ n + vl (s.getD 0 0).toNat * w ≤ 2147483647) (hd : ¬ vl (s.getD 0 0).toNat < thr k b) : rdN b s k n w = rdN b (s.drop 1) (k + 36) (n + vl (s.getD 0 0).toNat * w) (w * (36 - thr k b)) := by
  cases s with
  | nil => simp at hs
  | cons c t => simp only [List.getD_cons_zero] at h hd ⊢; rw [rdN, if_pos h, if_neg hd]; rfl

theorem vl_ok (c : Int) : 0 ≤ vl c ∧ vl c ≤ 35 := by
  unfold vl
  repeat' split
  all_goals omega

theorem rdN_some {b : Int} : ∀ {s : List UInt8} {k n w d : Int} {r : List UInt8}, 0 ≤ n → 1 ≤ w → rdN b s k n w = some (d, r) → 0 ≤ d ∧ d ≤ 2147483647 ∧ ∃ p, s = p ++ r ∧ 0 < p.length
  | [], k, n, w, d, r, _, _, h => by cases h
  | c :: t, k, n, w, d, r, hn, hw, h => by
    rw [rdN] at h
    have hv := vl_ok c.toNat
    have hvw : 0 ≤ vl c.toNat * w := Int.mul_nonneg hv.1 (by omega)
    split at h
    · rename_i h1
      split at h
      · simp at h
        obtain ⟨rfl, rfl⟩ := h
        exact ⟨by omega, h1.2.2, [c], rfl, by simp⟩
      · obtain ⟨h2, h3, p, h4, _⟩ := rdN_some (k := k + 36) (w := w * (36 - thr k b)) (by omega) (by
          have : 1 ≤ thr k b ∧ thr k b ≤ 26 := by unfold thr; omega
          have := Int.mul_le_mul (a := 1) (b := 1) (c := w) (d := 36 - thr k b) hw (by omega) (by omega) (by omega)
          omega) h
        exact ⟨h2, h3, c :: p, by rw [h4]; rfl, by simp⟩
    · cases h
theorem rd_some {s : List UInt8} {b d : Int} {r : List UInt8} (h : rd s b = some (d, r)) : 0 ≤ d ∧ d ≤ 2147483647 ∧ ∃ p, s = p ++ r ∧ 0 < p.length := rdN_some (Int.le_refl 0) (Int.le_refl 1) h
theorem rd_len {s : List UInt8} {b d : Int} {r : List UInt8} (h : rd s b = some (d, r)) : r.length < s.length := by
  obtain ⟨_, _, p, h1, h2⟩ := rd_some h
  rw [h1, List.length_append]; omega

def insA (L : List Int) (i : Nat) (x : Int) : List Int := L.take i ++ x :: L.drop i

structure DcS where
  s : List UInt8
  n : Int
  i : Int
  bias : Int
  first : Bool
  out : List Int

def dcF : Nat → DcS → Option (List Int)
  | 0, _ => none
  | f + 1, x => if x.s = [] then some x.out else
    match rd x.s x.bias with
    | none => none
    | some (d, r) =>
      if 2147483647 < x.i + d then none else
      if 1114111 < x.n + (x.i + d) / (x.out.length + 1) ∨ right (x.n + (x.i + d) / (x.out.length + 1)) = false then none else
      dcF f ⟨r, x.n + (x.i + d) / (x.out.length + 1), (x.i + d) % (x.out.length + 1) + 1, adapt d (x.out.length + 1) x.first, false,
        insA x.out ((x.i + d) % (x.out.length + 1)).toNat (x.n + (x.i + d) / (x.out.length + 1))⟩

/-- The place of the last dash; -1: there is none. -/
def ldK (s : List UInt8) : Nat → Int
  | 0 => -1
  | k + 1 => if s.getD k 0 = 45 then (k : Int) else ldK s k
def lastD (s : List UInt8) : Int := ldK s s.length
theorem ldK_lt (s : List UInt8) : ∀ k, -1 ≤ ldK s k ∧ ldK s k < k
  | 0 => by simp [ldK]
  | k + 1 => by
    unfold ldK
    have := ldK_lt s k
    split <;> omega

def dc0 (s : List UInt8) : DcS := if 0 < lastD s then ⟨s.drop ((lastD s).toNat + 1), 128, 0, 72, true, (s.take (lastD s).toNat).map fun c => (c.toNat : Int)⟩ else ⟨s, 128, 0, 72, true, []⟩
def pnDec (s : List UInt8) : Option (List Int) := if 0 ≤ eight s then none else dcF (s.length + 1) (dc0 s)

theorem dcF_step {f : Nat} {s : List UInt8} {n i bias : Int} {first : Bool} {out : List Int} (h : s ≠ []) : dcF (f + 1) ⟨s, n, i, bias, first, out⟩ =
    match rd s bias with
    | none => none
    | some (d, r) =>
      if 2147483647 < i + d then none else
      if 1114111 < n + (i + d) / (out.length + 1) ∨ right (n + (i + d) / (out.length + 1)) = false then none else
      dcF f ⟨r, n + (i + d) / (out.length + 1), (i + d) % (out.length + 1) + 1, adapt d (out.length + 1) first, false,
        insA out ((i + d) % (out.length + 1)).toNat (n + (i + d) / (out.length + 1))⟩ := by
  rw [dcF, if_neg h]

theorem eightF_none : ∀ (s : List UInt8) (k : Nat), ¬ 0 ≤ eightF k s → ∀ c ∈ s, c.toNat < 128
  | [], k, _, c, hc => by cases hc
  | b :: l, k, h, c, hc => by
    rw [eightF] at h
    split at h
    · omega
    · rcases List.mem_cons.1 hc with rfl | hc
      · omega
      · exact eightF_none l (k + 1) h c hc
theorem eight_none {s : List UInt8} (h : ¬ 0 ≤ eight s) : ∀ c ∈ s, c.toNat < 128 := eightF_none s 0 h

/-- The numbers stay small. -/
structure DcI (s : List UInt8) (f : Nat) (x : DcS) : Prop where
  fuel : x.s.length < f
  n0 : 128 ≤ x.n
  n1 : x.n ≤ 1114111
  i0 : 0 ≤ x.i
  i1 : x.i ≤ x.out.length
  b0 : 0 ≤ x.bias
  b1 : x.bias ≤ 756
  len : x.out.length + x.s.length ≤ s.length
theorem dc0_ok (s : List UInt8) : DcI s (s.length + 1) (dc0 s) := by
  have hl := ldK_lt s s.length
  have hl' : lastD s = ldK s s.length := rfl
  unfold dc0
  split
  · constructor <;> simp <;> omega
  · constructor <;> simp

theorem runes_ascii : ∀ (l : List UInt8), (∀ c ∈ l, c.toNat < 128) → runesOf l = l.map fun c => Value.int .i32 (c.toNat : Int) := by
  intro l hl
  have key : ∀ (n i : Nat) (acc : Array Value), l.length ≤ n + i → i ≤ l.length → (Conv.runesFrom ⟨l.toArray⟩ n i acc).toList = acc.toList ++ (l.drop i).map fun c => Value.int .i32 (c.toNat : Int) := by
    intro n
    induction n with
    | zero =>
      intro i acc h1 h2
      have : i = l.length := by omega
      subst this
      simp [Conv.runesFrom]
    | succ n ih =>
      intro i acc h1 h2
      unfold Conv.runesFrom
      have hsz : (⟨l.toArray⟩ : ByteArray).size = l.length := by simp [ByteArray.size]
      by_cases hi : i < l.length
      · rw [if_pos (by rw [hsz]; exact hi)]
        have hget : (⟨l.toArray⟩ : ByteArray)[i]'(by rw [hsz]; exact hi) = l[i] := by simp [ByteArray.getElem_eq_getElem_data]
        have hd := decode_ascii ⟨l.toArray⟩ i (by rw [hsz]; exact hi) (by rw [hget]; exact hl _ (List.getElem_mem _))
        rw [hget] at hd
        rw [hd]
        dsimp only
        rw [ih (i + 1) _ (by omega) (by omega)]
        rw [List.drop_eq_getElem_cons hi]
        simp only [Array.toList_push, List.map_cons, List.append_assoc, List.cons_append, List.nil_append]
        rfl
      · rw [if_neg (by rw [hsz]; exact hi)]
        rw [List.drop_of_length_le (by omega)]
        simp
  have := key l.length 0 #[] (by omega) (by omega)
  unfold runesOf
  simpa using this
end Go.AE
/- A number in digits is read as it was, and what is read is written by the same digits, but for their case. -/
namespace Go.AE
def lowB (c : UInt8) : UInt8 := if 65 ≤ c.toNat ∧ c.toNat ≤ 90 then UInt8.ofNat (c.toNat + 32) else c
def plainS (s : List UInt8) : List UInt8 := s.map lowB
theorem lowB_toNat (c : UInt8) : (lowB c).toNat = if 65 ≤ c.toNat ∧ c.toNat ≤ 90 then c.toNat + 32 else c.toNat := by
  unfold lowB
  split
  · simp; omega
  · rfl
theorem lowB_twice (c : UInt8) : lowB (lowB c) = lowB c := by
  have h := lowB_toNat c
  by_cases hc : 65 ≤ c.toNat ∧ c.toNat ≤ 90
  · rw [if_pos hc] at h
    rw [show lowB (lowB c) = lowB c from by
      conv => lhs; unfold lowB
      rw [if_neg (by rw [show (if 65 ≤ c.toNat ∧ c.toNat ≤ 90 then UInt8.ofNat (c.toNat + 32) else c) = lowB c from rfl]; omega)]
      rfl]
  · have e : lowB c = c := by unfold lowB; rw [if_neg hc]
    rw [e, e]
theorem plainS_twice (s : List UInt8) : plainS (plainS s) = plainS s := by simp [plainS, lowB_twice]

/-! ### Digits -/
theorem dgb_nat {n : Int} (h : 0 ≤ n) (h' : n < 36) : ((dgb n).toNat : Int) = dg n := by
  have h1 : 0 ≤ dg n ∧ dg n < 256 := by
    unfold dg
    repeat' split
    all_goals omega
  unfold dgb; simp; omega
theorem vl_dg {n : Int} (h : 0 ≤ n) (h' : n < 36) : vl (dg n) = n ∧ vlOk (dg n) = true := by
  unfold dg
  by_cases h1 : n < 26
  · rw [if_pos ⟨h, h1⟩]
    constructor
    · unfold vl; rw [if_neg (by omega), if_neg (by omega), if_pos (by omega)]; omega
    · simp [vlOk]; omega
  · rw [if_neg (by omega), if_pos (by omega)]
    constructor
    · unfold vl; rw [if_pos (by omega)]; omega
    · simp [vlOk]; omega
theorem vl_dgb {n : Int} (h : 0 ≤ n) (h' : n < 36) : vl ((dgb n).toNat : Int) = n ∧ vlOk ((dgb n).toNat : Int) = true := by
  rw [dgb_nat h h']; exact vl_dg h h'
/-- A digit that is read is written, in its small form. -/
theorem dgb_vl {c : UInt8} (h : vlOk (c.toNat : Int) = true) : dgb (vl c.toNat) = lowB c := by
  have hv : 0 ≤ vl c.toNat ∧ vl c.toNat ≤ 35 := vl_ok _
  apply UInt8.toNat.inj
  have h1 := dgb_nat hv.1 (by omega)
  have h2 := lowB_toNat c
  simp [vlOk] at h
  unfold dg at h1
  have e : vl (c.toNat : Int) = if 48 ≤ (c.toNat : Int) ∧ (c.toNat : Int) ≤ 57 then (c.toNat : Int) - 22 else if 65 ≤ (c.toNat : Int) ∧ (c.toNat : Int) ≤ 90 then (c.toNat : Int) - 65 else if 97 ≤ (c.toNat : Int) ∧ (c.toNat : Int) ≤ 122 then (c.toNat : Int) - 97 else 0 := rfl
  rcases h with (h | h) | h
  · rw [if_pos (by omega)] at e
    rw [if_neg (by omega)] at h2
    rw [if_neg (by omega), if_pos (by omega)] at h1
    omega
  · rw [if_neg (by omega), if_pos (by omega)] at e
    rw [if_pos (by omega)] at h2
    rw [if_pos (by omega)] at h1
    omega
  · rw [if_neg (by omega), if_neg (by omega), if_pos (by omega)] at e
    rw [if_neg (by omega)] at h2
    rw [if_pos (by omega)] at h1
    omega
theorem lowB_dgb {n : Int} (h : 0 ≤ n) (h' : n < 36) : lowB (dgb n) = dgb n := by
  have := dgb_vl (c := dgb n) (vl_dgb h h').2
  rw [(vl_dgb h h').1] at this
  exact this.symm

theorem thr_ok' (k b : Int) : 1 ≤ thr k b ∧ thr k b ≤ 26 := by unfold thr; omega
theorem wrStep {n t : Int} (hn : t ≤ n) (h1 : 1 ≤ t) (h2 : t ≤ 26) : 0 ≤ (n - t) / (36 - t) ∧ 10 * ((n - t) / (36 - t)) ≤ n ∧ 0 ≤ (n - t) % (36 - t) ∧ (n - t) % (36 - t) < 36 - t ∧ n = (t + (n - t) % (36 - t)) + (n - t) / (36 - t) * (36 - t) := by
  have h3 : 0 ≤ (n - t) / (36 - t) := Int.ediv_nonneg (by omega) (by omega)
  have h4 := Int.ediv_mul_le (n - t) (b := 36 - t) (by omega)
  have h5 : (n - t) / (36 - t) * 10 ≤ (n - t) / (36 - t) * (36 - t) := Int.mul_le_mul_of_nonneg_left (by omega) h3
  have h6 := Int.mul_ediv_add_emod (n - t) (36 - t)
  rw [Int.mul_comm] at h6
  exact ⟨h3, by omega, Int.emod_nonneg _ (by omega), Int.emod_lt_of_pos _ (by omega), by omega⟩

/-- What is written is read. -/
theorem rd_wrF {b : Int} (hb : b ≤ 226) (t : List UInt8) : ∀ (f j : Nat) (n acc w N : Int), n < 2 ^ f → 0 ≤ n → 0 ≤ acc → 1 ≤ w → acc + n * w = N → N ≤ 2147483647 → ((j ≤ 6 ∧ w ≤ 35 ^ j) ∨ (6 < j ∧ w ≤ N)) → rdN b (wrF (f + 1) n (36 * (j + 1)) b ++ t) (36 * (j + 1)) acc w = some (N, t) := by
  intro f
  induction f with
  | zero =>
    intro j n acc w N hn h0 ha hw hN hl hj
    have ht := thr_ok' (36 * (j + 1)) b
    have h35 : j ≤ 6 → (35 : Int) ^ j ≤ 1838265625 := fun h => by
      have : j = 0 ∨ j = 1 ∨ j = 2 ∨ j = 3 ∨ j = 4 ∨ j = 5 ∨ j = 6 := by omega
      rcases this with rfl | rfl | rfl | rfl | rfl | rfl | rfl <;> decide
    have e : n = 0 := by simp at hn; omega
    subst e
    rw [wrF, if_pos (by omega)]
    obtain ⟨v1, v2⟩ := vl_dgb (n := 0) (by omega) (by omega)
    rw [List.cons_append, rdN, v1, v2, if_pos ⟨rfl, by rcases hj with hj | hj; have := h35 hj.1; omega; omega, by omega⟩, if_pos (by omega), hN]
    rfl
  | succ f ih =>
    intro j n acc w N hn h0 ha hw hN hl hj
    have ht := thr_ok' (36 * (j + 1)) b
    have h35 : j ≤ 6 → (35 : Int) ^ j ≤ 1838265625 := fun h => by
      have : j = 0 ∨ j = 1 ∨ j = 2 ∨ j = 3 ∨ j = 4 ∨ j = 5 ∨ j = 6 := by omega
      rcases this with rfl | rfl | rfl | rfl | rfl | rfl | rfl <;> decide
    have hwl : w ≤ 2147483647 := by
      rcases hj with hj | hj
      · have := h35 hj.1; omega
      · omega
    by_cases hlt : n < thr (36 * (j + 1)) b
    · rw [wrF, if_pos hlt]
      obtain ⟨v1, v2⟩ := vl_dgb (n := n) h0 (by omega)
      rw [List.cons_append, rdN, v1, v2, if_pos ⟨rfl, hwl, by omega⟩, if_pos hlt, hN]
      rfl
    · have h26 : 6 ≤ j → thr (36 * (j + 1)) b = 26 := fun h => by unfold thr; omega
      rw [wrF, if_neg hlt]
      obtain ⟨q0, q1, q2, q3, q4⟩ := wrStep (n := n) (t := thr (36 * (j + 1)) b) (by omega) (by omega) (by omega)
      obtain ⟨u, hu⟩ : ∃ u, thr (36 * (j + 1)) b = u := ⟨_, rfl⟩
      rw [hu] at ht hlt h26 q0 q1 q2 q3 q4 ⊢
      generalize hqq : (n - u) / (36 - u) = q at *
      generalize hrr : (n - u) % (36 - u) = r at *
      obtain ⟨v1, v2⟩ := vl_dgb (n := u + r) (by omega) (by omega)
      have hq36 : 0 ≤ q * (36 - u) := Int.mul_nonneg q0 (by omega)
      have hw36 : 1 ≤ w * (36 - u) := by
        have := Int.mul_le_mul (a := 1) (b := 1) (c := w) (d := 36 - u) hw (by omega) (by omega) (by omega)
        omega
      have hsplit : n * w = (u + r) * w + q * (w * (36 - u)) := by
        rw [q4, Int.add_mul, Int.mul_assoc q, Int.mul_comm (36 - u) w]
      have hp0 : 0 ≤ q * (w * (36 - u)) := Int.mul_nonneg q0 (by omega)
      have hp1 : 0 ≤ (u + r) * w := Int.mul_nonneg (by omega) (by omega)
      rw [List.cons_append, rdN, v1, v2, hu, if_pos ⟨rfl, hwl, by omega⟩, if_neg (by omega)]
      have hstep := ih (j + 1) q (acc + (u + r) * w) (w * (36 - u)) N ?_ q0 (by omega) hw36 (by omega) hl ?_
      · rw [show (36 : Int) * ((j + 1 : Nat) + 1) = 36 * (j + 1) + 36 by omega] at hstep
        exact hstep
      · have : (2 : Int) ^ (f + 1) = 2 ^ f * 2 := Int.pow_succ 2 f
        rw [this] at hn
        generalize (2 : Int) ^ f = p at *
        omega
      · rcases Nat.lt_or_ge j 6 with hj6 | hj6
        · left
          refine ⟨by omega, ?_⟩
          rcases hj with hj | hj
          · have := Int.mul_le_mul hj.2 (show 36 - u ≤ 35 by omega) (by omega) (Int.le_of_lt (Int.pow_pos (by decide)))
            rw [Int.pow_succ]; exact this
          · omega
        · right
          have := h26 hj6
          subst this
          refine ⟨by omega, ?_⟩
          have : 26 * w ≤ n * w := Int.mul_le_mul_of_nonneg_right (by omega) (by omega)
          omega

theorem rd_wr {n b : Int} (hb : b ≤ 226) (h0 : 0 ≤ n) (h1 : n ≤ 2147483647) (t : List UInt8) : rd (wr n b ++ t) b = some (n, t) :=
  rd_wrF hb t 63 0 n 0 1 n (by omega) h0 (Int.le_refl 0) (Int.le_refl 1) (by omega) h1 (.inl ⟨by decide, by decide⟩)

/-- What is read is written so. -/
theorem wr_rdN {b : Int} : ∀ (s : List UInt8) (k acc w d : Int) (r : List UInt8), 1 ≤ w → rdN b s k acc w = some (d, r) →
    ∃ p n, s = p ++ r ∧ 0 < p.length ∧ d = acc + n * w ∧ 0 ≤ n ∧ ∀ f : Nat, n < 2 ^ f → wrF (f + 1) n k b = plainS p
  | [], k, acc, w, d, r, _, h => by cases h
  | c :: t, k, acc, w, d, r, hw, h => by
    rw [rdN] at h
    have hv := vl_ok c.toNat
    have ht := thr_ok' k b
    split at h
    · rename_i h1
      have hc := dgb_vl h1.1
      split at h
      · rename_i h2
        simp at h
        obtain ⟨rfl, rfl⟩ := h
        exact ⟨[c], vl c.toNat, rfl, by simp, rfl, hv.1, fun f _ => by rw [wrF, if_pos h2, hc]; rfl⟩
      · rename_i h2
        have hw36 : 1 ≤ w * (36 - thr k b) := by
          have := Int.mul_le_mul (a := 1) (b := 1) (c := w) (d := 36 - thr k b) hw (by omega) (by omega) (by omega)
          omega
        obtain ⟨p, n, q1, q2, q3, q4, q5⟩ := wr_rdN t (k + 36) (acc + vl c.toNat * w) (w * (36 - thr k b)) d r hw36 h
        have hnn : 0 ≤ n * (36 - thr k b) := Int.mul_nonneg q4 (by omega)
        have hdiv : (vl c.toNat + n * (36 - thr k b) - thr k b) / (36 - thr k b) = n := by
          rw [show vl (c.toNat : Int) + n * (36 - thr k b) - thr k b = (vl c.toNat - thr k b) + n * (36 - thr k b) by omega, Int.add_mul_ediv_right _ _ (by omega), Int.ediv_eq_zero_of_lt (by omega) (by omega)]
          omega
        have hmod : (vl c.toNat + n * (36 - thr k b) - thr k b) % (36 - thr k b) = vl c.toNat - thr k b := by
          rw [show vl (c.toNat : Int) + n * (36 - thr k b) - thr k b = (vl c.toNat - thr k b) + n * (36 - thr k b) by omega, Int.add_mul_emod_self_right, Int.emod_eq_of_lt (by omega) (by omega)]
        have hten : n * 10 ≤ n * (36 - thr k b) := Int.mul_le_mul_of_nonneg_left (by omega) q4
        refine ⟨c :: p, vl c.toNat + n * (36 - thr k b), by rw [q1]; rfl, by simp, ?_, by omega, fun f hf => ?_⟩
        · rw [q3, Int.add_mul, Int.mul_assoc, Int.mul_comm (36 - thr k b) w]; omega
        · rw [wrF, if_neg (by omega), hdiv, hmod]
          cases f with
          | zero =>
            simp at hf
            omega
          | succ f =>
            have hp : (2 : Int) ^ (f + 1) = 2 ^ f * 2 := Int.pow_succ 2 f
            rw [q5 f (by rw [hp] at hf; generalize (2 : Int) ^ f = x at *; omega)]
            rw [show thr k b + (vl (c.toNat : Int) - thr k b) = vl c.toNat by omega, hc]
            rfl
    · cases h

theorem wr_rd {s : List UInt8} {b d : Int} {r : List UInt8} (h : rd s b = some (d, r)) : ∃ p, s = p ++ r ∧ wr d b = plainS p := by
  obtain ⟨h0, h1, _⟩ := rd_some h
  obtain ⟨p, n, q1, _, q3, q4, q5⟩ := wr_rdN s 36 0 1 d r (Int.le_refl 1) h
  have : n = d := by omega
  subst this
  exact ⟨p, q1, q5 63 (by omega)⟩

/-- Only digits, and small letters, are written. -/
theorem wrF_digits {b : Int} : ∀ (f : Nat) (n k : Int), 0 ≤ n → ∀ c ∈ wrF f n k b, ∃ v : Int, 0 ≤ v ∧ v < 36 ∧ c = dgb v := by
  intro f
  induction f with
  | zero => intro n k _ c hc; simp [wrF] at hc
  | succ f ih =>
    intro n k hn c hc
    have ht := thr_ok' k b
    rw [wrF] at hc
    split at hc
    · simp at hc
      exact ⟨n, hn, by omega, hc⟩
    · rename_i hlt
      obtain ⟨q0, q1, q2, q3, q4⟩ := wrStep (n := n) (t := thr k b) (by omega) (by omega) (by omega)
      rcases List.mem_cons.1 hc with rfl | hc
      · exact ⟨_, by omega, by omega, rfl⟩
      · exact ih _ _ q0 c hc
theorem wr_pos (n b : Int) : 0 < (wr n b).length := by
  unfold wr
  rw [wrF]
  split <;> simp
theorem dgb_range {v : Int} (h : 0 ≤ v) (h' : v < 36) : (97 ≤ (dgb v).toNat ∧ (dgb v).toNat ≤ 122) ∨ (48 ≤ (dgb v).toNat ∧ (dgb v).toNat ≤ 57) := by
  have h1 := dgb_nat h h'
  unfold dg at h1
  by_cases h2 : v < 26
  · rw [if_pos ⟨h, h2⟩] at h1; omega
  · rw [if_neg (by omega), if_pos (by omega)] at h1; omega

/-- The bias stays small. -/
theorem adF_small : ∀ (m f : Nat) (d k : Int), m < f → d < 35 ^ m * 456 → 0 ≤ d → adF f d k ≤ k + 36 * m + 35 := by
  intro m
  induction m with
  | zero =>
    intro f d k hf hd h0
    obtain ⟨f, rfl⟩ : ∃ g, f = g + 1 := ⟨f - 1, by omega⟩
    rw [adF, if_neg (by simp at hd; omega)]
    have : 36 * d / (d + 38) < 36 := Int.ediv_lt_of_lt_mul (by omega) (by omega)
    omega
  | succ m ih =>
    intro f d k hf hd h0
    obtain ⟨f, rfl⟩ : ∃ g, f = g + 1 := ⟨f - 1, by omega⟩
    rw [adF]
    split
    · have hp : (35 : Int) ^ (m + 1) = 35 ^ m * 35 := Int.pow_succ 35 m
      rw [hp] at hd
      have := ih f (d / 35) (k + 36) (by omega) (by generalize (35 : Int) ^ m = x at *; omega) (by omega)
      omega
    · have : 36 * d / (d + 38) < 36 := Int.ediv_lt_of_lt_mul (by omega) (by omega)
      omega
theorem adapt_small {d c : Int} {first : Bool} (h0 : 0 ≤ d) (h1 : d ≤ 2147483647) (hc : 1 ≤ c) : 0 ≤ adapt d c first ∧ adapt d c first ≤ 226 := by
  have hd : 0 ≤ adD d c first ∧ adD d c first ≤ d := by
    unfold adD
    split
    · have := div_bound (x := d / 700) (c := c) (by omega) hc; omega
    · have := div_bound (x := d / 2) (c := c) (by omega) hc; omega
  have h2 := adF_small 5 20 (adD d c first) 0 (by decide) (by omega) hd.1
  have h3 := adapt_ok (d := d) (c := c) (first := first) h0 hc
  unfold adapt at h3 ⊢
  omega
end Go.AE
/- Characters put in one by one: what is written so is read so, and but one row of places leads to given characters. -/
namespace Go.AE

/-- A character is put in at a place: what is written for it. -/
def evD (x : DcS) (e : Int × Nat) : Int := (e.1 - x.n) * (x.out.length + 1) + e.2 - x.i
def evStep (x : DcS) (e : Int × Nat) : DcS := ⟨x.s ++ wr (evD x e) x.bias, e.1, e.2 + 1, adapt (evD x e) (x.out.length + 1) x.first, false, insA x.out e.2 e.1⟩

structure EvOk (x : DcS) (e : Int × Nat) : Prop where
  up : x.n < e.1 ∨ (x.n = e.1 ∧ x.i ≤ e.2)
  pl : e.2 ≤ x.out.length
  le : e.1 ≤ 1114111
  rt : right e.1 = true

def EvAll : DcS → List (Int × Nat) → Prop
  | _, [] => True
  | x, e :: E => EvOk x e ∧ EvAll (evStep x e) E

structure SI (x : DcS) : Prop where
  n0 : 128 ≤ x.n
  i0 : 0 ≤ x.i
  i1 : x.i ≤ x.out.length
  b1 : x.bias ≤ 226

theorem insA_length {L : List Int} {i : Nat} {x : Int} (h : i ≤ L.length) : (insA L i x).length = L.length + 1 := by simp [insA]; omega

theorem evD_ok {x : DcS} {e : Int × Nat} (h : SI x) (k : EvOk x e) (hl : x.out.length ≤ 1000) : 0 ≤ evD x e ∧ x.i + evD x e = (e.1 - x.n) * (x.out.length + 1) + e.2 ∧ x.i + evD x e ≤ 2147483647 := by
  have h1 := h.n0
  have h2 := h.i0
  have h3 := h.i1
  have k1 := k.up
  have k2 := k.pl
  have k3 := k.le
  have hm : (e.1 - x.n) * ((x.out.length : Int) + 1) ≤ 1113983 * ((x.out.length : Int) + 1) := Int.mul_le_mul_of_nonneg_right (by omega) (by omega)
  have hlow : x.n < e.1 → (x.out.length : Int) + 1 ≤ (e.1 - x.n) * ((x.out.length : Int) + 1) := fun h => by
    have := Int.mul_le_mul_of_nonneg_right (show (1 : Int) ≤ e.1 - x.n by omega) (show (0 : Int) ≤ (x.out.length : Int) + 1 by omega)
    omega
  have hzero : x.n = e.1 → (e.1 - x.n) * ((x.out.length : Int) + 1) = 0 := fun h => by rw [h]; simp
  unfold evD
  rcases k1 with k1 | ⟨k1, k4⟩
  · have := hlow k1; omega
  · have := hzero k1; omega

theorem SI.step {x : DcS} {e : Int × Nat} (h : SI x) (k : EvOk x e) (hl : x.out.length ≤ 1000) : SI (evStep x e) := by
  obtain ⟨h1, h2, h3⟩ := evD_ok h k hl
  have h4 := h.n0
  have h5 := h.i0
  have h6 := k.up
  have h7 := k.pl
  have ha := adapt_small (d := evD x e) (c := x.out.length + 1) (first := x.first) h1 (by omega) (by omega)
  have hi := insA_length (L := x.out) (x := e.1) h7
  refine ⟨?_, ?_, ?_, ha.2⟩ <;> dsimp only [evStep] <;> omega

/-- ONE IS READ AS IT WAS WRITTEN. -/
theorem dec_ev {x : DcS} {e : Int × Nat} (h : SI x) (k : EvOk x e) (hl : x.out.length ≤ 1000) (F : Nat) (T : List UInt8) :
    dcF (F + 1) ⟨wr (evD x e) x.bias ++ T, x.n, x.i, x.bias, x.first, x.out⟩ = dcF F ⟨T, (evStep x e).n, (evStep x e).i, (evStep x e).bias, (evStep x e).first, (evStep x e).out⟩ := by
  obtain ⟨h1, h2, h3⟩ := evD_ok h k hl
  have hne : wr (evD x e) x.bias ++ T ≠ [] := fun hh => by
    have := wr_pos (evD x e) x.bias
    rw [(List.append_eq_nil_iff.1 hh).1] at this
    simp at this
  have hi0 := h.i0
  have hpl := k.pl
  have hle := k.le
  have hdiv : (x.i + evD x e) / ((x.out.length : Int) + 1) = e.1 - x.n := by
    rw [h2, Int.add_comm, Int.add_mul_ediv_right _ _ (by omega), Int.ediv_eq_zero_of_lt (by omega) (by omega)]; omega
  have hmod : (x.i + evD x e) % ((x.out.length : Int) + 1) = e.2 := by
    rw [h2, Int.add_comm, Int.add_mul_emod_self_right, Int.emod_eq_of_lt (by omega) (by omega)]
  rw [dcF_step hne, rd_wr h.b1 h1 (by omega)]
  dsimp only
  rw [hdiv, hmod, show x.n + (e.1 - x.n) = e.1 by omega, if_neg (by omega), if_neg (by rw [k.rt]; rintro (h | h); omega; cases h), Int.toNat_natCast]
  rfl

def evB : DcS → List (Int × Nat) → List UInt8
  | _, [] => []
  | x, e :: E => wr (evD x e) x.bias ++ evB (evStep x e) E

theorem evRun_s : ∀ (E : List (Int × Nat)) (x : DcS), (E.foldl evStep x).s = x.s ++ evB x E
  | [], x => by simp [evB]
  | e :: E, x => by rw [List.foldl_cons, evRun_s E]; simp [evB, evStep]

theorem evRun_len : ∀ (E : List (Int × Nat)) (x : DcS), EvAll x E → (E.foldl evStep x).out.length = x.out.length + E.length
  | [], x, _ => by simp
  | e :: E, x, h => by
    rw [List.foldl_cons, evRun_len E _ h.2]
    have : (evStep x e).out.length = x.out.length + 1 := insA_length h.1.pl
    rw [this, List.length_cons]; omega

theorem dec_evs : ∀ (E : List (Int × Nat)) (x : DcS), SI x → EvAll x E → x.out.length + E.length ≤ 1000 → ∀ (F : Nat) (T : List UInt8),
    dcF (F + E.length) ⟨evB x E ++ T, x.n, x.i, x.bias, x.first, x.out⟩ = dcF F ⟨T, (E.foldl evStep x).n, (E.foldl evStep x).i, (E.foldl evStep x).bias, (E.foldl evStep x).first, (E.foldl evStep x).out⟩
  | [], x, _, _, _, F, T => rfl
  | e :: E, x, h, k, hl, F, T => by
    simp only [List.length_cons] at hl
    have hs : (evStep x e).out.length = x.out.length + 1 := insA_length k.1.pl
    have h1 := dec_ev h k.1 (by omega) (F + E.length) (evB (evStep x e) E ++ T)
    have h2 := dec_evs E (evStep x e) (h.step k.1 (by omega)) k.2 (by omega) F T
    rw [List.foldl_cons, ← h2, ← h1]
    simp only [evB, List.append_assoc, List.length_cons]
    rfl

/-- WHAT IS READ IS WRITTEN SO, but for the case of digits. -/
theorem ev_of_dec : ∀ (F : Nat) (s : List UInt8) (x : DcS) (m : List Int), SI x → x.n ≤ 1114111 → x.out.length + s.length ≤ 1000 → dcF F ⟨s, x.n, x.i, x.bias, x.first, x.out⟩ = some m →
    ∃ E, EvAll x E ∧ (E.foldl evStep x).out = m ∧ evB x E = plainS s
  | 0, s, x, m, _, _, _, h => by cases h
  | F + 1, s, x, m, hI, hn, hl, h => by
    by_cases hs : s = []
    · subst hs
      have : some x.out = some m := h
      simp at this
      exact ⟨[], trivial, this, rfl⟩
    · rw [dcF_step hs] at h
      cases hr : rd s x.bias with
      | none => rw [hr] at h; cases h
      | some p =>
        obtain ⟨d, r⟩ := p
        rw [hr] at h
        dsimp only at h
        obtain ⟨hd0, hd1, _⟩ := rd_some hr
        obtain ⟨p, hp, hw⟩ := wr_rd hr
        have hrl := rd_len hr
        have hi0 := hI.i0
        have hi1 := hI.i1
        have hn0 := hI.n0
        by_cases hc1 : 2147483647 < x.i + d
        · rw [if_pos hc1] at h; cases h
        · rw [if_neg hc1] at h
          by_cases hc2 : 1114111 < x.n + (x.i + d) / (x.out.length + 1) ∨ right (x.n + (x.i + d) / (x.out.length + 1)) = false
          · rw [if_pos hc2] at h; cases h
          · rw [if_neg hc2] at h
            have hq0 : 0 ≤ (x.i + d) / ((x.out.length : Int) + 1) := Int.ediv_nonneg (by omega) (by omega)
            have hm0 := Int.emod_nonneg (x.i + d) (b := (x.out.length : Int) + 1) (by omega)
            have hm1 := Int.emod_lt_of_pos (x.i + d) (b := (x.out.length : Int) + 1) (by omega)
            have hdm := Int.mul_ediv_add_emod (x.i + d) ((x.out.length : Int) + 1)
            have hsmall : (x.i + d) / ((x.out.length : Int) + 1) = 0 → x.i ≤ (x.i + d) % ((x.out.length : Int) + 1) := fun hz => by
              rw [hz, Int.mul_zero] at hdm; omega
            rw [Int.mul_comm] at hdm
            generalize hqq : (x.i + d) / ((x.out.length : Int) + 1) = q at *
            obtain ⟨mi, hmi⟩ : ∃ mi : Nat, (x.i + d) % ((x.out.length : Int) + 1) = mi := ⟨((x.i + d) % ((x.out.length : Int) + 1)).toNat, by omega⟩
            rw [hmi] at h hm0 hm1 hdm hsmall
            have hnr : ¬ right (x.n + q) = false := fun hh => hc2 (.inr hh)
            have hev : EvOk x (x.n + q, mi) := ⟨by
              rcases Int.lt_or_eq_of_le hq0 with hq | hq
              · left; dsimp only; omega
              · right; dsimp only; exact ⟨by omega, hsmall hq.symm⟩, by dsimp only; omega, by dsimp only; exact Int.not_lt.1 fun hh => hc2 (.inl hh), by dsimp only; simpa using hnr⟩
            have hD : evD x (x.n + q, mi) = d := by
              unfold evD
              dsimp only
              rw [show x.n + q - x.n = q by omega]
              omega
            have hst : (evStep x (x.n + q, mi)).out.length = x.out.length + 1 := insA_length hev.pl
            rw [Int.toNat_natCast] at h
            have hstep : evStep x (x.n + q, mi) = ⟨x.s ++ wr d x.bias, x.n + q, mi + 1, adapt d (x.out.length + 1) x.first, false, insA x.out mi (x.n + q)⟩ := by
              unfold evStep; rw [hD]
            obtain ⟨E, e1, e2, e3⟩ := ev_of_dec F r (evStep x (x.n + q, mi)) m (hI.step hev (by omega)) hev.le (by omega) (by rw [hstep]; exact h)
            refine ⟨(x.n + q, mi) :: E, ⟨hev, e1⟩, e2, ?_⟩
            rw [evB, hD, e3, hw, hp]
            simp [plainS]

/-- How characters lie behind the last that was put in. -/
structure Top (x : DcS) : Prop where
  all : ∀ r ∈ x.out, r ≤ x.n
  beh : ∀ r ∈ x.out.drop x.i.toNat, r < x.n

theorem Top.step {x : DcS} {e : Int × Nat} (h : Top x) (k : EvOk x e) : Top (evStep x e) ∧ (evStep x e).out = x.out.take e.2 ++ e.1 :: x.out.drop e.2 ∧ (∀ r ∈ x.out.take e.2, r ≤ e.1) ∧ ∀ r ∈ x.out.drop e.2, r < e.1 := by
  have hb : ∀ r ∈ x.out.drop e.2, r < e.1 := fun r hr => by
    rcases k.up with h1 | ⟨h1, h2⟩
    · have := h.all r (List.mem_of_mem_drop hr); omega
    · have : r ∈ x.out.drop x.i.toNat := by
        have e1 : x.out.drop e.2 = (x.out.drop x.i.toNat).drop (e.2 - x.i.toNat) := by rw [List.drop_drop]; congr 1; omega
        rw [e1] at hr
        exact List.mem_of_mem_drop hr
      have := h.beh r this; omega
  have ha : ∀ r ∈ x.out.take e.2, r ≤ e.1 := fun r hr => by
    have := h.all r (List.mem_of_mem_take hr)
    rcases k.up with h1 | ⟨h1, _⟩ <;> omega
  refine ⟨⟨fun r hr => ?_, fun r hr => ?_⟩, rfl, ha, hb⟩
  · have hr : r ∈ x.out.take e.2 ++ e.1 :: x.out.drop e.2 := hr
    rcases List.mem_append.1 hr with hr | hr
    · exact ha r hr
    · rcases List.mem_cons.1 hr with rfl | hr
      · exact Int.le_refl _
      · exact Int.le_of_lt (hb r hr)
  · have hpl := k.pl
    have hr : r ∈ (x.out.take e.2 ++ e.1 :: x.out.drop e.2).drop ((e.2 : Int) + 1).toNat := hr
    have e1 : (x.out.take e.2 ++ e.1 :: x.out.drop e.2).drop ((e.2 : Int) + 1).toNat = x.out.drop e.2 := by
      rw [show ((e.2 : Int) + 1).toNat = (x.out.take e.2).length + 1 by simp; omega, List.drop_append]
      simp
    rw [e1] at hr
    exact hb r hr

theorem split_uniq {a b x : Int} : ∀ {A A' B B' : List Int}, A ++ a :: B = A' ++ b :: B' → (∀ r ∈ A, r ≤ a) → (∀ r ∈ B, r < a) → (∀ r ∈ A', r ≤ b) → (∀ r ∈ B', r < b) → A = A' ∧ a = b ∧ B = B'
  | [], [], B, B', h, _, _, _, _ => by simp at h; exact ⟨rfl, h.1, h.2⟩
  | [], c :: A', B, B', h, h1, h2, h3, h4 => by
    simp at h
    obtain ⟨rfl, rfl⟩ := h
    have := h2 b (by simp)
    have := h3 a (by simp)
    omega
  | c :: A, [], B, B', h, h1, h2, h3, h4 => by
    simp at h
    obtain ⟨rfl, rfl⟩ := h
    have := h4 a (by simp)
    have := h1 c (by simp)
    omega
  | c :: A, d :: A', B, B', h, h1, h2, h3, h4 => by
    simp at h
    obtain ⟨rfl, h⟩ := h
    obtain ⟨e1, e2, e3⟩ := split_uniq (x := x) h (fun r hr => h1 r (by simp [hr])) h2 (fun r hr => h3 r (by simp [hr])) h4
    exact ⟨by rw [e1], e2, e3⟩

theorem EvAll.snoc : ∀ {E : List (Int × Nat)} {x : DcS} {e : Int × Nat}, EvAll x (E ++ [e]) ↔ EvAll x E ∧ EvOk (E.foldl evStep x) e
  | [], x, e => by simp [EvAll]
  | f :: E, x, e => by simp only [List.cons_append, EvAll, List.foldl_cons, EvAll.snoc, and_assoc]

theorem Top.run : ∀ {E : List (Int × Nat)} {x : DcS}, Top x → EvAll x E → Top (E.foldl evStep x)
  | [], x, h, _ => h
  | e :: E, x, h, k => Top.run (E := E) (x := evStep x e) (h.step k.1).1 k.2

/-- BUT ONE ROW OF PLACES leads from plain characters to given ones. -/
theorem ev_uniq : ∀ (k : Nat) (E E' : List (Int × Nat)) (x : DcS), E.length = k → E'.length = k → Top x → EvAll x E → EvAll x E' → (E.foldl evStep x).out = (E'.foldl evStep x).out → E = E'
  | 0, E, E', x, h, h', _, _, _, _ => by rw [List.length_eq_zero_iff.1 h, List.length_eq_zero_iff.1 h']
  | k + 1, E, E', x, h, h', hT, hE, hE', ho => by
    obtain ⟨E, e, rfl⟩ : ∃ F f, E = F ++ [f] := ⟨E.dropLast, E.getLast (by intro hh; subst hh; simp at h), (List.dropLast_concat_getLast _).symm⟩
    obtain ⟨E', e', rfl⟩ : ∃ F f, E' = F ++ [f] := ⟨E'.dropLast, E'.getLast (by intro hh; subst hh; simp at h'), (List.dropLast_concat_getLast _).symm⟩
    simp only [List.length_append, List.length_cons, List.length_nil] at h h'
    obtain ⟨q1, q2⟩ := EvAll.snoc.1 hE
    obtain ⟨q1', q2'⟩ := EvAll.snoc.1 hE'
    rw [List.foldl_append, List.foldl_append] at ho
    have ho : (evStep (E.foldl evStep x) e).out = (evStep (E'.foldl evStep x) e').out := ho
    obtain ⟨_, t2, t3, t4⟩ := (Top.run hT q1).step q2
    obtain ⟨_, t2', t3', t4'⟩ := (Top.run hT q1').step q2'
    rw [t2, t2'] at ho
    obtain ⟨e1, e2, e3⟩ := split_uniq (x := 0) ho t3 t4 t3' t4'
    have hout : (E.foldl evStep x).out = (E'.foldl evStep x).out := by
      rw [← List.take_append_drop e.2 (E.foldl evStep x).out, ← List.take_append_drop e'.2 (E'.foldl evStep x).out, e1, e3]
    have ih := ev_uniq k E E' x (by omega) (by omega) hT q1 q1' hout
    have hp : e.2 = e'.2 := by
      have := congrArg List.length e1
      have p1 := q2.pl
      have p2 := q2'.pl
      simp at this
      omega
    rw [ih, show e = e' from Prod.ext e2 hp]
end Go.AE
/- What is written is read as it was; and what is read is written as it was, but for the case of digits. -/
namespace Go.AE

def plainL (l : List Int) : List Int := l.filter (· < 128)
def x0 (l : List Int) : DcS := ⟨head0 l, 128, 0, 72, true, plainL l⟩
def stage (l : List Int) (m : Int) (j : Nat) : List Int := (l.take j).filter (· ≤ m) ++ (l.drop j).filter (· < m)
def cntS (l : List Int) (m : Int) (j : Nat) : Nat := ((l.take j).filter (· ≤ m)).length

theorem evStep_eq (x : DcS) (e : Int × Nat) : evStep x e = ⟨x.s ++ wr (evD x e) x.bias, e.1, e.2 + 1, adapt (evD x e) (x.out.length + 1) x.first, false, insA x.out e.2 e.1⟩ := rfl

structure Sim (l : List Int) (m : Int) (j : Nat) (s : EnS) (E : List (Int × Nat)) : Prop where
  ev : EvAll (x0 l) E
  out : (E.foldl evStep (x0 l)).s = s.out
  st : (E.foldl evStep (x0 l)).out = stage l m j
  bias : (E.foldl evStep (x0 l)).bias = s.bias
  h : s.h = (stage l m j).length
  first : (E.foldl evStep (x0 l)).first = (s.h == ((plainB l).length : Int))
  rel : (E.foldl evStep (x0 l)).i + s.delta = (m - (E.foldl evStep (x0 l)).n) * (s.h + 1) + cntS l m j
  nle : (E.foldl evStep (x0 l)).n ≤ m
  d0 : 0 ≤ s.delta

theorem Sim.next {l : List Int} {m : Int} {j : Nat} {s : EnS} {E : List (Int × Nat)} (h : Sim l m j s E) (hj : j < l.length) (hm : m ≤ 1114111) (hr : l.getD j 0 = m → right m = true) :
    ∃ E', Sim l m (j + 1) (enStep m (plainB l).length s (l.getD j 0)) E' := by
  have ht := take_snocD l j 0 hj
  have hd : l.drop j = l.getD j 0 :: l.drop (j + 1) := by rw [List.drop_eq_getElem_cons hj]; simp [List.getD, hj]
  generalize l.getD j 0 = r at *
  have e1 := h.h
  have e2 := h.rel
  have e3 := h.nle
  have e4 := h.d0
  unfold enStep
  by_cases h1 : r < m
  · rw [if_pos h1]
    have hs : stage l m (j + 1) = stage l m j := by
      unfold stage
      rw [ht, hd, List.filter_append]
      have a1 : r ≤ m := by omega
      simp [h1, a1]
    have hc : cntS l m (j + 1) = cntS l m j + 1 := by
      unfold cntS
      rw [ht, List.filter_append]
      have a1 : r ≤ m := by omega
      simp [a1]
    exact ⟨E, h.ev, h.out, by rw [hs]; exact h.st, h.bias, by rw [hs]; exact e1, h.first, by rw [hc]; dsimp only; omega, e3, by dsimp only; omega⟩
  · rw [if_neg h1]
    by_cases h2 : r = m
    · rw [if_pos h2]
      subst h2
      have hA : (stage l r j).length = ((l.take j).filter (· ≤ r)).length + ((l.drop j).filter (· < r)).length := by simp [stage]
      have hdd : (l.drop j).filter (· < r) = (l.drop (j + 1)).filter (· < r) := by rw [hd]; simp
      have hs : insA (stage l r j) (cntS l r j) r = stage l r (j + 1) := by
        unfold insA stage cntS
        rw [List.take_left, List.drop_left, ht, List.filter_append, hdd]
        simp
      have hc : cntS l r (j + 1) = cntS l r j + 1 := by
        unfold cntS
        rw [ht, List.filter_append]
        simp
      have hcl : cntS l r j ≤ (stage l r j).length := by unfold cntS stage; simp
      have hst := h.st
      have hok : EvOk (E.foldl evStep (x0 l)) (r, cntS l r j) := ⟨by
        rcases Int.lt_or_eq_of_le e3 with hlt | heq
        · exact .inl hlt
        · right
          rw [heq, Int.sub_self, Int.zero_mul] at e2
          exact ⟨heq, by dsimp only; omega⟩, by rw [hst]; exact hcl, hm, hr rfl⟩
      have hlen := evRun_len E (x0 l) h.ev
      rw [hst] at hlen
      have hpl : (x0 l).out.length = (plainB l).length := by simp [x0, plainL, plainB]
      have hD : evD (E.foldl evStep (x0 l)) (r, cntS l r j) = s.delta := by
        unfold evD
        dsimp only
        rw [hst, ← e1]
        omega
      have hstep : (E ++ [(r, cntS l r j)]).foldl evStep (x0 l) = ⟨s.out ++ wr s.delta s.bias, r, cntS l r j + 1, adapt s.delta (s.h + 1) (s.h == ((plainB l).length : Int)), false, stage l r (j + 1)⟩ := by
        rw [List.foldl_append]
        show evStep (E.foldl evStep (x0 l)) (r, cntS l r j) = _
        rw [evStep_eq, hD, h.out, h.bias, hst, h.first, ← e1]
        dsimp only
        rw [hs]
      refine ⟨E ++ [(r, cntS l r j)], EvAll.snoc.2 ⟨h.ev, hok⟩, by rw [hstep], by rw [hstep], by rw [hstep], ?_, ?_, ?_, by rw [hstep]; exact Int.le_refl _, Int.le_refl 0⟩
      · rw [← hs, insA_length hcl]
        dsimp only; omega
      · rw [hstep]
        dsimp only
        symm
        simp
        omega
      · rw [hstep, hc]
        dsimp only
        simp
    · rw [if_neg h2]
      have hs : stage l m (j + 1) = stage l m j := by
        unfold stage
        rw [ht, hd, List.filter_append]
        have a1 : ¬ r ≤ m := by omega
        simp [h1, a1]
      have hc : cntS l m (j + 1) = cntS l m j := by
        unfold cntS
        rw [ht, List.filter_append]
        have a1 : ¬ r ≤ m := by omega
        simp [a1]
      exact ⟨E, h.ev, h.out, by rw [hs]; exact h.st, h.bias, by rw [hs]; exact e1, h.first, by rw [hc]; exact e2, e3, e4⟩

theorem Sim.pass {l : List Int} {m : Int} {s : EnS} {E : List (Int × Nat)} (h : Sim l m 0 s E) (hm : m ≤ 1114111) (hr : ∀ r ∈ l, right r = true) : ∃ E', Sim l m l.length (enPass l m (plainB l).length s) E' := by
  have key : ∀ j, j ≤ l.length → ∃ E', Sim l m j ((l.take j).foldl (enStep m (plainB l).length) s) E' := by
    intro j
    induction j with
    | zero => intro _; exact ⟨E, h⟩
    | succ j ih =>
      intro hj
      obtain ⟨E', h'⟩ := ih (by omega)
      have hmem : l.getD j 0 ∈ l := by simp [List.getD, show j < l.length by omega]
      rw [foldl_take_snoc _ _ l j 0 (by omega)]
      exact h'.next (by omega) hm (fun e => by rw [← e]; exact hr _ hmem)
  have := key l.length (Nat.le_refl _)
  rw [List.take_length] at this
  exact this

structure SimP (l : List Int) (n : Int) (s : EnS) (E : List (Int × Nat)) : Prop where
  ev : EvAll (x0 l) E
  out : (E.foldl evStep (x0 l)).s = s.out
  st : (E.foldl evStep (x0 l)).out = l.filter (· < n)
  bias : (E.foldl evStep (x0 l)).bias = s.bias
  h : s.h = (l.filter (· < n)).length
  first : (E.foldl evStep (x0 l)).first = (s.h == ((plainB l).length : Int))
  rel : (E.foldl evStep (x0 l)).i + s.delta = (n - (E.foldl evStep (x0 l)).n) * (s.h + 1)
  nle : (E.foldl evStep (x0 l)).n ≤ n
  d0 : 0 ≤ s.delta
  n0 : 128 ≤ n

theorem SimP.enF {l : List Int} (hl : ∀ r ∈ l, right r = true) : ∀ (f : Nat) (n : Int) (s : EnS) (E : List (Int × Nat)), SimP l n s E → (l.length : Int) < f + s.h →
    ∃ E', EvAll (x0 l) E' ∧ (E'.foldl evStep (x0 l)).s = AE.enF l (plainB l).length f n s ∧ (E'.foldl evStep (x0 l)).out = l
  | 0, n, s, E, h, hf => by
    have := h.h
    have := List.length_filter_le (fun x : Int => decide (x < n)) l
    omega
  | f + 1, n, s, E, h, hf => by
    rw [AE.enF]
    have e1 := h.h
    have hc : (l.filter (· < n)).length = l.countP (· < n) := (List.countP_eq_length_filter).symm
    by_cases hlt : s.h < l.length
    · rw [if_pos hlt]
      have hb : ∀ r ∈ l, r ≤ 1114111 := fun r hr => ((right_iff r).1 (hl r hr)).2.1
      obtain ⟨h1, _⟩ := next_of (l := l) (n := n) (by have := h.n0; omega) hb (by omega)
      have hm := hb _ h1.1
      have hnm := h1.2.1
      have hfil : l.filter (· < nxt l n) = l.filter (· < n) := List.filter_congr fun r hr => by
        by_cases hrn : r < n
        · have : r < nxt l n := by omega
          simp [hrn, this]
        · have := h1.2.2 r hr (by omega)
          have : ¬ r < nxt l n := by omega
          simp [hrn, this]
      have hcount := count_step (l := l) (n := n) (m := nxt l n) h1.2.2 hnm
      have hpos : 0 < l.countP (· == nxt l n) := List.countP_pos_iff.2 ⟨nxt l n, h1.1, by simp⟩
      generalize nxt l n = m at *
      have hn0 := h.n0
      have hh0 : 0 ≤ s.h := by omega
      have hprod : 0 ≤ (m - n) * (s.h + 1) := Int.mul_nonneg (by omega) (by omega)
      have hst0 : stage l m 0 = l.filter (· < n) := by unfold stage; simp [hfil]
      have hadd : (m - (E.foldl evStep (x0 l)).n) * (s.h + 1) = (n - (E.foldl evStep (x0 l)).n) * (s.h + 1) + (m - n) * (s.h + 1) := by rw [← Int.add_mul]; congr 1; omega
      have hrel := h.rel
      have hnle := h.nle
      have hd0 := h.d0
      have hsim : Sim l m 0 ⟨s.out, s.delta + (m - n) * (s.h + 1), s.bias, s.h⟩ E :=
        ⟨h.ev, h.out, by rw [hst0]; exact h.st, h.bias, by rw [hst0]; exact e1, h.first, by
          have : cntS l m 0 = 0 := by simp [cntS]
          rw [this]
          dsimp only
          omega, by omega, by dsimp only; omega⟩
      obtain ⟨E', h'⟩ := hsim.pass hm hl
      have hstl : stage l m l.length = l.filter (· < m + 1) := by
        unfold stage
        simp only [List.take_length, List.drop_length, List.filter_nil, List.append_nil]
        exact List.filter_congr fun r _ => by simp; omega
      have hcl : cntS l m l.length = (l.filter (· < m + 1)).length := by rw [← hstl]; simp [cntS, stage]
      generalize enPass l m (plainB l).length ⟨s.out, s.delta + (m - n) * (s.h + 1), s.bias, s.h⟩ = s' at *
      have hrel' := h'.rel
      rw [hcl] at hrel'
      have hh' := h'.h
      rw [hstl] at hh'
      have hc' : (l.filter (· < m + 1)).length = l.countP (· < m + 1) := (List.countP_eq_length_filter).symm
      have hmul : (m + 1 - (E'.foldl evStep (x0 l)).n) * (s'.h + 1) = (m - (E'.foldl evStep (x0 l)).n) * (s'.h + 1) + (s'.h + 1) := by
        rw [show m + 1 - (E'.foldl evStep (x0 l)).n = (m - (E'.foldl evStep (x0 l)).n) + 1 by omega, Int.add_mul, Int.one_mul]
      have hnle' := h'.nle
      have hd0' := h'.d0
      refine SimP.enF hl f (m + 1) ⟨s'.out, s'.delta + 1, s'.bias, s'.h⟩ E' ⟨h'.ev, h'.out, by rw [← hstl]; exact h'.st, h'.bias, hh', h'.first, ?_, by omega, by dsimp only; omega, by omega⟩ ?_
      · dsimp only; omega
      · dsimp only; omega
    · rw [if_neg hlt]
      refine ⟨E, h.ev, h.out, ?_⟩
      rw [h.st]
      have hle := List.length_filter_le (fun x : Int => decide (x < n)) l
      exact List.filter_eq_self.2 fun r hr => by
        have : l.countP (· < n) = l.length := by omega
        exact List.countP_eq_length.1 this r hr

/-- HOW CHARACTERS ARE WRITTEN: the plain ones, and the others by their places. -/
theorem enc_ev {l : List Int} (h : strOk l = true) : ∃ E, EvAll (x0 l) E ∧ (E.foldl evStep (x0 l)).out = l ∧ pnEnc l = head0 l ++ evB (x0 l) E := by
  have hr : ∀ r ∈ l, right r = true := fun r hr => List.all_eq_true.1 h r hr
  have hpl : (plainL l).length = (plainB l).length := by simp [plainL, plainB]
  obtain ⟨E, h1, h2, h3⟩ := SimP.enF hr (l.length + 1) 128 ⟨head0 l, 0, 72, (plainB l).length⟩ [] ⟨trivial, rfl, rfl, rfl, by rw [← hpl]; rfl, by simp [x0], by simp [x0], Int.le_refl _, Int.le_refl _, Int.le_refl _⟩ (by dsimp only; omega)
  refine ⟨E, h1, h3, ?_⟩
  rw [show pnEnc l = enF l (plainB l).length (l.length + 1) 128 ⟨head0 l, 0, 72, (plainB l).length⟩ from rfl, ← h2, evRun_s]
  rfl
end Go.AE
/- THE LAWS: what is written is read as it was, and what is read is written as it was but for the case of digits. -/
namespace Go.AE

theorem x0_SI (l : List Int) : SI (x0 l) := ⟨Int.le_refl _, Int.le_refl _, by simp [x0], by simp [x0]⟩
theorem x0_Top (l : List Int) : Top (x0 l) := ⟨fun r hr => by
  have hr : r ∈ plainL l := hr
  simp [plainL] at hr
  have : (x0 l).n = 128 := rfl
  omega, fun r hr => by
  have hr : r ∈ (plainL l).drop 0 := hr
  simp [plainL] at hr
  have : (x0 l).n = 128 := rfl
  omega⟩

theorem evB_digits : ∀ (E : List (Int × Nat)) (x : DcS), SI x → EvAll x E → x.out.length + E.length ≤ 1000 → ∀ c ∈ evB x E, ∃ v : Int, 0 ≤ v ∧ v < 36 ∧ c = dgb v
  | [], _, _, _, _, c, hc => by cases hc
  | e :: E, x, h, k, hl, c, hc => by
    simp only [List.length_cons] at hl
    have hs : (evStep x e).out.length = x.out.length + 1 := insA_length k.1.pl
    rw [evB] at hc
    rcases List.mem_append.1 hc with hc | hc
    · exact wrF_digits _ _ _ (evD_ok h k.1 (by omega)).1 c hc
    · exact evB_digits E _ (h.step k.1 (by omega)) k.2 (by omega) c hc
theorem evB_len : ∀ (E : List (Int × Nat)) (x : DcS), E.length ≤ (evB x E).length
  | [], _ => Nat.le_refl _
  | e :: E, x => by
    have h1 := evB_len E (evStep x e)
    have h2 := wr_pos (evD x e) x.bias
    rw [evB, List.length_append, List.length_cons]; omega

theorem ldK_none (s : List UInt8) : ∀ k, (∀ j, j < k → s.getD j 0 ≠ 45) → ldK s k = -1
  | 0, _ => rfl
  | k + 1, h => by rw [ldK, if_neg (h k (by omega))]; exact ldK_none s k (fun j hj => h j (by omega))
theorem ldK_at (s : List UInt8) (p : Nat) (hp : s.getD p 0 = 45) : ∀ k, p < k → (∀ j, p < j → j < k → s.getD j 0 ≠ 45) → ldK s k = p
  | 0, h, _ => by omega
  | k + 1, h, h2 => by
    rw [ldK]
    by_cases e : p = k
    · subst e; rw [if_pos hp]
    · rw [if_neg (h2 k (by omega) (by omega))]
      exact ldK_at s p hp k (by omega) (fun j h3 h4 => h2 j h3 (by omega))
theorem ldK_hit (s : List UInt8) : ∀ k, 0 ≤ ldK s k → s.getD (ldK s k).toNat 0 = 45
  | 0, h => by simp [ldK] at h
  | k + 1, h => by
    rw [ldK] at h ⊢
    split
    · rename_i h1
      simpa using h1
    · rename_i h1
      rw [if_neg h1] at h
      exact ldK_hit s k h

theorem not_dash {l : List UInt8} (h : ∀ c ∈ l, ∃ v : Int, 0 ≤ v ∧ v < 36 ∧ c = dgb v) (j : Nat) : l.getD j 0 ≠ 45 := by
  intro hh
  by_cases hj : j < l.length
  · have hm : l.getD j 0 ∈ l := by simp [List.getD, hj]
    obtain ⟨v, h1, h2, h3⟩ := h _ hm
    have := dgb_range h1 h2
    rw [← h3, hh] at this
    simp at this
  · rw [List.getD_eq_getElem?_getD, List.getElem?_eq_none (by omega)] at hh
    cases hh

theorem lastD_enc {l : List Int} {e : List UInt8} (h : ∀ c ∈ e, ∃ v : Int, 0 ≤ v ∧ v < 36 ∧ c = dgb v) : lastD (head0 l ++ e) = if 0 < (plainB l).length then ((plainB l).length : Int) else -1 := by
  unfold lastD head0
  by_cases hp : 0 < (plainB l).length
  · rw [if_pos hp, if_pos hp]
    refine ldK_at _ _ ?_ _ (by simp) (fun j h1 h2 => ?_)
    · rw [List.append_assoc, List.getD_eq_getElem?_getD, List.getElem?_append_right (Nat.le_refl _)]; simp
    · rw [List.getD_eq_getElem?_getD, List.getElem?_append_right (by simp; omega), ← List.getD_eq_getElem?_getD]
      exact not_dash h _
  · rw [if_neg hp, if_neg hp]
    have : plainB l = [] := List.length_eq_zero_iff.1 (by omega)
    rw [this, List.nil_append]
    exact ldK_none _ _ (fun j _ => not_dash h j)

theorem plainB_back {l : List Int} (h : ∀ r ∈ l, 0 ≤ r) : (plainB l).map (fun c => (c.toNat : Int)) = plainL l := by
  unfold plainB plainL
  rw [List.map_map]
  have : ∀ r ∈ l.filter (· < 128), ((fun c : UInt8 => (c.toNat : Int)) ∘ ofI) r = r := fun r hr => by
    simp at hr
    have := h r hr.1
    simp [ofI]; omega
  calc _ = (l.filter (· < 128)).map id := List.map_congr_left this
    _ = _ := by simp
theorem plainB_small {l : List Int} (h : ∀ r ∈ l, 0 ≤ r) : ∀ c ∈ plainB l, c.toNat < 128 := fun c hc => by
  unfold plainB at hc
  obtain ⟨r, hr, rfl⟩ := List.mem_map.1 hc
  simp at hr
  have := h r hr.1
  simp [ofI]; omega

theorem head0_small {l : List Int} (h : ∀ r ∈ l, 0 ≤ r) : ∀ c ∈ head0 l, c.toNat < 128 := fun c hc => by
  unfold head0 at hc
  split at hc
  · rcases List.mem_append.1 hc with hc | hc
    · exact plainB_small h c hc
    · simp at hc; subst hc; decide
  · exact plainB_small h c hc

theorem dc0_enc {l : List Int} (hl : ∀ r ∈ l, 0 ≤ r) {e : List UInt8} (h : ∀ c ∈ e, ∃ v : Int, 0 ≤ v ∧ v < 36 ∧ c = dgb v) : dc0 (head0 l ++ e) = ⟨e, 128, 0, 72, true, plainL l⟩ := by
  unfold dc0
  rw [lastD_enc h]
  by_cases hp : 0 < (plainB l).length
  · rw [if_pos hp, if_pos (by omega), Int.toNat_natCast]
    unfold head0
    rw [if_pos hp]
    congr 1
    · rw [show (plainB l).length + 1 = (plainB l ++ [45]).length by simp, List.drop_left]
    · rw [List.append_assoc, List.take_left, plainB_back hl]
  · rw [if_neg hp, if_neg (by decide)]
    have h0 : plainB l = [] := List.length_eq_zero_iff.1 (by omega)
    have h1 : plainL l = [] := by rw [← plainB_back hl, h0]; rfl
    unfold head0
    rw [if_neg hp, h0, h1]
    rfl

theorem eight_miss {s : List UInt8} (h : ∀ c ∈ s, c.toNat < 128) : eight s = -1 := eightF_miss fun j hj => by
  have hm : s.getD j 0 ∈ s := by simp [List.getD, hj]
  have := h _ hm
  omega

structure Enc (l : List Int) (E : List (Int × Nat)) : Prop where
  ev : EvAll (x0 l) E
  out : (E.foldl evStep (x0 l)).out = l
  enc : pnEnc l = head0 l ++ evB (x0 l) E
  dig : ∀ c ∈ evB (x0 l) E, ∃ v : Int, 0 ≤ v ∧ v < 36 ∧ c = dgb v
  len : (plainL l).length + E.length = l.length
theorem enc_all {l : List Int} (h : strOk l = true) (hl : l.length ≤ 1000) : ∃ E, Enc l E := by
  obtain ⟨E, h1, h2, h3⟩ := enc_ev h
  have hlen := evRun_len E (x0 l) h1
  rw [h2] at hlen
  have hlen : l.length = (plainL l).length + E.length := hlen
  exact ⟨E, h1, h2, h3, evB_digits E (x0 l) (x0_SI l) h1 (by show (plainL l).length + _ ≤ _; omega), hlen.symm⟩
theorem nonneg_of {l : List Int} (h : strOk l = true) : ∀ r ∈ l, 0 ≤ r := fun r hr => ((right_iff r).1 (List.all_eq_true.1 h r hr)).1

/-- Only plain bytes are written. -/
theorem enc_small {l : List Int} (h : strOk l = true) (hl : l.length ≤ 1000) : ∀ c ∈ pnEnc l, c.toNat < 128 := fun c hc => by
  obtain ⟨E, e⟩ := enc_all h hl
  rw [e.enc] at hc
  rcases List.mem_append.1 hc with hc | hc
  · exact head0_small (nonneg_of h) c hc
  · obtain ⟨v, h1, h2, rfl⟩ := e.dig c hc
    have := dgb_range h1 h2
    omega
/-- WHAT IS WRITTEN IS READ AS IT WAS. -/
theorem pn_back {l : List Int} (h : strOk l = true) (hl : l.length ≤ 1000) : pnDec (pnEnc l) = some l := by
  obtain ⟨E, e⟩ := enc_all h hl
  have hlen := evB_len E (x0 l)
  have h8 := eight_miss (enc_small h hl)
  unfold pnDec
  rw [h8, if_neg (by decide), e.enc, dc0_enc (nonneg_of h) e.dig]
  have hk := dec_evs E (x0 l) (x0_SI l) e.ev (by have := e.len; show (plainL l).length + _ ≤ _; omega) ((head0 l ++ evB (x0 l) E).length + 1 - E.length) []
  rw [List.append_nil, show (head0 l ++ evB (x0 l) E).length + 1 - E.length + E.length = (head0 l ++ evB (x0 l) E).length + 1 by simp; omega] at hk
  have hk : dcF ((head0 l ++ evB (x0 l) E).length + 1) ⟨evB (x0 l) E, 128, 0, 72, true, plainL l⟩ = _ := hk
  rw [hk, show (head0 l ++ evB (x0 l) E).length + 1 - E.length = ((head0 l ++ evB (x0 l) E).length - E.length) + 1 by simp; omega]
  show some (E.foldl evStep (x0 l)).out = some l
  rw [e.out]
theorem enc_inj {l m : List Int} (h : strOk l = true) (k : strOk m = true) (hl : l.length ≤ 1000) (hm : m.length ≤ 1000) (e : pnEnc l = pnEnc m) : l = m := by
  have h1 := pn_back h hl
  rw [e, pn_back k hm] at h1
  simpa using h1.symm

theorem evRun_right : ∀ (E : List (Int × Nat)) (x : DcS), EvAll x E → strOk x.out = true → strOk (E.foldl evStep x).out = true
  | [], _, _, h => h
  | e :: E, x, k, h => evRun_right E _ k.2 (by
    show (insA x.out e.2 e.1).all right = true
    unfold insA
    have h : x.out.all right = true := h
    rw [← List.take_append_drop e.2 x.out, List.all_append] at h
    simp only [Bool.and_eq_true] at h
    rw [List.all_append, List.all_cons, h.1, h.2, k.1.rt]; rfl)
theorem evRun_plain : ∀ (E : List (Int × Nat)) (x : DcS), EvAll x E → SI x → x.out.length + E.length ≤ 1000 → plainL (E.foldl evStep x).out = plainL x.out
  | [], _, _, _, _ => rfl
  | e :: E, x, k, h, hl => by
    simp only [List.length_cons] at hl
    have hs : (evStep x e).out.length = x.out.length + 1 := insA_length k.1.pl
    rw [List.foldl_cons, evRun_plain E _ k.2 (h.step k.1 (by omega)) (by omega)]
    show (insA x.out e.2 e.1).filter (· < 128) = x.out.filter (· < 128)
    have h1 := h.n0
    have h2 := k.1.up
    have : ¬ e.1 < 128 := by omega
    unfold insA
    rw [List.filter_append, List.filter_cons, if_neg (by simpa using this), ← List.filter_append, List.take_append_drop]

/-- WHAT IS READ IS WRITTEN AS IT WAS, but for the case of digits. -/
theorem enc_dec {s : List UInt8} {m : List Int} (hs : s.length ≤ 400) (h : pnDec s = some m) : strOk m = true ∧ m.length ≤ s.length ∧ plainS (pnEnc m) = plainS s := by
  unfold pnDec at h
  split at h
  · cases h
  · rename_i h8
    have hb := eight_none h8
    obtain ⟨L, R, hd, hL⟩ : ∃ L R, dc0 s = ⟨R, 128, 0, 72, true, L.map fun c => (c.toNat : Int)⟩ ∧ (∀ c ∈ L, c.toNat < 128) ∧ s = (if 0 < L.length then L ++ [45] else L) ++ R := by
      have hlt := ldK_lt s s.length
      have hl' : lastD s = ldK s s.length := rfl
      unfold dc0
      by_cases h0 : 0 < lastD s
      · rw [if_pos h0]
        have hh := ldK_hit s s.length (by omega)
        rw [← hl'] at hh
        obtain ⟨p, hp⟩ : ∃ p : Nat, lastD s = p := ⟨(lastD s).toNat, by omega⟩
        rw [hp, Int.toNat_natCast] at hh ⊢
        refine ⟨s.take p, s.drop (p + 1), rfl, fun c hc => hb c (List.mem_of_mem_take hc), ?_⟩
        have hpl : p < s.length := by omega
        rw [if_pos (by simp; omega), List.append_assoc]
        have : s.drop p = 45 :: s.drop (p + 1) := by
          rw [List.drop_eq_getElem_cons hpl]
          congr 1
          rw [← hh]; simp [List.getD, hpl]
        rw [List.singleton_append, ← this, List.take_append_drop]
      · rw [if_neg h0]
        exact ⟨[], s, rfl, by simp, by simp⟩
    obtain ⟨hL, hsr⟩ := hL
    have hslen : L.length + R.length ≤ s.length := by
      have := congrArg List.length hsr
      split at this <;> simp at this <;> omega
    rw [hd] at h
    have hI : SI ⟨head0 m, 128, 0, 72, true, L.map fun c => (c.toNat : Int)⟩ := ⟨Int.le_refl _, Int.le_refl _, by simp, by simp⟩
    obtain ⟨E, e1, e2, e3⟩ : ∃ E, EvAll ⟨head0 m, 128, 0, 72, true, L.map fun c => (c.toNat : Int)⟩ E ∧ (E.foldl evStep ⟨head0 m, 128, 0, 72, true, L.map fun c => (c.toNat : Int)⟩).out = m ∧ evB ⟨head0 m, 128, 0, 72, true, L.map fun c => (c.toNat : Int)⟩ E = plainS R := by
      have hll : (L.map fun c => (c.toNat : Int)).length = L.length := by simp
      generalize (L.map fun c => (c.toNat : Int)) = L' at *
      generalize hx : (⟨head0 m, 128, 0, 72, true, L'⟩ : DcS) = x at *
      have h1 : x.n = 128 := by rw [← hx]
      have h2 : x.i = 0 := by rw [← hx]
      have h3 : x.bias = 72 := by rw [← hx]
      have h4 : x.first = true := by rw [← hx]
      have h5 : x.out = L' := by rw [← hx]
      refine ev_of_dec (s.length + 1) R x m hI (by omega) (by rw [h5]; omega) ?_
      rw [h1, h2, h3, h4, h5]
      exact h
    have hEl := evB_len E ⟨head0 m, 128, 0, 72, true, L.map fun c => (c.toNat : Int)⟩
    rw [e3] at hEl
    have hEl : E.length ≤ R.length := by simpa [plainS] using hEl
    have hLr : strOk (L.map fun c => (c.toNat : Int)) = true := List.all_eq_true.2 fun r hr => by
      obtain ⟨c, hc, rfl⟩ := List.mem_map.1 hr
      have := hL c hc
      exact (right_iff _).2 (by omega)
    have hok := evRun_right E _ e1 hLr
    rw [e2] at hok
    have hpl := evRun_plain E _ e1 hI (by simp; omega)
    rw [e2] at hpl
    have hLL : plainL (L.map fun c => (c.toNat : Int)) = L.map fun c => (c.toNat : Int) := List.filter_eq_self.2 fun r hr => by
      obtain ⟨c, hc, rfl⟩ := List.mem_map.1 hr
      have := hL c hc
      exact decide_eq_true (by omega)
    dsimp only at hpl
    rw [hLL] at hpl
    have hx : (⟨head0 m, 128, 0, 72, true, L.map fun c => (c.toNat : Int)⟩ : DcS) = x0 m := by unfold x0; rw [hpl]
    have hrl := evRun_len E _ e1
    rw [e2] at hrl
    have hrl : m.length = L.length + E.length := by simpa using hrl
    rw [hx] at e1 e2 e3
    obtain ⟨E', e'⟩ := enc_all hok (by omega)
    have hEE : E' = E := ev_uniq E.length E' E (x0 m) (by have := e'.len; rw [hpl] at this; simp at this; omega) rfl (x0_Top m) e'.ev e1 (by rw [e'.out, e2])
    refine ⟨hok, by omega, ?_⟩
    rw [e'.enc, hEE, e3]
    have hB : plainB m = L := by
      unfold plainB
      rw [show m.filter (· < 128) = plainL m from rfl, hpl, List.map_map]
      have : ∀ c ∈ L, (ofI ∘ fun c : UInt8 => (c.toNat : Int)) c = c := fun c _ => by
        apply UInt8.toNat.inj
        have := c.toNat_lt
        simp [ofI]
      calc _ = L.map id := List.map_congr_left this
        _ = _ := by simp
    unfold head0
    rw [hB]
    conv => rhs; rw [hsr]
    unfold plainS
    have h2 : List.map lowB (List.map lowB R) = List.map lowB R := plainS_twice R
    rw [List.map_append, List.map_append, h2]
end Go.AE
