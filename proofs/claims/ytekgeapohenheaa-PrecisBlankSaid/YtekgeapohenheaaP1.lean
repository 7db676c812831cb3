/- Contracts of functions that the laws of this seat reach, and plain laws of what they compute. No condition beyond each statement's own. -/
import Derived.Test.YtekgeapohenheaaU1
import Derived.Test.YtekgeapohenheaaV1
set_option linter.unusedVariables false
set_option linter.unusedSimpArgs false
/- Stable order by a key: it is told by its members of each key, and so has but one. -/
namespace Go.AE

/-- In order of a key. -/
def Up (f : Int → Int) : List Int → Prop
  | [] => True
  | x :: l => (∀ y ∈ l, f x ≤ f y) ∧ Up f l

theorem Up.append {f : Int → Int} : ∀ {A B : List Int}, Up f (A ++ B) ↔ Up f A ∧ Up f B ∧ ∀ x ∈ A, ∀ y ∈ B, f x ≤ f y
  | [], B => by simp [Up]
  | a :: A, B => by
    simp only [List.cons_append, Up, Up.append (A := A), List.mem_append, List.mem_cons]
    constructor
    · rintro ⟨h1, h2, h3, h4⟩
      refine ⟨⟨fun y hy => h1 y (.inl hy), h2⟩, h3, ?_⟩
      rintro x (rfl | hx) y hy
      · exact h1 y (.inr hy)
      · exact h4 x hx y hy
    · rintro ⟨⟨h1, h2⟩, h3, h4⟩
      refine ⟨?_, h2, h3, fun x hx => h4 x (.inr hx)⟩
      rintro y (hy | hy)
      · exact h1 y hy
      · exact h4 a (.inl rfl) y hy

def Kin (f : Int → Int) (A B : List Int) : Prop := ∀ c, A.filter (fun x => f x == c) = B.filter (fun x => f x == c)
theorem Kin.refl (f : Int → Int) (A : List Int) : Kin f A A := fun _ => rfl
theorem Kin.symm {f : Int → Int} {A B : List Int} (h : Kin f A B) : Kin f B A := fun c => (h c).symm
theorem Kin.trans {f : Int → Int} {A B C : List Int} (h : Kin f A B) (k : Kin f B C) : Kin f A C := fun c => (h c).trans (k c)
theorem Kin.app {f : Int → Int} {A B C D : List Int} (h : Kin f A B) (k : Kin f C D) : Kin f (A ++ C) (B ++ D) := fun c => by rw [List.filter_append, List.filter_append, h c, k c]
theorem Kin.mem {f : Int → Int} {A B : List Int} (h : Kin f A B) {x : Int} : x ∈ A ↔ x ∈ B := by
  have h1 := h (f x)
  constructor
  · intro hx
    have : x ∈ A.filter (fun y => f y == f x) := List.mem_filter.2 ⟨hx, by simp⟩
    rw [h1] at this
    exact (List.mem_filter.1 this).1
  · intro hx
    have : x ∈ B.filter (fun y => f y == f x) := List.mem_filter.2 ⟨hx, by simp⟩
    rw [← h1] at this
    exact (List.mem_filter.1 this).1
/-- Two parts of which no key is shared may be turned. -/
theorem Kin.turn {f : Int → Int} {A B : List Int} (h : ∀ x ∈ A, ∀ y ∈ B, f x ≠ f y) : Kin f (A ++ B) (B ++ A) := fun c => by
  rw [List.filter_append, List.filter_append]
  by_cases hA : A.filter (fun x => f x == c) = []
  · rw [hA]; simp
  · obtain ⟨x, hx⟩ := List.exists_mem_of_ne_nil _ hA
    have hx := List.mem_filter.1 hx
    have : B.filter (fun x => f x == c) = [] := List.filter_eq_nil_iff.2 fun y hy hc => by
      have h1 : f x = c := by simpa using hx.2
      have h2 : f y = c := by simpa using hc
      exact h x hx.1 y hy (by omega)
    rw [this]; simp

theorem up_ext {f : Int → Int} : ∀ {A B : List Int}, Up f A → Up f B → Kin f A B → A = B
  | [], [], _, _, _ => rfl
  | [], b :: B, _, _, h => by have := (h.mem (x := b)).2 (by simp); simp at this
  | a :: A, [], _, _, h => by have := (h.mem (x := a)).1 (by simp); simp at this
  | a :: A, b :: B, h1, h2, h => by
    have hab : f b ≤ f a := by
      rcases List.mem_cons.1 ((h.mem (x := a)).1 (by simp)) with e | hm
      · rw [e]; exact Int.le_refl _
      · exact h2.1 a hm
    have hba : f a ≤ f b := by
      rcases List.mem_cons.1 ((h.mem (x := b)).2 (by simp)) with e | hm
      · rw [e]; exact Int.le_refl _
      · exact h1.1 b hm
    have e : f a = f b := by omega
    have hh := h (f a)
    rw [List.filter_cons, if_pos (by simp), List.filter_cons, if_pos (by simp [e])] at hh
    have hh := (List.cons.inj hh).1
    subst hh
    have : Kin f A B := fun c => by
      have := h c
      rw [List.filter_cons, List.filter_cons] at this
      split at this
      · exact (List.cons.inj this).2
      · exact this
    rw [up_ext h1.2 h2.2 this]

/-- One put behind all that are not above it. -/
def insK (f : Int → Int) (W : List Int) (x : Int) : List Int := W.takeWhile (fun w => decide (f w ≤ f x)) ++ x :: W.dropWhile (fun w => decide (f w ≤ f x))
def ssort (f : Int → Int) (S : List Int) : List Int := S.foldl (insK f) []

theorem up_drop {f : Int → Int} {x : Int} : ∀ {W : List Int}, Up f W → ∀ w ∈ W.dropWhile (fun w => decide (f w ≤ f x)), f x < f w
  | [], _, w, hw => by simp at hw
  | a :: W, h, w, hw => by
    rw [List.dropWhile_cons] at hw
    split at hw
    · exact up_drop h.2 w hw
    · rename_i ha
      have ha : f x < f a := by simpa using ha
      rcases List.mem_cons.1 hw with rfl | hw
      · exact ha
      · have := h.1 w hw; omega

theorem put_up {f : Int → Int} {A B : List Int} {x : Int} (h : Up f (A ++ B)) (h1 : ∀ w ∈ A, f w ≤ f x) (h2 : ∀ w ∈ B, f x < f w) : Up f (A ++ x :: B) ∧ Kin f (A ++ x :: B) ((A ++ B) ++ [x]) := by
  obtain ⟨q1, q2, q3⟩ := Up.append.1 h
  refine ⟨Up.append.2 ⟨q1, ⟨fun y hy => Int.le_of_lt (h2 y hy), q2⟩, fun a ha y hy => ?_⟩, ?_⟩
  · rcases List.mem_cons.1 hy with rfl | hy
    · exact h1 a ha
    · exact q3 a ha y hy
  · rw [List.append_assoc]
    refine Kin.app (Kin.refl f A) ?_
    exact Kin.turn (A := [x]) (B := B) fun a ha y hy => by
      simp at ha
      subst ha
      have := h2 y hy
      omega

theorem insK_up {f : Int → Int} {W : List Int} {x : Int} (h : Up f W) : Up f (insK f W x) ∧ Kin f (insK f W x) (W ++ [x]) := by
  have e := List.takeWhile_append_dropWhile (p := fun w => decide (f w ≤ f x)) (l := W)
  have := put_up (f := f) (x := x) (A := W.takeWhile (fun w => decide (f w ≤ f x))) (B := W.dropWhile (fun w => decide (f w ≤ f x))) (by rw [e]; exact h) (fun w hw => by
    have := List.all_eq_true.1 (List.all_takeWhile (p := fun w => decide (f w ≤ f x)) (l := W)) w hw
    simpa using this) (up_drop h)
  rw [e] at this
  exact this

theorem ssort_snoc (f : Int → Int) (S : List Int) (x : Int) : ssort f (S ++ [x]) = insK f (ssort f S) x := by simp [ssort]
theorem ssort_up (f : Int → Int) (S : List Int) : Up f (ssort f S) ∧ Kin f (ssort f S) S := by
  have key : ∀ (n : Nat) (S : List Int), S.length = n → Up f (ssort f S) ∧ Kin f (ssort f S) S := by
    intro n
    induction n with
    | zero => intro S hS; rw [List.length_eq_zero_iff.1 hS]; exact ⟨trivial, Kin.refl f []⟩
    | succ n ih =>
      intro S hS
      obtain ⟨T, x, rfl⟩ : ∃ T x, S = T ++ [x] := ⟨S.dropLast, S.getLast (by intro hh; subst hh; simp at hS), (List.dropLast_concat_getLast _).symm⟩
      simp at hS
      obtain ⟨h1, h2⟩ := ih T hS
      rw [ssort_snoc]
      obtain ⟨q1, q2⟩ := insK_up (x := x) h1
      exact ⟨q1, q2.trans (h2.app (Kin.refl f [x]))⟩
  exact key S.length S rfl

/-- BUT ONE ORDER. -/
theorem ssort_uniq {f : Int → Int} {R S : List Int} (h : Up f R) (k : Kin f R S) : R = ssort f S := by
  obtain ⟨h1, h2⟩ := ssort_up f S
  exact up_ext h h1 (k.trans h2.symm)
theorem ssort_id {f : Int → Int} {S : List Int} (h : Up f S) : ssort f S = S := (ssort_uniq h (Kin.refl f S)).symm
theorem ssort_congr {f : Int → Int} {R S : List Int} (h : Kin f R S) : ssort f R = ssort f S := ssort_uniq (ssort_up f R).1 ((ssort_up f R).2.trans h)
theorem ssort_length (f : Int → Int) (S : List Int) : (ssort f S).length = S.length := by
  have key : ∀ (n : Nat) (S : List Int), S.length = n → (ssort f S).length = n := by
    intro n
    induction n with
    | zero => intro S hS; rw [List.length_eq_zero_iff.1 hS]; rfl
    | succ n ih =>
      intro S hS
      obtain ⟨T, x, rfl⟩ : ∃ T x, S = T ++ [x] := ⟨S.dropLast, S.getLast (by intro hh; subst hh; simp at hS), (List.dropLast_concat_getLast _).symm⟩
      simp at hS
      rw [ssort_snoc]
      have e := congrArg List.length (List.takeWhile_append_dropWhile (p := fun w => decide (f w ≤ f x)) (l := ssort f T))
      rw [List.length_append] at e
      simp only [insK, List.length_append, List.length_cons]
      have := ih T hS
      omega
  exact key S.length S rfl

/-- Two sorted rows, each cut in two, so that the first parts may stand ahead. -/
theorem ssort_quad {f : Int → Int} {X1 X2 Y1 Y2 : List Int} (hX : Up f (X1 ++ X2)) (hY : Up f (Y1 ++ Y2)) (h1 : ∀ x ∈ X1, ∀ y ∈ Y2, f x ≤ f y) (h2 : ∀ y ∈ Y1, ∀ x ∈ X2, f y < f x) :
    ssort f (X1 ++ Y1) ++ ssort f (X2 ++ Y2) = ssort f ((X1 ++ X2) ++ (Y1 ++ Y2)) := by
  obtain ⟨a1, a2, a3⟩ := Up.append.1 hX
  obtain ⟨b1, b2, b3⟩ := Up.append.1 hY
  obtain ⟨p1, p2⟩ := ssort_up f (X1 ++ Y1)
  obtain ⟨q1, q2⟩ := ssort_up f (X2 ++ Y2)
  refine ssort_uniq (Up.append.2 ⟨p1, q1, fun x hx y hy => ?_⟩) ((p2.app q2).trans ?_)
  · have hx := List.mem_append.1 (p2.mem.1 hx)
    have hy := List.mem_append.1 (q2.mem.1 hy)
    rcases hx with hx | hx <;> rcases hy with hy | hy
    · exact a3 x hx y hy
    · exact h1 x hx y hy
    · exact Int.le_of_lt (h2 x hx y hy)
    · exact b3 x hx y hy
  · rw [List.append_assoc, List.append_assoc]
    refine (Kin.refl f X1).app ?_
    rw [← List.append_assoc, ← List.append_assoc]
    refine Kin.app (Kin.turn fun y hy x hx => ?_) (Kin.refl f Y2)
    have := h2 y hy x hx
    omega

/-- One member into a row. -/
theorem ssort_put {f : Int → Int} {A B : List Int} {x : Int} (h : Up f (A ++ B)) (h1 : ∀ w ∈ A, f w ≤ f x) (h2 : ∀ w ∈ B, f x < f w) : A ++ x :: B = ssort f ((A ++ B) ++ [x]) := by
  obtain ⟨q1, q2⟩ := put_up h h1 h2
  exact ssort_uniq q1 q2
/-- One member, from ahead, into a row. -/
theorem ssort_pre {f : Int → Int} {A B : List Int} {x : Int} (h : Up f (A ++ B)) (h1 : ∀ w ∈ A, f w < f x) (h2 : ∀ w ∈ B, f x ≤ f w) : A ++ x :: B = ssort f (x :: (A ++ B)) := by
  obtain ⟨a1, a2, a3⟩ := Up.append.1 h
  refine ssort_uniq (Up.append.2 ⟨a1, ⟨h2, a2⟩, fun a ha y hy => ?_⟩) ?_
  · rcases List.mem_cons.1 hy with rfl | hy
    · exact Int.le_of_lt (h1 a ha)
    · exact a3 a ha y hy
  · rw [show A ++ x :: B = (A ++ [x]) ++ B by simp, show x :: (A ++ B) = ([x] ++ A) ++ B by simp]
    exact Kin.app (Kin.turn fun a ha y hy => by simp at hy; subst hy; have := h1 a ha; omega) (Kin.refl f B)
theorem up_last {f : Int → Int} {A : List Int} {x : Int} (h : Up f (A ++ [x])) : ∀ w ∈ A, f w ≤ f x := fun w hw => (Up.append.1 h).2.2 w hw x (by simp)

/-! ### Cells turned -/
def swR (L : List Int) (p q : Nat) : Nat → List Int
  | 0 => L
  | n + 1 => ((swR L p q n).set (p + n) ((swR L p q n).getD (q + n) 0)).set (q + n) ((swR L p q n).getD (p + n) 0)
theorem swR_length (L : List Int) (p q n : Nat) : (swR L p q n).length = L.length := by
  induction n with
  | zero => rfl
  | succ n ih => simp [swR, ih]
theorem set_mid {A B : List Int} {x y : Int} {k : Nat} (h : k = A.length) : (A ++ x :: B).set k y = A ++ y :: B := by
  subst h; simp
theorem getD_mid {A B : List Int} {x d : Int} {k : Nat} (h : k = A.length) : (A ++ x :: B).getD k d = x := by
  subst h; simp [List.getD]
theorem swR_seg : ∀ (n : Nat) (A X Y Z B : List Int), X.length = n → Z.length = n → swR (A ++ X ++ Y ++ Z ++ B) A.length (A.length + n + Y.length) n = A ++ Z ++ Y ++ X ++ B
  | 0, A, X, Y, Z, B, hX, hZ => by rw [List.length_eq_zero_iff.1 hX, List.length_eq_zero_iff.1 hZ]; rfl
  | n + 1, A, X, Y, Z, B, hX, hZ => by
    obtain ⟨X, x, rfl⟩ : ∃ T x, X = T ++ [x] := ⟨X.dropLast, X.getLast (by intro hh; subst hh; simp at hX), (List.dropLast_concat_getLast _).symm⟩
    obtain ⟨Z, z, rfl⟩ : ∃ T x, Z = T ++ [x] := ⟨Z.dropLast, Z.getLast (by intro hh; subst hh; simp at hZ), (List.dropLast_concat_getLast _).symm⟩
    simp at hX hZ
    have ih := swR_seg n A X (x :: Y) Z (z :: B) hX hZ
    have e1 : A ++ (X ++ [x]) ++ Y ++ (Z ++ [z]) ++ B = A ++ X ++ (x :: Y) ++ Z ++ (z :: B) := by simp
    have e2 : A.length + (n + 1) + Y.length = A.length + n + (x :: Y).length := by simp; omega
    rw [e1, e2, swR, ih]
    have f1 : A ++ Z ++ x :: Y ++ X ++ z :: B = (A ++ Z) ++ x :: (Y ++ X ++ z :: B) := by simp
    have f2 : A ++ Z ++ x :: Y ++ X ++ z :: B = (A ++ Z ++ x :: Y ++ X) ++ z :: B := by simp
    have g1 : (A ++ Z ++ x :: Y ++ X ++ z :: B).getD (A.length + n) 0 = x := by rw [f1]; exact getD_mid (by simp; omega)
    have g2 : (A ++ Z ++ x :: Y ++ X ++ z :: B).getD (A.length + n + (x :: Y).length + n) 0 = z := by rw [f2]; exact getD_mid (by simp; omega)
    rw [g1, g2, f1, set_mid (by simp; omega)]
    have f3 : (A ++ Z) ++ z :: (Y ++ X ++ z :: B) = (A ++ Z ++ z :: Y ++ X) ++ z :: B := by simp
    rw [f3, set_mid (by simp; omega)]
    simp

end Go.AE
/- What characters are split into, and what two make. -/
namespace Go.AE
def han (r : Int) : Bool := decide (44032 ≤ r) && decide (r ≤ 55203)
def syl (r : Int) : List Int := [4352 + (r - 44032) / 588, 4449 + (r - 44032) % 588 / 28] ++ (if (r - 44032) % 28 = 0 then [] else [4519 + (r - 44032) % 28])
/-- A character is not split. -/
def stop (soft : Bool) (r : Int) : Bool := !(spl r).2 || ((spl r).1.2.2.2.1 && !soft)
def oneF : Nat → Bool → Int → List Int
  | 0, _, r => [r]
  | f + 1, soft, r => if han r then syl r else if stop soft r then [r] else if (spl r).1.2.2.1 = 0 then oneF f soft (spl r).1.2.1 else oneF f soft (spl r).1.2.1 ++ oneF f soft (spl r).1.2.2.1
/-- How deep characters are split. -/
def Deep : Nat → Int → Prop
  | 0, r => (spl r).2 = false
  | n + 1, r => (spl r).2 = true → Deep n (spl r).1.2.1 ∧ ((spl r).1.2.2.1 ≠ 0 → Deep n (spl r).1.2.2.1)
def deepB : Nat → Int → Bool
  | 0, r => !(spl r).2
  | n + 1, r => !(spl r).2 || (deepB n (spl r).1.2.1 && ((spl r).1.2.2.1 == 0 || deepB n (spl r).1.2.2.1))
theorem deep_of : ∀ (n : Nat) (r : Int), deepB n r = true → Deep n r
  | 0, r, h => by simpa [deepB, Deep] using h
  | n + 1, r, h => by
    intro hs
    simp only [deepB, hs, Bool.not_true, Bool.false_or, Bool.and_eq_true, Bool.or_eq_true, beq_iff_eq] at h
    exact ⟨deep_of n _ h.1, fun h0 => deep_of n _ (h.2.resolve_left h0)⟩
theorem deep_all (r : Int) : Deep 4 r := by
  intro h
  have := spl_all (q := fun _ s => deepB 3 s.2.1 && (s.2.2.1 == 0 || deepB 3 s.2.2.1)) (by decide +kernel) (by decide +kernel) h
  simp only [Bool.and_eq_true, Bool.or_eq_true, beq_iff_eq] at this
  exact ⟨deep_of 3 _ this.1, fun h0 => deep_of 3 _ (this.2.resolve_left h0)⟩
theorem Deep.up : ∀ {n : Nat} {r : Int}, Deep n r → Deep (n + 1) r
  | 0, r, h => fun hs => by rw [show (spl r).2 = false from h] at hs; cases hs
  | n + 1, r, h => fun hs => ⟨(h hs).1.up, fun h0 => ((h hs).2 h0).up⟩
def one1 (soft : Bool) (r : Int) : List Int := oneF 5 soft r
def spltL (soft : Bool) (l : List Int) : List Int := l.flatMap (one1 soft)
theorem oneF_len : ∀ (f : Nat) (soft : Bool) (r : Int), (oneF f soft r).length ≤ 3 * 2 ^ f
  | 0, _, _ => by simp [oneF]
  | f + 1, soft, r => by
    have h1 := oneF_len f soft (spl r).1.2.1
    have h2 := oneF_len f soft (spl r).1.2.2.1
    have hp : 2 ^ (f + 1) = 2 ^ f * 2 := Nat.pow_succ _ _
    have hp0 : 0 < 2 ^ f := Nat.pow_pos (by decide)
    rw [oneF]
    split
    · unfold syl; split <;> simp <;> omega
    · split
      · simp; omega
      · split
        · omega
        · rw [List.length_append]; omega
theorem oneF_succ (f : Nat) (soft : Bool) (r : Int) : oneF (f + 1) soft r = if han r then syl r else if stop soft r then [r] else if (spl r).1.2.2.1 = 0 then oneF f soft (spl r).1.2.1 else oneF f soft (spl r).1.2.1 ++ oneF f soft (spl r).1.2.2.1 := rfl
theorem oneF_stable : ∀ (n : Nat) {r : Int} {soft : Bool}, Deep n r → oneF (n + 2) soft r = oneF (n + 1) soft r
  | 0, r, soft, h => by
    have : stop soft r = true := by simp [stop, show (spl r).2 = false from h]
    rw [oneF_succ 1 soft r, oneF_succ 0 soft r, this]
    simp
  | n + 1, r, soft, h => by
    rw [oneF_succ (n + 2) soft r, oneF_succ (n + 1) soft r]
    by_cases hst : stop soft r = true
    · rw [hst]; simp
    · have hs : (spl r).2 = true := by
        unfold stop at hst
        cases hq : (spl r).2
        · rw [hq] at hst; simp at hst
        · rfl
      rw [oneF_stable n (h hs).1]
      by_cases h0 : (spl r).1.2.2.1 = 0
      · simp only [h0, if_true]
      · rw [oneF_stable n ((h hs).2 h0)]
theorem one1_eq (soft : Bool) (r : Int) : one1 soft r = if han r then syl r else if stop soft r then [r] else if (spl r).1.2.2.1 = 0 then one1 soft (spl r).1.2.1 else one1 soft (spl r).1.2.1 ++ one1 soft (spl r).1.2.2.1 := by
  have e : one1 soft r = oneF 6 soft r := (oneF_stable 4 (deep_all r)).symm
  rw [e, oneF_succ]
  rfl

def mk2 (a b : Int) : Int × Bool := if 4352 ≤ a ∧ a ≤ 4370 ∧ 4449 ≤ b ∧ b ≤ 4469 then (44032 + (a - 4352) * 588 + (b - 4449) * 28, true)
  else if han a = true ∧ (a - 44032) % 28 = 0 ∧ 4520 ≤ b ∧ b ≤ 4546 then (a + b - 4519, true) else pr a b

/-! ### Order -/
def ordF : List Int → List Int → List Int
  | R, [] => ssort cls R
  | R, x :: l => if 0 < cls x then ordF (R ++ [x]) l else ssort cls R ++ x :: ordF [] l
def ordL (l : List Int) : List Int := ordF [] l
def turnX : Int → List Int → List Int
  | x, [] => [x]
  | x, y :: t => if 0 < cls y ∧ cls y < cls x then y :: turnX x t else x :: turnX y t
def turnP : List Int → List Int
  | [] => []
  | x :: t => turnX x t
theorem turnP_two (x y : Int) (t : List Int) : turnP (x :: y :: t) = if 0 < cls y ∧ cls y < cls x then y :: turnP (x :: t) else x :: turnP (y :: t) := rfl
end Go.AE
/- Neighbours turned till none is left to be: that is the order. -/
namespace Go.AE
def turnN : Nat → List Int → List Int
  | 0, l => l
  | k + 1, l => turnN k (turnP l)
theorem turnN_succ : ∀ (k : Nat) (l : List Int), turnN (k + 1) l = turnP (turnN k l)
  | 0, _ => rfl
  | k + 1, l => by rw [turnN, turnN_succ k (turnP l)]; rfl
theorem turnP_low {s : Int} (hs : cls s ≤ 0) : ∀ t : List Int, turnP (s :: t) = s :: turnP t
  | [] => rfl
  | y :: t => by rw [turnP_two, if_neg (by omega)]
theorem turnP_cut {s : Int} (hs : cls s ≤ 0) (t : List Int) : ∀ R : List Int, turnP (R ++ s :: t) = turnP R ++ s :: turnP t
  | [] => turnP_low hs t
  | [x] => by
    show turnP (x :: s :: t) = [x] ++ s :: turnP t
    rw [turnP_two, if_neg (by omega), turnP_low hs]; rfl
  | x :: y :: R => by
    have h1 := turnP_cut hs t (x :: R)
    have h2 := turnP_cut hs t (y :: R)
    show turnP (x :: y :: (R ++ s :: t)) = turnP (x :: y :: R) ++ s :: turnP t
    rw [turnP_two, turnP_two]
    split
    · rw [show x :: (R ++ s :: t) = x :: R ++ s :: t from rfl, h1]; rfl
    · rw [show y :: (R ++ s :: t) = y :: R ++ s :: t from rfl, h2]; rfl
theorem turnN_cut {s : Int} (hs : cls s ≤ 0) : ∀ (k : Nat) (R t : List Int), turnN k (R ++ s :: t) = turnN k R ++ s :: turnN k t
  | 0, _, _ => rfl
  | k + 1, R, t => by rw [turnN, turnP_cut hs, turnN_cut hs k]; rfl
theorem turnP_kin : ∀ l : List Int, Kin cls (turnP l) l ∧ (turnP l).length = l.length
  | [] => ⟨Kin.refl _ _, rfl⟩
  | [x] => ⟨Kin.refl _ _, rfl⟩
  | x :: y :: t => by
    have h1 := turnP_kin (x :: t)
    have h2 := turnP_kin (y :: t)
    rw [turnP_two]
    split
    · rename_i h
      refine ⟨(Kin.app (Kin.refl cls [y]) h1.1).trans ?_, by simp only [List.length_cons] at h1 ⊢; omega⟩
      exact Kin.app (A := [y] ++ [x]) (B := [x] ++ [y]) (C := t) (D := t) (Kin.turn fun a ha b hb => by simp at ha hb; subst ha; subst hb; omega) (Kin.refl cls t)
    · exact ⟨Kin.app (Kin.refl cls [x]) h2.1, by simp only [List.length_cons] at h2 ⊢; omega⟩
theorem turnN_kin : ∀ (k : Nat) (l : List Int), Kin cls (turnN k l) l ∧ (turnN k l).length = l.length
  | 0, _ => ⟨Kin.refl _ _, rfl⟩
  | k + 1, l => by
    have h1 := turnN_kin k (turnP l)
    have h2 := turnP_kin l
    exact ⟨h1.1.trans h2.1, h1.2.trans h2.2⟩
theorem turnP_tail {V : List Int} (hV : Up cls V) : ∀ U : List Int, (∀ u ∈ U, ∀ v ∈ V, cls u ≤ cls v) → turnP (U ++ V) = turnP U ++ V
  | [], _ => by
    have : ∀ V : List Int, Up cls V → turnP V = V := fun V => by
      induction V with
      | nil => intro _; rfl
      | cons x V ih =>
        intro h
        cases V with
        | nil => rfl
        | cons y V =>
          have := h.1 y (by simp)
          rw [turnP_two, if_neg (by omega), ih h.2]
    exact this V hV
  | [x], h => by
    cases V with
    | nil => rfl
    | cons v V =>
      have h1 := h x (by simp) v (by simp)
      have h2 := turnP_tail hV [] (by simp)
      show turnP (x :: v :: V) = _
      rw [turnP_two, if_neg (by omega)]
      rw [show turnP (v :: V) = v :: V from h2]; rfl
  | x :: y :: U, h => by
    have h1 := turnP_tail hV (x :: U) (fun u hu => h u (by rcases List.mem_cons.1 hu with rfl | hu <;> simp [*]))
    have h2 := turnP_tail hV (y :: U) (fun u hu => h u (List.mem_cons_of_mem _ hu))
    show turnP (x :: y :: (U ++ V)) = _
    rw [turnP_two, turnP_two]
    split
    · rw [show x :: (U ++ V) = x :: U ++ V from rfl, h1]; rfl
    · rw [show y :: (U ++ V) = y :: U ++ V from rfl, h2]; rfl
theorem turnP_last : ∀ (l : List Int), l ≠ [] → (∀ r ∈ l, 0 < cls r) → ∃ U m, turnP l = U ++ [m] ∧ ∀ u ∈ U, cls u ≤ cls m
  | [], h, _ => absurd rfl h
  | [x], _, _ => ⟨[], x, rfl, by simp⟩
  | x :: y :: t, _, hp => by
    rw [turnP_two]
    have hx := hp x (by simp)
    have hy := hp y (by simp)
    have top : ∀ {l U : List Int} {m : Int}, turnP l = U ++ [m] → (∀ u ∈ U, cls u ≤ cls m) → ∀ u ∈ l, cls u ≤ cls m := by
      intro l U m h1 h2 u hu
      have := ((turnP_kin l).1.mem (x := u)).2 hu
      rw [h1] at this
      rcases List.mem_append.1 this with h | h
      · exact h2 u h
      · simp at h; subst h; exact Int.le_refl _
    split
    · rename_i h
      obtain ⟨U, m, e1, e2⟩ := turnP_last (x :: t) (by simp) (fun r hr => hp r (by rcases List.mem_cons.1 hr with rfl | hr <;> simp [*]))
      refine ⟨y :: U, m, by rw [e1]; rfl, fun u hu => ?_⟩
      rcases List.mem_cons.1 hu with rfl | hu
      · have := top e1 e2 x (by simp); omega
      · exact e2 u hu
    · rename_i h
      obtain ⟨U, m, e1, e2⟩ := turnP_last (y :: t) (by simp) (fun r hr => hp r (List.mem_cons_of_mem _ hr))
      refine ⟨x :: U, m, by rw [e1]; rfl, fun u hu => ?_⟩
      rcases List.mem_cons.1 hu with rfl | hu
      · have := top e1 e2 y (by simp); omega
      · exact e2 u hu
theorem turnN_run {R : List Int} (hp : ∀ r ∈ R, 0 < cls r) : ∀ k, ∃ U V, turnN k R = U ++ V ∧ U.length = R.length - k ∧ Up cls V ∧ ∀ u ∈ U, ∀ v ∈ V, cls u ≤ cls v
  | 0 => ⟨R, [], by simp [turnN], by simp, trivial, by simp⟩
  | k + 1 => by
    obtain ⟨U, V, h1, h2, h3, h4⟩ := turnN_run hp k
    rw [turnN_succ, h1, turnP_tail h3 U h4]
    by_cases hU : U = []
    · subst hU
      refine ⟨[], V, rfl, ?_, h3, by simp⟩
      simp at h2 ⊢; omega
    · have hpU : ∀ r ∈ U, 0 < cls r := fun r hr => hp r ((turnN_kin k R).1.mem.1 (by rw [h1]; simp [hr]))
      obtain ⟨U', m, e1, e2⟩ := turnP_last U hU hpU
      have hk := turnP_kin U
      rw [e1] at hk
      refine ⟨U', m :: V, by rw [e1]; simp, ?_, ⟨fun v hv => h4 m (hk.1.mem.1 (by simp)) v hv, h3⟩, fun u hu v hv => ?_⟩
      · have := hk.2
        simp at this
        omega
      · rcases List.mem_cons.1 hv with rfl | hv
        · exact e2 u hu
        · exact h4 u (hk.1.mem.1 (by simp [hu])) v hv
theorem turnN_sort {R : List Int} (hp : ∀ r ∈ R, 0 < cls r) {k : Nat} (hk : R.length ≤ k) : turnN k R = ssort cls R := by
  obtain ⟨U, V, h1, h2, h3, h4⟩ := turnN_run hp k
  have : U = [] := List.length_eq_zero_iff.1 (by omega)
  subst this
  refine ssort_uniq ?_ (turnN_kin k R).1
  rw [h1]; exact h3
theorem turn_ord : ∀ (T R : List Int) (k : Nat), (∀ r ∈ R, 0 < cls r) → R.length + T.length ≤ k → turnN k (R ++ T) = ordF R T
  | [], R, k, hp, hk => by rw [List.append_nil, ordF]; exact turnN_sort hp (by simpa using hk)
  | x :: T, R, k, hp, hk => by
    simp only [List.length_cons] at hk
    rw [ordF]
    by_cases hx : 0 < cls x
    · rw [if_pos hx, ← turn_ord T (R ++ [x]) k (fun r hr => by
        rcases List.mem_append.1 hr with h | h
        · exact hp r h
        · simp at h; subst h; exact hx) (by simp; omega)]
      simp
    · rw [if_neg hx, turnN_cut (by omega), turnN_sort hp (by omega)]
      have := turn_ord T [] k (by simp) (by simp; omega)
      rw [List.nil_append] at this
      rw [this]
/-- TURNING IS ORDER. -/
theorem turn_ordL (l : List Int) : turnN l.length l = ordL l := turn_ord l [] l.length (by simp) (by simp)
end Go.AE
/- Characters of which some are made of two: what is computed. -/
namespace Go.AE
structure JS where
  pre : List Int
  st : Option Int
  ms : List Int
def JS.out (s : JS) : List Int := s.pre ++ s.st.toList ++ s.ms
def JS.put (s : JS) (x : Int) : JS := if cls x = 0 then ⟨s.out, some x, []⟩ else ⟨s.pre, s.st, s.ms ++ [x]⟩
def jStep (s : JS) (x : Int) : JS := match s.st with
  | none => s.put x
  | some b => if s.ms.all (fun m => decide (cls m < cls x)) then (if (mk2 b x).2 then ⟨s.pre, some (mk2 b x).1, s.ms⟩ else s.put x) else s.put x
def jRun (l : List Int) : JS := l.foldl jStep ⟨[], none, []⟩
def joinL (l : List Int) : List Int := (jRun l).out
theorem han_cls {r : Int} (h : 44032 ≤ r ∧ r ≤ 55203) : cls r = 0 := by
  by_cases h0 : cls r = 0
  · exact h0
  · have := List.all_eq_true.1 (show (clsAll.all fun r => decide (¬ (44032 ≤ r ∧ r ≤ 55203))) = true by decide +kernel) r (cls_all h0)
    simp at this
    omega
theorem mk2_cls {a b : Int} (h : (mk2 a b).2 = true) : cls (mk2 a b).1 = 0 ∧ 0 ≤ (mk2 a b).1 ∧ (mk2 a b).1 ≤ 1114111 := by
  unfold mk2 at h ⊢
  split
  · rename_i h1
    exact ⟨han_cls (by dsimp only; omega), by dsimp only; omega, by dsimp only; omega⟩
  · rename_i h1
    rw [if_neg h1] at h
    split
    · rename_i h2
      have : 44032 ≤ a ∧ a ≤ 55203 := by simpa [han] using h2.1
      exact ⟨han_cls (by dsimp only; omega), by dsimp only; omega, by dsimp only; omega⟩
    · rename_i h2
      rw [if_neg h2] at h
      obtain ⟨q1, q2, q3, q4⟩ := pairs_bwd h
      have hm := spl_marks q1
      refine ⟨hm.2.1, ?_⟩
      have := spl_all (q := fun r _ => decide (0 ≤ r ∧ r ≤ 1114111)) (by decide +kernel) (by decide +kernel) q1
      simpa using this
/-- What stands there: starters have no class, and what stands behind the last one has. -/
structure JI (s : JS) : Prop where
  st : ∀ b, s.st = some b → cls b = 0
  ms : ∀ m ∈ s.ms, 0 < cls m
  none : s.st = none → s.pre = []
theorem JI.put {s : JS} (h : JI s) (x : Int) : JI (s.put x) := by
  unfold JS.put
  split
  · rename_i hc
    exact ⟨fun b hb => by simp at hb; subst hb; exact hc, by simp, by simp⟩
  · rename_i hc
    have := cls_nonneg x
    exact ⟨h.st, fun m hm => by
      rcases List.mem_append.1 hm with hm | hm
      · exact h.ms m hm
      · simp at hm; subst hm; omega, h.none⟩
theorem JI.step {s : JS} (h : JI s) (x : Int) : JI (jStep s x) := by
  unfold jStep
  split
  · exact h.put x
  · rename_i b hb
    split
    · split
      · rename_i h2
        exact ⟨fun c hc => by simp at hc; subst hc; exact (mk2_cls h2).1, h.ms, by simp⟩
      · exact h.put x
    · exact h.put x
theorem JI.run (l : List Int) : JI (jRun l) := by
  have key : ∀ (l : List Int) (s : JS), JI s → JI (l.foldl jStep s) := fun l => by
    induction l with
    | nil => intro s h; exact h
    | cons x l ih => intro s h; exact ih _ (h.step x)
  exact key l _ ⟨by simp, by simp, fun _ => rfl⟩
theorem put_out (s : JS) (x : Int) : (s.put x).out = s.out ++ [x] := by
  unfold JS.put
  split
  · simp [JS.out]
  · simp [JS.out]
theorem jRun_take (l : List Int) (i : Nat) (h : i < l.length) : jRun (l.take (i + 1)) = jStep (jRun (l.take i)) (l.getD i 0) := by
  unfold jRun
  rw [take_snocD l i 0 h, List.foldl_append]; rfl
theorem jStep_len (s : JS) (x : Int) : (jStep s x).out.length ≤ s.out.length + 1 := by
  unfold jStep
  split
  · rw [put_out]; simp
  · rename_i b hb
    split
    · split
      · simp [JS.out, hb]
      · rw [put_out]; simp
    · rw [put_out]; simp
theorem jRun_len (l : List Int) : (jRun l).out.length ≤ l.length := by
  have key : ∀ (l : List Int) (s : JS), (l.foldl jStep s).out.length ≤ s.out.length + l.length := fun l => by
    induction l with
    | nil => intro s; simp
    | cons x l ih =>
      intro s
      have h1 := ih (jStep s x)
      have h2 := jStep_len s x
      simp only [List.foldl_cons, List.length_cons]; omega
  have := key l ⟨[], none, []⟩
  have e : (JS.out ⟨[], none, []⟩).length = 0 := rfl
  rw [e, Nat.zero_add] at this
  exact this
end Go.AE
