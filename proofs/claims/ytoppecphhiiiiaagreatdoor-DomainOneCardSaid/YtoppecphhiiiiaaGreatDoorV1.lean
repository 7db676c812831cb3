/- Contracts of functions that the laws of this seat reach, and plain laws of what they compute. No condition beyond each statement's own. -/
import Derived.Test.YtoppecphhiiiiaaGreatDoorK1
import Derived.Test.YtoppecphhiiiiaaGreatDoorAENum
import Derived.Test.YtoppecphhiiiiaaGreatDoorAEBun
import Derived.Test.YtoppecphhiiiiaaGreatDoorU1
import Derived.Test.YtoppecphhiiiiaaGreatDoorAERule
import Derived.Laws.RangeString
set_option linter.unusedVariables false
set_option linter.unusedSimpArgs false
section
namespace Go.AE
open Go.Proofs
set_option maxRecDepth 10000
def right (r : Int) : Bool := decide (0 ≤ r) && decide (r ≤ 1114111) && !(decide (55296 ≤ r) && decide (r ≤ 57343))
def rlen (r : Int) : Int := if right r then (if r ≤ 127 then 1 else if r ≤ 2047 then 2 else if r ≤ 65535 then 3 else 4) else 0
theorem z4l (r : Int) : z0q Tryz.prog 93 [I32 r] (Bv (right r)) := by
 refine sp [.tmp 2] Tryz.func93 Tryz.ntmps93 ?_
 repeat' first | simp (maxSteps := 4000000) (disch := omega) only [z13, z12, bun, ↓z05, ↓z01, z03, findLabel, ↓reduceIte, imp, shift, z0g, z0c, unown, names, z08, below, noF, isF, z04, z0a, z09, ren, z0t, z0u, z0h, renO, belowM, seval, -Int.reduceToNat, B4, B21, z14] | refine z10 _ ?_ | (refine Fk.fk ?_ ?_ <;> intro hg <;> (try simp only [hg]) <;> (try simp only [z11] at hg) <;> try (exfalso; first | omega | exact Bool.noConfusion hg | exact hg trivial)) | refine And.intro (by omega) ?_ | omega
 all_goals (congr 2; first | rfl | (first | rw [Bool.eq_iff_iff] | skip); simp_all [right, rlen] <;> omega)
theorem zxn (r : Int) : z0q Tryz.prog 64 [I32 r] (I64 (rlen r)) := by
 refine sp [.tmp 2] Tryz.func64 Tryz.ntmps64 ?_
 repeat' first | refine z07 (z4l _) ?_ ?_ | simp (maxSteps := 4000000) (disch := omega) only [z13, z12, bun, ↓z05, ↓z01, z03, findLabel, ↓reduceIte, imp, shift, z0g, z0c, unown, names, z08, below, noF, isF, z04, z0a, z09, ren, z0t, z0u, z0h, renO, belowM, seval, -Int.reduceToNat, B3, B4, B21, z14] | exact z0n _ | refine z0m _ _ ?_ | exact Cln.cl | refine z02 _ ?_ | refine z00 _ _ ?_ ?_ | refine z10 _ ?_ | (refine Fk.fk ?_ ?_ <;> intro hg <;> (try simp only [hg]) <;> (try simp only [z11] at hg) <;> try (exfalso; first | omega | exact Bool.noConfusion hg | exact hg trivial)) | refine And.intro (by omega) ?_ | omega
 all_goals (congr 2; first | rfl | (first | rw [Bool.eq_iff_iff] | skip); simp_all [right, rlen] <;> omega)
def ofI (n : Int) : UInt8 := UInt8.ofNat n.toNat
theorem z17 {n : Int} (h : 0 ≤ n) (k : n < 256) : ((ofI n).toNat : Int) = n := by
 unfold ofI; simp; omega
def lead (c : Int) : Int × Int :=
 if c < 128 then (0, c) else if 194 ≤ c ∧ c < 224 then (1, c % 32) else if 224 ≤ c ∧ c < 240 then (2, c % 16) else if 240 ≤ c ∧ c < 245 then (3, c % 8) else (-1, 0)
def enc (r : Int) : List UInt8 :=
 if right r then (if r ≤ 127 then [ofI r] else if r ≤ 2047 then [ofI (192 + r / 64), ofI (128 + r % 64)] else if r ≤ 65535 then [ofI (224 + r / 4096), ofI (128 + r / 64 % 64), ofI (128 + r % 64)]
   else [ofI (240 + r / 262144), ofI (128 + r / 4096 % 64), ofI (128 + r / 64 % 64), ofI (128 + r % 64)]) else []
theorem y07i (b : UInt8) : z0q Tryz.prog 63 [U8 b] (.tup [I64 (lead b.toNat).1, I32 (lead b.toNat).2]) := by
 refine sp [.tmp 2, .tmp 3] Tryz.func63 Tryz.ntmps63 ?_
 have hb := zi7 b
 repeat' first | simp (maxSteps := 4000000) (disch := omega) only [z13, z12, bun, ↓z05, ↓z01, z03, findLabel, ↓reduceIte, imp, shift, z0g, z0c, unown, names, z08, below, noF, isF, z04, z0a, z09, ren, z0t, z0u, z0h, renO, belowM, seval, -Int.reduceToNat, B3, B4, B5, B21, z14, z79, zao, zan, zam, zfk, zau, z7f, z7g, zeu, z82, z83, Int.tdiv_eq_ediv_of_nonneg, Int.tmod_eq_emod_of_nonneg, Int.fdiv_eq_ediv_of_nonneg] | refine z10 _ ?_ | (refine Fk.fk ?_ ?_ <;> intro hg <;> (try simp only [hg]) <;> (try simp only [z11] at hg) <;> try (exfalso; first | omega | exact Bool.noConfusion hg | exact hg trivial)) | refine And.intro (by omega) ?_ | omega
 all_goals
   congr 3 <;> first
   | rfl
   | (simp (disch := omega) only [lead, if_pos, if_neg]; first | done | (congr 2 <;> first | rfl | omega))
theorem z1t (r : Int) : right r = true ↔ 0 ≤ r ∧ r ≤ 1114111 ∧ ¬ (55296 ≤ r ∧ r ≤ 57343) := by
 simp [right]; omega
theorem znq {r : Int} (h : right r = true) : rlen r = if r ≤ 127 then 1 else if r ≤ 2047 then 2 else if r ≤ 65535 then 3 else 4 := by simp [rlen, h]
theorem ztm {r : Int} (h : right r = false) : rlen r = 0 := by simp [rlen, h]
theorem zf8 (r : Int) : (rlen r = 1 ↔ 0 ≤ r ∧ r ≤ 127) ∧ (rlen r = 2 ↔ 128 ≤ r ∧ r ≤ 2047) ∧ (rlen r = 3 ↔ 2048 ≤ r ∧ r ≤ 65535 ∧ ¬ (55296 ≤ r ∧ r ≤ 57343)) ∧ (rlen r = 4 ↔ 65536 ≤ r ∧ r ≤ 1114111) := by
 have h := z1t r
 cases hr : right r with
 | true =>
   rw [znq hr]; rw [hr] at h; simp only [true_iff] at h; repeat' split
   all_goals omega
 | false => rw [ztm hr]; rw [hr] at h; simp only [Bool.false_eq_true, false_iff] at h; omega
theorem y0c7 (r : Int) : rlen r = 1 ↔ 0 ≤ r ∧ r ≤ 127 := (zf8 r).1
theorem y090 (r : Int) : rlen r = 2 ↔ 128 ≤ r ∧ r ≤ 2047 := (zf8 r).2.1
theorem y091 (r : Int) : rlen r = 3 ↔ 2048 ≤ r ∧ r ≤ 65535 ∧ ¬ (55296 ≤ r ∧ r ≤ 57343) := (zf8 r).2.2.1
theorem y092 (r : Int) : rlen r = 4 ↔ 65536 ≤ r ∧ r ≤ 1114111 := (zf8 r).2.2.2
theorem zhp (r : Int) : rlen r = 0 ↔ right r = false := by
 cases hr : right r with
 | true =>
   rw [znq hr]; simp; repeat' split
   all_goals omega
 | false => rw [ztm hr]; simp
theorem zhq (r : Int) : rlen r = 0 ∨ rlen r = 1 ∨ rlen r = 2 ∨ rlen r = 3 ∨ rlen r = 4 := by
 cases hr : right r with
 | true =>
   rw [znq hr]; repeat' split
   all_goals simp
 | false => rw [ztm hr]; simp
theorem enc1 {r : Int} (h : 0 ≤ r ∧ r ≤ 127) : enc r = [ofI r] := by
 have hr : right r = true := by simp [right]; omega
 simp (disch := omega) only [enc, hr, if_true, if_pos, if_neg]
theorem enc2 {r : Int} (h : 128 ≤ r ∧ r ≤ 2047) : enc r = [ofI (192 + r / 64), ofI (128 + r % 64)] := by
 have hr : right r = true := by simp [right]; omega
 simp (disch := omega) only [enc, hr, if_true, if_pos, if_neg]
theorem enc3 {r : Int} (h : 2048 ≤ r ∧ r ≤ 65535 ∧ ¬ (55296 ≤ r ∧ r ≤ 57343)) : enc r = [ofI (224 + r / 4096), ofI (128 + r / 64 % 64), ofI (128 + r % 64)] := by
 have hr : right r = true := by simp [right]; omega
 simp (disch := omega) only [enc, hr, if_true, if_pos, if_neg]
theorem enc4 {r : Int} (h : 65536 ≤ r ∧ r ≤ 1114111) : enc r = [ofI (240 + r / 262144), ofI (128 + r / 4096 % 64), ofI (128 + r / 64 % 64), ofI (128 + r % 64)] := by
 have hr : right r = true := by simp [right]; omega
 simp (disch := omega) only [enc, hr, if_true, if_pos, if_neg]
theorem enc0 {r : Int} (h : right r = false) : enc r = [] := by simp [enc, h]
theorem zd0 (r : Int) : ((enc r).length : Int) = rlen r := by
 rcases zhq r with h | h | h | h | h
 · rw [enc0 ((zhp r).1 h), h]; rfl
 · rw [enc1 ((y0c7 r).1 h), h]; rfl
 · rw [enc2 ((y090 r).1 h), h]; rfl
 · rw [enc3 ((y091 r).1 h), h]; rfl
 · rw [enc4 ((y092 r).1 h), h]; rfl
theorem z1h {α : Type} (l : List α) (i : Nat) (d : α) (h : i < l.length) : l.take (i + 1) = l.take i ++ [l.getD i d] := by
 rw [List.take_add_one]
 simp [List.getD, h]
theorem y0lg (r : Int) : (enc r).length ≤ 4 := by have := zd0 r; have := zhq r; omega
def z0r (l : List Int) : Bool := l.all right
def z85 (l : List Int) : List UInt8 := if z0r l then l.flatMap enc else []
theorem zr4 {l : List Int} {i : Nat} (h : i < l.length) (hr : right (l.getD i 0) = false) : z0r l = false := by
 rw [z0r, List.all_eq_false]
 exact ⟨l.getD i 0, by simp [List.getD, h], by rw [hr]; simp⟩
theorem zfc {l : List Int} {i : Nat} {acc : List UInt8} (hi : i < l.length) (ha : acc = (l.take i).flatMap enc) (hn : acc.length ≤ 4 * i) (hr : (l.take i).all right = true) (hg : right (l.getD i 0) = true) :
   i + 1 ≤ l.length ∧ acc ++ enc (l.getD i 0) = (l.take (i + 1)).flatMap enc ∧ (acc ++ enc (l.getD i 0)).length ≤ 4 * (i + 1) ∧ (l.take (i + 1)).all right = true := by
 have hE := y0lg (l.getD i 0)
 refine ⟨by omega, ?_, by simp only [List.length_append]; omega, ?_⟩
 · rw [z1h _ _ 0 hi, List.flatMap_append, ha]; simp
 · rw [z1h _ _ 0 hi, List.all_append, hr]; simp only [List.all_cons, List.all_nil, hg]; rfl
theorem dwV4 {P Q R S : Prop} {H : Prop} (o : H) (a : Q) (b : R) (c : S) (h : H → Mk P → Hid Q → Hid R → Hid S → P := by
 intro w m q r s
 repeat' first | refine z07 (by first | assumption | (apply_assumption <;> first | assumption | omega)) ?_ ?_ | refine LSp.fit (by assumption) ?_ | simp (maxSteps := 4000000) (disch := omega) only [z13, z12, bun, ↓z05, ↓z01, z03, findLabel, ↓reduceIte, imp, shift, z0g, z0c, unown, names, z08, below, noF, isF, z04, z0a, z09, ren, z0t, z0u, z0h, renO, belowM, seval, -Int.reduceToNat, bT, z14, z79, zao, zan, zam, zfk, zau, z7f, z7g, zeu, z82, z83, Int.tdiv_eq_ediv_of_nonneg, Int.tmod_eq_emod_of_nonneg, Int.fdiv_eq_ediv_of_nonneg, y00q, y00r, y00s, y00p, w] | exact z0n _ | refine z0m _ _ ?_ | exact Cln.cl | refine z02 _ ?_ | refine z00 _ _ ?_ ?_ | refine z10 _ ?_ | (refine Fk.fk ?_ ?_ <;> intro hg <;> (try simp only [hg]) <;> (try simp only [z11, y0c7, y090, y091, y092, zhp] at hg) <;> try (exfalso; first | omega | exact Bool.noConfusion hg | exact hg trivial)) | refine And.intro (by omega) ?_ | omega
 first
 | done
 | all_goals (repeat revert hg)
   fail_if_success with_reducible refine m.use ?_
   exact q.out
   first
   | done
   | exact r.out
     first
     | done
     | exact s.out
       first | done | fail) : P := h o ⟨tru⟩ ⟨a⟩ ⟨b⟩ ⟨c⟩
theorem z4t (l : List Int) (hl : l.length ≤ 100000) : z0q Tryz.prog 37 [.sl l.length (l.map I32)] (.tup [Sv (z85 l), Bv (z0r l)]) := by
 refine sp [.tmp 2, .tmp 3] Tryz.func37 Tryz.ntmps37 ?_
 refine dwV4 tru ?_ tru tru <;> intros
 refine z0j (fun x : Nat × List UInt8 => ⟨[(7, .sl l.length (l.map I32)), (8, I64 l.length), (9, I64 x.1), (4, .ref 0 0 x.2.length)], [.arr 5 1 (x.2.map U8)]⟩)
   (fun x => x.1 ≤ l.length ∧ x.2 = (l.take x.1).flatMap enc ∧ x.2.length ≤ 4 * x.1 ∧ (l.take x.1).all right = true) (fun x => l.length - x.1) (0, []) (by simp) wk0 ?_
 rintro ⟨i, acc⟩ ⟨hi, ha, hn, hr⟩
 dsimp only at hi ha hn hr
 repeat' first | refine z07 (zxn _) ?_ ?_ | simp (maxSteps := 4000000) (disch := omega) only [z13, z12, bun, ↓z05, ↓z01, z03, findLabel, ↓reduceIte, imp, shift, z0g, z0c, unown, names, z08, below, noF, isF, z04, z0a, z09, ren, z0t, z0u, z0h, renO, belowM, seval, -Int.reduceToNat, B3, B4, B9, B21, B63, B5, B84, z14, z79, zao, zan, zam, zfk, zau, z7f, z7g, zeu, z82, z83, Int.tdiv_eq_ediv_of_nonneg, Int.tmod_eq_emod_of_nonneg, Int.fdiv_eq_ediv_of_nonneg, y00q, y00r, y00s, y00p] | exact z0n _ | refine z0m _ _ ?_ | exact Cln.cl | refine z02 _ ?_ | refine z00 _ _ ?_ ?_ | refine z10 _ ?_ | (refine Fk.fk ?_ ?_ <;> intro hg <;> (try simp only [hg]) <;> (try simp only [z11, y0c7, y090, y091, y092, zhp] at hg) <;> try (exfalso; first | omega | exact Bool.noConfusion hg | exact hg trivial)) | refine And.intro (by omega) ?_ | omega
 · rename_i hg
   have h := zr4 (by omega) hg
   simp [z85, h]
 · have hg' : right (l.getD i 0) = true := by assumption
   refine ⟨(i + 1, acc ++ enc (l.getD i 0)), zfc (by omega) ha hn hr hg', by dsimp only; omega, ?_⟩
   generalize l.getD i 0 = r at *
   rw [enc1 hg]
   (simp (disch := omega) [wk, wkT, wkM, noF, isF, get, z0b, belowM, below, belows, I64, I32, Bv, U8, Sv, z17] <;> try omega)
 · have hg' : right (l.getD i 0) = true := by assumption
   refine ⟨(i + 1, acc ++ enc (l.getD i 0)), zfc (by omega) ha hn hr hg', by dsimp only; omega, ?_⟩
   generalize l.getD i 0 = r at *
   rw [enc2 hg]
   (simp (disch := omega) [wk, wkT, wkM, noF, isF, get, z0b, belowM, below, belows, I64, I32, Bv, U8, Sv, z17] <;> try omega)
 · have hg' : right (l.getD i 0) = true := by assumption
   refine ⟨(i + 1, acc ++ enc (l.getD i 0)), zfc (by omega) ha hn hr hg', by dsimp only; omega, ?_⟩
   generalize l.getD i 0 = r at *
   rw [enc3 (by omega)]
   (simp (disch := omega) [wk, wkT, wkM, noF, isF, get, z0b, belowM, below, belows, I64, I32, Bv, U8, Sv, z17] <;> try omega)
 · have hg' : right (l.getD i 0) = true := by assumption
   refine ⟨(i + 1, acc ++ enc (l.getD i 0)), zfc (by omega) ha hn hr hg', by dsimp only; omega, ?_⟩
   generalize l.getD i 0 = r at *
   rw [enc4 hg]
   (simp (disch := omega) [wk, wkT, wkM, noF, isF, get, z0b, belowM, below, belows, I64, I32, Bv, U8, Sv, z17] <;> try omega)
 · exfalso
   have h := (z1t _).1 (by assumption)
   omega
 · have e : i = l.length := by omega
   subst e
   rw [List.take_length] at ha hr
   have h : z0r l = true := hr
   simp [z85, h, ha]
def z7t (b : UInt8) : Bool := decide (128 ≤ b.toNat) && decide (b.toNat < 192)
def z3v (r : Int) (bs : List UInt8) : Int := bs.foldl (fun r b => r * 64 + (b.toNat : Int) % 64) r
def one (s : List UInt8) : Option (Int × Nat) :=
 match s with
 | [] => none
 | c :: t =>
   if (lead c.toNat).1 < 0 ∨ (t.length : Int) < (lead c.toNat).1 then none
   else if (t.take (lead c.toNat).1.toNat).all z7t = true ∧ rlen (z3v (lead c.toNat).2 (t.take (lead c.toNat).1.toNat)) = (lead c.toNat).1 + 1 then
     some (z3v (lead c.toNat).2 (t.take (lead c.toNat).1.toNat), (lead c.toNat).1.toNat + 1)
   else none
def z5y (o : Option (Int × Nat)) (a : Int) (s : List UInt8) (R : Int → List UInt8 → List Int × Int) : List Int × Int :=
 match o with
 | none => ([], a)
 | some (r, k) => (r :: (R (a + k) (s.drop k)).1, (R (a + k) (s.drop k)).2)
def z0z : Nat → Int → List UInt8 → List Int × Int
 | 0, _, _ => ([], -1)
 | f + 1, a, s => if s.isEmpty then ([], -1) else z5y (one s) a s (z0z f)
def runes (s : List UInt8) : List Int × Int := z0z (s.length + 1) 0 s
theorem y0hv (c : Int) : (lead c).1 = -1 ∨ (lead c).1 = 0 ∨ (lead c).1 = 1 ∨ (lead c).1 = 2 ∨ (lead c).1 = 3 := by
 unfold lead; repeat' split
 all_goals simp
theorem y0be {c : Int} (h : 0 ≤ c) : 0 ≤ (lead c).2 ∧ (lead c).2 < 128 := by
 unfold lead; repeat' split
 all_goals (dsimp only; omega)
theorem zzx (r : Int) (bs : List UInt8) (b : UInt8) : z3v r (bs ++ [b]) = z3v r bs * 64 + (b.toNat : Int) % 64 := by
 simp [z3v]
theorem zsl (bs : List UInt8) : ∀ {r : Int}, 0 ≤ r → 0 ≤ z3v r bs ∧ z3v r bs < (r + 1) * 64 ^ bs.length := by
 induction bs with
 | nil => intro r h; simp [z3v]; omega
 | cons b bs ih =>
   intro r h
   have := ih (r := r * 64 + (b.toNat : Int) % 64) (by omega)
   have e : z3v r (b :: bs) = z3v (r * 64 + (b.toNat : Int) % 64) bs := rfl
   rw [e]
   refine ⟨this.1, Int.lt_of_lt_of_le this.2 ?_⟩
   rw [List.length_cons, Int.pow_succ, Int.mul_comm (64 ^ bs.length) 64, ← Int.mul_assoc]
   exact Int.mul_le_mul_of_nonneg_right (by omega) (Int.le_of_lt (Int.pow_pos (by decide)))
theorem zpb {r : Int} (h : 0 ≤ r) (k : r < 128) {bs : List UInt8} (hl : bs.length ≤ 2) : 0 ≤ z3v r bs ∧ z3v r bs < 16777216 := by
 have h1 := zsl bs h
 refine ⟨h1.1, Int.lt_of_lt_of_le h1.2 ?_⟩
 have : bs.length = 0 ∨ bs.length = 1 ∨ bs.length = 2 := by omega
 rcases this with e | e | e <;> rw [e] <;> simp <;> omega
theorem zy8 {s : List UInt8} (h : 0 < s.length) (hc : (lead (s.getD 0 0).toNat).1 < 0 ∨ (s.length : Int) ≤ (lead (s.getD 0 0).toNat).1) : one s = none := by
 cases s with
 | nil => simp at h
 | cons c t =>
   simp only [List.getD_cons_zero, List.length_cons] at hc
   simp only [one]
   rw [if_pos (by omega)]
theorem y0i8 {s : List UInt8} {j : Nat} (h : 0 < s.length) (hj : (j : Int) < (lead (s.getD 0 0).toNat).1) (hb : z7t (s.getD (j + 1) 0) = false) : one s = none := by
 cases s with
 | nil => simp at h
 | cons c t =>
   simp only [List.getD_cons_zero, List.getD_cons_succ] at hj hb
   simp only [one]
   split
   · rfl
   · rename_i hn
     rw [if_neg]
     intro h2
     have h3 := List.all_eq_true.1 h2.1 (t.getD j 0) (by
       have : j < t.length := by omega
       rw [List.mem_take_iff_getElem]
       exact ⟨j, by omega, by simp [List.getD, this]⟩)
     rw [h3] at hb
     simp at hb
theorem znh {s : List UInt8} {n : Nat} (h : 0 < s.length) (hn : (lead (s.getD 0 0).toNat).1 = n) (hl : n < s.length) (ha : ((s.drop 1).take n).all z7t = true) :
   one s = if rlen (z3v (lead (s.getD 0 0).toNat).2 ((s.drop 1).take n)) = n + 1 then some (z3v (lead (s.getD 0 0).toNat).2 ((s.drop 1).take n), n + 1) else none := by
 cases s with
 | nil => simp at h
 | cons c t =>
   simp only [List.getD_cons_zero, List.drop_succ_cons, List.drop_zero, List.length_cons] at *
   simp only [one, hn, Int.toNat_natCast, ha, true_and]
   rw [if_neg (by omega)]
theorem z25 (f : Nat) (a : Int) (s : List UInt8) : z0z (f + 1) a s = if s.isEmpty then ([], -1) else z5y (one s) a s (z0z f) := rfl
theorem z7m {f : Nat} {a : Int} {s : List UInt8} (hs : 0 < s.length) (h : one s = none) : z0z (f + 1) a s = ([], a) := by
 rw [z25, h, if_neg]
 · rfl
 · cases s <;> simp_all
theorem zhs {f : Nat} {a : Int} {s : List UInt8} {r : Int} {k : Nat} (hs : 0 < s.length) (h : one s = some (r, k)) : z0z (f + 1) a s = (r :: (z0z f (a + k) (s.drop k)).1, (z0z f (a + k) (s.drop k)).2) := by
 rw [z25, h, if_neg]
 · rfl
 · cases s <;> simp_all
theorem y013 (f : Nat) (a : Int) : z0z f a [] = ([], -1) := by cases f <;> rfl
theorem zka (b : UInt8) : z7t b = true ↔ (b.toNat : Int) - b.toNat % 64 = 128 := by
 simp [z7t]; omega
theorem z8f (s : List UInt8) (a j : Nat) : (s.drop a).getD j 0 = s.getD (a + j) 0 := by simp [List.getD]
theorem z8v {s : List UInt8} {acc : List Int} {f : Nat} {a : Nat} {e : Int} (hr : runes s = (acc ++ (z0z f (↑a) (List.drop a s)).fst, (z0z f (↑a) (List.drop a s)).snd)) (h : z0z f a (s.drop a) = ([], e)) :
   AV.tup [AV.own 21 1 acc.length (List.map I32 acc), AV.v (Value.int IntKind.i64 e)] = AV.tup [AV.own 21 1 (runes s).fst.length (List.map I32 (runes s).fst), AV.v (Value.int IntKind.i64 (runes s).snd)] := by
 rw [hr, h]; simp
theorem z2i (s : List UInt8) (hs : s.length ≤ 100000000) : z0q Tryz.prog 36 [Sv s] (.tup [.own 21 1 (runes s).1.length ((runes s).1.map I32), I64 (runes s).2]) := by
 refine sp [.tmp 2, .tmp 3] Tryz.func36 Tryz.ntmps36 ?_
 repeat' first | simp (maxSteps := 4000000) (disch := omega) only [z13, z12, bun, ↓z05, ↓z01, z03, findLabel, ↓reduceIte, imp, shift, z0g, z0c, unown, names, z08, below, noF, isF, z04, z0a, z09, ren, z0t, z0u, z0h, renO, belowM, seval, -Int.reduceToNat, B3, B4, B5, B9, B21, B63, z14, z79, zao, zan, zam, zfk, zau, z7f, z7g, zeu, z82, z83, Int.tdiv_eq_ediv_of_nonneg, Int.tmod_eq_emod_of_nonneg, Int.fdiv_eq_ediv_of_nonneg, y00q, y00r, y00s, y00p, znj, z96] | refine z10 _ ?_ | (refine Fk.fk ?_ ?_ <;> intro hg <;> (try simp only [hg]) <;> (try simp only [z11, zhp] at hg) <;> try (exfalso; first | omega | exact Bool.noConfusion hg | exact hg trivial)) | refine And.intro (by omega) ?_ | omega
 refine z0j (fun x : Nat × Nat × List Int => ⟨[(0, Sv s), (7, I64 x.1), (4, .ref 1 0 x.2.2.length)], [.dead, .arr 21 1 (x.2.2.map I32)]⟩)
   (fun x => x.1 ≤ s.length ∧ s.length + 1 ≤ x.1 + x.2.1 ∧ x.2.2.length ≤ x.1 ∧ runes s = (x.2.2 ++ (z0z x.2.1 x.1 (s.drop x.1)).1, (z0z x.2.1 x.1 (s.drop x.1)).2)) (fun x => s.length - x.1) (0, s.length + 1, []) (by simp [runes]) wk0 ?_
 rintro ⟨a, f, acc⟩ ⟨ha, hf, hn, hr⟩
 dsimp only at ha hf hn hr
 have hb := zi7 (s.getD a 0)
 repeat' first | refine z07 (y07i _) ?_ ?_ | simp (maxSteps := 4000000) (disch := omega) only [z13, z12, bun, ↓z05, ↓z01, z03, findLabel, ↓reduceIte, imp, shift, z0g, z0c, unown, names, z08, below, noF, isF, z04, z0a, z09, ren, z0t, z0u, z0h, renO, belowM, seval, -Int.reduceToNat, B3, B4, B5, B9, B21, B63, z14, z79, zao, zan, zam, zfk, zau, z7f, z7g, zeu, z82, z83, Int.tdiv_eq_ediv_of_nonneg, Int.tmod_eq_emod_of_nonneg, Int.fdiv_eq_ediv_of_nonneg, y00q, y00r, y00s, y00p, znj, z96] | exact z0n _ | refine z0m _ _ ?_ | exact Cln.cl | refine z02 _ ?_ | refine z00 _ _ ?_ ?_ | refine z10 _ ?_ | (refine Fk.fk ?_ ?_ <;> intro hg <;> (try simp only [hg]) <;> (try simp only [z11, zhp] at hg) <;> try (exfalso; first | omega | exact Bool.noConfusion hg | exact hg trivial)) | refine And.intro (by omega) ?_ | omega
 · obtain ⟨f, rfl⟩ : ∃ g, f = g + 1 := ⟨f - 1, by omega⟩
   exact z8v hr (z7m (by simp; omega) (zy8 (by simp; omega) (by rw [z8f]; simp only [List.length_drop, Nat.add_zero]; omega)))
 · obtain ⟨f, rfl⟩ : ∃ g, f = g + 1 := ⟨f - 1, by omega⟩
   exact z8v hr (z7m (by simp; omega) (zy8 (by simp; omega) (by rw [z8f]; simp only [List.length_drop, Nat.add_zero]; omega)))
 · obtain ⟨f, rfl⟩ : ∃ g, f = g + 1 := ⟨f - 1, by omega⟩
   have hlo := y0hv (s.getD a 0).toNat
   have hls := y0be (c := (s.getD a 0).toNat) (by omega)
   obtain ⟨n, hn0⟩ : ∃ n : Nat, (lead (s.getD a 0).toNat).1 = n := ⟨(lead (s.getD a 0).toNat).1.toNat, by omega⟩
   have g1 : (a : Int) < s.length := by omega
   have g2 : (n : Int) < s.length - a := by omega
   have g3 : (n : Int) ≤ 3 := by omega
   have hg0 : (s.drop a).getD 0 0 = s.getD a 0 := by rw [z8f]; rfl
   have hdd : (s.drop a).drop 1 = s.drop (a + 1) := by rw [List.drop_drop]
   simp only [hn0]
   refine z0j (fun j : Nat => ⟨[(0, Sv s), (7, I64 a), (4, .ref 1 0 acc.length), (5, I64 n), (6, I32 (z3v (lead (s.getD a 0).toNat).2 ((s.drop (a + 1)).take j))), (8, I64 (a + 1 + j))], [.dead, .arr 21 1 (acc.map I32)]⟩)
     (fun j => j ≤ n ∧ ((s.drop (a + 1)).take j).all z7t = true) (fun j => n - j) 0 (by simp) (by simp [wk, wkT, wkM, noF, isF, get, z0b, belowM, below, belows, I64, I32, Bv, U8, Sv, z3v]) ?_
   rintro j ⟨hj, hc⟩
   have hT : ((a : Int) + 1 + j).toNat = a + 1 + j := by omega
   have hb1 := zi7 (s.getD (a + 1 + j) 0)
   have hF : j < n → 0 ≤ z3v (lead (s.getD a 0).toNat).2 ((s.drop (a + 1)).take j) ∧ z3v (lead (s.getD a 0).toNat).2 ((s.drop (a + 1)).take j) < 16777216 := fun h => zpb hls.1 hls.2 (by simp; omega)
   repeat' first | refine z07 (zxn _) ?_ ?_ | simp (maxSteps := 4000000) (disch := omega) only [z13, z12, bun, ↓z05, ↓z01, z03, findLabel, ↓reduceIte, imp, shift, z0g, z0c, unown, names, z08, below, noF, isF, z04, z0a, z09, ren, z0t, z0u, z0h, renO, belowM, seval, -Int.reduceToNat, hT, B3, B4, B5, B9, B21, B63, z14, z79, zao, zan, zam, zfk, zau, z7f, z7g, zeu, z82, z83, Int.tdiv_eq_ediv_of_nonneg, Int.tmod_eq_emod_of_nonneg, Int.fdiv_eq_ediv_of_nonneg, y00q, y00r, y00s, y00p, znj, z96] | exact z0n _ | refine z0m _ _ ?_ | exact Cln.cl | refine z02 _ ?_ | refine z00 _ _ ?_ ?_ | refine z10 _ ?_ | (refine Fk.fk ?_ ?_ <;> intro hg <;> (try simp only [hg]) <;> (try simp only [z11, zhp] at hg) <;> try (exfalso; first | omega | exact Bool.noConfusion hg | exact hg trivial)) | refine And.intro (by omega) ?_ | omega
   · rename_i hg
     refine z8v hr (z7m (by simp; omega) (y0i8 (j := j) (by simp; omega) (by rw [hg0, hn0]; omega) ?_))
     rw [z8f, show a + (j + 1) = a + 1 + j by omega]
     exact Bool.eq_false_iff.2 fun h => hg ((zka _).1 h)
   · rename_i hg
     have e : (s.drop (a + 1)).take (j + 1) = (s.drop (a + 1)).take j ++ [s.getD (a + 1 + j) 0] := by rw [z1h _ _ 0 (by simp; omega), z8f]
     refine ⟨j + 1, ⟨by omega, ?_⟩, by omega, ?_⟩
     · rw [e, List.all_append, hc]; simp only [List.all_cons, List.all_nil, (zka _).2 hg]; rfl
     · rw [e, zzx]
       generalize s.getD (a + 1 + j) 0 = c at *
       generalize z3v (lead (s.getD a 0).toNat).2 ((s.drop (a + 1)).take j) = r at *
       (simp (disch := omega) [wk, wkT, wkM, noF, isF, get, z0b, belowM, below, belows, I64, I32, Bv, U8, Sv, hn] <;> try omega)
   · rename_i hg
     have e : j = n := by omega
     subst e
     refine z8v hr (z7m (by simp; omega) ?_)
     rw [znh (n := j) (by simp; omega) (by rw [hg0, hn0]) (by simp; omega) (by rw [hdd]; exact hc), hg0, hdd, if_neg hg]
   · rename_i hg
     have e : j = n := by omega
     subst e
     have h1 := znh (s := s.drop a) (n := j) (by simp; omega) (by rw [hg0, hn0]) (by simp; omega) (by rw [hdd]; exact hc)
     rw [hg0, hdd, if_pos hg] at h1
     have h2 := zhs (f := f) (a := (a : Int)) (by simp; omega) h1
     rw [List.drop_drop] at h2
     refine ⟨(a + (j + 1), f, acc ++ [z3v (lead (s.getD a 0).toNat).2 ((s.drop (a + 1)).take j)]), ⟨by dsimp only; omega, by dsimp only; omega, by simp; omega, ?_⟩, by dsimp only; omega, ?_⟩
     · rw [hr, h2]
       simp [Int.add_assoc]
     · generalize z3v (lead (s.getD a 0).toNat).2 ((s.drop (a + 1)).take j) = r at *
       (simp (disch := omega) [wk, wkT, wkM, noF, isF, get, z0b, belowM, below, belows, I64, I32, Bv, U8, Sv, hn] <;> try omega)
 · have : s.drop a = [] := List.drop_of_length_le (by omega)
   exact z8v hr (by rw [this, y013])
theorem zy3 (c : UInt8) : ofI (c.toNat : Int) = c := by simp [ofI]
theorem zc4 {n : Int} {c : UInt8} (h : n = c.toNat) : ofI n = c := by rw [h, zy3]
theorem y0bd {c : Int} {n : Nat} (h : (lead c).1 = n) : (n = 0 ∧ c < 128 ∧ (lead c).2 = c) ∨ (n = 1 ∧ 194 ≤ c ∧ c < 224 ∧ (lead c).2 = c % 32) ∨ (n = 2 ∧ 224 ≤ c ∧ c < 240 ∧ (lead c).2 = c % 16) ∨ (n = 3 ∧ 240 ≤ c ∧ c < 245 ∧ (lead c).2 = c % 8) := by
 unfold lead at h ⊢
 repeat' (split at h)
 all_goals (simp at h; try omega)
 all_goals (simp (disch := omega) only [if_pos, if_neg]; simp; omega)
theorem zc9 {s : List UInt8} {r : Int} {k : Nat} (h : one s = some (r, k)) : rlen r = k ∧ enc r = s.take k ∧ k ≤ s.length ∧ 0 < k := by
 cases s with
 | nil => simp [one] at h
 | cons c t =>
   simp only [one] at h
   split at h
   · simp at h
   · rename_i h0
     split at h
     · rename_i h1
       obtain ⟨n, hn⟩ : ∃ n : Nat, (lead c.toNat).1 = n := ⟨(lead c.toNat).1.toNat, by omega⟩
       rw [hn] at h0 h1 h
       simp only [Int.toNat_natCast, Option.some.injEq, Prod.mk.injEq] at h h1
       obtain ⟨h2, h3⟩ := h
       obtain ⟨hc, hl⟩ := h1
       have hlt := zi7 c
       rw [h2] at hl
       subst h3
       refine ⟨by omega, ?_, by simp; omega, by omega⟩
       rcases y0bd hn with ⟨e, h4, h5⟩ | ⟨e, h4, h6, h5⟩ | ⟨e, h4, h6, h5⟩ | ⟨e, h4, h6, h5⟩
       · subst e
         rw [h5] at h2
         simp [z3v] at h2
         rw [enc1 (by omega), ← h2, zy3]; rfl
       · subst e
         match t, hc, h2, h0 with
         | b1 :: t, hc, h2, h0 =>
           have hb := zi7 b1
           simp [z7t] at hc
           rw [h5] at h2
           simp [z3v] at h2
           rw [enc2 ((y090 r).1 (by omega)), zc4 (c := c) (by omega), zc4 (c := b1) (by omega)]; rfl
         | [], _, _, h0 => simp at h0; try omega
       · subst e
         match t, hc, h2, h0 with
         | b1 :: b2 :: t, hc, h2, h0 =>
           have hb := zi7 b1
           have hb := zi7 b2
           simp [z7t] at hc
           rw [h5] at h2
           simp [z3v] at h2
           rw [enc3 ((y091 r).1 (by omega)), zc4 (c := c) (by omega), zc4 (c := b1) (by omega), zc4 (c := b2) (by omega)]; rfl
         | [], _, _, h0 => simp at h0; try omega
         | [_], _, _, h0 => simp at h0; try omega
       · subst e
         match t, hc, h2, h0 with
         | b1 :: b2 :: b3 :: t, hc, h2, h0 =>
           have hb := zi7 b1
           have hb := zi7 b2
           have hb := zi7 b3
           simp [z7t] at hc
           rw [h5] at h2
           simp [z3v] at h2
           rw [enc4 ((y092 r).1 (by omega)), zc4 (c := c) (by omega), zc4 (c := b1) (by omega), zc4 (c := b2) (by omega), zc4 (c := b3) (by omega)]; rfl
         | [], _, _, h0 => simp at h0; try omega
         | [_], _, _, h0 => simp at h0; try omega
         | [_, _], _, _, h0 => simp at h0; try omega
     · simp at h
theorem zy7 {c : UInt8} {t : List UInt8} {r : Int} {n : Nat} (h1 : (lead c.toNat).1 = n) (h2 : n ≤ t.length) (h3 : (t.take n).all z7t = true) (h4 : z3v (lead c.toNat).2 (t.take n) = r) (h5 : rlen r = n + 1) : one (c :: t) = some (r, n + 1) := by
 have := znh (s := c :: t) (n := n) (by simp) h1 (by simp; omega) h3
 rw [this, if_pos]
 · simp only [List.getD_cons_zero, List.drop_succ_cons, List.drop_zero, h4]
 · simp only [List.getD_cons_zero, List.drop_succ_cons, List.drop_zero, h4, h5]
theorem z5d {n : Int} (h : 128 ≤ n) (k : n < 192) : z7t (ofI n) = true := by
 have := z17 (n := n) (by omega) (by omega)
 simp [z7t]; omega
theorem y0i9 {r : Int} (h : right r = true) (t : List UInt8) : one (enc r ++ t) = some (r, (enc r).length) := by
 rcases zhq r with hr | hr | hr | hr | hr
 · rw [(zhp r).1 hr] at h; simp at h
 · have hb := (y0c7 r).1 hr
   rw [enc1 hb]; simp only [List.cons_append, List.nil_append]
   refine zy7 (n := 0) ?_ (by simp) (by simp) ?_ (by omega) <;> rw [z17 (by omega) (by omega)]
   · simp (disch := omega) only [lead, if_pos]; rfl
   · simp (disch := omega) only [lead, if_pos]; rfl
 · have hb := (y090 r).1 hr
   rw [enc2 hb]; simp only [List.cons_append, List.nil_append]
   refine zy7 (n := 1) ?_ (by simp) ?_ ?_ (by omega)
   · rw [z17 (by omega) (by omega)]; simp (disch := omega) only [lead, if_pos, if_neg]; rfl
   · simp only [List.nil_append, List.cons_append, List.take_succ_cons, List.take_zero, List.all_cons, List.all_nil]
     rw [z5d (by omega) (by omega)]; rfl
   · rw [z17 (by omega) (by omega)]
     simp (disch := omega) only [lead, if_pos, if_neg, List.nil_append, List.cons_append, List.take_succ_cons, List.take_zero, z3v, List.foldl_cons, List.foldl_nil, z17]
     omega
 · have hb := (y091 r).1 hr
   rw [enc3 hb]; simp only [List.cons_append, List.nil_append]
   refine zy7 (n := 2) ?_ (by simp) ?_ ?_ (by omega)
   · rw [z17 (by omega) (by omega)]; simp (disch := omega) only [lead, if_pos, if_neg]; rfl
   · simp only [List.nil_append, List.cons_append, List.take_succ_cons, List.take_zero, List.all_cons, List.all_nil]
     rw [z5d (by omega) (by omega), z5d (by omega) (by omega)]; rfl
   · rw [z17 (by omega) (by omega)]
     simp (disch := omega) only [lead, if_pos, if_neg, List.nil_append, List.cons_append, List.take_succ_cons, List.take_zero, z3v, List.foldl_cons, List.foldl_nil, z17]
     omega
 · have hb := (y092 r).1 hr
   rw [enc4 hb]; simp only [List.cons_append, List.nil_append]
   refine zy7 (n := 3) ?_ (by simp) ?_ ?_ (by omega)
   · rw [z17 (by omega) (by omega)]; simp (disch := omega) only [lead, if_pos, if_neg]; rfl
   · simp only [List.nil_append, List.cons_append, List.take_succ_cons, List.take_zero, List.all_cons, List.all_nil]
     rw [z5d (by omega) (by omega), z5d (by omega) (by omega), z5d (by omega) (by omega)]; rfl
   · rw [z17 (by omega) (by omega)]
     simp (disch := omega) only [lead, if_pos, if_neg, List.nil_append, List.cons_append, List.take_succ_cons, List.take_zero, z3v, List.foldl_cons, List.foldl_nil, z17]
     omega
theorem dvV8 {P Q R S : Prop} (a : Q) (b : R) (c : S) (h : Mk P → Hid Q → Hid R → Hid S → P := by
 intro m q r s
 repeat' first | refine z07 (by first | assumption | (apply_assumption <;> first | assumption | omega)) ?_ ?_ | refine LSp.fit (by assumption) ?_ | simp (maxSteps := 4000000) (disch := omega) only [z13, z12, bun, ↓z05, ↓z01, z03, findLabel, ↓reduceIte, imp, shift, z0g, z0c, unown, names, z08, below, noF, isF, z04, z0a, z09, ren, z0t, z0u, z0h, renO, belowM, seval, -Int.reduceToNat, bT, z14, z79, zao, zan, zam, zfk, zau, z7f, z7g, zeu, z82, z83, Int.tdiv_eq_ediv_of_nonneg, Int.tmod_eq_emod_of_nonneg, Int.fdiv_eq_ediv_of_nonneg, y00q, y00r, y00s, y00p, znj, z96, Int.reduceToNat, Option.getD_none, *] | exact z0n _ | refine z0m _ _ ?_ | exact Cln.cl | refine z02 _ ?_ | refine z00 _ _ ?_ ?_ | refine z10 _ ?_ | (refine Fk.fk ?_ ?_ <;> intro hg <;> (try simp only [hg]) <;> (try simp only [z11, zhp] at hg) <;> try (exfalso; first | omega | exact Bool.noConfusion hg | exact hg trivial)) | refine And.intro (by omega) ?_ | omega
 first
 | done
 | all_goals (repeat revert hg)
   fail_if_success with_reducible refine m.use ?_
   exact q.out
   first
   | done
   | exact r.out
     first
     | done
     | exact s.out
       first | done | fail) : P := h ⟨tru⟩ ⟨a⟩ ⟨b⟩ ⟨c⟩
def za2 : Nat → List UInt8 → Int
 | _, [] => -1
 | i, b :: l => if 128 ≤ b.toNat then i else za2 (i + 1) l
def eight (s : List UInt8) : Int := za2 0 s
theorem zzs {s : List UInt8} {i : Nat} (h : i < s.length) (hb : 128 ≤ (s.getD i 0).toNat) (ha : ∀ j, j < i → ¬ 128 ≤ (s.getD j 0).toNat) : eight s = i := by
 have key : ∀ (s : List UInt8) (i k : Nat), i < s.length → 128 ≤ (s.getD i 0).toNat → (∀ j, j < i → ¬ 128 ≤ (s.getD j 0).toNat) → za2 k s = (k + i : Nat) := by
   intro s
   induction s with
   | nil => intro i k h; simp at h
   | cons b l ih =>
     intro i k h hb ha
     cases i with
     | zero => simp only [za2]; rw [if_pos (by simpa using hb)]; rfl
     | succ i =>
       simp only [za2]
       rw [if_neg (by simpa using ha 0 (by omega)), ih i (k + 1) (by simpa using h) (by simpa using hb) (fun j hj => by simpa using ha (j + 1) (by omega))]
       congr 1; omega
 have := key s i 0 h hb ha
 simpa [eight] using this
theorem zg3 {s : List UInt8} (ha : ∀ j, j < s.length → ¬ 128 ≤ (s.getD j 0).toNat) : eight s = -1 := by
 have key : ∀ (s : List UInt8) (k : Nat), (∀ j, j < s.length → ¬ 128 ≤ (s.getD j 0).toNat) → za2 k s = -1 := by
   intro s
   induction s with
   | nil => intro k h; rfl
   | cons b l ih =>
     intro k ha
     simp only [za2]
     rw [if_neg (by simpa using ha 0 (by simp)), ih (k + 1) (fun j hj => by simpa using ha (j + 1) (by simpa using hj))]
 exact key s 0 ha
theorem zzt {s : List UInt8} {i : Nat} (ha : ∀ j, j < i → ¬ 128 ≤ (s.getD j 0).toNat) (h : ¬ 128 ≤ (s.getD i 0).toNat) : ∀ j, j < i + 1 → ¬ 128 ≤ (s.getD j 0).toNat := by
 intro j hj
 by_cases e : j = i
 · subst e; exact h
 · exact ha j (by omega)
theorem z23 (s : List UInt8) (hs : s.length ≤ 100000000) : z0q Tryz.prog 19 [Sv s] (I64 (eight s)) := by
 refine sp [.tmp 2] Tryz.func19 Tryz.ntmps19 ?_
 refine dvV8 ?_ tru tru <;> intros
 refine z0j (fun i : Nat => ⟨[(0, Sv s), (4, Sv s), (5, I64 s.length), (6, I64 i)], []⟩) (fun i => i ≤ s.length ∧ ∀ j, j < i → ¬ 128 ≤ (s.getD j 0).toNat) (fun i => s.length - i) 0 (by simp) wk0 ?_
 rintro i ⟨hi, ha⟩
 refine dvV8 ?_ ?_ ?_ <;> intros
 · rw [zzs (by omega) (by omega) ha]
 · exact ⟨i + 1, ⟨by omega, zzt ha (by omega)⟩, by omega, wk0⟩
 · rw [zg3 (fun j hj => ha j (by omega))]
theorem y014 (f : Nat) : ∀ (a : Int) (s : List UInt8), (z0z f a s).1.length ≤ s.length := by
 induction f with
 | zero => intro a s; simp [z0z]
 | succ f ih =>
   intro a s
   rw [z25]
   split
   · simp
   · cases ho : one s with
     | none => simp [z5y]
     | some p =>
       obtain ⟨r, k⟩ := p
       obtain ⟨h1, h2, h3, h4⟩ := zc9 ho
       have := ih (a + k) (s.drop k)
       simp only [List.length_drop] at this
       simp only [z5y, List.length_cons]
       omega
theorem z8w (s : List UInt8) : (runes s).1.length ≤ s.length := y014 _ _ _
def Up (f : Int → Int) : List Int → Prop
 | [] => True
 | x :: l => (∀ y ∈ l, f x ≤ f y) ∧ Up f l
theorem Up.append {f : Int → Int} : ∀ {A B : List Int}, Up f (A ++ B) ↔ Up f A ∧ Up f B ∧ ∀ x ∈ A, ∀ y ∈ B, f x ≤ f y
 | [], B => by simp [Up]
 | a :: A, B => by
   simp only [List.cons_append, Up, Up.append (A := A), List.mem_append, List.mem_cons]
   constructor
   · rintro ⟨h1, h2, h3, h4⟩
     refine ⟨⟨fun y hy => h1 y (.inl hy), h2⟩, h3, ?_⟩
     rintro x (rfl | hx) y hy
     · exact h1 y (.inr hy)
     · exact h4 x hx y hy
   · rintro ⟨⟨h1, h2⟩, h3, h4⟩
     refine ⟨?_, h2, h3, fun x hx => h4 x (.inr hx)⟩
     rintro y (hy | hy)
     · exact h1 y hy
     · exact h4 a (.inl rfl) y hy
def Kin (f : Int → Int) (A B : List Int) : Prop := ∀ c, A.filter (fun x => f x == c) = B.filter (fun x => f x == c)
theorem Kin.refl (f : Int → Int) (A : List Int) : Kin f A A := fun _ => rfl
theorem Kin.symm {f : Int → Int} {A B : List Int} (h : Kin f A B) : Kin f B A := fun c => (h c).symm
theorem Kin.trans {f : Int → Int} {A B C : List Int} (h : Kin f A B) (k : Kin f B C) : Kin f A C := fun c => (h c).trans (k c)
theorem Kin.app {f : Int → Int} {A B C D : List Int} (h : Kin f A B) (k : Kin f C D) : Kin f (A ++ C) (B ++ D) := fun c => by rw [List.filter_append, List.filter_append, h c, k c]
theorem Kin.mem {f : Int → Int} {A B : List Int} (h : Kin f A B) {x : Int} : x ∈ A ↔ x ∈ B := by
 have h1 := h (f x)
 constructor
 · intro hx
   have : x ∈ A.filter (fun y => f y == f x) := List.mem_filter.2 ⟨hx, by simp⟩
   rw [h1] at this
   exact (List.mem_filter.1 this).1
 · intro hx
   have : x ∈ B.filter (fun y => f y == f x) := List.mem_filter.2 ⟨hx, by simp⟩
   rw [← h1] at this
   exact (List.mem_filter.1 this).1
theorem Kin.turn {f : Int → Int} {A B : List Int} (h : ∀ x ∈ A, ∀ y ∈ B, f x ≠ f y) : Kin f (A ++ B) (B ++ A) := fun c => by
 rw [List.filter_append, List.filter_append]
 by_cases hA : A.filter (fun x => f x == c) = []
 · rw [hA]; simp
 · obtain ⟨x, hx⟩ := List.exists_mem_of_ne_nil _ hA
   have hx := List.mem_filter.1 hx
   have : B.filter (fun x => f x == c) = [] := List.filter_eq_nil_iff.2 fun y hy hc => by
     have h1 : f x = c := by simpa using hx.2
     have h2 : f y = c := by simpa using hc
     exact h x hx.1 y hy (by omega)
   rw [this]; simp
theorem y0fq {f : Int → Int} : ∀ {A B : List Int}, Up f A → Up f B → Kin f A B → A = B
 | [], [], _, _, _ => rfl
 | [], b :: B, _, _, h => by have := (h.mem (x := b)).2 (by simp); simp at this
 | a :: A, [], _, _, h => by have := (h.mem (x := a)).1 (by simp); simp at this
 | a :: A, b :: B, h1, h2, h => by
   have hab : f b ≤ f a := by
     rcases List.mem_cons.1 ((h.mem (x := a)).1 (by simp)) with e | hm
     · rw [e]; exact Int.le_refl _
     · exact h2.1 a hm
   have hba : f a ≤ f b := by
     rcases List.mem_cons.1 ((h.mem (x := b)).2 (by simp)) with e | hm
     · rw [e]; exact Int.le_refl _
     · exact h1.1 b hm
   have e : f a = f b := by omega
   have hh := h (f a)
   rw [List.filter_cons, if_pos (by simp), List.filter_cons, if_pos (by simp [e])] at hh
   have hh := (List.cons.inj hh).1
   subst hh
   have : Kin f A B := fun c => by
     have := h c
     rw [List.filter_cons, List.filter_cons] at this
     split at this
     · exact (List.cons.inj this).2
     · exact this
   rw [y0fq h1.2 h2.2 this]
def y0mj (f : Int → Int) (W : List Int) (x : Int) : List Int := W.takeWhile (fun w => decide (f w ≤ f x)) ++ x :: W.dropWhile (fun w => decide (f w ≤ f x))
def ssort (f : Int → Int) (S : List Int) : List Int := S.foldl (y0mj f) []
theorem y09q {f : Int → Int} {x : Int} : ∀ {W : List Int}, Up f W → ∀ w ∈ W.dropWhile (fun w => decide (f w ≤ f x)), f x < f w
 | [], _, w, hw => by simp at hw
 | a :: W, h, w, hw => by
   rw [List.dropWhile_cons] at hw
   split at hw
   · exact y09q h.2 w hw
   · rename_i ha
     have ha : f x < f a := by simpa using ha
     rcases List.mem_cons.1 hw with rfl | hw
     · exact ha
     · have := h.1 w hw; omega
theorem y0ff {f : Int → Int} {A B : List Int} {x : Int} (h : Up f (A ++ B)) (h1 : ∀ w ∈ A, f w ≤ f x) (h2 : ∀ w ∈ B, f x < f w) : Up f (A ++ x :: B) ∧ Kin f (A ++ x :: B) ((A ++ B) ++ [x]) := by
 obtain ⟨q1, q2, q3⟩ := Up.append.1 h
 refine ⟨Up.append.2 ⟨q1, ⟨fun y hy => Int.le_of_lt (h2 y hy), q2⟩, fun a ha y hy => ?_⟩, ?_⟩
 · rcases List.mem_cons.1 hy with rfl | hy
   · exact h1 a ha
   · exact q3 a ha y hy
 · rw [List.append_assoc]
   refine Kin.app (Kin.refl f A) ?_
   exact Kin.turn (A := [x]) (B := B) fun a ha y hy => by
     simp at ha
     subst ha
     have := h2 y hy
     omega
theorem y0hn {f : Int → Int} {W : List Int} {x : Int} (h : Up f W) : Up f (y0mj f W x) ∧ Kin f (y0mj f W x) (W ++ [x]) := by
 have e := List.takeWhile_append_dropWhile (p := fun w => decide (f w ≤ f x)) (l := W)
 have := y0ff (f := f) (x := x) (A := W.takeWhile (fun w => decide (f w ≤ f x))) (B := W.dropWhile (fun w => decide (f w ≤ f x))) (by rw [e]; exact h) (fun w hw => by
   have := List.all_eq_true.1 (List.all_takeWhile (p := fun w => decide (f w ≤ f x)) (l := W)) w hw
   simpa using this) (y09q h)
 rw [e] at this
 exact this
theorem zm2 (f : Int → Int) (S : List Int) (x : Int) : ssort f (S ++ [x]) = y0mj f (ssort f S) x := by simp [ssort]
theorem z2h (f : Int → Int) (S : List Int) : Up f (ssort f S) ∧ Kin f (ssort f S) S := by
 have key : ∀ (n : Nat) (S : List Int), S.length = n → Up f (ssort f S) ∧ Kin f (ssort f S) S := by
   intro n
   induction n with
   | zero => intro S hS; rw [List.length_eq_zero_iff.1 hS]; exact ⟨trivial, Kin.refl f []⟩
   | succ n ih =>
     intro S hS
     obtain ⟨T, x, rfl⟩ : ∃ T x, S = T ++ [x] := ⟨S.dropLast, S.getLast (by intro hh; subst hh; simp at hS), (List.dropLast_concat_getLast _).symm⟩
     simp at hS
     obtain ⟨h1, h2⟩ := ih T hS
     rw [zm2]
     obtain ⟨q1, q2⟩ := y0hn (x := x) h1
     exact ⟨q1, q2.trans (h2.app (Kin.refl f [x]))⟩
 exact key S.length S rfl
theorem z5f {f : Int → Int} {R S : List Int} (h : Up f R) (k : Kin f R S) : R = ssort f S := by
 obtain ⟨h1, h2⟩ := z2h f S
 exact y0fq h h1 (k.trans h2.symm)
theorem zcm {f : Int → Int} {S : List Int} (h : Up f S) : ssort f S = S := (z5f h (Kin.refl f S)).symm
theorem zb3 {f : Int → Int} {R S : List Int} (h : Kin f R S) : ssort f R = ssort f S := z5f (z2h f R).1 ((z2h f R).2.trans h)
theorem z1n (f : Int → Int) (S : List Int) : (ssort f S).length = S.length := by
 have key : ∀ (n : Nat) (S : List Int), S.length = n → (ssort f S).length = n := by
   intro n
   induction n with
   | zero => intro S hS; rw [List.length_eq_zero_iff.1 hS]; rfl
   | succ n ih =>
     intro S hS
     obtain ⟨T, x, rfl⟩ : ∃ T x, S = T ++ [x] := ⟨S.dropLast, S.getLast (by intro hh; subst hh; simp at hS), (List.dropLast_concat_getLast _).symm⟩
     simp at hS
     rw [zm2]
     have e := congrArg List.length (List.takeWhile_append_dropWhile (p := fun w => decide (f w ≤ f x)) (l := ssort f T))
     rw [List.length_append] at e
     simp only [y0mj, List.length_append, List.length_cons]
     have := ih T hS
     omega
 exact key S.length S rfl
theorem y01a {f : Int → Int} {X1 X2 Y1 Y2 : List Int} (hX : Up f (X1 ++ X2)) (hY : Up f (Y1 ++ Y2)) (h1 : ∀ x ∈ X1, ∀ y ∈ Y2, f x ≤ f y) (h2 : ∀ y ∈ Y1, ∀ x ∈ X2, f y < f x) :
   ssort f (X1 ++ Y1) ++ ssort f (X2 ++ Y2) = ssort f ((X1 ++ X2) ++ (Y1 ++ Y2)) := by
 obtain ⟨a1, a2, a3⟩ := Up.append.1 hX
 obtain ⟨b1, b2, b3⟩ := Up.append.1 hY
 obtain ⟨p1, p2⟩ := z2h f (X1 ++ Y1)
 obtain ⟨q1, q2⟩ := z2h f (X2 ++ Y2)
 refine z5f (Up.append.2 ⟨p1, q1, fun x hx y hy => ?_⟩) ((p2.app q2).trans ?_)
 · have hx := List.mem_append.1 (p2.mem.1 hx)
   have hy := List.mem_append.1 (q2.mem.1 hy)
   rcases hx with hx | hx <;> rcases hy with hy | hy
   · exact a3 x hx y hy
   · exact h1 x hx y hy
   · exact Int.le_of_lt (h2 x hx y hy)
   · exact b3 x hx y hy
 · rw [List.append_assoc, List.append_assoc]
   refine (Kin.refl f X1).app ?_
   rw [← List.append_assoc, ← List.append_assoc]
   refine Kin.app (Kin.turn fun y hy x hx => ?_) (Kin.refl f Y2)
   have := h2 y hy x hx
   omega
theorem zr3 {f : Int → Int} {A B : List Int} {x : Int} (h : Up f (A ++ B)) (h1 : ∀ w ∈ A, f w ≤ f x) (h2 : ∀ w ∈ B, f x < f w) : A ++ x :: B = ssort f ((A ++ B) ++ [x]) := by
 obtain ⟨q1, q2⟩ := y0ff h h1 h2
 exact z5f q1 q2
theorem y09h {f : Int → Int} {A B : List Int} {x : Int} (h : Up f (A ++ B)) (h1 : ∀ w ∈ A, f w < f x) (h2 : ∀ w ∈ B, f x ≤ f w) : A ++ x :: B = ssort f (x :: (A ++ B)) := by
 obtain ⟨a1, a2, a3⟩ := Up.append.1 h
 refine z5f (Up.append.2 ⟨a1, ⟨h2, a2⟩, fun a ha y hy => ?_⟩) ?_
 · rcases List.mem_cons.1 hy with rfl | hy
   · exact Int.le_of_lt (h1 a ha)
   · exact a3 a ha y hy
 · rw [show A ++ x :: B = (A ++ [x]) ++ B by simp, show x :: (A ++ B) = ([x] ++ A) ++ B by simp]
   exact Kin.app (Kin.turn fun a ha y hy => by simp at hy; subst hy; have := h1 a ha; omega) (Kin.refl f B)
theorem y09r {f : Int → Int} {A : List Int} {x : Int} (h : Up f (A ++ [x])) : ∀ w ∈ A, f w ≤ f x := fun w hw => (Up.append.1 h).2.2 w hw x (by simp)
def swR (L : List Int) (p q : Nat) : Nat → List Int
 | 0 => L
 | n + 1 => ((swR L p q n).set (p + n) ((swR L p q n).getD (q + n) 0)).set (q + n) ((swR L p q n).getD (p + n) 0)
theorem y01e (L : List Int) (p q n : Nat) : (swR L p q n).length = L.length := by
 induction n with
 | zero => rfl
 | succ n ih => simp [swR, ih]
theorem znu {A B : List Int} {x y : Int} {k : Nat} (h : k = A.length) : (A ++ x :: B).set k y = A ++ y :: B := by
 subst h; simp
theorem z4p {A B : List Int} {x d : Int} {k : Nat} (h : k = A.length) : (A ++ x :: B).getD k d = x := by
 subst h; simp [List.getD]
theorem znw : ∀ (n : Nat) (A X Y Z B : List Int), X.length = n → Z.length = n → swR (A ++ X ++ Y ++ Z ++ B) A.length (A.length + n + Y.length) n = A ++ Z ++ Y ++ X ++ B
 | 0, A, X, Y, Z, B, hX, hZ => by rw [List.length_eq_zero_iff.1 hX, List.length_eq_zero_iff.1 hZ]; rfl
 | n + 1, A, X, Y, Z, B, hX, hZ => by
   obtain ⟨X, x, rfl⟩ : ∃ T x, X = T ++ [x] := ⟨X.dropLast, X.getLast (by intro hh; subst hh; simp at hX), (List.dropLast_concat_getLast _).symm⟩
   obtain ⟨Z, z, rfl⟩ : ∃ T x, Z = T ++ [x] := ⟨Z.dropLast, Z.getLast (by intro hh; subst hh; simp at hZ), (List.dropLast_concat_getLast _).symm⟩
   simp at hX hZ
   have ih := znw n A X (x :: Y) Z (z :: B) hX hZ
   have e1 : A ++ (X ++ [x]) ++ Y ++ (Z ++ [z]) ++ B = A ++ X ++ (x :: Y) ++ Z ++ (z :: B) := by simp
   have e2 : A.length + (n + 1) + Y.length = A.length + n + (x :: Y).length := by simp; omega
   rw [e1, e2, swR, ih]
   have f1 : A ++ Z ++ x :: Y ++ X ++ z :: B = (A ++ Z) ++ x :: (Y ++ X ++ z :: B) := by simp
   have f2 : A ++ Z ++ x :: Y ++ X ++ z :: B = (A ++ Z ++ x :: Y ++ X) ++ z :: B := by simp
   have g1 : (A ++ Z ++ x :: Y ++ X ++ z :: B).getD (A.length + n) 0 = x := by rw [f1]; exact z4p (by simp; omega)
   have g2 : (A ++ Z ++ x :: Y ++ X ++ z :: B).getD (A.length + n + (x :: Y).length + n) 0 = z := by rw [f2]; exact z4p (by simp; omega)
   rw [g1, g2, f1, znu (by simp; omega)]
   have f3 : (A ++ Z) ++ z :: (Y ++ X ++ z :: B) = (A ++ Z ++ z :: Y ++ X) ++ z :: B := by simp
   rw [f3, znu (by simp; omega)]
   simp
def han (r : Int) : Bool := decide (44032 ≤ r) && decide (r ≤ 55203)
def syl (r : Int) : List Int := [4352 + (r - 44032) / 588, 4449 + (r - 44032) % 588 / 28] ++ (if (r - 44032) % 28 = 0 then [] else [4519 + (r - 44032) % 28])
def stop (soft : Bool) (r : Int) : Bool := !(spl r).2 || ((spl r).1.2.2.2.1 && !soft)
def za9 : Nat → Bool → Int → List Int
 | 0, _, r => [r]
 | f + 1, soft, r => if han r then syl r else if stop soft r then [r] else if (spl r).1.2.2.1 = 0 then za9 f soft (spl r).1.2.1 else za9 f soft (spl r).1.2.1 ++ za9 f soft (spl r).1.2.2.1
def y03v : Nat → Int → Prop
 | 0, r => (spl r).2 = false
 | n + 1, r => (spl r).2 = true → y03v n (spl r).1.2.1 ∧ ((spl r).1.2.2.1 ≠ 0 → y03v n (spl r).1.2.2.1)
def zs6 : Nat → Int → Bool
 | 0, r => !(spl r).2
 | n + 1, r => !(spl r).2 || (zs6 n (spl r).1.2.1 && ((spl r).1.2.2.1 == 0 || zs6 n (spl r).1.2.2.1))
theorem zmw : ∀ (n : Nat) (r : Int), zs6 n r = true → y03v n r
 | 0, r, h => by simpa [zs6, y03v] using h
 | n + 1, r, h => by
   intro hs
   simp only [zs6, hs, Bool.not_true, Bool.false_or, Bool.and_eq_true, Bool.or_eq_true, beq_iff_eq] at h
   exact ⟨zmw n _ h.1, fun h0 => zmw n _ (h.2.resolve_left h0)⟩
theorem zmv (r : Int) : y03v 4 r := by
 intro h
 have := z4n (q := fun _ s => zs6 3 s.2.1 && (s.2.2.1 == 0 || zs6 3 s.2.2.1)) (by decide +kernel) (by decide +kernel) h
 simp only [Bool.and_eq_true, Bool.or_eq_true, beq_iff_eq] at this
 exact ⟨zmw 3 _ this.1, fun h0 => zmw 3 _ (this.2.resolve_left h0)⟩
theorem y03v.up : ∀ {n : Nat} {r : Int}, y03v n r → y03v (n + 1) r
 | 0, r, h => fun hs => by rw [show (spl r).2 = false from h] at hs; cases hs
 | n + 1, r, h => fun hs => ⟨(h hs).1.up, fun h0 => ((h hs).2 h0).up⟩
def z5x (soft : Bool) (r : Int) : List Int := za9 5 soft r
def z0x (soft : Bool) (l : List Int) : List Int := l.flatMap (z5x soft)
theorem zc8 : ∀ (f : Nat) (soft : Bool) (r : Int), (za9 f soft r).length ≤ 3 * 2 ^ f
 | 0, _, _ => by simp [za9]
 | f + 1, soft, r => by
   have h1 := zc8 f soft (spl r).1.2.1
   have h2 := zc8 f soft (spl r).1.2.2.1
   have hp : 2 ^ (f + 1) = 2 ^ f * 2 := Nat.pow_succ _ _
   have hp0 : 0 < 2 ^ f := Nat.pow_pos (by decide)
   rw [za9]
   split
   · unfold syl; split <;> simp <;> omega
   · split
     · simp; omega
     · split
       · omega
       · rw [List.length_append]; omega
theorem z50 (f : Nat) (soft : Bool) (r : Int) : za9 (f + 1) soft r = if han r then syl r else if stop soft r then [r] else if (spl r).1.2.2.1 = 0 then za9 f soft (spl r).1.2.1 else za9 f soft (spl r).1.2.1 ++ za9 f soft (spl r).1.2.2.1 := rfl
theorem zaw : ∀ (n : Nat) {r : Int} {soft : Bool}, y03v n r → za9 (n + 2) soft r = za9 (n + 1) soft r
 | 0, r, soft, h => by
   have : stop soft r = true := by simp [stop, show (spl r).2 = false from h]
   rw [z50 1 soft r, z50 0 soft r, this]
   simp
 | n + 1, r, soft, h => by
   rw [z50 (n + 2) soft r, z50 (n + 1) soft r]
   by_cases hst : stop soft r = true
   · rw [hst]; simp
   · have hs : (spl r).2 = true := by
       unfold stop at hst
       cases hq : (spl r).2
       · rw [hq] at hst; simp at hst
       · rfl
     rw [zaw n (h hs).1]
     by_cases h0 : (spl r).1.2.2.1 = 0
     · simp only [h0, if_true]
     · rw [zaw n ((h hs).2 h0)]
theorem z32 (soft : Bool) (r : Int) : z5x soft r = if han r then syl r else if stop soft r then [r] else if (spl r).1.2.2.1 = 0 then z5x soft (spl r).1.2.1 else z5x soft (spl r).1.2.1 ++ z5x soft (spl r).1.2.2.1 := by
 have e : z5x soft r = za9 6 soft r := (zaw 4 (zmv r)).symm
 rw [e, z50]
 rfl
def mk2 (a b : Int) : Int × Bool := if 4352 ≤ a ∧ a ≤ 4370 ∧ 4449 ≤ b ∧ b ≤ 4469 then (44032 + (a - 4352) * 588 + (b - 4449) * 28, true)
 else if han a = true ∧ (a - 44032) % 28 = 0 ∧ 4520 ≤ b ∧ b ≤ 4546 then (a + b - 4519, true) else pr a b
def z5k : List Int → List Int → List Int
 | R, [] => ssort cls R
 | R, x :: l => if 0 < cls x then z5k (R ++ [x]) l else ssort cls R ++ x :: z5k [] l
def z8m (l : List Int) : List Int := z5k [] l
structure JS where
 pre : List Int
 st : Option Int
 ms : List Int
def JS.out (s : JS) : List Int := s.pre ++ s.st.toList ++ s.ms
def JS.put (s : JS) (x : Int) : JS := if cls x = 0 then ⟨s.out, some x, []⟩ else ⟨s.pre, s.st, s.ms ++ [x]⟩
def z1p (s : JS) (x : Int) : JS := match s.st with
 | none => s.put x
 | some b => if s.ms.all (fun m => decide (cls m < cls x)) then (if (mk2 b x).2 then ⟨s.pre, some (mk2 b x).1, s.ms⟩ else s.put x) else s.put x
def zsy (l : List Int) : JS := l.foldl z1p ⟨[], none, []⟩
def z7b (l : List Int) : List Int := (zsy l).out
theorem zsr {r : Int} (h : 44032 ≤ r ∧ r ≤ 55203) : cls r = 0 := by
 by_cases h0 : cls r = 0
 · exact h0
 · have := List.all_eq_true.1 (show (zwm.all fun r => decide (¬ (44032 ≤ r ∧ r ≤ 55203))) = true by decide +kernel) r (zs1 h0)
   simp at this
   omega
theorem y07w {a b : Int} (h : (mk2 a b).2 = true) : cls (mk2 a b).1 = 0 ∧ 0 ≤ (mk2 a b).1 ∧ (mk2 a b).1 ≤ 1114111 := by
 unfold mk2 at h ⊢
 split
 · rename_i h1
   exact ⟨zsr (by dsimp only; omega), by dsimp only; omega, by dsimp only; omega⟩
 · rename_i h1
   rw [if_neg h1] at h
   split
   · rename_i h2
     have : 44032 ≤ a ∧ a ≤ 55203 := by simpa [han] using h2.1
     exact ⟨zsr (by dsimp only; omega), by dsimp only; omega, by dsimp only; omega⟩
   · rename_i h2
     rw [if_neg h2] at h
     obtain ⟨q1, q2, q3, q4⟩ := z8n h
     have hm := zr0 q1
     refine ⟨hm.2.1, ?_⟩
     have := z4n (q := fun r _ => decide (0 ≤ r ∧ r ≤ 1114111)) (by decide +kernel) (by decide +kernel) q1
     simpa using this
structure JI (s : JS) : Prop where
 st : ∀ b, s.st = some b → cls b = 0
 ms : ∀ m ∈ s.ms, 0 < cls m
 none : s.st = none → s.pre = []
theorem JI.put {s : JS} (h : JI s) (x : Int) : JI (s.put x) := by
 unfold JS.put
 split
 · rename_i hc
   exact ⟨fun b hb => by simp at hb; subst hb; exact hc, by simp, by simp⟩
 · rename_i hc
   have := z9a x
   exact ⟨h.st, fun m hm => by
     rcases List.mem_append.1 hm with hm | hm
     · exact h.ms m hm
     · simp at hm; subst hm; omega, h.none⟩
theorem JI.step {s : JS} (h : JI s) (x : Int) : JI (z1p s x) := by
 unfold z1p
 split
 · exact h.put x
 · rename_i b hb
   split
   · split
     · rename_i h2
       exact ⟨fun c hc => by simp at hc; subst hc; exact (y07w h2).1, h.ms, by simp⟩
     · exact h.put x
   · exact h.put x
theorem JI.run (l : List Int) : JI (zsy l) := by
 have key : ∀ (l : List Int) (s : JS), JI s → JI (l.foldl z1p s) := fun l => by
   induction l with
   | nil => intro s h; exact h
   | cons x l ih => intro s h; exact ih _ (h.step x)
 exact key l _ ⟨by simp, by simp, fun _ => rfl⟩
theorem z7j (s : JS) (x : Int) : (s.put x).out = s.out ++ [x] := by
 unfold JS.put
 split
 · simp [JS.out]
 · simp [JS.out]
theorem y072 (l : List Int) (i : Nat) (h : i < l.length) : zsy (l.take (i + 1)) = z1p (zsy (l.take i)) (l.getD i 0) := by
 unfold zsy
 rw [z1h l i 0 h, List.foldl_append]; rfl
theorem y074 (s : JS) (x : Int) : (z1p s x).out.length ≤ s.out.length + 1 := by
 unfold z1p
 split
 · rw [z7j]; simp
 · rename_i b hb
   split
   · split
     · simp [JS.out, hb]
     · rw [z7j]; simp
   · rw [z7j]; simp
theorem zn7 (l : List Int) : (zsy l).out.length ≤ l.length := by
 have key : ∀ (l : List Int) (s : JS), (l.foldl z1p s).out.length ≤ s.out.length + l.length := fun l => by
   induction l with
   | nil => intro s; simp
   | cons x l ih =>
     intro s
     have h1 := ih (z1p s x)
     have h2 := y074 s x
     simp only [List.foldl_cons, List.length_cons]; omega
 have := key l ⟨[], none, []⟩
 have e : (JS.out ⟨[], none, []⟩).length = 0 := rfl
 rw [e, Nat.zero_add] at this
 exact this
def dg (n : Int) : Int := if 0 ≤ n ∧ n < 26 then 97 + n else if 26 ≤ n ∧ n < 36 then 22 + n else 0
def dgOk (n : Int) : Bool := decide (0 ≤ n) && decide (n < 36)
def vl (c : Int) : Int := if 48 ≤ c ∧ c ≤ 57 then c - 22 else if 65 ≤ c ∧ c ≤ 90 then c - 65 else if 97 ≤ c ∧ c ≤ 122 then c - 97 else 0
def y01i (c : Int) : Bool := (decide (48 ≤ c) && decide (c ≤ 57)) || (decide (65 ≤ c) && decide (c ≤ 90)) || (decide (97 ≤ c) && decide (c ≤ 122))
def adF : Nat → Int → Int → Int
 | 0, _, k => k
 | f + 1, d, k => if 455 < d then adF f (d / 35) (k + 36) else k + 36 * d / (d + 38)
def adD (d c : Int) (first : Bool) : Int := (if first then d / 700 else d / 2) + (if first then d / 700 else d / 2) / c
def adapt (d c : Int) (first : Bool) : Int := adF 20 (adD d c first) 0
def thr (k b : Int) : Int := max 1 (min 26 (k - b))
def dgb (n : Int) : UInt8 := UInt8.ofNat (dg n).toNat
def wrF : Nat → Int → Int → Int → List UInt8
 | 0, _, _, _ => []
 | f + 1, n, k, b => if n < thr k b then [dgb n] else dgb (thr k b + (n - thr k b) % (36 - thr k b)) :: wrF f ((n - thr k b) / (36 - thr k b)) (k + 36) b
def wr (n b : Int) : List UInt8 := wrF 64 n 36 b
def nxt (l : List Int) (n : Int) : Int := l.foldl (fun o r => if n ≤ r ∧ (o < 0 ∨ r < o) then r else o) (-1)
theorem z4v {x c : Int} (hx : 0 ≤ x) (hc : 1 ≤ c) : 0 ≤ x / c ∧ x / c ≤ x := ⟨Int.ediv_nonneg hx (by omega), Int.ediv_le_self _ hx⟩
theorem zzc (d c : Int) : adapt d c true = adF 20 (d / 700 + d / 700 / c) 0 := rfl
theorem zrt (d c : Int) : adapt d c false = adF 20 (d / 2 + d / 2 / c) 0 := rfl
theorem y0kg {f : Nat} {d k : Int} (h : 0 ≤ d) (hk : 0 ≤ k) : 0 ≤ adF f d k ∧ adF f d k ≤ k + 36 * f + 36 := by
 induction f generalizing d k with
 | zero => simp [adF]; omega
 | succ f ih =>
   unfold adF
   split
   · have := ih (d := d / 35) (k := k + 36) (by omega) (by omega)
     omega
   · have h1 : 0 ≤ 36 * d / (d + 38) := Int.ediv_nonneg (by omega) (by omega)
     have h2 : 36 * d / (d + 38) ≤ 36 := Int.ediv_le_of_le_mul (by omega) (by omega)
     omega
theorem zew {d c : Int} {first : Bool} (h : 0 ≤ d) (hc : 1 ≤ c) : 0 ≤ adapt d c first ∧ adapt d c first ≤ 756 := by
 have hd : 0 ≤ adD d c first := by
   unfold adD
   split
   · have := z4v (x := d / 700) (c := c) (by omega) hc; omega
   · have := z4v (x := d / 2) (c := c) (by omega) hc; omega
 have := y0kg (f := 20) hd (Int.le_refl 0)
 unfold adapt
 omega
theorem y0iw (f : Nat) : ∀ (n k b : Int), (wrF f n k b).length ≤ f := by
 induction f with
 | zero => intro n k b; simp [wrF]
 | succ f ih =>
   intro n k b
   unfold wrF
   split
   · simp
   · have := ih ((n - thr k b) / (36 - thr k b)) (k + 36) b
     simp only [List.length_cons]; omega
theorem y0fs (n b : Int) : (wr n b).length ≤ 64 := y0iw _ _ _ _
theorem z3x {α β : Type} (f : β → α → β) (a : β) (l : List α) (i : Nat) (d : α) (h : i < l.length) : (l.take (i + 1)).foldl f a = f ((l.take i).foldl f a) (l.getD i d) := by
 rw [z1h l i d h, List.foldl_append]; rfl
def rx (l : List Int) (n : Int) : Int := l.foldl (fun m r => if n ≤ r ∧ r < m then r else m) 1114112
def zel (l : List Int) (n m : Int) : Prop := m ∈ l ∧ n ≤ m ∧ ∀ r ∈ l, n ≤ r → m ≤ r
theorem y0bn {n : Int} (hn : 0 ≤ n) : ∀ (l : List Int), (nxt l n = -1 ∧ ∀ r ∈ l, r < n) ∨ zel l n (nxt l n) := by
 intro l
 have key : ∀ (l p : List Int) (o : Int), ((o = -1 ∧ ∀ r ∈ p, r < n) ∨ zel p n o) → ((l.foldl (fun o r => if n ≤ r ∧ (o < 0 ∨ r < o) then r else o) o = -1 ∧ ∀ r ∈ p ++ l, r < n) ∨ zel (p ++ l) n (l.foldl (fun o r => if n ≤ r ∧ (o < 0 ∨ r < o) then r else o) o)) := by
   intro l
   induction l with
   | nil => intro p o h; simpa using h
   | cons a l ih =>
     intro p o h
     have e : p ++ a :: l = (p ++ [a]) ++ l := by simp
     rw [e, List.foldl_cons]
     refine ih _ _ ?_
     rcases h with ⟨rfl, h⟩ | ⟨h1, h2, h3⟩
     · by_cases ha : n ≤ a
       · rw [if_pos ⟨ha, .inl (by omega)⟩]
         right
         refine ⟨by simp, ha, fun r hr hnr => ?_⟩
         rcases List.mem_append.1 hr with hr | hr
         · have := h r hr; omega
         · simp at hr; omega
       · rw [if_neg (by omega)]
         left
         refine ⟨rfl, fun r hr => ?_⟩
         rcases List.mem_append.1 hr with hr | hr
         · exact h r hr
         · simp at hr; omega
     · right
       by_cases ha : n ≤ a ∧ a < o
       · rw [if_pos ⟨ha.1, .inr ha.2⟩]
         refine ⟨by simp, ha.1, fun r hr hnr => ?_⟩
         rcases List.mem_append.1 hr with hr | hr
         · have := h3 r hr hnr; omega
         · simp at hr; omega
       · rw [if_neg (by omega)]
         refine ⟨by simp [h1], h2, fun r hr hnr => ?_⟩
         rcases List.mem_append.1 hr with hr | hr
         · exact h3 r hr hnr
         · simp at hr; omega
 exact key l [] (-1) (.inl ⟨rfl, by simp⟩)
theorem y0im {n : Int} : ∀ (l : List Int), (rx l n = 1114112 ∧ ∀ r ∈ l, n ≤ r → 1114112 ≤ r) ∨ zel l n (rx l n) := by
 intro l
 have key : ∀ (l p : List Int) (o : Int), ((o = 1114112 ∧ ∀ r ∈ p, n ≤ r → 1114112 ≤ r) ∨ zel p n o) → ((l.foldl (fun m r => if n ≤ r ∧ r < m then r else m) o = 1114112 ∧ ∀ r ∈ p ++ l, n ≤ r → 1114112 ≤ r) ∨ zel (p ++ l) n (l.foldl (fun m r => if n ≤ r ∧ r < m then r else m) o)) := by
   intro l
   induction l with
   | nil => intro p o h; simpa using h
   | cons a l ih =>
     intro p o h
     have e : p ++ a :: l = (p ++ [a]) ++ l := by simp
     rw [e, List.foldl_cons]
     refine ih _ _ ?_
     by_cases ha : n ≤ a ∧ a < o
     · rw [if_pos ha]
       right
       refine ⟨by simp, ha.1, fun r hr hnr => ?_⟩
       rcases List.mem_append.1 hr with hr | hr
       · rcases h with ⟨rfl, h⟩ | ⟨_, _, h⟩
         · have := h r hr hnr; omega
         · have := h r hr hnr; omega
       · simp at hr; omega
     · rw [if_neg ha]
       rcases h with ⟨rfl, h⟩ | ⟨h1, h2, h3⟩
       · left
         refine ⟨rfl, fun r hr hnr => ?_⟩
         rcases List.mem_append.1 hr with hr | hr
         · exact h r hr hnr
         · simp at hr; omega
       · right
         refine ⟨by simp [h1], h2, fun r hr hnr => ?_⟩
         rcases List.mem_append.1 hr with hr | hr
         · exact h3 r hr hnr
         · simp at hr; omega
 exact key l [] 1114112 (.inl ⟨rfl, by simp⟩)
theorem y00e {l : List Int} {n a b : Int} (h : zel l n a) (k : zel l n b) : a = b := by
 have h1 := h.2.2 b k.1 k.2.1
 have h2 := k.2.2 a h.1 h.2.1
 omega
theorem y082 {l : List Int} {n : Int} (hn : 0 ≤ n) (hl : ∀ r ∈ l, r ≤ 1114111) (hc : l.countP (· < n) < l.length) : zel l n (nxt l n) ∧ rx l n = nxt l n := by
 have hex : ∃ r ∈ l, n ≤ r := by
   by_cases h : ∃ r ∈ l, n ≤ r
   · exact h
   · exfalso
     have : l.countP (· < n) = l.length := List.countP_eq_length.2 fun r hr => by
       simp; exact Int.lt_of_not_ge fun hge => h ⟨r, hr, hge⟩
     omega
 obtain ⟨r, hr, hnr⟩ := hex
 have h1 : zel l n (nxt l n) := by
   rcases y0bn hn l with ⟨_, h⟩ | h
   · have := h r hr; omega
   · exact h
 refine ⟨h1, ?_⟩
 rcases y0im (n := n) l with ⟨_, h⟩ | h
 · have := h r hr hnr; have := hl r hr; omega
 · exact y00e h h1
theorem z6i {n m : Int} : ∀ {l : List Int}, (∀ r ∈ l, n ≤ r → m ≤ r) → n ≤ m → l.countP (· < m + 1) = l.countP (· < n) + l.countP (· == m)
 | [], _, _ => rfl
 | a :: l, h, hnm => by
   have ih := z6i (l := l) (fun r hr => h r (List.mem_cons_of_mem _ hr)) hnm
   have ha := h a (by simp)
   simp only [List.countP_cons, ih]
   by_cases h1 : a < n
   · have h2 : ¬ a = m := by omega
     have h3 : a < m + 1 := by omega
     simp [h1, h2, h3]; omega
   · by_cases h2 : a = m
     · subst h2
       have h3 : a < a + 1 := by omega
       simp [h1, h3]; omega
     · have h3 : ¬ a < m + 1 := by omega
       simp [h1, h2, h3]
structure EnS where
 out : List UInt8
 delta : Int
 bias : Int
 h : Int
def z6m (m plain : Int) (s : EnS) (r : Int) : EnS :=
 if r < m then ⟨s.out, s.delta + 1, s.bias, s.h⟩ else if r = m then ⟨s.out ++ wr s.delta s.bias, 0, adapt s.delta (s.h + 1) (s.h == plain), s.h + 1⟩ else s
def zg5 (l : List Int) (m plain : Int) (s : EnS) : EnS := l.foldl (z6m m plain) s
def enF (l : List Int) (plain : Int) : Nat → Int → EnS → List UInt8
 | 0, _, s => s.out
 | f + 1, n, s => if s.h < l.length then enF l plain f (nxt l n + 1) ⟨(zg5 l (nxt l n) plain ⟨s.out, s.delta + (nxt l n - n) * (s.h + 1), s.bias, s.h⟩).out, (zg5 l (nxt l n) plain ⟨s.out, s.delta + (nxt l n - n) * (s.h + 1), s.bias, s.h⟩).delta + 1, (zg5 l (nxt l n) plain ⟨s.out, s.delta + (nxt l n - n) * (s.h + 1), s.bias, s.h⟩).bias, (zg5 l (nxt l n) plain ⟨s.out, s.delta + (nxt l n - n) * (s.h + 1), s.bias, s.h⟩).h⟩ else s.out
def z0o (l : List Int) : List UInt8 := (l.filter (· < 128)).map ofI
def z2s (l : List Int) : List UInt8 := if 0 < (z0o l).length then z0o l ++ [45] else z0o l
def z4b (l : List Int) : List UInt8 := enF l (z0o l).length (l.length + 1) 128 ⟨z2s l, 0, 72, (z0o l).length⟩
def pnS (l : List Int) : List UInt8 := if z0r l then z4b l else []
theorem ztd (l : List Int) (i : Nat) (h : i < l.length) : z0o (l.take (i + 1)) = z0o (l.take i) ++ (if l.getD i 0 < 128 then [ofI (l.getD i 0)] else []) := by
 unfold z0o
 rw [z1h l i 0 h, List.filter_append, List.map_append]
 congr 1
 generalize l.getD i 0 = a
 by_cases h : a < 128 <;> simp [h]
theorem zdc (l : List Int) : (z0o l).length = l.countP (· < 128) := by
 simp [z0o, List.countP_eq_length_filter]
theorem zh9 (l : List Int) : (z0o l).length ≤ l.length := by rw [zdc]; exact List.countP_le_length
structure EnI (l : List Int) (n : Int) (s : EnS) : Prop where
 n0 : 128 ≤ n
 n1 : n ≤ 1114112
 d0 : 0 ≤ s.delta
 d1 : s.delta ≤ (n - 128) * (l.length + 1)
 b0 : 0 ≤ s.bias
 b1 : s.bias ≤ 756
 hh : s.h = l.countP (· < n)
 len : s.out.length ≤ 1 + l.length + 64 * s.h
structure EnJ (l : List Int) (m : Int) (s0 : EnS) (j : Nat) (s : EnS) : Prop where
 eq : s = (l.take j).foldl (z6m m (z0o l).length) s0
 d0 : 0 ≤ s.delta
 d1 : s.delta ≤ s0.delta + j
 b0 : 0 ≤ s.bias
 b1 : s.bias ≤ 756
 hh : s.h = s0.h + (l.take j).countP (· == m)
 h0 : 0 ≤ s0.h
 hl : s.h ≤ l.length
 len : s.out.length ≤ 1 + l.length + 64 * s.h
theorem EnI.first {l : List Int} {n : Int} {s : EnS} (h : EnI l n s) (hl : ∀ r ∈ l, r ≤ 1114111) (hlen : l.length ≤ 1000) (hs : s.h < l.length) :
   zel l n (nxt l n) ∧ rx l n = nxt l n ∧ EnJ l (nxt l n) ⟨s.out, s.delta + (nxt l n - n) * (s.h + 1), s.bias, s.h⟩ 0 ⟨s.out, s.delta + (nxt l n - n) * (s.h + 1), s.bias, s.h⟩ ∧
     s.delta + (nxt l n - n) * (s.h + 1) ≤ (nxt l n - 128) * (l.length + 1) ∧ (nxt l n - 128) * (l.length + 1) ≤ 1200000000 ∧ nxt l n ≤ 1114111 ∧ 0 ≤ (nxt l n - n) * (s.h + 1) := by
 have hhh := h.hh
 obtain ⟨h1, h2⟩ := y082 (n := n) (by have := h.n0; omega) hl (by omega)
 have hm := hl _ h1.1
 have hnm := h1.2.1
 have hn0 := h.n0
 generalize nxt l n = m at *
 have e1 : (m - n) * (s.h + 1) ≤ (m - n) * (l.length + 1) := Int.mul_le_mul_of_nonneg_left (by omega) (by omega)
 have e2 : (m - 128) * ((l.length : Int) + 1) ≤ 1113983 * (l.length + 1) := Int.mul_le_mul_of_nonneg_right (by omega) (by omega)
 have e3 : 0 ≤ (m - n) * (s.h + 1) := Int.mul_nonneg (by omega) (by omega)
 have e4 : (m - 128) * ((l.length : Int) + 1) = (m - n) * (l.length + 1) + (n - 128) * (l.length + 1) := by rw [← Int.add_mul]; congr 1; omega
 have hd := h.d1
 have hd0 := h.d0
 have := h.len
 refine ⟨h1, h2, ⟨rfl, ?_, ?_, h.b0, h.b1, by simp, ?_, ?_, this⟩, by omega, by omega, hm, e3⟩ <;> dsimp only <;> omega
theorem EnJ.next {l : List Int} {m : Int} {s0 s : EnS} {j : Nat} (h : EnJ l m s0 j s) (hj : j < l.length) (hd0 : 0 ≤ s0.delta) (hroom : s0.h + l.countP (· == m) ≤ l.length) : EnJ l m s0 (j + 1) (z6m m (z0o l).length s (l.getD j 0)) := by
 have hc : (l.take (j + 1)).countP (· == m) = (l.take j).countP (· == m) + (if l.getD j 0 = m then 1 else 0) := by
   rw [z1h l j 0 hj, List.countP_append]
   simp [List.countP_cons]
 have hcl : (l.take (j + 1)).countP (· == m) ≤ l.countP (· == m) := (List.take_sublist _ _).countP_le
 have e1 := h.d0
 have e2 := h.d1
 have e3 := h.hh
 have e4 := h.h0
 have e5 := h.hl
 have e6 := h.len
 have e7 := h.b0
 have e8 := h.b1
 refine ⟨by rw [z3x _ _ l j 0 hj, ← h.eq], ?_, ?_, ?_, ?_, ?_, h.h0, ?_, ?_⟩
 all_goals
   unfold z6m
   split
   · rename_i hlt
     rw [if_neg (by omega)] at hc
     dsimp only
     omega
   · split
     · rename_i hne heq
       rw [if_pos heq] at hc
       have ha := zew (d := s.delta) (c := s.h + 1) (first := s.h == ((z0o l).length : Int)) e1 (by omega)
       have hw := y0fs s.delta s.bias
       dsimp only
       first | (simp only [List.length_append]; omega) | omega
     · rename_i hne heq
       rw [if_neg heq] at hc
       omega
theorem EnJ.last {l : List Int} {n : Int} {s0 s : EnS} {m : Int} (h : EnJ l m s0 l.length s) (hm : zel l n m) (hn : 128 ≤ n) (hm1 : m ≤ 1114111) (hs : s0.h = l.countP (· < n)) (hd : s0.delta ≤ (m - 128) * (l.length + 1)) :
   EnI l (m + 1) ⟨s.out, s.delta + 1, s.bias, s.h⟩ ∧ s0.h < s.h := by
 have e3 := h.hh
 rw [List.take_length] at e3
 have hc := z6i (l := l) (n := n) (m := m) hm.2.2 hm.2.1
 have hpos : 0 < l.countP (· == m) := List.countP_pos_iff.2 ⟨m, hm.1, by simp⟩
 have e4 : (m + 1 - 128) * ((l.length : Int) + 1) = (m - 128) * (l.length + 1) + (l.length + 1) := by
   rw [show m + 1 - 128 = (m - 128) + 1 by omega, Int.add_mul, Int.one_mul]
 have e1 := h.d0
 have e2 := h.d1
 have hnm := hm.2.1
 refine ⟨⟨by omega, by omega, by dsimp only; omega, by dsimp only; omega, h.b0, h.b1, by dsimp only; omega, h.len⟩, by omega⟩
def rdN (b : Int) : List UInt8 → Int → Int → Int → Option (Int × List UInt8)
 | [], _, _, _ => none
 | c :: t, k, n, w =>
   if y01i c.toNat = true ∧ w ≤ 2147483647 ∧ n + vl c.toNat * w ≤ 2147483647 then
     (if vl c.toNat < thr k b then some (n + vl c.toNat * w, t) else rdN b t (k + 36) (n + vl c.toNat * w) (w * (36 - thr k b)))
   else none
def rd (s : List UInt8) (b : Int) : Option (Int × List UInt8) := rdN b s 36 0 1
theorem y0ih {b k n w : Int} {s : List UInt8} (hs : 0 < s.length) (h : ¬ (y01i (s.getD 0 0).toNat = true ∧ w ≤ 2147483647 ∧ n + vl (s.getD 0 0).toNat * w ≤ 2147483647)) : rdN b s k n w = none := by
 cases s with
 | nil => simp at hs
 | cons c t => simp only [List.getD_cons_zero] at h; rw [rdN, if_neg h]
theorem y0bx {b k n w : Int} {s : List UInt8} (hs : 0 < s.length) (h : y01i (s.getD 0 0).toNat = true ∧ w ≤ 2147483647 ∧ n + vl (s.getD 0 0).toNat * w ≤ 2147483647) (hd : vl (s.getD 0 0).toNat < thr k b) : rdN b s k n w = some (n + vl (s.getD 0 0).toNat * w, s.drop 1) := by
 cases s with
 | nil => simp at hs
 | cons c t => simp only [List.getD_cons_zero] at h hd ⊢; rw [rdN, if_pos h, if_pos hd]; rfl
theorem y0by {b k n w : Int} {s : List UInt8} (hs : 0 < s.length) (h : y01i (s.getD 0 0).toNat = true ∧ w ≤ 2147483647 ∧ n + vl (s.getD 0 0).toNat * w ≤ 2147483647) (hd : ¬ vl (s.getD 0 0).toNat < thr k b) : rdN b s k n w = rdN b (s.drop 1) (k + 36) (n + vl (s.getD 0 0).toNat * w) (w * (36 - thr k b)) := by
 cases s with
 | nil => simp at hs
 | cons c t => simp only [List.getD_cons_zero] at h hd ⊢; rw [rdN, if_pos h, if_neg hd]; rfl
theorem y0ch (c : Int) : 0 ≤ vl c ∧ vl c ≤ 35 := by
 unfold vl
 repeat' split
 all_goals omega
theorem zyi {b : Int} : ∀ {s : List UInt8} {k n w d : Int} {r : List UInt8}, 0 ≤ n → 1 ≤ w → rdN b s k n w = some (d, r) → 0 ≤ d ∧ d ≤ 2147483647 ∧ ∃ p, s = p ++ r ∧ 0 < p.length
 | [], k, n, w, d, r, _, _, h => by cases h
 | c :: t, k, n, w, d, r, hn, hw, h => by
   rw [rdN] at h
   have hv := y0ch c.toNat
   have hvw : 0 ≤ vl c.toNat * w := Int.mul_nonneg hv.1 (by omega)
   split at h
   · rename_i h1
     split at h
     · simp at h
       obtain ⟨rfl, rfl⟩ := h
       exact ⟨by omega, h1.2.2, [c], rfl, by simp⟩
     · obtain ⟨h2, h3, p, h4, _⟩ := zyi (k := k + 36) (w := w * (36 - thr k b)) (by omega) (by
         have : 1 ≤ thr k b ∧ thr k b ≤ 26 := by unfold thr; omega
         have := Int.mul_le_mul (a := 1) (b := 1) (c := w) (d := 36 - thr k b) hw (by omega) (by omega) (by omega)
         omega) h
       exact ⟨h2, h3, c :: p, by rw [h4]; rfl, by simp⟩
   · cases h
theorem zhl {s : List UInt8} {b d : Int} {r : List UInt8} (h : rd s b = some (d, r)) : 0 ≤ d ∧ d ≤ 2147483647 ∧ ∃ p, s = p ++ r ∧ 0 < p.length := zyi (Int.le_refl 0) (Int.le_refl 1) h
theorem zyj {s : List UInt8} {b d : Int} {r : List UInt8} (h : rd s b = some (d, r)) : r.length < s.length := by
 obtain ⟨_, _, p, h1, h2⟩ := zhl h
 rw [h1, List.length_append]; omega
def zid (L : List Int) (i : Nat) (x : Int) : List Int := L.take i ++ x :: L.drop i
structure DcS where
 s : List UInt8
 n : Int
 i : Int
 bias : Int
 first : Bool
 out : List Int
def dcF : Nat → DcS → Option (List Int)
 | 0, _ => none
 | f + 1, x => if x.s = [] then some x.out else
   match rd x.s x.bias with
   | none => none
   | some (d, r) =>
     if 2147483647 < x.i + d then none else
     if 1114111 < x.n + (x.i + d) / (x.out.length + 1) ∨ right (x.n + (x.i + d) / (x.out.length + 1)) = false then none else
     dcF f ⟨r, x.n + (x.i + d) / (x.out.length + 1), (x.i + d) % (x.out.length + 1) + 1, adapt d (x.out.length + 1) x.first, false,
       zid x.out ((x.i + d) % (x.out.length + 1)).toNat (x.n + (x.i + d) / (x.out.length + 1))⟩
def ldK (s : List UInt8) : Nat → Int
 | 0 => -1
 | k + 1 => if s.getD k 0 = 45 then (k : Int) else ldK s k
def z6q (s : List UInt8) : Int := ldK s s.length
theorem zxk (s : List UInt8) : ∀ k, -1 ≤ ldK s k ∧ ldK s k < k
 | 0 => by simp [ldK]
 | k + 1 => by
   unfold ldK
   have := zxk s k
   split <;> omega
def dc0 (s : List UInt8) : DcS := if 0 < z6q s then ⟨s.drop ((z6q s).toNat + 1), 128, 0, 72, true, (s.take (z6q s).toNat).map fun c => (c.toNat : Int)⟩ else ⟨s, 128, 0, 72, true, []⟩
def zax (s : List UInt8) : Option (List Int) := if 0 ≤ eight s then none else dcF (s.length + 1) (dc0 s)
theorem zf0 {f : Nat} {s : List UInt8} {n i bias : Int} {first : Bool} {out : List Int} (h : s ≠ []) : dcF (f + 1) ⟨s, n, i, bias, first, out⟩ =
   match rd s bias with
   | none => none
   | some (d, r) =>
     if 2147483647 < i + d then none else
     if 1114111 < n + (i + d) / (out.length + 1) ∨ right (n + (i + d) / (out.length + 1)) = false then none else
     dcF f ⟨r, n + (i + d) / (out.length + 1), (i + d) % (out.length + 1) + 1, adapt d (out.length + 1) first, false,
       zid out ((i + d) % (out.length + 1)).toNat (n + (i + d) / (out.length + 1))⟩ := by
 rw [dcF, if_neg h]
theorem zg4 : ∀ (s : List UInt8) (k : Nat), ¬ 0 ≤ za2 k s → ∀ c ∈ s, c.toNat < 128
 | [], k, _, c, hc => by cases hc
 | b :: l, k, h, c, hc => by
   rw [za2] at h
   split at h
   · omega
   · rcases List.mem_cons.1 hc with rfl | hc
     · omega
     · exact zg4 l (k + 1) h c hc
theorem zcz {s : List UInt8} (h : ¬ 0 ≤ eight s) : ∀ c ∈ s, c.toNat < 128 := zg4 s 0 h
structure DcI (s : List UInt8) (f : Nat) (x : DcS) : Prop where
 fuel : x.s.length < f
 n0 : 128 ≤ x.n
 n1 : x.n ≤ 1114111
 i0 : 0 ≤ x.i
 i1 : x.i ≤ x.out.length
 b0 : 0 ≤ x.bias
 b1 : x.bias ≤ 756
 len : x.out.length + x.s.length ≤ s.length
theorem y05m (s : List UInt8) : DcI s (s.length + 1) (dc0 s) := by
 have hl := zxk s s.length
 have hl' : z6q s = ldK s s.length := rfl
 unfold dc0
 split
 · constructor <;> simp <;> omega
 · constructor <;> simp
theorem ztr : ∀ (l : List UInt8), (∀ c ∈ l, c.toNat < 128) → z4m l = l.map fun c => Value.int .i32 (c.toNat : Int) := by
 intro l hl
 have key : ∀ (n i : Nat) (acc : Array Value), l.length ≤ n + i → i ≤ l.length → (Conv.runesFrom ⟨l.toArray⟩ n i acc).toList = acc.toList ++ (l.drop i).map fun c => Value.int .i32 (c.toNat : Int) := by
   intro n
   induction n with
   | zero =>
     intro i acc h1 h2
     have : i = l.length := by omega
     subst this
     simp [Conv.runesFrom]
   | succ n ih =>
     intro i acc h1 h2
     unfold Conv.runesFrom
     have hsz : (⟨l.toArray⟩ : ByteArray).size = l.length := by simp [ByteArray.size]
     by_cases hi : i < l.length
     · rw [if_pos (by rw [hsz]; exact hi)]
       have hget : (⟨l.toArray⟩ : ByteArray)[i]'(by rw [hsz]; exact hi) = l[i] := by simp [ByteArray.getElem_eq_getElem_data]
       have hd := decode_ascii ⟨l.toArray⟩ i (by rw [hsz]; exact hi) (by rw [hget]; exact hl _ (List.getElem_mem _))
       rw [hget] at hd
       rw [hd]
       dsimp only
       rw [ih (i + 1) _ (by omega) (by omega)]
       rw [List.drop_eq_getElem_cons hi]
       simp only [Array.toList_push, List.map_cons, List.append_assoc, List.cons_append, List.nil_append]
       rfl
     · rw [if_neg (by rw [hsz]; exact hi)]
       rw [List.drop_of_length_le (by omega)]
       simp
 have := key l.length 0 #[] (by omega) (by omega)
 unfold z4m
 simpa using this
def zpy (c : UInt8) : UInt8 := if 65 ≤ c.toNat ∧ c.toNat ≤ 90 then UInt8.ofNat (c.toNat + 32) else c
def z6v (s : List UInt8) : List UInt8 := s.map zpy
theorem zkx (c : UInt8) : (zpy c).toNat = if 65 ≤ c.toNat ∧ c.toNat ≤ 90 then c.toNat + 32 else c.toNat := by
 unfold zpy
 split
 · simp; omega
 · rfl
theorem y00j (c : UInt8) : zpy (zpy c) = zpy c := by
 have h := zkx c
 by_cases hc : 65 ≤ c.toNat ∧ c.toNat ≤ 90
 · rw [if_pos hc] at h
   rw [show zpy (zpy c) = zpy c from by
     conv => lhs; unfold zpy
     rw [if_neg (by rw [show (if 65 ≤ c.toNat ∧ c.toNat ≤ 90 then UInt8.ofNat (c.toNat + 32) else c) = zpy c from rfl]; omega)]
     rfl]
 · have e : zpy c = c := by unfold zpy; rw [if_neg hc]
   rw [e, e]
theorem zqd (s : List UInt8) : z6v (z6v s) = z6v s := by simp [z6v, y00j]
theorem zs7 {n : Int} (h : 0 ≤ n) (h' : n < 36) : ((dgb n).toNat : Int) = dg n := by
 have h1 : 0 ≤ dg n ∧ dg n < 256 := by
   unfold dg
   repeat' split
   all_goals omega
 unfold dgb; simp; omega
theorem vl_dg {n : Int} (h : 0 ≤ n) (h' : n < 36) : vl (dg n) = n ∧ y01i (dg n) = true := by
 unfold dg
 by_cases h1 : n < 26
 · rw [if_pos ⟨h, h1⟩]
   constructor
   · unfold vl; rw [if_neg (by omega), if_neg (by omega), if_pos (by omega)]; omega
   · simp [y01i]; omega
 · rw [if_neg (by omega), if_pos (by omega)]
   constructor
   · unfold vl; rw [if_pos (by omega)]; omega
   · simp [y01i]; omega
theorem y09u {n : Int} (h : 0 ≤ n) (h' : n < 36) : vl ((dgb n).toNat : Int) = n ∧ y01i ((dgb n).toNat : Int) = true := by
 rw [zs7 h h']; exact vl_dg h h'
theorem y0l7 {c : UInt8} (h : y01i (c.toNat : Int) = true) : dgb (vl c.toNat) = zpy c := by
 have hv : 0 ≤ vl c.toNat ∧ vl c.toNat ≤ 35 := y0ch _
 apply UInt8.toNat.inj
 have h1 := zs7 hv.1 (by omega)
 have h2 := zkx c
 simp [y01i] at h
 unfold dg at h1
 have e : vl (c.toNat : Int) = if 48 ≤ (c.toNat : Int) ∧ (c.toNat : Int) ≤ 57 then (c.toNat : Int) - 22 else if 65 ≤ (c.toNat : Int) ∧ (c.toNat : Int) ≤ 90 then (c.toNat : Int) - 65 else if 97 ≤ (c.toNat : Int) ∧ (c.toNat : Int) ≤ 122 then (c.toNat : Int) - 97 else 0 := rfl
 rcases h with (h | h) | h
 · rw [if_pos (by omega)] at e
   rw [if_neg (by omega)] at h2
   rw [if_neg (by omega), if_pos (by omega)] at h1
   omega
 · rw [if_neg (by omega), if_pos (by omega)] at e
   rw [if_pos (by omega)] at h2
   rw [if_pos (by omega)] at h1
   omega
 · rw [if_neg (by omega), if_neg (by omega), if_pos (by omega)] at e
   rw [if_neg (by omega)] at h2
   rw [if_pos (by omega)] at h1
   omega
theorem znx (k b : Int) : 1 ≤ thr k b ∧ thr k b ≤ 26 := by unfold thr; omega
theorem y0fr {n t : Int} (hn : t ≤ n) (h1 : 1 ≤ t) (h2 : t ≤ 26) : 0 ≤ (n - t) / (36 - t) ∧ 10 * ((n - t) / (36 - t)) ≤ n ∧ 0 ≤ (n - t) % (36 - t) ∧ (n - t) % (36 - t) < 36 - t ∧ n = (t + (n - t) % (36 - t)) + (n - t) / (36 - t) * (36 - t) := by
 have h3 : 0 ≤ (n - t) / (36 - t) := Int.ediv_nonneg (by omega) (by omega)
 have h4 := Int.ediv_mul_le (n - t) (b := 36 - t) (by omega)
 have h5 : (n - t) / (36 - t) * 10 ≤ (n - t) / (36 - t) * (36 - t) := Int.mul_le_mul_of_nonneg_left (by omega) h3
 have h6 := Int.mul_ediv_add_emod (n - t) (36 - t)
 rw [Int.mul_comm] at h6
 exact ⟨h3, by omega, Int.emod_nonneg _ (by omega), Int.emod_lt_of_pos _ (by omega), by omega⟩
theorem y0n2 {b : Int} (hb : b ≤ 226) (t : List UInt8) : ∀ (f j : Nat) (n acc w N : Int), n < 2 ^ f → 0 ≤ n → 0 ≤ acc → 1 ≤ w → acc + n * w = N → N ≤ 2147483647 → ((j ≤ 6 ∧ w ≤ 35 ^ j) ∨ (6 < j ∧ w ≤ N)) → rdN b (wrF (f + 1) n (36 * (j + 1)) b ++ t) (36 * (j + 1)) acc w = some (N, t) := by
 intro f
 induction f with
 | zero =>
   intro j n acc w N hn h0 ha hw hN hl hj
   have ht := znx (36 * (j + 1)) b
   have h35 : j ≤ 6 → (35 : Int) ^ j ≤ 1838265625 := fun h => by
     have : j = 0 ∨ j = 1 ∨ j = 2 ∨ j = 3 ∨ j = 4 ∨ j = 5 ∨ j = 6 := by omega
     rcases this with rfl | rfl | rfl | rfl | rfl | rfl | rfl <;> decide
   have e : n = 0 := by simp at hn; omega
   subst e
   rw [wrF, if_pos (by omega)]
   obtain ⟨v1, v2⟩ := y09u (n := 0) (by omega) (by omega)
   rw [List.cons_append, rdN, v1, v2, if_pos ⟨rfl, by rcases hj with hj | hj; have := h35 hj.1; omega; omega, by omega⟩, if_pos (by omega), hN]
   rfl
 | succ f ih =>
   intro j n acc w N hn h0 ha hw hN hl hj
   have ht := znx (36 * (j + 1)) b
   have h35 : j ≤ 6 → (35 : Int) ^ j ≤ 1838265625 := fun h => by
     have : j = 0 ∨ j = 1 ∨ j = 2 ∨ j = 3 ∨ j = 4 ∨ j = 5 ∨ j = 6 := by omega
     rcases this with rfl | rfl | rfl | rfl | rfl | rfl | rfl <;> decide
   have hwl : w ≤ 2147483647 := by
     rcases hj with hj | hj
     · have := h35 hj.1; omega
     · omega
   by_cases hlt : n < thr (36 * (j + 1)) b
   · rw [wrF, if_pos hlt]
     obtain ⟨v1, v2⟩ := y09u (n := n) h0 (by omega)
     rw [List.cons_append, rdN, v1, v2, if_pos ⟨rfl, hwl, by omega⟩, if_pos hlt, hN]
     rfl
   · have h26 : 6 ≤ j → thr (36 * (j + 1)) b = 26 := fun h => by unfold thr; omega
     rw [wrF, if_neg hlt]
     obtain ⟨q0, q1, q2, q3, q4⟩ := y0fr (n := n) (t := thr (36 * (j + 1)) b) (by omega) (by omega) (by omega)
     obtain ⟨u, hu⟩ : ∃ u, thr (36 * (j + 1)) b = u := ⟨_, rfl⟩
     rw [hu] at ht hlt h26 q0 q1 q2 q3 q4 ⊢
     generalize hqq : (n - u) / (36 - u) = q at *
     generalize hrr : (n - u) % (36 - u) = r at *
     obtain ⟨v1, v2⟩ := y09u (n := u + r) (by omega) (by omega)
     have hq36 : 0 ≤ q * (36 - u) := Int.mul_nonneg q0 (by omega)
     have hw36 : 1 ≤ w * (36 - u) := by
       have := Int.mul_le_mul (a := 1) (b := 1) (c := w) (d := 36 - u) hw (by omega) (by omega) (by omega)
       omega
     have hsplit : n * w = (u + r) * w + q * (w * (36 - u)) := by
       rw [q4, Int.add_mul, Int.mul_assoc q, Int.mul_comm (36 - u) w]
     have hp0 : 0 ≤ q * (w * (36 - u)) := Int.mul_nonneg q0 (by omega)
     have hp1 : 0 ≤ (u + r) * w := Int.mul_nonneg (by omega) (by omega)
     rw [List.cons_append, rdN, v1, v2, hu, if_pos ⟨rfl, hwl, by omega⟩, if_neg (by omega)]
     have hstep := ih (j + 1) q (acc + (u + r) * w) (w * (36 - u)) N ?_ q0 (by omega) hw36 (by omega) hl ?_
     · rw [show (36 : Int) * ((j + 1 : Nat) + 1) = 36 * (j + 1) + 36 by omega] at hstep
       exact hstep
     · have : (2 : Int) ^ (f + 1) = 2 ^ f * 2 := Int.pow_succ 2 f
       rw [this] at hn
       generalize (2 : Int) ^ f = p at *
       omega
     · rcases Nat.lt_or_ge j 6 with hj6 | hj6
       · left
         refine ⟨by omega, ?_⟩
         rcases hj with hj | hj
         · have := Int.mul_le_mul hj.2 (show 36 - u ≤ 35 by omega) (by omega) (Int.le_of_lt (Int.pow_pos (by decide)))
           rw [Int.pow_succ]; exact this
         · omega
       · right
         have := h26 hj6
         subst this
         refine ⟨by omega, ?_⟩
         have : 26 * w ≤ n * w := Int.mul_le_mul_of_nonneg_right (by omega) (by omega)
         omega
theorem rd_wr {n b : Int} (hb : b ≤ 226) (h0 : 0 ≤ n) (h1 : n ≤ 2147483647) (t : List UInt8) : rd (wr n b ++ t) b = some (n, t) :=
 y0n2 hb t 63 0 n 0 1 n (by omega) h0 (Int.le_refl 0) (Int.le_refl 1) (by omega) h1 (.inl ⟨by decide, by decide⟩)
theorem y0fu {b : Int} : ∀ (s : List UInt8) (k acc w d : Int) (r : List UInt8), 1 ≤ w → rdN b s k acc w = some (d, r) →
   ∃ p n, s = p ++ r ∧ 0 < p.length ∧ d = acc + n * w ∧ 0 ≤ n ∧ ∀ f : Nat, n < 2 ^ f → wrF (f + 1) n k b = z6v p
 | [], k, acc, w, d, r, _, h => by cases h
 | c :: t, k, acc, w, d, r, hw, h => by
   rw [rdN] at h
   have hv := y0ch c.toNat
   have ht := znx k b
   split at h
   · rename_i h1
     have hc := y0l7 h1.1
     split at h
     · rename_i h2
       simp at h
       obtain ⟨rfl, rfl⟩ := h
       exact ⟨[c], vl c.toNat, rfl, by simp, rfl, hv.1, fun f _ => by rw [wrF, if_pos h2, hc]; rfl⟩
     · rename_i h2
       have hw36 : 1 ≤ w * (36 - thr k b) := by
         have := Int.mul_le_mul (a := 1) (b := 1) (c := w) (d := 36 - thr k b) hw (by omega) (by omega) (by omega)
         omega
       obtain ⟨p, n, q1, q2, q3, q4, q5⟩ := y0fu t (k + 36) (acc + vl c.toNat * w) (w * (36 - thr k b)) d r hw36 h
       have hnn : 0 ≤ n * (36 - thr k b) := Int.mul_nonneg q4 (by omega)
       have hdiv : (vl c.toNat + n * (36 - thr k b) - thr k b) / (36 - thr k b) = n := by
         rw [show vl (c.toNat : Int) + n * (36 - thr k b) - thr k b = (vl c.toNat - thr k b) + n * (36 - thr k b) by omega, Int.add_mul_ediv_right _ _ (by omega), Int.ediv_eq_zero_of_lt (by omega) (by omega)]
         omega
       have hmod : (vl c.toNat + n * (36 - thr k b) - thr k b) % (36 - thr k b) = vl c.toNat - thr k b := by
         rw [show vl (c.toNat : Int) + n * (36 - thr k b) - thr k b = (vl c.toNat - thr k b) + n * (36 - thr k b) by omega, Int.add_mul_emod_self_right, Int.emod_eq_of_lt (by omega) (by omega)]
       have hten : n * 10 ≤ n * (36 - thr k b) := Int.mul_le_mul_of_nonneg_left (by omega) q4
       refine ⟨c :: p, vl c.toNat + n * (36 - thr k b), by rw [q1]; rfl, by simp, ?_, by omega, fun f hf => ?_⟩
       · rw [q3, Int.add_mul, Int.mul_assoc, Int.mul_comm (36 - thr k b) w]; omega
       · rw [wrF, if_neg (by omega), hdiv, hmod]
         cases f with
         | zero =>
           simp at hf
           omega
         | succ f =>
           have hp : (2 : Int) ^ (f + 1) = 2 ^ f * 2 := Int.pow_succ 2 f
           rw [q5 f (by rw [hp] at hf; generalize (2 : Int) ^ f = x at *; omega)]
           rw [show thr k b + (vl (c.toNat : Int) - thr k b) = vl c.toNat by omega, hc]
           rfl
   · cases h
theorem wr_rd {s : List UInt8} {b d : Int} {r : List UInt8} (h : rd s b = some (d, r)) : ∃ p, s = p ++ r ∧ wr d b = z6v p := by
 obtain ⟨h0, h1, _⟩ := zhl h
 obtain ⟨p, n, q1, _, q3, q4, q5⟩ := y0fu s 36 0 1 d r (Int.le_refl 1) h
 have : n = d := by omega
 subst this
 exact ⟨p, q1, q5 63 (by omega)⟩
theorem y01m {b : Int} : ∀ (f : Nat) (n k : Int), 0 ≤ n → ∀ c ∈ wrF f n k b, ∃ v : Int, 0 ≤ v ∧ v < 36 ∧ c = dgb v := by
 intro f
 induction f with
 | zero => intro n k _ c hc; simp [wrF] at hc
 | succ f ih =>
   intro n k hn c hc
   have ht := znx k b
   rw [wrF] at hc
   split at hc
   · simp at hc
     exact ⟨n, hn, by omega, hc⟩
   · rename_i hlt
     obtain ⟨q0, q1, q2, q3, q4⟩ := y0fr (n := n) (t := thr k b) (by omega) (by omega) (by omega)
     rcases List.mem_cons.1 hc with rfl | hc
     · exact ⟨_, by omega, by omega, rfl⟩
     · exact ih _ _ q0 c hc
theorem y0ft (n b : Int) : 0 < (wr n b).length := by
 unfold wr
 rw [wrF]
 split <;> simp
theorem zbg {v : Int} (h : 0 ≤ v) (h' : v < 36) : (97 ≤ (dgb v).toNat ∧ (dgb v).toNat ≤ 122) ∨ (48 ≤ (dgb v).toNat ∧ (dgb v).toNat ≤ 57) := by
 have h1 := zs7 h h'
 unfold dg at h1
 by_cases h2 : v < 26
 · rw [if_pos ⟨h, h2⟩] at h1; omega
 · rw [if_neg (by omega), if_pos (by omega)] at h1; omega
theorem y04t : ∀ (m f : Nat) (d k : Int), m < f → d < 35 ^ m * 456 → 0 ≤ d → adF f d k ≤ k + 36 * m + 35 := by
 intro m
 induction m with
 | zero =>
   intro f d k hf hd h0
   obtain ⟨f, rfl⟩ : ∃ g, f = g + 1 := ⟨f - 1, by omega⟩
   rw [adF, if_neg (by simp at hd; omega)]
   have : 36 * d / (d + 38) < 36 := Int.ediv_lt_of_lt_mul (by omega) (by omega)
   omega
 | succ m ih =>
   intro f d k hf hd h0
   obtain ⟨f, rfl⟩ : ∃ g, f = g + 1 := ⟨f - 1, by omega⟩
   rw [adF]
   split
   · have hp : (35 : Int) ^ (m + 1) = 35 ^ m * 35 := Int.pow_succ 35 m
     rw [hp] at hd
     have := ih f (d / 35) (k + 36) (by omega) (by generalize (35 : Int) ^ m = x at *; omega) (by omega)
     omega
   · have : 36 * d / (d + 38) < 36 := Int.ediv_lt_of_lt_mul (by omega) (by omega)
     omega
theorem zru {d c : Int} {first : Bool} (h0 : 0 ≤ d) (h1 : d ≤ 2147483647) (hc : 1 ≤ c) : 0 ≤ adapt d c first ∧ adapt d c first ≤ 226 := by
 have hd : 0 ≤ adD d c first ∧ adD d c first ≤ d := by
   unfold adD
   split
   · have := z4v (x := d / 700) (c := c) (by omega) hc; omega
   · have := z4v (x := d / 2) (c := c) (by omega) hc; omega
 have h2 := y04t 5 20 (adD d c first) 0 (by decide) (by omega) hd.1
 have h3 := zew (d := d) (c := c) (first := first) h0 hc
 unfold adapt at h3 ⊢
 omega
def evD (x : DcS) (e : Int × Nat) : Int := (e.1 - x.n) * (x.out.length + 1) + e.2 - x.i
def z0k (x : DcS) (e : Int × Nat) : DcS := ⟨x.s ++ wr (evD x e) x.bias, e.1, e.2 + 1, adapt (evD x e) (x.out.length + 1) x.first, false, zid x.out e.2 e.1⟩
structure y0dp (x : DcS) (e : Int × Nat) : Prop where
 up : x.n < e.1 ∨ (x.n = e.1 ∧ x.i ≤ e.2)
 pl : e.2 ≤ x.out.length
 le : e.1 ≤ 1114111
 rt : right e.1 = true
def z52 : DcS → List (Int × Nat) → Prop
 | _, [] => True
 | x, e :: E => y0dp x e ∧ z52 (z0k x e) E
structure SI (x : DcS) : Prop where
 n0 : 128 ≤ x.n
 i0 : 0 ≤ x.i
 i1 : x.i ≤ x.out.length
 b1 : x.bias ≤ 226
theorem z3n {L : List Int} {i : Nat} {x : Int} (h : i ≤ L.length) : (zid L i x).length = L.length + 1 := by simp [zid]; omega
theorem y068 {x : DcS} {e : Int × Nat} (h : SI x) (k : y0dp x e) (hl : x.out.length ≤ 1000) : 0 ≤ evD x e ∧ x.i + evD x e = (e.1 - x.n) * (x.out.length + 1) + e.2 ∧ x.i + evD x e ≤ 2147483647 := by
 have h1 := h.n0
 have h2 := h.i0
 have h3 := h.i1
 have k1 := k.up
 have k2 := k.pl
 have k3 := k.le
 have hm : (e.1 - x.n) * ((x.out.length : Int) + 1) ≤ 1113983 * ((x.out.length : Int) + 1) := Int.mul_le_mul_of_nonneg_right (by omega) (by omega)
 have hlow : x.n < e.1 → (x.out.length : Int) + 1 ≤ (e.1 - x.n) * ((x.out.length : Int) + 1) := fun h => by
   have := Int.mul_le_mul_of_nonneg_right (show (1 : Int) ≤ e.1 - x.n by omega) (show (0 : Int) ≤ (x.out.length : Int) + 1 by omega)
   omega
 have hzero : x.n = e.1 → (e.1 - x.n) * ((x.out.length : Int) + 1) = 0 := fun h => by rw [h]; simp
 unfold evD
 rcases k1 with k1 | ⟨k1, k4⟩
 · have := hlow k1; omega
 · have := hzero k1; omega
theorem SI.step {x : DcS} {e : Int × Nat} (h : SI x) (k : y0dp x e) (hl : x.out.length ≤ 1000) : SI (z0k x e) := by
 obtain ⟨h1, h2, h3⟩ := y068 h k hl
 have h4 := h.n0
 have h5 := h.i0
 have h6 := k.up
 have h7 := k.pl
 have ha := zru (d := evD x e) (c := x.out.length + 1) (first := x.first) h1 (by omega) (by omega)
 have hi := z3n (L := x.out) (x := e.1) h7
 refine ⟨?_, ?_, ?_, ha.2⟩ <;> dsimp only [z0k] <;> omega
theorem y0l5 {x : DcS} {e : Int × Nat} (h : SI x) (k : y0dp x e) (hl : x.out.length ≤ 1000) (F : Nat) (T : List UInt8) :
   dcF (F + 1) ⟨wr (evD x e) x.bias ++ T, x.n, x.i, x.bias, x.first, x.out⟩ = dcF F ⟨T, (z0k x e).n, (z0k x e).i, (z0k x e).bias, (z0k x e).first, (z0k x e).out⟩ := by
 obtain ⟨h1, h2, h3⟩ := y068 h k hl
 have hne : wr (evD x e) x.bias ++ T ≠ [] := fun hh => by
   have := y0ft (evD x e) x.bias
   rw [(List.append_eq_nil_iff.1 hh).1] at this
   simp at this
 have hi0 := h.i0
 have hpl := k.pl
 have hle := k.le
 have hdiv : (x.i + evD x e) / ((x.out.length : Int) + 1) = e.1 - x.n := by
   rw [h2, Int.add_comm, Int.add_mul_ediv_right _ _ (by omega), Int.ediv_eq_zero_of_lt (by omega) (by omega)]; omega
 have hmod : (x.i + evD x e) % ((x.out.length : Int) + 1) = e.2 := by
   rw [h2, Int.add_comm, Int.add_mul_emod_self_right, Int.emod_eq_of_lt (by omega) (by omega)]
 rw [zf0 hne, rd_wr h.b1 h1 (by omega)]
 dsimp only
 rw [hdiv, hmod, show x.n + (e.1 - x.n) = e.1 by omega, if_neg (by omega), if_neg (by rw [k.rt]; rintro (h | h); omega; cases h), Int.toNat_natCast]
 rfl
def evB : DcS → List (Int × Nat) → List UInt8
 | _, [] => []
 | x, e :: E => wr (evD x e) x.bias ++ evB (z0k x e) E
theorem y069 : ∀ (E : List (Int × Nat)) (x : DcS), (E.foldl z0k x).s = x.s ++ evB x E
 | [], x => by simp [evB]
 | e :: E, x => by rw [List.foldl_cons, y069 E]; simp [evB, z0k]
theorem zbj : ∀ (E : List (Int × Nat)) (x : DcS), z52 x E → (E.foldl z0k x).out.length = x.out.length + E.length
 | [], x, _ => by simp
 | e :: E, x, h => by
   rw [List.foldl_cons, zbj E _ h.2]
   have : (z0k x e).out.length = x.out.length + 1 := z3n h.1.pl
   rw [this, List.length_cons]; omega
theorem y05o : ∀ (E : List (Int × Nat)) (x : DcS), SI x → z52 x E → x.out.length + E.length ≤ 1000 → ∀ (F : Nat) (T : List UInt8),
   dcF (F + E.length) ⟨evB x E ++ T, x.n, x.i, x.bias, x.first, x.out⟩ = dcF F ⟨T, (E.foldl z0k x).n, (E.foldl z0k x).i, (E.foldl z0k x).bias, (E.foldl z0k x).first, (E.foldl z0k x).out⟩
 | [], x, _, _, _, F, T => rfl
 | e :: E, x, h, k, hl, F, T => by
   simp only [List.length_cons] at hl
   have hs : (z0k x e).out.length = x.out.length + 1 := z3n k.1.pl
   have h1 := y0l5 h k.1 (by omega) (F + E.length) (evB (z0k x e) E ++ T)
   have h2 := y05o E (z0k x e) (h.step k.1 (by omega)) k.2 (by omega) F T
   rw [List.foldl_cons, ← h2, ← h1]
   simp only [evB, List.append_assoc, List.length_cons]
   rfl
theorem zp0 : ∀ (F : Nat) (s : List UInt8) (x : DcS) (m : List Int), SI x → x.n ≤ 1114111 → x.out.length + s.length ≤ 1000 → dcF F ⟨s, x.n, x.i, x.bias, x.first, x.out⟩ = some m →
   ∃ E, z52 x E ∧ (E.foldl z0k x).out = m ∧ evB x E = z6v s
 | 0, s, x, m, _, _, _, h => by cases h
 | F + 1, s, x, m, hI, hn, hl, h => by
   by_cases hs : s = []
   · subst hs
     have : some x.out = some m := h
     simp at this
     exact ⟨[], trivial, this, rfl⟩
   · rw [zf0 hs] at h
     cases hr : rd s x.bias with
     | none => rw [hr] at h; cases h
     | some p =>
       obtain ⟨d, r⟩ := p
       rw [hr] at h
       dsimp only at h
       obtain ⟨hd0, hd1, _⟩ := zhl hr
       obtain ⟨p, hp, hw⟩ := wr_rd hr
       have hrl := zyj hr
       have hi0 := hI.i0
       have hi1 := hI.i1
       have hn0 := hI.n0
       by_cases hc1 : 2147483647 < x.i + d
       · rw [if_pos hc1] at h; cases h
       · rw [if_neg hc1] at h
         by_cases hc2 : 1114111 < x.n + (x.i + d) / (x.out.length + 1) ∨ right (x.n + (x.i + d) / (x.out.length + 1)) = false
         · rw [if_pos hc2] at h; cases h
         · rw [if_neg hc2] at h
           have hq0 : 0 ≤ (x.i + d) / ((x.out.length : Int) + 1) := Int.ediv_nonneg (by omega) (by omega)
           have hm0 := Int.emod_nonneg (x.i + d) (b := (x.out.length : Int) + 1) (by omega)
           have hm1 := Int.emod_lt_of_pos (x.i + d) (b := (x.out.length : Int) + 1) (by omega)
           have hdm := Int.mul_ediv_add_emod (x.i + d) ((x.out.length : Int) + 1)
           have hsmall : (x.i + d) / ((x.out.length : Int) + 1) = 0 → x.i ≤ (x.i + d) % ((x.out.length : Int) + 1) := fun hz => by
             rw [hz, Int.mul_zero] at hdm; omega
           rw [Int.mul_comm] at hdm
           generalize hqq : (x.i + d) / ((x.out.length : Int) + 1) = q at *
           obtain ⟨mi, hmi⟩ : ∃ mi : Nat, (x.i + d) % ((x.out.length : Int) + 1) = mi := ⟨((x.i + d) % ((x.out.length : Int) + 1)).toNat, by omega⟩
           rw [hmi] at h hm0 hm1 hdm hsmall
           have hnr : ¬ right (x.n + q) = false := fun hh => hc2 (.inr hh)
           have hev : y0dp x (x.n + q, mi) := ⟨by
             rcases Int.lt_or_eq_of_le hq0 with hq | hq
             · left; dsimp only; omega
             · right; dsimp only; exact ⟨by omega, hsmall hq.symm⟩, by dsimp only; omega, by dsimp only; exact Int.not_lt.1 fun hh => hc2 (.inl hh), by dsimp only; simpa using hnr⟩
           have hD : evD x (x.n + q, mi) = d := by
             unfold evD
             dsimp only
             rw [show x.n + q - x.n = q by omega]
             omega
           have hst : (z0k x (x.n + q, mi)).out.length = x.out.length + 1 := z3n hev.pl
           rw [Int.toNat_natCast] at h
           have hstep : z0k x (x.n + q, mi) = ⟨x.s ++ wr d x.bias, x.n + q, mi + 1, adapt d (x.out.length + 1) x.first, false, zid x.out mi (x.n + q)⟩ := by
             unfold z0k; rw [hD]
           obtain ⟨E, e1, e2, e3⟩ := zp0 F r (z0k x (x.n + q, mi)) m (hI.step hev (by omega)) hev.le (by omega) (by rw [hstep]; exact h)
           refine ⟨(x.n + q, mi) :: E, ⟨hev, e1⟩, e2, ?_⟩
           rw [evB, hD, e3, hw, hp]
           simp [z6v]
structure Top (x : DcS) : Prop where
 all : ∀ r ∈ x.out, r ≤ x.n
 beh : ∀ r ∈ x.out.drop x.i.toNat, r < x.n
theorem Top.step {x : DcS} {e : Int × Nat} (h : Top x) (k : y0dp x e) : Top (z0k x e) ∧ (z0k x e).out = x.out.take e.2 ++ e.1 :: x.out.drop e.2 ∧ (∀ r ∈ x.out.take e.2, r ≤ e.1) ∧ ∀ r ∈ x.out.drop e.2, r < e.1 := by
 have hb : ∀ r ∈ x.out.drop e.2, r < e.1 := fun r hr => by
   rcases k.up with h1 | ⟨h1, h2⟩
   · have := h.all r (List.mem_of_mem_drop hr); omega
   · have : r ∈ x.out.drop x.i.toNat := by
       have e1 : x.out.drop e.2 = (x.out.drop x.i.toNat).drop (e.2 - x.i.toNat) := by rw [List.drop_drop]; congr 1; omega
       rw [e1] at hr
       exact List.mem_of_mem_drop hr
     have := h.beh r this; omega
 have ha : ∀ r ∈ x.out.take e.2, r ≤ e.1 := fun r hr => by
   have := h.all r (List.mem_of_mem_take hr)
   rcases k.up with h1 | ⟨h1, _⟩ <;> omega
 refine ⟨⟨fun r hr => ?_, fun r hr => ?_⟩, rfl, ha, hb⟩
 · have hr : r ∈ x.out.take e.2 ++ e.1 :: x.out.drop e.2 := hr
   rcases List.mem_append.1 hr with hr | hr
   · exact ha r hr
   · rcases List.mem_cons.1 hr with rfl | hr
     · exact Int.le_refl _
     · exact Int.le_of_lt (hb r hr)
 · have hpl := k.pl
   have hr : r ∈ (x.out.take e.2 ++ e.1 :: x.out.drop e.2).drop ((e.2 : Int) + 1).toNat := hr
   have e1 : (x.out.take e.2 ++ e.1 :: x.out.drop e.2).drop ((e.2 : Int) + 1).toNat = x.out.drop e.2 := by
     rw [show ((e.2 : Int) + 1).toNat = (x.out.take e.2).length + 1 by simp; omega, List.drop_append]
     simp
   rw [e1] at hr
   exact hb r hr
theorem zm1 {a b x : Int} : ∀ {A A' B B' : List Int}, A ++ a :: B = A' ++ b :: B' → (∀ r ∈ A, r ≤ a) → (∀ r ∈ B, r < a) → (∀ r ∈ A', r ≤ b) → (∀ r ∈ B', r < b) → A = A' ∧ a = b ∧ B = B'
 | [], [], B, B', h, _, _, _, _ => by simp at h; exact ⟨rfl, h.1, h.2⟩
 | [], c :: A', B, B', h, h1, h2, h3, h4 => by
   simp at h
   obtain ⟨rfl, rfl⟩ := h
   have := h2 b (by simp)
   have := h3 a (by simp)
   omega
 | c :: A, [], B, B', h, h1, h2, h3, h4 => by
   simp at h
   obtain ⟨rfl, rfl⟩ := h
   have := h4 a (by simp)
   have := h1 c (by simp)
   omega
 | c :: A, d :: A', B, B', h, h1, h2, h3, h4 => by
   simp at h
   obtain ⟨rfl, h⟩ := h
   obtain ⟨e1, e2, e3⟩ := zm1 (x := x) h (fun r hr => h1 r (by simp [hr])) h2 (fun r hr => h3 r (by simp [hr])) h4
   exact ⟨by rw [e1], e2, e3⟩
theorem z52.snoc : ∀ {E : List (Int × Nat)} {x : DcS} {e : Int × Nat}, z52 x (E ++ [e]) ↔ z52 x E ∧ y0dp (E.foldl z0k x) e
 | [], x, e => by simp [z52]
 | f :: E, x, e => by simp only [List.cons_append, z52, List.foldl_cons, z52.snoc, and_assoc]
theorem Top.run : ∀ {E : List (Int × Nat)} {x : DcS}, Top x → z52 x E → Top (E.foldl z0k x)
 | [], x, h, _ => h
 | e :: E, x, h, k => Top.run (E := E) (x := z0k x e) (h.step k.1).1 k.2
theorem y06c : ∀ (k : Nat) (E E' : List (Int × Nat)) (x : DcS), E.length = k → E'.length = k → Top x → z52 x E → z52 x E' → (E.foldl z0k x).out = (E'.foldl z0k x).out → E = E'
 | 0, E, E', x, h, h', _, _, _, _ => by rw [List.length_eq_zero_iff.1 h, List.length_eq_zero_iff.1 h']
 | k + 1, E, E', x, h, h', hT, hE, hE', ho => by
   obtain ⟨E, e, rfl⟩ : ∃ F f, E = F ++ [f] := ⟨E.dropLast, E.getLast (by intro hh; subst hh; simp at h), (List.dropLast_concat_getLast _).symm⟩
   obtain ⟨E', e', rfl⟩ : ∃ F f, E' = F ++ [f] := ⟨E'.dropLast, E'.getLast (by intro hh; subst hh; simp at h'), (List.dropLast_concat_getLast _).symm⟩
   simp only [List.length_append, List.length_cons, List.length_nil] at h h'
   obtain ⟨q1, q2⟩ := z52.snoc.1 hE
   obtain ⟨q1', q2'⟩ := z52.snoc.1 hE'
   rw [List.foldl_append, List.foldl_append] at ho
   have ho : (z0k (E.foldl z0k x) e).out = (z0k (E'.foldl z0k x) e').out := ho
   obtain ⟨_, t2, t3, t4⟩ := (Top.run hT q1).step q2
   obtain ⟨_, t2', t3', t4'⟩ := (Top.run hT q1').step q2'
   rw [t2, t2'] at ho
   obtain ⟨e1, e2, e3⟩ := zm1 (x := 0) ho t3 t4 t3' t4'
   have hout : (E.foldl z0k x).out = (E'.foldl z0k x).out := by
     rw [← List.take_append_drop e.2 (E.foldl z0k x).out, ← List.take_append_drop e'.2 (E'.foldl z0k x).out, e1, e3]
   have ih := y06c k E E' x (by omega) (by omega) hT q1 q1' hout
   have hp : e.2 = e'.2 := by
     have := congrArg List.length e1
     have p1 := q2.pl
     have p2 := q2'.pl
     simp at this
     omega
   rw [ih, show e = e' from Prod.ext e2 hp]
def z3f (l : List Int) : List Int := l.filter (· < 128)
def x0 (l : List Int) : DcS := ⟨z2s l, 128, 0, 72, true, z3f l⟩
def stage (l : List Int) (m : Int) (j : Nat) : List Int := (l.take j).filter (· ≤ m) ++ (l.drop j).filter (· < m)
def zez (l : List Int) (m : Int) (j : Nat) : Nat := ((l.take j).filter (· ≤ m)).length
theorem y06a (x : DcS) (e : Int × Nat) : z0k x e = ⟨x.s ++ wr (evD x e) x.bias, e.1, e.2 + 1, adapt (evD x e) (x.out.length + 1) x.first, false, zid x.out e.2 e.1⟩ := rfl
structure Sim (l : List Int) (m : Int) (j : Nat) (s : EnS) (E : List (Int × Nat)) : Prop where
 ev : z52 (x0 l) E
 out : (E.foldl z0k (x0 l)).s = s.out
 st : (E.foldl z0k (x0 l)).out = stage l m j
 bias : (E.foldl z0k (x0 l)).bias = s.bias
 h : s.h = (stage l m j).length
 first : (E.foldl z0k (x0 l)).first = (s.h == ((z0o l).length : Int))
 rel : (E.foldl z0k (x0 l)).i + s.delta = (m - (E.foldl z0k (x0 l)).n) * (s.h + 1) + zez l m j
 nle : (E.foldl z0k (x0 l)).n ≤ m
 d0 : 0 ≤ s.delta
theorem Sim.next {l : List Int} {m : Int} {j : Nat} {s : EnS} {E : List (Int × Nat)} (h : Sim l m j s E) (hj : j < l.length) (hm : m ≤ 1114111) (hr : l.getD j 0 = m → right m = true) :
   ∃ E', Sim l m (j + 1) (z6m m (z0o l).length s (l.getD j 0)) E' := by
 have ht := z1h l j 0 hj
 have hd : l.drop j = l.getD j 0 :: l.drop (j + 1) := by rw [List.drop_eq_getElem_cons hj]; simp [List.getD, hj]
 generalize l.getD j 0 = r at *
 have e1 := h.h
 have e2 := h.rel
 have e3 := h.nle
 have e4 := h.d0
 unfold z6m
 by_cases h1 : r < m
 · rw [if_pos h1]
   have hs : stage l m (j + 1) = stage l m j := by
     unfold stage
     rw [ht, hd, List.filter_append]
     have a1 : r ≤ m := by omega
     simp [h1, a1]
   have hc : zez l m (j + 1) = zez l m j + 1 := by
     unfold zez
     rw [ht, List.filter_append]
     have a1 : r ≤ m := by omega
     simp [a1]
   exact ⟨E, h.ev, h.out, by rw [hs]; exact h.st, h.bias, by rw [hs]; exact e1, h.first, by rw [hc]; dsimp only; omega, e3, by dsimp only; omega⟩
 · rw [if_neg h1]
   by_cases h2 : r = m
   · rw [if_pos h2]
     subst h2
     have hA : (stage l r j).length = ((l.take j).filter (· ≤ r)).length + ((l.drop j).filter (· < r)).length := by simp [stage]
     have hdd : (l.drop j).filter (· < r) = (l.drop (j + 1)).filter (· < r) := by rw [hd]; simp
     have hs : zid (stage l r j) (zez l r j) r = stage l r (j + 1) := by
       unfold zid stage zez
       rw [List.take_left, List.drop_left, ht, List.filter_append, hdd]
       simp
     have hc : zez l r (j + 1) = zez l r j + 1 := by
       unfold zez
       rw [ht, List.filter_append]
       simp
     have hcl : zez l r j ≤ (stage l r j).length := by unfold zez stage; simp
     have hst := h.st
     have hok : y0dp (E.foldl z0k (x0 l)) (r, zez l r j) := ⟨by
       rcases Int.lt_or_eq_of_le e3 with hlt | heq
       · exact .inl hlt
       · right
         rw [heq, Int.sub_self, Int.zero_mul] at e2
         exact ⟨heq, by dsimp only; omega⟩, by rw [hst]; exact hcl, hm, hr rfl⟩
     have hlen := zbj E (x0 l) h.ev
     rw [hst] at hlen
     have hpl : (x0 l).out.length = (z0o l).length := by simp [x0, z3f, z0o]
     have hD : evD (E.foldl z0k (x0 l)) (r, zez l r j) = s.delta := by
       unfold evD
       dsimp only
       rw [hst, ← e1]
       omega
     have hstep : (E ++ [(r, zez l r j)]).foldl z0k (x0 l) = ⟨s.out ++ wr s.delta s.bias, r, zez l r j + 1, adapt s.delta (s.h + 1) (s.h == ((z0o l).length : Int)), false, stage l r (j + 1)⟩ := by
       rw [List.foldl_append]
       show z0k (E.foldl z0k (x0 l)) (r, zez l r j) = _
       rw [y06a, hD, h.out, h.bias, hst, h.first, ← e1]
       dsimp only
       rw [hs]
     refine ⟨E ++ [(r, zez l r j)], z52.snoc.2 ⟨h.ev, hok⟩, by rw [hstep], by rw [hstep], by rw [hstep], ?_, ?_, ?_, by rw [hstep]; exact Int.le_refl _, Int.le_refl 0⟩
     · rw [← hs, z3n hcl]
       dsimp only; omega
     · rw [hstep]
       dsimp only
       symm
       simp
       omega
     · rw [hstep, hc]
       dsimp only
       simp
   · rw [if_neg h2]
     have hs : stage l m (j + 1) = stage l m j := by
       unfold stage
       rw [ht, hd, List.filter_append]
       have a1 : ¬ r ≤ m := by omega
       simp [h1, a1]
     have hc : zez l m (j + 1) = zez l m j := by
       unfold zez
       rw [ht, List.filter_append]
       have a1 : ¬ r ≤ m := by omega
       simp [a1]
     exact ⟨E, h.ev, h.out, by rw [hs]; exact h.st, h.bias, by rw [hs]; exact e1, h.first, by rw [hc]; exact e2, e3, e4⟩
theorem Sim.pass {l : List Int} {m : Int} {s : EnS} {E : List (Int × Nat)} (h : Sim l m 0 s E) (hm : m ≤ 1114111) (hr : ∀ r ∈ l, right r = true) : ∃ E', Sim l m l.length (zg5 l m (z0o l).length s) E' := by
 have key : ∀ j, j ≤ l.length → ∃ E', Sim l m j ((l.take j).foldl (z6m m (z0o l).length) s) E' := by
   intro j
   induction j with
   | zero => intro _; exact ⟨E, h⟩
   | succ j ih =>
     intro hj
     obtain ⟨E', h'⟩ := ih (by omega)
     have hmem : l.getD j 0 ∈ l := by simp [List.getD, show j < l.length by omega]
     rw [z3x _ _ l j 0 (by omega)]
     exact h'.next (by omega) hm (fun e => by rw [← e]; exact hr _ hmem)
 have := key l.length (Nat.le_refl _)
 rw [List.take_length] at this
 exact this
structure SimP (l : List Int) (n : Int) (s : EnS) (E : List (Int × Nat)) : Prop where
 ev : z52 (x0 l) E
 out : (E.foldl z0k (x0 l)).s = s.out
 st : (E.foldl z0k (x0 l)).out = l.filter (· < n)
 bias : (E.foldl z0k (x0 l)).bias = s.bias
 h : s.h = (l.filter (· < n)).length
 first : (E.foldl z0k (x0 l)).first = (s.h == ((z0o l).length : Int))
 rel : (E.foldl z0k (x0 l)).i + s.delta = (n - (E.foldl z0k (x0 l)).n) * (s.h + 1)
 nle : (E.foldl z0k (x0 l)).n ≤ n
 d0 : 0 ≤ s.delta
 n0 : 128 ≤ n
theorem SimP.enF {l : List Int} (hl : ∀ r ∈ l, right r = true) : ∀ (f : Nat) (n : Int) (s : EnS) (E : List (Int × Nat)), SimP l n s E → (l.length : Int) < f + s.h →
   ∃ E', z52 (x0 l) E' ∧ (E'.foldl z0k (x0 l)).s = AE.enF l (z0o l).length f n s ∧ (E'.foldl z0k (x0 l)).out = l
 | 0, n, s, E, h, hf => by
   have := h.h
   have := List.length_filter_le (fun x : Int => decide (x < n)) l
   omega
 | f + 1, n, s, E, h, hf => by
   rw [AE.enF]
   have e1 := h.h
   have hc : (l.filter (· < n)).length = l.countP (· < n) := (List.countP_eq_length_filter).symm
   by_cases hlt : s.h < l.length
   · rw [if_pos hlt]
     have hb : ∀ r ∈ l, r ≤ 1114111 := fun r hr => ((z1t r).1 (hl r hr)).2.1
     obtain ⟨h1, _⟩ := y082 (l := l) (n := n) (by have := h.n0; omega) hb (by omega)
     have hm := hb _ h1.1
     have hnm := h1.2.1
     have hfil : l.filter (· < nxt l n) = l.filter (· < n) := List.filter_congr fun r hr => by
       by_cases hrn : r < n
       · have : r < nxt l n := by omega
         simp [hrn, this]
       · have := h1.2.2 r hr (by omega)
         have : ¬ r < nxt l n := by omega
         simp [hrn, this]
     have hcount := z6i (l := l) (n := n) (m := nxt l n) h1.2.2 hnm
     have hpos : 0 < l.countP (· == nxt l n) := List.countP_pos_iff.2 ⟨nxt l n, h1.1, by simp⟩
     generalize nxt l n = m at *
     have hn0 := h.n0
     have hh0 : 0 ≤ s.h := by omega
     have hprod : 0 ≤ (m - n) * (s.h + 1) := Int.mul_nonneg (by omega) (by omega)
     have hst0 : stage l m 0 = l.filter (· < n) := by unfold stage; simp [hfil]
     have hadd : (m - (E.foldl z0k (x0 l)).n) * (s.h + 1) = (n - (E.foldl z0k (x0 l)).n) * (s.h + 1) + (m - n) * (s.h + 1) := by rw [← Int.add_mul]; congr 1; omega
     have hrel := h.rel
     have hnle := h.nle
     have hd0 := h.d0
     have hsim : Sim l m 0 ⟨s.out, s.delta + (m - n) * (s.h + 1), s.bias, s.h⟩ E :=
       ⟨h.ev, h.out, by rw [hst0]; exact h.st, h.bias, by rw [hst0]; exact e1, h.first, by
         have : zez l m 0 = 0 := by simp [zez]
         rw [this]
         dsimp only
         omega, by omega, by dsimp only; omega⟩
     obtain ⟨E', h'⟩ := hsim.pass hm hl
     have hstl : stage l m l.length = l.filter (· < m + 1) := by
       unfold stage
       simp only [List.take_length, List.drop_length, List.filter_nil, List.append_nil]
       exact List.filter_congr fun r _ => by simp; omega
     have hcl : zez l m l.length = (l.filter (· < m + 1)).length := by rw [← hstl]; simp [zez, stage]
     generalize zg5 l m (z0o l).length ⟨s.out, s.delta + (m - n) * (s.h + 1), s.bias, s.h⟩ = s' at *
     have hrel' := h'.rel
     rw [hcl] at hrel'
     have hh' := h'.h
     rw [hstl] at hh'
     have hc' : (l.filter (· < m + 1)).length = l.countP (· < m + 1) := (List.countP_eq_length_filter).symm
     have hmul : (m + 1 - (E'.foldl z0k (x0 l)).n) * (s'.h + 1) = (m - (E'.foldl z0k (x0 l)).n) * (s'.h + 1) + (s'.h + 1) := by
       rw [show m + 1 - (E'.foldl z0k (x0 l)).n = (m - (E'.foldl z0k (x0 l)).n) + 1 by omega, Int.add_mul, Int.one_mul]
     have hnle' := h'.nle
     have hd0' := h'.d0
     refine SimP.enF hl f (m + 1) ⟨s'.out, s'.delta + 1, s'.bias, s'.h⟩ E' ⟨h'.ev, h'.out, by rw [← hstl]; exact h'.st, h'.bias, hh', h'.first, ?_, by omega, by dsimp only; omega, by omega⟩ ?_
     · dsimp only; omega
     · dsimp only; omega
   · rw [if_neg hlt]
     refine ⟨E, h.ev, h.out, ?_⟩
     rw [h.st]
     have hle := List.length_filter_le (fun x : Int => decide (x < n)) l
     exact List.filter_eq_self.2 fun r hr => by
       have : l.countP (· < n) = l.length := by omega
       exact List.countP_eq_length.1 this r hr
theorem y0lf {l : List Int} (h : z0r l = true) : ∃ E, z52 (x0 l) E ∧ (E.foldl z0k (x0 l)).out = l ∧ z4b l = z2s l ++ evB (x0 l) E := by
 have hr : ∀ r ∈ l, right r = true := fun r hr => List.all_eq_true.1 h r hr
 have hpl : (z3f l).length = (z0o l).length := by simp [z3f, z0o]
 obtain ⟨E, h1, h2, h3⟩ := SimP.enF hr (l.length + 1) 128 ⟨z2s l, 0, 72, (z0o l).length⟩ [] ⟨trivial, rfl, rfl, rfl, by rw [← hpl]; rfl, by simp [x0], by simp [x0], Int.le_refl _, Int.le_refl _, Int.le_refl _⟩ (by dsimp only; omega)
 refine ⟨E, h1, h3, ?_⟩
 rw [show z4b l = enF l (z0o l).length (l.length + 1) 128 ⟨z2s l, 0, 72, (z0o l).length⟩ from rfl, ← h2, y069]
 rfl
theorem y0nc (l : List Int) : SI (x0 l) := ⟨Int.le_refl _, Int.le_refl _, by simp [x0], by simp [x0]⟩
theorem y0nd (l : List Int) : Top (x0 l) := ⟨fun r hr => by
 have hr : r ∈ z3f l := hr
 simp [z3f] at hr
 have : (x0 l).n = 128 := rfl
 omega, fun r hr => by
 have hr : r ∈ (z3f l).drop 0 := hr
 simp [z3f] at hr
 have : (x0 l).n = 128 := rfl
 omega⟩
theorem zk1 : ∀ (E : List (Int × Nat)) (x : DcS), SI x → z52 x E → x.out.length + E.length ≤ 1000 → ∀ c ∈ evB x E, ∃ v : Int, 0 ≤ v ∧ v < 36 ∧ c = dgb v
 | [], _, _, _, _, c, hc => by cases hc
 | e :: E, x, h, k, hl, c, hc => by
   simp only [List.length_cons] at hl
   have hs : (z0k x e).out.length = x.out.length + 1 := z3n k.1.pl
   rw [evB] at hc
   rcases List.mem_append.1 hc with hc | hc
   · exact y01m _ _ _ (y068 h k.1 (by omega)).1 c hc
   · exact zk1 E _ (h.step k.1 (by omega)) k.2 (by omega) c hc
theorem zsh : ∀ (E : List (Int × Nat)) (x : DcS), E.length ≤ (evB x E).length
 | [], _ => Nat.le_refl _
 | e :: E, x => by
   have h1 := zsh E (z0k x e)
   have h2 := y0ft (evD x e) x.bias
   rw [evB, List.length_append, List.length_cons]; omega
theorem zxl (s : List UInt8) : ∀ k, (∀ j, j < k → s.getD j 0 ≠ 45) → ldK s k = -1
 | 0, _ => rfl
 | k + 1, h => by rw [ldK, if_neg (h k (by omega))]; exact zxl s k (fun j hj => h j (by omega))
theorem y0f3 (s : List UInt8) (p : Nat) (hp : s.getD p 0 = 45) : ∀ k, p < k → (∀ j, p < j → j < k → s.getD j 0 ≠ 45) → ldK s k = p
 | 0, h, _ => by omega
 | k + 1, h, h2 => by
   rw [ldK]
   by_cases e : p = k
   · subst e; rw [if_pos hp]
   · rw [if_neg (h2 k (by omega) (by omega))]
     exact y0f3 s p hp k (by omega) (fun j h3 h4 => h2 j h3 (by omega))
theorem y07h (s : List UInt8) : ∀ k, 0 ≤ ldK s k → s.getD (ldK s k).toNat 0 = 45
 | 0, h => by simp [ldK] at h
 | k + 1, h => by
   rw [ldK] at h ⊢
   split
   · rename_i h1
     simpa using h1
   · rename_i h1
     rw [if_neg h1] at h
     exact y07h s k h
theorem zxy {l : List UInt8} (h : ∀ c ∈ l, ∃ v : Int, 0 ≤ v ∧ v < 36 ∧ c = dgb v) (j : Nat) : l.getD j 0 ≠ 45 := by
 intro hh
 by_cases hj : j < l.length
 · have hm : l.getD j 0 ∈ l := by simp [List.getD, hj]
   obtain ⟨v, h1, h2, h3⟩ := h _ hm
   have := zbg h1 h2
   rw [← h3, hh] at this
   simp at this
 · rw [List.getD_eq_getElem?_getD, List.getElem?_eq_none (by omega)] at hh
   cases hh
theorem y07f {l : List Int} {e : List UInt8} (h : ∀ c ∈ e, ∃ v : Int, 0 ≤ v ∧ v < 36 ∧ c = dgb v) : z6q (z2s l ++ e) = if 0 < (z0o l).length then ((z0o l).length : Int) else -1 := by
 unfold z6q z2s
 by_cases hp : 0 < (z0o l).length
 · rw [if_pos hp, if_pos hp]
   refine y0f3 _ _ ?_ _ (by simp) (fun j h1 h2 => ?_)
   · rw [List.append_assoc, List.getD_eq_getElem?_getD, List.getElem?_append_right (Nat.le_refl _)]; simp
   · rw [List.getD_eq_getElem?_getD, List.getElem?_append_right (by simp; omega), ← List.getD_eq_getElem?_getD]
     exact zxy h _
 · rw [if_neg hp, if_neg hp]
   have : z0o l = [] := List.length_eq_zero_iff.1 (by omega)
   rw [this, List.nil_append]
   exact zxl _ _ (fun j _ => zxy h j)
theorem zh8 {l : List Int} (h : ∀ r ∈ l, 0 ≤ r) : (z0o l).map (fun c => (c.toNat : Int)) = z3f l := by
 unfold z0o z3f
 rw [List.map_map]
 have : ∀ r ∈ l.filter (· < 128), ((fun c : UInt8 => (c.toNat : Int)) ∘ ofI) r = r := fun r hr => by
   simp at hr
   have := h r hr.1
   simp [ofI]; omega
 calc _ = (l.filter (· < 128)).map id := List.map_congr_left this
   _ = _ := by simp
theorem ze1 {l : List Int} (h : ∀ r ∈ l, 0 ≤ r) : ∀ c ∈ z0o l, c.toNat < 128 := fun c hc => by
 unfold z0o at hc
 obtain ⟨r, hr, rfl⟩ := List.mem_map.1 hc
 simp at hr
 have := h r hr.1
 simp [ofI]; omega
theorem zsu {l : List Int} (h : ∀ r ∈ l, 0 ≤ r) : ∀ c ∈ z2s l, c.toNat < 128 := fun c hc => by
 unfold z2s at hc
 split at hc
 · rcases List.mem_append.1 hc with hc | hc
   · exact ze1 h c hc
   · simp at hc; subst hc; decide
 · exact ze1 h c hc
theorem y0gm {l : List Int} (hl : ∀ r ∈ l, 0 ≤ r) {e : List UInt8} (h : ∀ c ∈ e, ∃ v : Int, 0 ≤ v ∧ v < 36 ∧ c = dgb v) : dc0 (z2s l ++ e) = ⟨e, 128, 0, 72, true, z3f l⟩ := by
 unfold dc0
 rw [y07f h]
 by_cases hp : 0 < (z0o l).length
 · rw [if_pos hp, if_pos (by omega), Int.toNat_natCast]
   unfold z2s
   rw [if_pos hp]
   congr 1
   · rw [show (z0o l).length + 1 = (z0o l ++ [45]).length by simp, List.drop_left]
   · rw [List.append_assoc, List.take_left, zh8 hl]
 · rw [if_neg hp, if_neg (by decide)]
   have h0 : z0o l = [] := List.length_eq_zero_iff.1 (by omega)
   have h1 : z3f l = [] := by rw [← zh8 hl, h0]; rfl
   unfold z2s
   rw [if_neg hp, h0, h1]
   rfl
theorem z6l {s : List UInt8} (h : ∀ c ∈ s, c.toNat < 128) : eight s = -1 := zg3 fun j hj => by
 have hm : s.getD j 0 ∈ s := by simp [List.getD, hj]
 have := h _ hm
 omega
structure Enc (l : List Int) (E : List (Int × Nat)) : Prop where
 ev : z52 (x0 l) E
 out : (E.foldl z0k (x0 l)).out = l
 enc : z4b l = z2s l ++ evB (x0 l) E
 dig : ∀ c ∈ evB (x0 l) E, ∃ v : Int, 0 ≤ v ∧ v < 36 ∧ c = dgb v
 len : (z3f l).length + E.length = l.length
theorem zg6 {l : List Int} (h : z0r l = true) (hl : l.length ≤ 1000) : ∃ E, Enc l E := by
 obtain ⟨E, h1, h2, h3⟩ := y0lf h
 have hlen := zbj E (x0 l) h1
 rw [h2] at hlen
 have hlen : l.length = (z3f l).length + E.length := hlen
 exact ⟨E, h1, h2, h3, zk1 E (x0 l) (y0nc l) h1 (by show (z3f l).length + _ ≤ _; omega), hlen.symm⟩
theorem z8l {l : List Int} (h : z0r l = true) : ∀ r ∈ l, 0 ≤ r := fun r hr => ((z1t r).1 (List.all_eq_true.1 h r hr)).1
theorem zg7 {l : List Int} (h : z0r l = true) (hl : l.length ≤ 1000) : ∀ c ∈ z4b l, c.toNat < 128 := fun c hc => by
 obtain ⟨E, e⟩ := zg6 h hl
 rw [e.enc] at hc
 rcases List.mem_append.1 hc with hc | hc
 · exact zsu (z8l h) c hc
 · obtain ⟨v, h1, h2, rfl⟩ := e.dig c hc
   have := zbg h1 h2
   omega
theorem ztf {l : List Int} (h : z0r l = true) (hl : l.length ≤ 1000) : zax (z4b l) = some l := by
 obtain ⟨E, e⟩ := zg6 h hl
 have hlen := zsh E (x0 l)
 have h8 := z6l (zg7 h hl)
 unfold zax
 rw [h8, if_neg (by decide), e.enc, y0gm (z8l h) e.dig]
 have hk := y05o E (x0 l) (y0nc l) e.ev (by have := e.len; show (z3f l).length + _ ≤ _; omega) ((z2s l ++ evB (x0 l) E).length + 1 - E.length) []
 rw [List.append_nil, show (z2s l ++ evB (x0 l) E).length + 1 - E.length + E.length = (z2s l ++ evB (x0 l) E).length + 1 by simp; omega] at hk
 have hk : dcF ((z2s l ++ evB (x0 l) E).length + 1) ⟨evB (x0 l) E, 128, 0, 72, true, z3f l⟩ = _ := hk
 rw [hk, show (z2s l ++ evB (x0 l) E).length + 1 - E.length = ((z2s l ++ evB (x0 l) E).length - E.length) + 1 by simp; omega]
 show some (E.foldl z0k (x0 l)).out = some l
 rw [e.out]
theorem zgc : ∀ (E : List (Int × Nat)) (x : DcS), z52 x E → z0r x.out = true → z0r (E.foldl z0k x).out = true
 | [], _, _, h => h
 | e :: E, x, k, h => zgc E _ k.2 (by
   show (zid x.out e.2 e.1).all right = true
   unfold zid
   have h : x.out.all right = true := h
   rw [← List.take_append_drop e.2 x.out, List.all_append] at h
   simp only [Bool.and_eq_true] at h
   rw [List.all_append, List.all_cons, h.1, h.2, k.1.rt]; rfl)
theorem zgb : ∀ (E : List (Int × Nat)) (x : DcS), z52 x E → SI x → x.out.length + E.length ≤ 1000 → z3f (E.foldl z0k x).out = z3f x.out
 | [], _, _, _, _ => rfl
 | e :: E, x, k, h, hl => by
   simp only [List.length_cons] at hl
   have hs : (z0k x e).out.length = x.out.length + 1 := z3n k.1.pl
   rw [List.foldl_cons, zgb E _ k.2 (h.step k.1 (by omega)) (by omega)]
   show (zid x.out e.2 e.1).filter (· < 128) = x.out.filter (· < 128)
   have h1 := h.n0
   have h2 := k.1.up
   have : ¬ e.1 < 128 := by omega
   unfold zid
   rw [List.filter_append, List.filter_cons, if_neg (by simpa using this), ← List.filter_append, List.take_append_drop]
theorem y061 {s : List UInt8} {m : List Int} (hs : s.length ≤ 400) (h : zax s = some m) : z0r m = true ∧ m.length ≤ s.length ∧ z6v (z4b m) = z6v s := by
 unfold zax at h
 split at h
 · cases h
 · rename_i h8
   have hb := zcz h8
   obtain ⟨L, R, hd, hL⟩ : ∃ L R, dc0 s = ⟨R, 128, 0, 72, true, L.map fun c => (c.toNat : Int)⟩ ∧ (∀ c ∈ L, c.toNat < 128) ∧ s = (if 0 < L.length then L ++ [45] else L) ++ R := by
     have hlt := zxk s s.length
     have hl' : z6q s = ldK s s.length := rfl
     unfold dc0
     by_cases h0 : 0 < z6q s
     · rw [if_pos h0]
       have hh := y07h s s.length (by omega)
       rw [← hl'] at hh
       obtain ⟨p, hp⟩ : ∃ p : Nat, z6q s = p := ⟨(z6q s).toNat, by omega⟩
       rw [hp, Int.toNat_natCast] at hh ⊢
       refine ⟨s.take p, s.drop (p + 1), rfl, fun c hc => hb c (List.mem_of_mem_take hc), ?_⟩
       have hpl : p < s.length := by omega
       rw [if_pos (by simp; omega), List.append_assoc]
       have : s.drop p = 45 :: s.drop (p + 1) := by
         rw [List.drop_eq_getElem_cons hpl]
         congr 1
         rw [← hh]; simp [List.getD, hpl]
       rw [List.singleton_append, ← this, List.take_append_drop]
     · rw [if_neg h0]
       exact ⟨[], s, rfl, by simp, by simp⟩
   obtain ⟨hL, hsr⟩ := hL
   have hslen : L.length + R.length ≤ s.length := by
     have := congrArg List.length hsr
     split at this <;> simp at this <;> omega
   rw [hd] at h
   have hI : SI ⟨z2s m, 128, 0, 72, true, L.map fun c => (c.toNat : Int)⟩ := ⟨Int.le_refl _, Int.le_refl _, by simp, by simp⟩
   obtain ⟨E, e1, e2, e3⟩ : ∃ E, z52 ⟨z2s m, 128, 0, 72, true, L.map fun c => (c.toNat : Int)⟩ E ∧ (E.foldl z0k ⟨z2s m, 128, 0, 72, true, L.map fun c => (c.toNat : Int)⟩).out = m ∧ evB ⟨z2s m, 128, 0, 72, true, L.map fun c => (c.toNat : Int)⟩ E = z6v R := by
     have hll : (L.map fun c => (c.toNat : Int)).length = L.length := by simp
     generalize (L.map fun c => (c.toNat : Int)) = L' at *
     generalize hx : (⟨z2s m, 128, 0, 72, true, L'⟩ : DcS) = x at *
     have h1 : x.n = 128 := by rw [← hx]
     have h2 : x.i = 0 := by rw [← hx]
     have h3 : x.bias = 72 := by rw [← hx]
     have h4 : x.first = true := by rw [← hx]
     have h5 : x.out = L' := by rw [← hx]
     refine zp0 (s.length + 1) R x m hI (by omega) (by rw [h5]; omega) ?_
     rw [h1, h2, h3, h4, h5]
     exact h
   have hEl := zsh E ⟨z2s m, 128, 0, 72, true, L.map fun c => (c.toNat : Int)⟩
   rw [e3] at hEl
   have hEl : E.length ≤ R.length := by simpa [z6v] using hEl
   have hLr : z0r (L.map fun c => (c.toNat : Int)) = true := List.all_eq_true.2 fun r hr => by
     obtain ⟨c, hc, rfl⟩ := List.mem_map.1 hr
     have := hL c hc
     exact (z1t _).2 (by omega)
   have hok := zgc E _ e1 hLr
   rw [e2] at hok
   have hpl := zgb E _ e1 hI (by simp; omega)
   rw [e2] at hpl
   have hLL : z3f (L.map fun c => (c.toNat : Int)) = L.map fun c => (c.toNat : Int) := List.filter_eq_self.2 fun r hr => by
     obtain ⟨c, hc, rfl⟩ := List.mem_map.1 hr
     have := hL c hc
     exact decide_eq_true (by omega)
   dsimp only at hpl
   rw [hLL] at hpl
   have hx : (⟨z2s m, 128, 0, 72, true, L.map fun c => (c.toNat : Int)⟩ : DcS) = x0 m := by unfold x0; rw [hpl]
   have hrl := zbj E _ e1
   rw [e2] at hrl
   have hrl : m.length = L.length + E.length := by simpa using hrl
   rw [hx] at e1 e2 e3
   obtain ⟨E', e'⟩ := zg6 hok (by omega)
   have hEE : E' = E := y06c E.length E' E (x0 m) (by have := e'.len; rw [hpl] at this; simp at this; omega) rfl (y0nd m) e'.ev e1 (by rw [e'.out, e2])
   refine ⟨hok, by omega, ?_⟩
   rw [e'.enc, hEE, e3]
   have hB : z0o m = L := by
     unfold z0o
     rw [show m.filter (· < 128) = z3f m from rfl, hpl, List.map_map]
     have : ∀ c ∈ L, (ofI ∘ fun c : UInt8 => (c.toNat : Int)) c = c := fun c _ => by
       apply UInt8.toNat.inj
       have := c.toNat_lt
       simp [ofI]
     calc _ = L.map id := List.map_congr_left this
       _ = _ := by simp
   unfold z2s
   rw [hB]
   conv => rhs; rw [hsr]
   unfold z6v
   have h2 : List.map zpy (List.map zpy R) = List.map zpy R := zqd R
   rw [List.map_append, List.map_append, h2]
theorem zt9 {l : List Int} : z0r l = true ↔ ∀ r ∈ l, right r = true := by unfold z0r; rw [List.all_eq_true]
theorem y0hm {L : List Int} {i : Nat} {x : Int} (hL : z0r L = true) (hx : right x = true) : z0r (zid L i x) = true := by
 rw [zt9] at hL ⊢
 intro r hr
 unfold zid at hr
 rcases List.mem_append.1 hr with hr | hr
 · exact hL r (List.mem_of_mem_take hr)
 · rcases List.mem_cons.1 hr with rfl | hr
   · exact hx
   · exact hL r (List.mem_of_mem_drop hr)
theorem y0ep : ∀ (f : Nat) (x : DcS) (m : List Int), z0r x.out = true → dcF f x = some m → z0r m = true ∧ m.length ≤ x.out.length + x.s.length
 | 0, x, m, _, h => by simp [dcF] at h
 | f + 1, x, m, ho, h => by
   rw [dcF] at h
   split at h
   · simp only [Option.some.injEq] at h; subst h; exact ⟨ho, by omega⟩
   · split at h
     · cases h
     · rename_i d r hrd
       split at h
       · cases h
       · split at h
         · cases h
         · rename_i hn
           have hr := zyj hrd
           have hx : right (x.n + (x.i + d) / (x.out.length + 1)) = true := by
             cases hq : right (x.n + (x.i + d) / (x.out.length + 1)) with
             | true => rfl
             | false => exact absurd (Or.inr hq) hn
           obtain ⟨q1, q2⟩ := y0ep f _ m (y0hm ho hx) h
           refine ⟨q1, ?_⟩
           dsimp only at q2
           have hl : (zid x.out ((x.i + d) % (x.out.length + 1)).toNat (x.n + (x.i + d) / (x.out.length + 1))).length = x.out.length + 1 := by
             unfold zid
             rw [List.length_append, List.length_cons, List.length_take, List.length_drop]
             omega
           omega
theorem zjw {s : List UInt8} {m : List Int} (h : zax s = some m) : z0r m = true ∧ m.length ≤ s.length := by
 unfold zax at h
 split at h
 · cases h
 · rename_i h8
   have ha := zcz h8
   have key : z0r (dc0 s).out = true ∧ (dc0 s).out.length + (dc0 s).s.length ≤ s.length := by
     have hi := (y05m s).len
     refine ⟨?_, hi⟩
     unfold dc0
     split
     · rw [zt9]
       intro r hr
       obtain ⟨c, hc, rfl⟩ := List.mem_map.1 hr
       have := ha c (List.mem_of_mem_take hc)
       rw [z1t]; omega
     · rfl
   obtain ⟨q1, q2⟩ := y0ep _ _ m key.1 h
   exact ⟨q1, by omega⟩
theorem y060 {l : List Int} {m : Int} {s0 : EnS} (h0 : EnJ l m s0 0 s0) (hd0 : 0 ≤ s0.delta) (hroom : s0.h + l.countP (· == m) ≤ l.length) : ∀ j, j ≤ l.length → ∃ s, EnJ l m s0 j s
 | 0, _ => ⟨s0, h0⟩
 | j + 1, hj => by
   obtain ⟨s, h⟩ := y060 h0 hd0 hroom j (by omega)
   exact ⟨_, h.next (by omega) hd0 hroom⟩
theorem y05z {l : List Int} (hl : l.length ≤ 1000) (hr : ∀ r ∈ l, r ≤ 1114111) : ∀ (f : Nat) (n : Int) (s : EnS), EnI l n s → (enF l (z0o l).length f n s).length ≤ 1 + 65 * l.length
 | 0, n, s, h => by
   have h1 := h.len
   have h2 := h.hh
   have h3 : l.countP (· < n) ≤ l.length := List.countP_le_length
   show s.out.length ≤ _
   omega
 | f + 1, n, s, h => by
   rw [enF]
   have h2 := h.hh
   have h3 : l.countP (· < n) ≤ l.length := List.countP_le_length
   split
   · rename_i hlt
     obtain ⟨q1, q2, q3, q4, q5, q6, q7⟩ := h.first hr hl hlt
     have hroom : s.h + l.countP (· == nxt l n) ≤ l.length := by
       have := z6i (l := l) (n := n) (m := nxt l n) q1.2.2 q1.2.1
       have := List.countP_le_length (p := fun x : Int => decide (x < nxt l n + 1)) (l := l)
       omega
     obtain ⟨s', hs'⟩ := y060 q3 (by have := q3.d0; exact this) hroom l.length (Nat.le_refl _)
     obtain ⟨hL, _⟩ := hs'.last q1 h.n0 q6 h.hh q4
     have he := hs'.eq
     rw [List.take_length] at he
     rw [he] at hL
     exact y05z hl hr f _ _ hL
   · have h1 := h.len
     omega
theorem y0fd (l : List Int) (hl : l.length ≤ 1000) : (pnS l).length ≤ 65 * l.length + 1 := by
 unfold pnS
 split
 · rename_i hok
   have hr : ∀ r ∈ l, r ≤ 1114111 := fun r hr => ((z1t r).1 (zt9.1 hok r hr)).2.1
   have hpl := zh9 l
   have hpc := zdc l
   have := y05z hl hr (l.length + 1) 128 ⟨z2s l, 0, 72, (z0o l).length⟩ ⟨by omega, by omega, Int.le_refl 0, by simp, by dsimp only; omega, by dsimp only; omega, by dsimp only; omega, by
     dsimp only [z2s]; split <;> (try simp only [List.length_append, List.length_cons, List.length_nil]) <;> omega⟩
   unfold z4b
   omega
 · simp
end Go.AE
end
