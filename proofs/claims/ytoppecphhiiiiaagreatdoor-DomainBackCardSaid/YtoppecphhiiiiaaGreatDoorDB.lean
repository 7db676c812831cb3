/- Contracts of functions that the laws of this seat reach, and plain laws of what they compute. No condition beyond each statement's own. -/
import Derived.Test.YtoppecphhiiiiaaGreatDoorSE
import Derived.Test.YtoppecphhiiiiaaGreatDoorLA
import Derived.Lib.CountLaws
import Derived.Test.YtoppecphhiiiiaaGreatDoorV1
set_option linter.unusedVariables false
set_option linter.unusedSimpArgs false
section
namespace Go.AE
open Go.Proofs
set_option maxHeartbeats 8000000
set_option maxRecDepth 20000
theorem ztl (s : List UInt8) : z9o s = Lib.replaceK fdot [46] (Lib.count s fdot) s := by
 unfold z9o Lib.replaceAll Lib.replace
 rw [if_neg (by decide)]
 congr 1
theorem zqo {s : List UInt8} (h : Lib.index s fdot = -1) : z9o s = s := by
 rw [ztl, Lib.count_miss h]; rfl
theorem zno {s : List UInt8} {i : Nat} (h : Lib.index s fdot = i) : z9o s = s.take i ++ [46] ++ z9o (s.drop (i + 3)) := by
 rw [ztl, ztl, Lib.count_hit (by decide) h, Nat.add_comm 1, Lib.replaceK_hit _ _ _ _ i h]
 rfl
theorem y0c2 : z9o [] = [] := by decide
theorem y0c3 (t : List UInt8) : z9o (227 :: 128 :: 130 :: t) = 46 :: z9o t := by
 have h : Lib.index (227 :: 128 :: 130 :: t) fdot = (0 : Nat) := by
   rw [Lib.index, if_pos (by simp [fdot, List.isPrefixOf])]; rfl
 rw [zno h]; rfl
theorem zqn {c : UInt8} {t : List UInt8} (h : fdot.isPrefixOf (c :: t) = false) : z9o (c :: t) = c :: z9o t := by
 by_cases hm : Lib.index t fdot = -1
 · have h2 : Lib.index (c :: t) fdot = -1 := by
     rw [Lib.index, if_neg (by simp [h]), if_pos (by rw [hm]; rfl)]
   rw [zqo h2, zqo hm]
 · have hg := Lib.index_ge t fdot
   obtain ⟨i, hi⟩ : ∃ i : Nat, Lib.index t fdot = i := ⟨(Lib.index t fdot).toNat, by omega⟩
   have h2 : Lib.index (c :: t) fdot = (i + 1 : Nat) := by
     rw [Lib.index, if_neg (by simp [h]), if_neg (by simpa using hm), hi]; rfl
   rw [zno h2, zno hi]
   simp only [List.take_succ_cons, List.cons_append]
   congr 3
theorem z6d {c : UInt8} (h : c ≠ 227) (t : List UInt8) : z9o (c :: t) = c :: z9o t :=
 zqn (by simp [fdot, List.isPrefixOf, Ne.symm h])
def y05j (xs : List UInt8) : List (List UInt8) → List (List UInt8)
 | p :: ps => (xs ++ p) :: ps
 | [] => [xs]
theorem y0bu {c : UInt8} (h : c ≠ 46) (s : List UInt8) : pcs (c :: s) = y05j [c] (pcs s) := by
 rw [pcs, if_neg h]
 cases pcs s <;> rfl
theorem y0fa (s : List UInt8) : pcs (46 :: s) = [] :: pcs s := by rw [pcs, if_pos rfl]
theorem y08o : ∀ (xs : List UInt8) (t : List UInt8), (∀ c ∈ xs, c ≠ 46) → pcs (xs ++ t) = y05j xs (pcs t)
 | [], t, _ => by
   have := y08p t
   cases h : pcs t with
   | nil => exact absurd h this
   | cons p ps => simp [y05j, h]
 | c :: xs, t, h => by
   have ih := y08o xs t fun c hc => h c (by simp [hc])
   show pcs (c :: (xs ++ t)) = _
   rw [y0bu (h c (by simp)), ih]
   cases hp : pcs t <;> simp [y05j]
theorem zl2 {n k : Int} (h0 : 0 ≤ n) (h1 : n < 256) (hk : n ≠ k) (k0 : 0 ≤ k) (k1 : k < 256) : ofI n ≠ ofI k := fun e => by
 have e1 := z17 h0 h1
 have e2 := z17 k0 k1
 rw [e] at e1
 omega
theorem zoy {r : Int} (h : right r = true) : (∃ a, enc r = [ofI a] ∧ a = r ∧ 0 ≤ a ∧ a ≤ 127) ∨ (∃ a b, enc r = [ofI a, ofI b] ∧ 192 ≤ a ∧ a < 224 ∧ 128 ≤ b ∧ b < 192) ∨
   (∃ a b c, enc r = [ofI a, ofI b, ofI c] ∧ 224 ≤ a ∧ a < 240 ∧ 128 ≤ b ∧ b < 192 ∧ 128 ≤ c ∧ c < 192 ∧ r = (a - 224) * 4096 + (b - 128) * 64 + (c - 128)) ∨
   (∃ a b c d, enc r = [ofI a, ofI b, ofI c, ofI d] ∧ 240 ≤ a ∧ a < 248 ∧ 128 ≤ b ∧ b < 192 ∧ 128 ≤ c ∧ c < 192 ∧ 128 ≤ d ∧ d < 192) := by
 have hr := (z1t r).1 h
 unfold enc
 rw [if_pos h]
 split
 · exact .inl ⟨r, rfl, rfl, by omega, by omega⟩
 · split
   · exact .inr (.inl ⟨_, _, rfl, by omega, by omega, by omega, by omega⟩)
   · split
     · exact .inr (.inr (.inl ⟨_, _, _, rfl, by omega, by omega, by omega, by omega, by omega, by omega, by omega⟩))
     · exact .inr (.inr (.inr ⟨_, _, _, _, rfl, by omega, by omega, by omega, by omega, by omega, by omega, by omega, by omega⟩))
theorem y0av {r : Int} (h : right r = true) (hd : r ≠ 46) : ∀ c ∈ enc r, c ≠ 46 := by
 have e46 : (46 : UInt8) = ofI 46 := rfl
 rw [e46]
 rcases zoy h with ⟨a, e, h1, h2, h3⟩ | ⟨a, b, e, h1, h2, h3, h4⟩ | ⟨a, b, c, e, h1, h2, h3, h4, h5, h6, _⟩ | ⟨a, b, c, d, e, h1, h2, h3, h4, h5, h6, h7, h8⟩ <;> rw [e] <;> intro x hx <;>
   simp only [List.mem_cons, List.not_mem_nil, or_false] at hx
 · subst hx; exact zl2 (by omega) (by omega) (by omega) (by decide) (by decide)
 · rcases hx with rfl | rfl <;> exact zl2 (by omega) (by omega) (by omega) (by decide) (by decide)
 · rcases hx with rfl | rfl | rfl <;> exact zl2 (by omega) (by omega) (by omega) (by decide) (by decide)
 · rcases hx with rfl | rfl | rfl | rfl <;> exact zl2 (by omega) (by omega) (by omega) (by decide) (by decide)
theorem y0c1 {r : Int} (h : right r = true) (hd : r ≠ 12290) (t : List UInt8) : z9o (enc r ++ t) = enc r ++ z9o t := by
 have ne : ∀ {n : Int}, 0 ≤ n → n < 256 → n ≠ 227 → ofI n ≠ 227 := fun h0 h1 h2 => zl2 (k := 227) h0 h1 h2 (by decide) (by decide)
 rcases zoy h with ⟨a, e, h1, h2, h3⟩ | ⟨a, b, e, h1, h2, h3, h4⟩ | ⟨a, b, c, e, h1, h2, h3, h4, h5, h6, h7⟩ | ⟨a, b, c, d, e, h1, h2, h3, h4, h5, h6, h7, h8⟩ <;> rw [e] <;> simp only [List.cons_append, List.nil_append]
 · rw [z6d (ne (by omega) (by omega) (by omega))]
 · rw [z6d (ne (by omega) (by omega) (by omega)), z6d (ne (by omega) (by omega) (by omega))]
 · have hp : fdot.isPrefixOf (ofI a :: ofI b :: ofI c :: t) = false := by
     simp only [fdot, List.isPrefixOf, Bool.and_true]
     cases hq : ((227 : UInt8) == ofI a && ((128 : UInt8) == ofI b && (130 : UInt8) == ofI c)) with
     | false => rfl
     | true =>
       simp only [Bool.and_eq_true, beq_iff_eq] at hq
       obtain ⟨q1, q2, q3⟩ := hq
       have e1 := z17 (n := a) (by omega) (by omega)
       have e2 := z17 (n := b) (by omega) (by omega)
       have e3 := z17 (n := c) (by omega) (by omega)
       rw [← q1] at e1; rw [← q2] at e2; rw [← q3] at e3
       have t1 : ((227 : UInt8).toNat : Int) = 227 := rfl
       have t2 : ((128 : UInt8).toNat : Int) = 128 := rfl
       have t3 : ((130 : UInt8).toNat : Int) = 130 := rfl
       omega
   rw [zqn hp, z6d (ne (by omega) (by omega) (by omega)), z6d (ne (by omega) (by omega) (by omega))]
 · rw [z6d (ne (by omega) (by omega) (by omega)), z6d (ne (by omega) (by omega) (by omega)), z6d (ne (by omega) (by omega) (by omega)), z6d (ne (by omega) (by omega) (by omega))]
theorem zh6 : ∀ l : List Int, z0r l = true → pcs (z9o (l.flatMap enc)) = (rpcs l).map fun p => p.flatMap enc
 | [], _ => by rw [List.flatMap_nil, y0c2]; rfl
 | r :: l, h => by
   rw [z22] at h
   have hr := h r (by simp)
   have ih := zh6 l (z22.2 fun x hx => h x (by simp [hx]))
   rw [List.flatMap_cons]
   by_cases h1 : r = 46
   · subst h1
     have e : enc 46 = [46] := by decide
     have e3 : rpcs (46 :: l) = [] :: rpcs l := by show (if z3u 46 then _ else _) = _; rw [if_pos (by decide)]
     rw [e, e3, List.map_cons, ← ih]
     show pcs (z9o (46 :: l.flatMap enc)) = _
     rw [z6d (by decide)]
     rw [y0fa]; rfl
   · by_cases h2 : r = 12290
     · subst h2
       have e : enc 12290 = [227, 128, 130] := by decide
       have e3 : rpcs (12290 :: l) = [] :: rpcs l := by show (if z3u 12290 then _ else _) = _; rw [if_pos (by decide)]
       rw [e, e3, List.map_cons, ← ih]
       show pcs (z9o (227 :: 128 :: 130 :: l.flatMap enc)) = _
       rw [y0c3]
       rw [y0fa]; rfl
     · have hd : z3u r = false := by simp [z3u, h1, h2]
       have e3 : rpcs (r :: l) = match rpcs l with | p :: ps => (r :: p) :: ps | [] => [[r]] := by
         rw [rpcs, if_neg (by simp [hd])]; cases rpcs l <;> rfl
       rw [y0c1 hr h2, y08o _ _ (y0av hr h1), ih, e3]
       cases hq : rpcs l with
       | nil => exact absurd hq (zns l)
       | cons p ps => simp [y05j]
structure PG (x : List UInt8) : Prop where
 fold : z16 x = (x, true)
 nodot : ∀ r ∈ (runes x).1, z3u r = false
theorem PG.at_ {x : List UInt8} (h : z16 x = (x, true)) : runes x = ((runes x).1, -1) ∧ x = (runes x).1.flatMap enc ∧ Fld (runes x).1 ∧ z0r (runes x).1 = true := by
 have h0 : ¬ 0 ≤ (runes x).2 := fun h0 => by unfold z16 at h; rw [if_pos h0] at h; cases h
 have h1 := z2f h0
 rw [h] at h1
 have hx : x = z85 (z2r (runes x).1) := congrArg Prod.fst h1
 have hr := z1m x
 have h2 := z6y (s := x)
 rw [← hx] at h2
 have h3 : (runes x).1 = z2r (runes x).1 := congrArg Prod.fst h2
 have e2 : (runes x).2 = -1 := by rw [h2]
 refine ⟨Prod.ext rfl e2, ?_, by rw [h3]; exact zx6 _, hr⟩
 have h4 : z85 (runes x).1 = (runes x).1.flatMap enc := by unfold z85; rw [if_pos hr]
 rw [← h4]
 rw [← h3] at hx
 exact hx
theorem y0gw {l : List Int} (h : z0r l = true) (hl : l.length ≤ 1000) : l.length ≤ (z4b l).length ∨ 400 < (z4b l).length := by
 by_cases h4 : (z4b l).length ≤ 400
 · exact .inl (y061 h4 (ztf h hl)).2.1
 · exact .inr (by omega)
theorem y063 {l : List Int} (h : z0r l = true) (hl : l.length ≤ 1000) (hf : ∀ r ∈ l, r ≠ 46) : ∀ c ∈ z4b l, c ≠ 46 := fun c hc => by
 obtain ⟨E, e⟩ := zg6 h hl
 rw [e.enc] at hc
 rcases List.mem_append.1 hc with hc | hc
 · have key : ∀ c ∈ z0o l, c ≠ 46 := fun c hc => by
     obtain ⟨r, hr, rfl⟩ := List.mem_map.1 hc
     obtain ⟨hr1, hr2⟩ := List.mem_filter.1 hr
     have h0 := z8l h r hr1
     have h1 : r < 128 := by simpa using hr2
     exact zl2 (k := 46) h0 (by omega) (hf r hr1) (by decide) (by decide)
   unfold z2s at hc
   split at hc
   · rcases List.mem_append.1 hc with hc | hc
     · exact key c hc
     · simp only [List.mem_singleton] at hc
       subst hc; decide
   · exact key c hc
 · obtain ⟨v, h1, h2, rfl⟩ := e.dig c hc
   have := zbg h1 h2
   intro e'
   rw [e'] at this
   revert this; decide
theorem zoj {s : List UInt8} (h : ∀ c ∈ s, c.toNat < 128 ∧ c ≠ 46) : ∀ r ∈ (runes s).1, z3u r = false := by
 rw [zht fun c hc => (h c hc).1]
 intro r hr
 obtain ⟨c, hc, rfl⟩ := List.mem_map.1 hr
 obtain ⟨h1, h2⟩ := h c hc
 have h3 : (c.toNat : Int) ≠ 46 := fun e => h2 (UInt8.toNat.inj (by show c.toNat = 46; omega))
 simp only [z3u, Bool.or_eq_false_iff, decide_eq_false_iff_not]
 omega
structure LabF (X A U : List UInt8) : Prop where
 a : toA X = (A, 0)
 u : toU X = (U, 0)
 pa : PG A
 pu : PG U
 aa : toA A = (A, 0)
 au : toU A = (U, 0)
 ua : toA U = (A, 0)
 uu : toU U = (U, 0)
 asc : ∀ c ∈ A, c.toNat < 128
 apos : 0 < A.length
 alen : A.length ≤ 63
 ulen : (runes U).1.length ≤ 63
 une : U ≠ []
theorem y0at {u : List UInt8} (h : y0g6 u) : ∀ r ∈ (runes u).1, z3u r = false := fun r hr => by
 obtain ⟨k, hk, rfl⟩ := List.getElem_of_mem hr
 obtain ⟨h1, h2⟩ := zre h hk
 have e : (runes u).1[k] = (runes u).1.getD k 0 := by simp [List.getD, hk]
 rw [e]
 have h3 := zq3 h1
 generalize (runes u).1.getD k 0 = r at *
 cases hd : z3u r with
 | false => rfl
 | true =>
   have hl : lch r = false ∧ rl r = .no := by
     rcases y05r.1 hd with rfl | rfl <;> decide +kernel
   rcases h3 with ⟨h3, _⟩ | h3
   · have := h2 h3; rw [hl.1] at this; cases this
   · exact absurd hl.2 h3
theorem y07d {X : List UInt8} (hf : z16 X = (X, true)) (hl : (runes X).1.length ≤ 1000) (h : (toA X).2 = 0) : ∃ A U, LabF X A U := by
 have hb : (z6f X).2.2 = 0 := by
   apply Classical.byContradiction; intro hb
   rw [(zny hb).1] at h; exact hb h
 have ok : ∀ {Y A U : List UInt8}, z6f Y = (A, U, 0) → toA Y = (A, 0) ∧ toU Y = (U, 0) := fun e => by
   have := zz1 (s := _) (by rw [e])
   rw [e] at this; exact this
 have wide : ∀ u : List UInt8, y0g6 u → zet u = 0 → (runes u).1.length ≤ 1000 → z6f X = (ace ++ pnS (runes u).1, u, 0) → ∃ A U, LabF X A U := fun u hw hv hlu e => by
   obtain ⟨w1, w2, w3, w4, w5⟩ := y01j hw hlu hv
   have hok := z1m u
   have hp := y0fc hok
   have hfx : ∀ r ∈ (runes u).1, lw r = r := fun r hr => (zu5 hw r hr).1
   have hnd := y0at hw
   have hasc : ∀ c ∈ ace ++ pnS (runes u).1, c.toNat < 128 ∧ c ≠ 46 ∧ plC c = c := fun c hc => by
     rw [hp] at hc
     rcases List.mem_append.1 hc with hc | hc
     · exact ⟨(zmq c hc).2, (by decide : ∀ c ∈ ace, c ≠ 46) c hc, (zmq c hc).1⟩
     · exact ⟨zg7 hok hlu c hc, y063 hok hlu (fun r hr e => by have := hnd r hr; rw [e] at this; revert this; decide) c hc, y062 hok hlu hfx c hc⟩
   have hfA : z16 (ace ++ pnS (runes u).1) = (ace ++ pnS (runes u).1, true) := by rw [zpd fun c hc => (hasc c hc).1, y07v fun c hc => (hasc c hc).2.2]
   have hln := y0gw hok hlu
   have hal : (ace ++ pnS (runes u).1).length = 4 + (z4b (runes u).1).length := by rw [List.length_append, hp]; rfl
   exact ⟨_, _, (ok e).1, (ok e).2, ⟨hfA, zoj fun c hc => ⟨(hasc c hc).1, (hasc c hc).2.1⟩⟩, ⟨zrf hw, hnd⟩, (ok w2).1, (ok w2).2, (ok w1).1, (ok w1).2, fun c hc => (hasc c hc).1, by omega, w5, by omega, zjz hw.big⟩
 rw [zfo hf] at hb
 have hX := zfo hf
 unfold y059 at hb
 split at hb
 · rename_i h8
   have hw : zet X = 0 := hb
   refine wide X (zu6 hw) hw hl ?_
   rw [hX]; unfold y059; rw [if_pos h8, hw]
 · rename_i h8
   split at hb
   · rename_i ha
     have hp : y0fb X = 0 := hb
     have e : y059 X = (X, X, 0) := by unfold y059; rw [if_neg h8, if_pos ha, hp]
     have e' := hX.trans e
     obtain ⟨q1, q2, q3⟩ := y0if hp
     obtain ⟨_, _, q4, _⟩ := zh7.1 hp
     have hasc : ∀ c ∈ X, c.toNat < 128 ∧ c ≠ 46 := fun c hc => by
       have := List.all_eq_true.1 q4 c hc
       exact ⟨zgv this, fun e => by rw [e] at this; revert this; decide⟩
     have hpg : PG X := ⟨hf, zoj hasc⟩
     exact ⟨X, X, (ok e').1, (ok e').2, hpg, hpg, (ok e').1, (ok e').2, (ok e').1, (ok e').2, fun c hc => (hasc c hc).1, q2, q3, by have := z8w X; omega, fun e => by subst e; simp at q2⟩
   · rename_i ha
     have ha : y0el X = true := by simpa using ha
     split at hb
     · simp at hb
     · rename_i l hlx
       split at hb
       · simp at hb
       · rename_i h63
         split at hb
         · rename_i hw; exact absurd hb hw
         · rename_i hw
           have hw : zet (z85 l) = 0 := by simpa using hw
           split at hb
           · simp at hb
           · rename_i hp
             have hp : pnS l = X.drop 4 := by simpa using hp
             obtain ⟨d1, d2, d3⟩ := y061 (s := X.drop 4) (by simp; omega) hlx
             have hr := z5m d1
             have hXe := y0kf ha
             have hll : l.length ≤ 1000 := by simp at d2; omega
             refine wide (z85 l) (zu6 hw) hw (by rw [hr]; exact hll) ?_
             rw [hr]
             dsimp only
             rw [hp, ← hXe, hX]
             unfold y059
             rw [if_neg h8, if_neg (by simp [ha]), hlx]
             dsimp only
             rw [if_neg h63, if_neg (by simp [hw]), if_neg (by simp [hp])]
theorem zgp (x : List UInt8) {l : List (List UInt8)} (h : l ≠ []) : Lib.join (x :: l) [46] = x ++ 46 :: Lib.join l [46] := by
 cases l with
 | nil => exact absurd rfl h
 | cons y r => rw [Lib.join_cons, Lib.join_cons]; simp [Lib.joinTail]
theorem zxe : ∀ (A B : List (List UInt8)), A ≠ [] → B ≠ [] → Lib.join (A ++ B) [46] = Lib.join A [46] ++ 46 :: Lib.join B [46]
 | [], _, h, _ => absurd rfl h
 | [x], B, _, h => by rw [List.singleton_append, zgp x h, Lib.join_one]
 | x :: y :: A, B, _, h => by
   rw [List.cons_append, zgp x (by simp), zgp x (by simp), zxe (y :: A) B (by simp) h]
   simp
theorem zf1 {m : Nat} : ∀ {l : List (List UInt8)}, (∀ x ∈ l, x.length ≤ m) → (Lib.join l [46]).length ≤ l.length * (m + 1)
 | [], _ => by rw [Lib.join_nil]; simp
 | [x], h => by rw [Lib.join_one]; have := h x (by simp); simp; omega
 | x :: y :: l, h => by
   have ih := zf1 (l := y :: l) fun z hz => h z (by simp [hz])
   have h1 := h x (by simp)
   have e : (x :: y :: l).length * (m + 1) = (y :: l).length * (m + 1) + (m + 1) := Nat.succ_mul _ _
   rw [zgp x (by simp), List.length_append, e, List.length_cons]
   omega
theorem y0hu {l : List (List UInt8)} (h0 : l ≠ []) (h : ∀ x ∈ l, x ≠ []) : Lib.join l [46] ≠ [] := by
 cases l with
 | nil => exact absurd rfl h0
 | cons x l =>
   have hx := h x (by simp)
   cases l with
   | nil => rw [Lib.join_one]; exact hx
   | cons y r => rw [zgp x (by simp)]; simp
theorem zxf {p : UInt8 → Prop} (h46 : p 46) : ∀ {l : List (List UInt8)}, (∀ x ∈ l, ∀ c ∈ x, p c) → ∀ c ∈ Lib.join l [46], p c
 | [], _, c, hc => by rw [Lib.join_nil] at hc; cases hc
 | [x], h, c, hc => by rw [Lib.join_one] at hc; exact h x (by simp) c hc
 | x :: y :: l, h, c, hc => by
   rw [zgp x (by simp)] at hc
   rcases List.mem_append.1 hc with hc | hc
   · exact h x (by simp) c hc
   · rcases List.mem_cons.1 hc with rfl | hc
     · exact h46
     · exact zxf h46 (l := y :: l) (fun z hz => h z (by simp [hz])) c hc
def rj : List (List Int) → List Int
 | [] => []
 | [p] => p
 | p :: q :: l => p ++ 46 :: rj (q :: l)
theorem y0fi : ∀ Rs : List (List Int), (∀ p ∈ Rs, z0r p = true) → z0r (rj Rs) = true ∧ (rj Rs).flatMap enc = Lib.join (Rs.map fun p => p.flatMap enc) [46]
 | [], _ => ⟨rfl, rfl⟩
 | [p], h => ⟨h p (by simp), by rw [List.map_cons, List.map_nil, Lib.join_one]; rfl⟩
 | p :: q :: l, h => by
   obtain ⟨h1, h2⟩ := y0fi (q :: l) fun z hz => h z (by simp [hz])
   have hp := h p (by simp)
   refine ⟨?_, ?_⟩
   · rw [z22] at hp h1 ⊢
     intro r hr
     rcases List.mem_append.1 hr with hr | hr
     · exact hp r hr
     · rcases List.mem_cons.1 hr with rfl | hr
       · decide
       · exact h1 r hr
   · rw [List.map_cons, zgp _ (by simp), ← h2]
     show (p ++ 46 :: rj (q :: l)).flatMap enc = _
     rw [List.flatMap_append, List.flatMap_cons]
     rfl
theorem y0fk : ∀ Rs : List (List Int), Rs ≠ [] → (∀ p ∈ Rs, ∀ r ∈ p, z3u r = false) → rpcs (rj Rs) = Rs
 | [], h, _ => absurd rfl h
 | [p], _, h => z9p p (h p (by simp))
 | p :: q :: l, _, h => by
   show rpcs (p ++ 46 :: rj (q :: l)) = _
   rw [zf9 (by decide) _ p (h p (by simp)), y0fk (q :: l) (by simp) fun z hz => h z (by simp [hz])]
theorem y0h0 : Fld [] := ⟨rfl, by simp⟩
theorem y0fj : ∀ Rs : List (List Int), (∀ p ∈ Rs, Fld p) → Fld (rj Rs)
 | [], _ => y0h0
 | [p], h => h p (by simp)
 | p :: q :: l, h => y0b0 (by decide) (h p (by simp)) (y0fj (q :: l) fun z hz => h z (by simp [hz]))
theorem z54 {l : List Int} (h : z0r l = true) : z85 l = l.flatMap enc := by unfold z85; rw [if_pos h]
theorem zpe {l : List Int} (h : z0r l = true) (hf : Fld l) : z16 (l.flatMap enc) = (l.flatMap enc, true) ∧ runes (l.flatMap enc) = (l, -1) := by
 have hr := z5m h
 rw [z54 h] at hr
 refine ⟨?_, hr⟩
 rw [z2f (by rw [hr]; dsimp only; omega), hr]
 dsimp only
 rw [hf.1, z54 h]
theorem y0as {Ys : List (List UInt8)} (h0 : Ys ≠ []) (h : ∀ y ∈ Ys, PG y) : z16 (Lib.join Ys [46]) = (Lib.join Ys [46], true) ∧ z3w (Lib.join Ys [46]) = Ys := by
 have hR : ∀ p ∈ Ys.map (fun y => (runes y).1), z0r p = true ∧ Fld p ∧ ∀ r ∈ p, z3u r = false := fun p hp => by
   obtain ⟨y, hy, rfl⟩ := List.mem_map.1 hp
   obtain ⟨q1, q2, q3, q4⟩ := PG.at_ (h y hy).fold
   exact ⟨q4, q3, (h y hy).nodot⟩
 have hY : (Ys.map (fun y => (runes y).1)).map (fun p => p.flatMap enc) = Ys := by
   rw [List.map_map]
   refine (List.map_congr_left fun y hy => ?_).trans (List.map_id Ys)
   exact (PG.at_ (h y hy).fold).2.1.symm
 obtain ⟨e1, e2⟩ := y0fi _ fun p hp => (hR p hp).1
 rw [hY] at e2
 have hf := y0fj _ fun p hp => (hR p hp).2.1
 have hp := y0fk _ (by simpa using h0) fun p hp => (hR p hp).2.2
 obtain ⟨f1, f2⟩ := zpe e1 hf
 rw [e2] at f1 f2
 refine ⟨f1, ?_⟩
 unfold z3w
 rw [f1]
 dsimp only
 rw [← e2, zh6 _ e1, hp, hY]
theorem zgt {s : List UInt8} (h : ¬ 0 ≤ (runes s).2) : z3w s = (rpcs (z2r (runes s).1)).map (fun p => p.flatMap enc) ∧ ∀ x ∈ z3w s, PG x ∧ (runes x).1.length ≤ (z2r (runes s).1).length := by
 have hok := z4j (z1m s)
 have e : z3w s = (rpcs (z2r (runes s).1)).map (fun p => p.flatMap enc) := by
   unfold z3w
   rw [z2f h]
   dsimp only
   rw [z54 hok, zh6 _ hok]
 refine ⟨e, fun x hx => ?_⟩
 rw [e] at hx
 obtain ⟨p, hp, rfl⟩ := List.mem_map.1 hx
 obtain ⟨q1, q2, q3, q4⟩ := y0c9 _ _ (Nat.le_refl _) (zx6 (runes s).1) p hp
 have hpo : z0r p = true := z22.2 fun r hr => z22.1 hok r (q4 r hr)
 obtain ⟨f1, f2⟩ := zpe hpo q1
 exact ⟨⟨f1, by rw [f2]; exact q2⟩, by rw [f2]; exact q3⟩
theorem zbx {s : List UInt8} (h : zbw s = 0) : ¬ 0 ≤ (runes s).2 := fun h0 => by
 unfold zbw z16 at h
 rw [if_pos h0] at h
 cases h
structure zek (s : List UInt8) : Prop where
 len : s.length ≤ 100000
 run : (runes s).1.length ≤ 10000
 fl : (z16 s).1.length ≤ 100000
 lab : zbw s = 0 → ∀ x ∈ z3w s, z16 x = (x, true) ∧ (runes x).1.length ≤ 1000
theorem z1f {s : List UInt8} (h : s.length ≤ 250) : zek s := by
 have h1 := z8w s
 have h2 := zpc (runes s).1
 have h3 := z5b (z2r (runes s).1)
 refine ⟨by omega, by omega, ?_, fun he x hx => ?_⟩
 · by_cases h0 : 0 ≤ (runes s).2
   · unfold z16; rw [if_pos h0]; simp
   · rw [z2f h0]; dsimp only; omega
 · obtain ⟨_, q⟩ := zgt (zbx he)
   obtain ⟨q1, q2⟩ := q x hx
   exact ⟨q1.fold, by omega⟩
def z2m (s : List UInt8) : List UInt8 × List UInt8 × Int := if zbw s ≠ 0 then ([], [], zbw s) else zic (z3w s)
theorem y07e {X A U : List UInt8} (h : LabF X A U) : U.length ≤ 252 := by
 obtain ⟨q1, q2, q3, q4⟩ := PG.at_ h.pu.fold
 have := z5b (runes U).1
 rw [z54 q4, ← q2] at this
 have := h.ulen
 omega
theorem y0it {x : List UInt8} (hf : z16 x = (x, true)) (hl : (runes x).1.length ≤ 1000) : (toA x).1.length ≤ 63 ∧ (toU x).1.length ≤ 252 := by
 by_cases h : (toA x).2 = 0
 · obtain ⟨A, U, l⟩ := y07d hf hl h
   rw [l.a, l.u]
   exact ⟨l.alen, y07e l⟩
 · have hb : (z6f x).2.2 ≠ 0 := fun e => h (by rw [(zz1 e).1])
   obtain ⟨e1, e2⟩ := zny hb
   rw [e1, e2]; simp
theorem zby {s : List UInt8} (h : zbw s = 0) : (z16 s).2 = true ∧ (z16 s).1 ≠ [] ∧ (z3w s).length ≤ 32 := by
 unfold zbw at h
 split at h
 · cases h
 · rename_i h1
   split at h
   · cases h
   · rename_i h2
     split at h
     · cases h
     · rename_i h3
       exact ⟨by simpa using h1, h2, by unfold z3w; omega⟩
theorem y07c {s : List UInt8} (h1 : (z16 s).2 = true) (h2 : (z16 s).1 ≠ []) (h3 : (z3w s).length ≤ 32) : zbw s = 0 := by
 unfold zbw
 unfold z3w at h3
 rw [if_neg (by simp [h1]), if_neg h2, if_neg (by omega)]
theorem zgu (s : List UInt8) : z3w s ≠ [] := y08p _
theorem y0ar {s : List UInt8} (hs : zek s) (h : (z2m s).2.2 = 0) : ∃ a u, z2m s = (a, u, 0) ∧ zek a ∧ zek u ∧ z2m a = (a, u, 0) ∧ z2m u = (a, u, 0) ∧ (∀ c ∈ a, c.toNat < 128) ∧ a.length ≤ 253 := by
 have he : zbw s = 0 := by
   apply Classical.byContradiction; intro he
   unfold z2m at h; rw [if_pos he] at h; exact he h
 have e0 : z2m s = zic (z3w s) := by unfold z2m; rw [if_neg (by simp [he])]
 rw [e0] at h ⊢
 have hlab := hs.lab he
 obtain ⟨_, _, h32⟩ := zby he
 have hne := zgu s
 generalize z3w s = L at *
 have hsc : z4c L = 0 := by
   apply Classical.byContradiction; intro hsc
   unfold zic at h; rw [if_pos hsc] at h; exact hsc h
 have h253 : ¬ 253 < (jA L).length := fun h253 => by
   unfold zic at h; rw [if_neg (by simp [hsc]), if_pos h253] at h; cases h
 have hL : ∀ x ∈ L, LabF x (toA x).1 (toU x).1 := fun x hx => by
   obtain ⟨q1, q2⟩ := hlab x hx
   obtain ⟨A, U, l⟩ := y07d q1 q2 (zhu.1 hsc x hx)
   rw [l.a, l.u]; exact l
 have key : ∀ (f : List UInt8 → List UInt8), (∀ x ∈ L, PG (f x) ∧ f x ≠ [] ∧ toA (f x) = ((toA x).1, 0) ∧ toU (f x) = ((toU x).1, 0) ∧ (runes (f x)).1.length ≤ 63) → ∀ J, J = Lib.join (L.map f) [46] → z2m J = (jA L, jU L, 0) ∧ zek J := by
   rintro f hf J rfl
   have hY0 : L.map f ≠ [] := by simpa using hne
   have hPG : ∀ y ∈ L.map f, PG y := fun y hy => by
     obtain ⟨x, hx, rfl⟩ := List.mem_map.1 hy
     exact (hf x hx).1
   obtain ⟨j1, j2⟩ := y0as hY0 hPG
   have jn := y0hu hY0 fun y hy => by
     obtain ⟨x, hx, rfl⟩ := List.mem_map.1 hy
     exact (hf x hx).2.1
   have jl : (Lib.join (L.map f) [46]).length ≤ (L.map f).length * (252 + 1) := zf1 fun y hy => by
     obtain ⟨x, hx, rfl⟩ := List.mem_map.1 hy
     obtain ⟨q1, q2, q3, q4⟩ := PG.at_ (hf x hx).1.fold
     have := z5b (runes (f x)).1
     rw [z54 q4, ← q2] at this
     have := (hf x hx).2.2.2.2
     omega
   rw [List.length_map] at jl
   have jl' : (Lib.join (L.map f) [46]).length ≤ 8096 := by
     have : L.length * (252 + 1) ≤ 32 * 253 := Nat.mul_le_mul_right _ h32
     omega
   have z : zbw (Lib.join (L.map f) [46]) = 0 := y07c (by rw [j1]) (by rw [j1]; exact jn) (by rw [j2, List.length_map]; exact h32)
   refine ⟨?_, by omega, by have := z8w (Lib.join (L.map f) [46]); omega, by rw [j1]; dsimp only; omega, fun _ x hx => ?_⟩
   · unfold z2m
     rw [if_neg (by simp [z]), j2]
     have s0 : z4c (L.map f) = 0 := zhu.2 fun y hy => by
       obtain ⟨x, hx, rfl⟩ := List.mem_map.1 hy
       rw [(hf x hx).2.2.1]
     have eA : jA (L.map f) = jA L := by
       unfold jA
       rw [List.map_map]
       exact congrArg (Lib.join · [46]) (List.map_congr_left fun x hx => by show (toA (f x)).1 = _; rw [(hf x hx).2.2.1])
     have eU : jU (L.map f) = jU L := by
       unfold jU
       rw [List.map_map]
       exact congrArg (Lib.join · [46]) (List.map_congr_left fun x hx => by show (toU (f x)).1 = _; rw [(hf x hx).2.2.2.1])
     unfold zic
     rw [if_neg (by simp [s0]), eA, if_neg h253, eU]
   · rw [j2] at hx
     obtain ⟨y, hy, rfl⟩ := List.mem_map.1 hx
     exact ⟨(hf y hy).1.fold, by have := (hf y hy).2.2.2.2; omega⟩
 obtain ⟨a1, a2⟩ := key (fun x => (toA x).1) (fun x hx => by
   have l := hL x hx
   exact ⟨l.pa, fun e => by have := l.apos; rw [e] at this; simp at this, l.aa, l.au, by have := z8w (toA x).1; have := l.alen; omega⟩) (jA L) rfl
 obtain ⟨u1, u2⟩ := key (fun x => (toU x).1) (fun x hx => by
   have l := hL x hx
   exact ⟨l.pu, l.une, l.ua, l.uu, l.ulen⟩) (jU L) rfl
 refine ⟨jA L, jU L, ?_, a2, u2, a1, u1, ?_, by omega⟩
 · unfold zic; rw [if_neg (by simp [hsc]), if_neg h253]
 · refine zxf (p := fun c => c.toNat < 128) (by decide) fun y hy => ?_
   obtain ⟨x, hx, rfl⟩ := List.mem_map.1 hy
   exact (hL x hx).asc
theorem y0fo {x : List UInt8} (hf : z16 x = (x, true)) (hl : (runes x).1.length ≤ 1000) : (toA x).1.length ≤ 63 ∧ (toU x).1.length ≤ 4000 := by
 have h0 : ¬ 0 ≤ (runes x).2 := fun h0 => by unfold z16 at hf; rw [if_pos h0] at hf; cases hf
 have h1 := z2f h0
 rw [hf] at h1
 have hx : x = z85 (z2r (runes x).1) := congrArg Prod.fst h1
 have h2 := z6y (s := x)
 rw [← hx] at h2
 have h3 : (runes x).1 = z2r (runes x).1 := congrArg Prod.fst h2
 have hxl := z5b (z2r (runes x).1)
 rw [← hx, ← h3] at hxl
 by_cases he : (z6f x).2.2 = 0
 · obtain ⟨e1, e2⟩ := zz1 he
   rw [e1, e2]
   rw [zfo hf] at he ⊢
   unfold y059 at he ⊢
   split
   · rename_i h8
     rw [if_pos h8] at he
     have := (zu6 he).len
     refine ⟨?_, by dsimp only; omega⟩
     rw [List.length_append]; exact this
   · rename_i h8
     rw [if_neg h8] at he
     split
     · rename_i ha
       rw [if_pos ha] at he
       obtain ⟨_, q, _⟩ := zh7.1 he
       exact ⟨q, by dsimp only; omega⟩
     · rename_i ha
       rw [if_neg ha] at he
       cases hp : zax (x.drop 4) with
       | none => rw [hp] at he; cases he
       | some l =>
         rw [hp] at he
         dsimp only at he ⊢
         split at he
         · cases he
         · rename_i h63
           rw [if_neg h63]
           have hd := (zjw hp).2
           have hsl := z5b l
           rw [List.length_drop] at hd
           split
           · simp
           · split
             · simp
             · exact ⟨by dsimp only; omega, by dsimp only; omega⟩
 · obtain ⟨e1, e2⟩ := zny he
   rw [e1, e2]; simp
theorem z6h (b : ByteArray) : (Value.string b).cells = [Value.string b].toArray := rfl
theorem y0a0 {P Q R S : Prop} (a : Q) (b : R) (c : S) (h : Mk P → Hid Q → Hid R → Hid S → P := by
 intro m q r s
 repeat' first | refine z07 (by first | assumption | (apply_assumption <;> first | assumption | omega)) ?_ ?_ | refine LSp.fit (by assumption) ?_ | simp (maxSteps := 4000000) (disch := omega) only [z13, z12, bun, ↓z05, ↓z01, z03, findLabel, ↓reduceIte, imp, shift, z0g, z0c, unown, names, z08, below, noF, isF, z04, z0a, z09, ren, z0t, z0u, z0h, renO, belowM, seval, -Int.reduceToNat, bT, z14, Int.reduceToNat, zb8, List.map_nil, List.nil_append, z6h, z4u, z39, *] | exact z0n _ | refine z0m _ _ ?_ | exact Cln.cl | refine z02 _ ?_ | refine z00 _ _ ?_ ?_ | refine z10 _ ?_ | (refine Fk.fk ?_ ?_ <;> intro hg <;> (try simp only [hg]) <;> (try simp only [z11] at hg) <;> try (exfalso; first | omega | exact Bool.noConfusion hg | exact hg trivial)) | refine And.intro (by omega) ?_ | omega
 first
 | done
 | all_goals (repeat revert hg)
   fail_if_success with_reducible refine m.use ?_
   exact q.out
   first
   | done
   | exact r.out
     first
     | done
     | exact s.out
       first | done | fail) : P := h ⟨tru⟩ ⟨a⟩ ⟨b⟩ ⟨c⟩
theorem y0gq (s : List UInt8) (hs : s.length ≤ 10000000) (hl : (runes s).1.length ≤ 10000) (hX : (z16 s).1.length ≤ 100000) (h : zbw s ≠ 0) : z0q Tryz.prog 32 [tab, Sv s] (.tup [Sv [], Sv [], I64 (zbw s)]) := by
 have c := zkj s hs hl hX h
 rw [← z0e] at c ⊢
 refine sp [.cell 4 9, .cell 5 9, .cell 6 32] Tryz.func32 Tryz.ntmps32 ?_
 exact y0a0 tru tru tru
theorem zwq (s : List UInt8) (h : zek s) : z0q Tryz.prog 32 [tab, Sv s] (.tup [Sv (z2m s).1, Sv (z2m s).2.1, I64 (z2m s).2.2]) := by
 unfold z2m
 by_cases he : zbw s = 0
 · rw [if_neg (by simp [he])]
   have hlab := h.lab he
   obtain ⟨_, _, h32⟩ := zby he
   have hl := h.len
   have hjA : (jA (z3w s)).length ≤ (z3w s).length * (63 + 1) := by
     have := zf1 (m := 63) (l := (z3w s).map fun x => (toA x).1) fun y hy => by
       obtain ⟨x, hx, rfl⟩ := List.mem_map.1 hy
       exact (y0fo (hlab x hx).1 (hlab x hx).2).1
     rwa [List.length_map] at this
   have hjU : (jU (z3w s)).length ≤ (z3w s).length * (4000 + 1) := by
     have := zf1 (m := 4000) (l := (z3w s).map fun x => (toU x).1) fun y hy => by
       obtain ⟨x, hx, rfl⟩ := List.mem_map.1 hy
       exact (y0fo (hlab x hx).1 (hlab x hx).2).2
     rwa [List.length_map] at this
   have b1 : (z3w s).length * (63 + 1) ≤ 32 * 64 := Nat.mul_le_mul_right _ h32
   have b2 : (z3w s).length * (4000 + 1) ≤ 32 * 4001 := Nat.mul_le_mul_right _ h32
   refine y0la s (z3w s) (zgu s) (by omega) (z8i s (by omega) h.run h.fl he) (fun x hx => ?_) (by omega) (by omega)
   obtain ⟨q1, q2⟩ := hlab x hx
   obtain ⟨_, p2, _, p4⟩ := PG.at_ q1
   have hxl := z5b (runes x).1
   rw [z54 p4, ← p2] at hxl
   exact zol x x true (by omega) (by omega) q1 (by omega) q2
 · rw [if_pos he]
   exact y0gq s (by have := h.len; omega) h.run h.fl he
theorem z4i (s : List UInt8) (h : zek s) : z0q Tryz.prog 12 [tab, Sv s] (.tup [Sv (z2m s).1, I64 (z2m s).2.2]) := by
 have c := zwq s h
 rw [← z0e] at c ⊢
 refine sp [.tmp 4, .tmp 5] Tryz.func12 Tryz.ntmps12 ?_
 exact y0a0 tru tru tru
theorem zs4 (s : List UInt8) (h : zek s) : z0q Tryz.prog 13 [tab, Sv s] (.tup [Sv (z2m s).2.1, I64 (z2m s).2.2]) := by
 have c := zwq s h
 rw [← z0e] at c ⊢
 refine sp [.tmp 4, .tmp 5] Tryz.func13 Tryz.ntmps13 ?_
 exact y0a0 tru tru tru
def z5n (a b : List UInt8) : Bool := ((z2m a).2.2 == 0 && (z2m b).2.2 == 0) && (z2m a).1 == (z2m b).1
theorem z34 (a b : List UInt8) (ha : zek a) (hb : zek b) : z0q Tryz.prog 18 [tab, Sv a, Sv b] (Bv (z5n a b)) := by
 have c1 := z4i a ha
 have c2 := z4i b hb
 rw [← z0e] at c1 c2 ⊢
 unfold z5n
 generalize z2m a = x at *
 generalize z2m b = y at *
 obtain ⟨x1, x2, x3⟩ := x
 obtain ⟨y1, y2, y3⟩ := y
 dsimp only at *
 refine sp [.tmp 6] Tryz.func18 Tryz.ntmps18 ?_
 by_cases h1 : x3 = 0
 · subst h1
   by_cases h2 : y3 = 0
   · subst h2
     cases h3 : x1 == y1
     · exact y0a0 tru tru tru
     · exact y0a0 tru tru tru
   · have h2' : (y3 == 0) = false := by simpa using h2
     exact y0a0 tru tru tru
 · have h1' : (x3 == 0) = false := by simpa using h1
   exact y0a0 tru tru tru
def zih (s : List UInt8) : List UInt8 × Int := if (z2m s).2.2 = 0 ∧ eight s < 0 then (s, 0) else ((z2m s).1, (z2m s).2.2)
theorem zov (s : List UInt8) (h : zek s) : z0q Tryz.prog 15 [tab, Sv s] (.tup [Sv (zih s).1, I64 (zih s).2]) := by
 have c1 := z4i s h
 have c2 := z23 s (by have := h.len; omega)
 rw [← z0e] at c1 ⊢
 unfold zih
 generalize z2m s = x at *
 obtain ⟨x1, x2, x3⟩ := x
 dsimp only at *
 refine sp [.tmp 4, .tmp 5] Tryz.func15 Tryz.ntmps15 ?_
 by_cases h1 : x3 = 0
 · subst h1
   by_cases h2 : eight s < 0
   · rw [if_pos ⟨rfl, h2⟩]
     exact y0a0 tru tru tru
   · rw [if_neg (fun h => h2 h.2)]
     exact y0a0 tru tru tru
 · rw [if_neg (fun h => h1 h.1)]
   have h1' : (x3 == 0) = false := by simpa using h1
   exact y0a0 tru tru tru
theorem z0p : z0q Tryz.prog 8 [] (Bv true) := by
 have a1 := z4i [65, 46, 98, 195, 188, 99, 104, 101, 114, 227, 128, 130, 99] (z1f (by decide))
 rw [show z2m [65, 46, 98, 195, 188, 99, 104, 101, 114, 227, 128, 130, 99] = ([97, 46, 120, 110, 45, 45, 98, 99, 104, 101, 114, 45, 107, 118, 97, 46, 99], [97, 46, 98, 195, 188, 99, 104, 101, 114, 46, 99], 0) by decide +kernel] at a1
 have a2 := zs4 [65, 46, 120, 110, 45, 45, 98, 99, 104, 101, 114, 45, 107, 118, 97] (z1f (by decide))
 rw [show z2m [65, 46, 120, 110, 45, 45, 98, 99, 104, 101, 114, 45, 107, 118, 97] = ([97, 46, 120, 110, 45, 45, 98, 99, 104, 101, 114, 45, 107, 118, 97], [97, 46, 98, 195, 188, 99, 104, 101, 114], 0) by decide +kernel] at a2
 have a3 := z4i [97, 46, 46, 98] (z1f (by decide))
 rw [show z2m [97, 46, 46, 98] = ([], [], 13) by decide +kernel] at a3
 have a4 := z4i [] (z1f (by decide))
 rw [show z2m [] = ([], [], 13) by decide +kernel] at a4
 have a5 := zov [65, 46, 98] (z1f (by decide))
 rw [show zih [65, 46, 98] = ([65, 46, 98], 0) by decide +kernel] at a5
 have a6 := z8i [97, 46, 98] (by decide) (by decide) (by decide +kernel) (by decide +kernel)
 rw [show z3w [97, 46, 98] = [[97], [98]] by decide +kernel] at a6
 have b1 := z34 [98, 195, 156, 99, 104, 101, 114] [88, 78, 45, 45, 98, 99, 104, 101, 114, 45, 107, 118, 97] (z1f (by decide)) (z1f (by decide))
 rw [show z5n [98, 195, 156, 99, 104, 101, 114] [88, 78, 45, 45, 98, 99, 104, 101, 114, 45, 107, 118, 97] = true by decide +kernel] at b1
 have b2 := z34 [97] [98] (z1f (by decide)) (z1f (by decide))
 rw [show z5n [97] [98] = false by decide +kernel] at b2
 have b3 := z34 [] [] (z1f (by decide)) (z1f (by decide))
 rw [show z5n [] [] = false by decide +kernel] at b3
 rw [← z0e] at a1 a2 a3 a4 a5 a6 b1 b2 b3
 refine sp [.tmp 0] Tryz.func8 Tryz.ntmps8 ?_
 repeat' first | refine z07 (z2t) ?_ ?_ | refine z07 (a1) ?_ ?_ | refine z07 (a2) ?_ ?_ | refine z07 (a3) ?_ ?_ | refine z07 (a4) ?_ ?_ | refine z07 (a5) ?_ ?_ | refine z07 (a6) ?_ ?_ | refine z07 (b1) ?_ ?_ | refine z07 (b2) ?_ ?_ | refine z07 (b3) ?_ ?_ | simp (maxSteps := 4000000) (disch := omega) only [z13, z12, bun, ↓z05, ↓z01, z03, findLabel, ↓reduceIte, imp, shift, z0g, z0c, unown, names, z08, below, noF, isF, z04, z0a, z09, ren, z0t, z0u, z0h, renO, belowM, seval, -Int.reduceToNat, D29, B9, B31, B32, z14, Int.reduceToNat, zb8, List.map_nil, List.nil_append, z6h, z4u, z39] | exact z0n _ | refine z0m _ _ ?_ | exact Cln.cl | refine z02 _ ?_ | refine z00 _ _ ?_ ?_ | refine z10 _ ?_ | (refine Fk.fk ?_ ?_ <;> intro hg <;> (try simp only [hg]) <;> (try simp only [z11] at hg) <;> try (exfalso; first | omega | exact Bool.noConfusion hg | exact hg trivial)) | refine And.intro (by omega) ?_ | omega
theorem y09a (a : List UInt8) : z5n a a = ((z2m a).2.2 == 0) := by simp [z5n]
theorem y099 (a b : List UInt8) : z5n a b = z5n b a := by
 unfold z5n
 rw [Bool.and_comm ((z2m b).2.2 == 0)]
 congr 1
 rw [Bool.eq_iff_iff, beq_iff_eq, beq_iff_eq]
 exact eq_comm
theorem y016 {a b c : List UInt8} (h1 : z5n a b = true) (h2 : z5n b c = true) : z5n a c = true := by
 unfold z5n at *
 simp only [Bool.and_eq_true, beq_iff_eq] at *
 exact ⟨⟨h1.1.1, h2.1.2⟩, h1.2.trans h2.2⟩
theorem y0lb {P Q R S : Prop} (a : Q) (b : R) (c : S) (h : Mk P → Hid Q → Hid R → Hid S → P := by
 intro m q r s
 repeat' first | refine z07 (by first | assumption | (apply_assumption <;> first | assumption | omega)) ?_ ?_ | refine LSp.fit (by assumption) ?_ | simp (maxSteps := 4000000) (disch := omega) only [z13, z12, bun, ↓z05, ↓z01, z03, findLabel, ↓reduceIte, imp, shift, z0g, z0c, unown, names, z08, below, noF, isF, z04, z0a, z09, ren, z0t, z0u, z0h, renO, belowM, seval, -Int.reduceToNat, bT, z14, Int.reduceToNat, zb8, List.map_nil, List.nil_append, z6h, z4u, z39, *] | exact z0n _ | refine z0m _ _ ?_ | exact Cln.cl | refine z02 _ ?_ | refine z00 _ _ ?_ ?_ | refine z10 _ ?_ | (refine Fk.fk ?_ ?_ <;> intro hg <;> (try simp only [hg]) <;> (try simp only [z11] at hg) <;> try (exfalso; first | omega | exact Bool.noConfusion hg | exact hg trivial)) | refine And.intro (by omega) ?_ | omega
 first
 | done
 | all_goals (repeat revert hg)
   fail_if_success with_reducible refine m.use ?_
   exact q.out
   first
   | done
   | exact r.out
     first
     | done
     | exact s.out
       first | done | fail) : P := h ⟨tru⟩ ⟨a⟩ ⟨b⟩ ⟨c⟩
theorem zg0 (a b c : List UInt8) : z0q Tryz.prog 7 [Sv a, Sv b, Sv c] (Bv true) := by
 refine sp [.tmp 6] Tryz.func7 Tryz.ntmps7 ?_
 by_cases ha : a.length ≤ 80
 · by_cases hb : b.length ≤ 80
   · by_cases hc : c.length ≤ 80
     · have da := z1f (s := a) (by omega)
       have db := z1f (s := b) (by omega)
       have dc := z1f (s := c) (by omega)
       have c0 := z4i a da
       have c1 := z34 a b da db
       have c2 := z34 b c db dc
       have c3 := z34 a a da da
       have c4 := z34 b a db da
       have c5 := z34 a c da dc
       rw [y09a] at c3
       rw [y099 b a] at c4
       have ht := @y016 a b c
       rw [← z0e] at c0 c1 c2 c3 c4 c5
       generalize z5n a b = ab at *
       generalize z5n b c = bc at *
       generalize z5n a c = ac at *
       generalize z2m a = x at *
       obtain ⟨x1, x2, x3⟩ := x
       dsimp only at *
       by_cases h0 : x3 = 0
       · subst h0
         cases ab <;> cases bc <;> cases ac <;> first
           | exact absurd (ht rfl rfl) (by decide)
           | (have := z0p; have := z2t; exact y0lb tru tru tru)
       · have h0' : (x3 == 0) = false := by simpa using h0
         rw [h0'] at c3
         cases ab <;> cases bc <;> cases ac <;> first
           | exact absurd (ht rfl rfl) (by decide)
           | (have := z0p; have := z2t; exact y0lb tru tru tru)
     · (have := z0p; exact y0lb tru tru tru)
   · (have := z0p; exact y0lb tru tru tru)
 · (have := z0p; exact y0lb tru tru tru)
theorem y0ca {l p : List Int} (h : rpcs l = [p]) : p = l := by
 rcases zou l with h0 | ⟨A, d, B, rfl, hd, hA⟩
 · rw [z9p l h0] at h
   injection h with h1 _; exact h1.symm
 · rw [zf9 hd B A hA] at h
   injection h with _ h2
   exact absurd h2 (zns B)
theorem y0gr {s x : List UInt8} (hs : zek s) (he : zbw s = 0) (hx : z3w s = [x]) : ((z2m s).1, (z2m s).2.2) = toA s := by
 have h0 := zbx he
 obtain ⟨q1, q2⟩ := hs.lab he x (by rw [hx]; simp)
 have e1 := (zgt h0).1
 rw [hx] at e1
 obtain ⟨p, hp, rfl⟩ : ∃ p, rpcs (z2r (runes s).1) = [p] ∧ p.flatMap enc = x := by
   cases hr : rpcs (z2r (runes s).1) with
   | nil => exact absurd hr (zns _)
   | cons p ps =>
     rw [hr] at e1
     cases ps with
     | nil => simp at e1; exact ⟨p, rfl, e1.symm⟩
     | cons q ps => simp at e1
 have hpe := y0ca hp
 have hok := z4j (z1m s)
 have ex : p.flatMap enc = (z16 s).1 := by rw [z2f h0]; dsimp only; rw [z54 hok, hpe]
 have et : toA (p.flatMap enc) = toA s := by
   unfold toA
   rw [ex, y0ak h0]
 have hlen := (y0it q1 q2).1
 have ev : z2m s = zic [p.flatMap enc] := by unfold z2m; rw [if_neg (by simp [he]), hx]
 have ej : jA [p.flatMap enc] = (toA (p.flatMap enc)).1 := by unfold jA; rw [List.map_cons, List.map_nil, Lib.join_one]
 rw [ev]
 unfold zic
 rw [ej]
 have es : z4c [p.flatMap enc] = (toA (p.flatMap enc)).2 := by
   unfold z4c z4c
   split
   · rfl
   · rename_i h; simpa using (by simpa using h : (toA (p.flatMap enc)).2 = 0).symm
 rw [es, ← et]
 by_cases h : (toA (p.flatMap enc)).2 = 0
 · rw [if_neg (by simp [h]), if_neg (by omega)]
   exact Prod.ext rfl h.symm
 · rw [if_pos h]
   have hb : (z6f (p.flatMap enc)).2.2 ≠ 0 := fun e => h (by rw [(zz1 e).1])
   rw [(zny hb).1]
theorem y0lc {P Q R S : Prop} (a : Q) (b : R) (c : S) (h : Mk P → Hid Q → Hid R → Hid S → P := by
 intro m q r s
 repeat' first | refine z07 (by first | assumption | (apply_assumption <;> first | assumption | omega)) ?_ ?_ | refine LSp.fit (by assumption) ?_ | simp (maxSteps := 4000000) (disch := omega) only [z13, z12, bun, ↓z05, ↓z01, z03, findLabel, ↓reduceIte, imp, shift, z0g, z0c, unown, names, z08, below, noF, isF, z04, z0a, z09, ren, z0t, z0u, z0h, renO, belowM, seval, -Int.reduceToNat, bT, z14, Int.reduceToNat, zb8, List.map_nil, List.nil_append, z6h, z4u, z39, *] | exact z0n _ | refine z0m _ _ ?_ | exact Cln.cl | refine z02 _ ?_ | refine z00 _ _ ?_ ?_ | refine z10 _ ?_ | (refine Fk.fk ?_ ?_ <;> intro hg <;> (try simp only [hg]) <;> (try simp only [z11] at hg) <;> try (exfalso; first | omega | exact Bool.noConfusion hg | exact hg trivial)) | refine And.intro (by omega) ?_ | omega
 first
 | done
 | all_goals (repeat revert hg)
   fail_if_success with_reducible refine m.use ?_
   exact q.out
   first
   | done
   | exact r.out
     first
     | done
     | exact s.out
       first | done | fail) : P := h ⟨tru⟩ ⟨a⟩ ⟨b⟩ ⟨c⟩
theorem zig (s : List UInt8) : z0q Tryz.prog 6 [Sv s] (Bv true) := by
 refine sp [.tmp 2] Tryz.func6 Tryz.ntmps6 ?_
 by_cases hs : s.length ≤ 150
 · by_cases hs0 : s = []
   · subst hs0
     (have := z0p; exact y0lc tru tru tru)
   · have hl0 : 0 < s.length := List.length_pos_iff.2 hs0
     have ds := z1f (s := s) (by omega)
     have c2 := z4i s ds
     have hr := z8w s
     have c3 := y0fp s (y05a s (by omega) (by omega))
     by_cases he : zbw s = 0
     · have c1 := z8i s (by omega) ds.run ds.fl he
       have h1 := @y0gr s
       have hne := zgu s
       have hll := (zby he).2.2
       rw [← z0e] at c1 c2 c3
       cases hL : z3w s with
       | nil => exact absurd hL hne
       | cons x l =>
         rw [hL] at c1 hll
         cases l with
         | nil =>
           have h2 := h1 ds he hL
           rw [← h2] at c3
           generalize z2m s = y at *
           obtain ⟨y1, y2, y3⟩ := y
           dsimp only at *
           have bb : (y1 == y1) = true := by simp
           (have := z0p; have := z2t; exact y0lc tru tru tru)
         | cons x2 l =>
           simp only [List.length_cons] at hll c1
           (have := z0p; have := z2t; refine y0lc ?_ tru tru <;> intros)
           all_goals rw [decide_eq_true (by omega)]
     · have c1 := zkj s (by omega) ds.run ds.fl he
       have e2 : z2m s = ([], [], zbw s) := by unfold z2m; rw [if_pos he]
       rw [e2] at c2
       have he' : (zbw s == 0) = false := by simpa using he
       rw [← z0e] at c1 c2 c3
       generalize zbw s = e at *
       dsimp only at *
       (have := z0p; have := z2t; exact y0lc tru tru tru)
 · (have := z0p; exact y0lc tru tru tru)
theorem zyq {d : Int} (hd : z3u d = true) (B : List Int) : ∀ A : List Int, rpcs (A ++ d :: B) = rpcs A ++ rpcs B
 | [] => by show (if z3u d then _ else _) = _; rw [if_pos hd]; rfl
 | c :: A => by
   have ih := zyq hd B A
   show (if z3u c then _ else _) = (if z3u c then _ else _) ++ _
   split
   · show [] :: rpcs (A ++ d :: B) = _
     rw [ih]; rfl
   · show (match rpcs (A ++ d :: B) with | p :: ps => (c :: p) :: ps | [] => [[c]]) = (match rpcs A with | p :: ps => (c :: p) :: ps | [] => [[c]]) ++ _
     rw [ih]
     cases hq : rpcs A with
     | nil => exact absurd hq (zns A)
     | cons p ps => rfl
theorem zqv {s : List UInt8} (h : ¬ 0 ≤ (runes s).2) : s = (runes s).1.flatMap enc ∧ z0r (runes s).1 = true := by
 have hb := z9r s
 have ha : (runes s).2 = -1 := (zfa s).resolve_right h
 rw [ha, z6j, List.take_length] at hb
 refine ⟨?_, hb.1⟩
 have h4 := z54 hb.1
 rw [hb.2.1] at h4
 exact h4
theorem y015 {l : List Int} (h : z0r l = true) : runes (l.flatMap enc) = (l, -1) := by
 have hr := z5m h
 rwa [z54 h] at hr
theorem y098 {s b : List UInt8} (hs : ¬ 0 ≤ (runes s).2) (hb : ¬ 0 ≤ (runes b).2) : runes (s ++ 46 :: b) = ((runes s).1 ++ 46 :: (runes b).1, -1) := by
 obtain ⟨e1, o1⟩ := zqv hs
 obtain ⟨e2, o2⟩ := zqv hb
 have e : s ++ 46 :: b = ((runes s).1 ++ 46 :: (runes b).1).flatMap enc := by
   rw [List.flatMap_append, List.flatMap_cons, ← e1, ← e2]; rfl
 have ok : z0r ((runes s).1 ++ 46 :: (runes b).1) = true := by
   rw [z22] at o1 o2 ⊢
   intro r hr
   rcases List.mem_append.1 hr with hr | hr
   · exact o1 r hr
   · rcases List.mem_cons.1 hr with rfl | hr
     · decide
     · exact o2 r hr
 have := y015 ok
 rwa [← e] at this
theorem y0bc {s b : List UInt8} (hs : ¬ 0 ≤ (runes s).2) (hb : ¬ 0 ≤ (runes b).2) : z3w (s ++ 46 :: b) = z3w s ++ z3w b ∧ z16 (s ++ 46 :: b) = ((z16 s).1 ++ 46 :: (z16 b).1, true) := by
 have h := y098 hs hb
 have hn : ¬ 0 ≤ (runes (s ++ 46 :: b)).2 := by rw [h]; dsimp only; omega
 have e := zgh (d := 46) (by decide) (runes s).1 (runes b).1
 refine ⟨?_, ?_⟩
 · rw [(zgt hn).1, (zgt hs).1, (zgt hb).1, h]
   dsimp only
   rw [e, zyq (by decide), List.map_append]
 · have o1 := z4j (z1m s)
   have o2 := z4j (z1m b)
   have o3 := z4j (z1m (s ++ 46 :: b))
   rw [z2f hn, z2f hs, z2f hb]
   dsimp only
   rw [z54 o1, z54 o2, z54 o3, h]
   dsimp only
   rw [e, List.flatMap_append, List.flatMap_cons]
   rfl
theorem y0cb (A B : List (List UInt8)) : z4c (A ++ B) = if z4c A ≠ 0 then z4c A else z4c B := by
 induction A with
 | nil => rfl
 | cons x A ih =>
   show (if (toA x).2 ≠ 0 then _ else z4c (A ++ B)) = if (if (toA x).2 ≠ 0 then _ else z4c A) ≠ 0 then (if (toA x).2 ≠ 0 then _ else z4c A) else _
   by_cases h : (toA x).2 ≠ 0
   · rw [if_pos h, if_pos h, if_pos h]
   · rw [if_neg h, if_neg h, ih]
theorem zbh {s : List UInt8} (h : (z2m s).2.2 = 0) : zbw s = 0 ∧ z4c (z3w s) = 0 ∧ (jA (z3w s)).length ≤ 253 ∧ z2m s = (jA (z3w s), jU (z3w s), 0) := by
 unfold z2m at h ⊢
 by_cases he : zbw s = 0
 · rw [if_neg (by simp [he])] at h ⊢
   unfold zic at h ⊢
   by_cases h1 : z4c (z3w s) = 0
   · rw [if_neg (by simp [h1])] at h ⊢
     by_cases h2 : 253 < (jA (z3w s)).length
     · rw [if_pos h2] at h; cases h
     · rw [if_neg h2]; exact ⟨he, h1, by omega, rfl⟩
   · rw [if_pos h1] at h; exact absurd h h1
 · rw [if_pos he] at h; exact absurd h he
theorem y0aq {s : List UInt8} (h : (z2m s).2.2 ≠ 0) : z2m s = ([], [], (z2m s).2.2) := by
 unfold z2m at h ⊢
 by_cases he : zbw s = 0
 · rw [if_neg (by simp [he])] at h ⊢
   unfold zic at h ⊢
   by_cases h1 : z4c (z3w s) = 0
   · rw [if_neg (by simp [h1])] at h ⊢
     by_cases h2 : 253 < (jA (z3w s)).length
     · rw [if_pos h2]
     · rw [if_neg h2] at h; exact absurd rfl h
   · rw [if_pos h1]
 · rw [if_pos he]
theorem y05q {s b : List UInt8} (hs : (z2m s).2.2 = 0) (hb : (z2m b).2.2 = 0) :
   (32 < (z3w s).length + (z3w b).length → (z2m (s ++ 46 :: b)).2.2 = 2) ∧
   ((z3w s).length + (z3w b).length ≤ 32 → 252 < (z2m s).1.length + (z2m b).1.length → (z2m (s ++ 46 :: b)).2.2 = 5) ∧
   ((z3w s).length + (z3w b).length ≤ 32 → (z2m s).1.length + (z2m b).1.length ≤ 252 → (z2m (s ++ 46 :: b)).1 = (z2m s).1 ++ 46 :: (z2m b).1 ∧ (z2m (s ++ 46 :: b)).2.2 = 0) := by
 obtain ⟨s1, s2, s3, s4⟩ := zbh hs
 obtain ⟨b1, b2, b3, b4⟩ := zbh hb
 obtain ⟨e1, e2⟩ := y0bc (zbx s1) (zbx b1)
 have ej : jA (z3w s ++ z3w b) = jA (z3w s) ++ 46 :: jA (z3w b) := by
   unfold jA
   rw [List.map_append, zxe _ _ (by simpa using zgu s) (by simpa using zgu b)]
 have es : z4c (z3w s ++ z3w b) = 0 := by rw [y0cb, s2, b2]; rfl
 have hne : (z16 (s ++ 46 :: b)).1 ≠ [] := by rw [e2]; simp
 have hok : (z16 (s ++ 46 :: b)).2 = true := by rw [e2]
 have key : zbw (s ++ 46 :: b) = if 32 < (z3w s).length + (z3w b).length then 2 else 0 := by
   have e3 : (z3w (s ++ 46 :: b)).length = (z3w s).length + (z3w b).length := by rw [e1, List.length_append]
   unfold zbw
   rw [if_neg (by simp [hok]), if_neg hne]
   rw [← e3]; rfl
 refine ⟨fun h => ?_, fun h h2 => ?_, fun h h2 => ?_⟩
 · rw [if_pos h] at key
   unfold z2m
   rw [if_pos (by rw [key]; decide), key]
 · rw [if_neg (by omega)] at key
   rw [s4, b4] at h2
   unfold z2m zic
   rw [if_neg (by simp [key]), e1, if_neg (by simp [es]), ej, if_pos (by rw [List.length_append, List.length_cons]; dsimp only at h2; omega)]
 · rw [if_neg (by omega)] at key
   rw [s4, b4] at h2 ⊢
   unfold z2m zic
   rw [if_neg (by simp [key]), e1, if_neg (by simp [es]), ej, if_neg (by rw [List.length_append, List.length_cons]; dsimp only at h2; omega)]
   exact ⟨rfl, rfl⟩
theorem dvF4 {P Q R S : Prop} (a : Q) (b : R) (c : S) (h : Mk P → Hid Q → Hid R → Hid S → P := by
 intro m q r s
 repeat' first | refine z07 (by first | assumption | (apply_assumption <;> first | assumption | omega)) ?_ ?_ | refine LSp.fit (by assumption) ?_ | simp (maxSteps := 4000000) (disch := omega) only [z13, z12, bun, ↓z05, ↓z01, z03, findLabel, ↓reduceIte, imp, shift, z0g, z0c, unown, names, z08, below, noF, isF, z04, z0a, z09, ren, z0t, z0u, z0h, renO, belowM, seval, -Int.reduceToNat, bT, z14, Int.reduceToNat, zb8, List.map_nil, List.nil_append, z6h, z4u, z39, *] | exact z0n _ | refine z0m _ _ ?_ | exact Cln.cl | refine z02 _ ?_ | refine z00 _ _ ?_ ?_ | refine z10 _ ?_ | (refine Fk.fk ?_ ?_ <;> intro hg <;> (try simp only [hg]) <;> (try simp only [z11] at hg) <;> try (exfalso; first | omega | exact Bool.noConfusion hg | exact hg trivial)) | refine And.intro (by omega) ?_ | omega
 first
 | done
 | all_goals (repeat revert hg)
   fail_if_success with_reducible refine m.use ?_
   exact q.out
   first
   | done
   | exact r.out
     first
     | done
     | exact s.out
       first | done | fail) : P := h ⟨tru⟩ ⟨a⟩ ⟨b⟩ ⟨c⟩
theorem zfz (s : List UInt8) : z0q Tryz.prog 4 [Sv s] (Bv true) := by
 refine sp [.tmp 2] Tryz.func4 Tryz.ntmps4 ?_
 by_cases hs : s.length ≤ 200
 · have ds := z1f (s := s) (by omega)
   have c1 := z4i s ds
   have c2 := zs4 s ds
   have c3 := zov s ds
   have c8 := z34 s s ds ds
   rw [show z5n s s = ((z2m s).2.2 == 0) by simp [z5n]] at c8
   by_cases hz : (z2m s).2.2 = 0
   · obtain ⟨a, u, e, da, du, ea, eu, hasc, hlen⟩ := y0ar ds hz
     have c4 := z4i u du
     have c5 := zs4 a da
     have h8a : eight a = -1 := z6l hasc
     have c6 := z23 a (by omega)
     have c7 := z23 s (by omega)
     have c9 := z34 s u ds du
     have c10 := z34 s a ds da
     have e9 : z5n s u = true := by unfold z5n; rw [e, eu]; simp
     have e10 : z5n s a = true := by unfold z5n; rw [e, ea]; simp
     have ba : (a == a) = true := by simp
     have bu : (u == u) = true := by simp
     have bs : (s == s) = true := by simp
     rw [h8a] at c6
     rw [e9] at c9
     rw [e10] at c10
     rw [eu] at c4
     rw [ea] at c5
     rw [e] at c1 c2 c8
     dsimp only at c1 c2 c4 c5 c8
     by_cases h8 : eight s < 0
     · have ed : zih s = (s, 0) := by unfold zih; rw [if_pos ⟨hz, h8⟩]
       rw [ed] at c3
       dsimp only at c3
       rw [← z0e] at c1 c2 c3 c4 c5 c8 c9 c10
       clear e ea eu hasc ds da du e9 e10 ed hz
       (have := z0p; have := z2t; have := c10; exact dvF4 tru tru tru)
     · have ed : zih s = (a, 0) := by unfold zih; rw [if_neg (fun h => h8 h.2), e]
       rw [ed] at c3
       dsimp only at c3
       rw [← z0e] at c1 c2 c3 c4 c5 c8 c9 c10
       clear e ea eu hasc ds da du e9 e10 ed hz
       (have := z0p; have := z2t; have := c10; exact dvF4 tru tru tru)
   · have e := y0aq hz
     have ed : zih s = ([], (z2m s).2.2) := by unfold zih; rw [if_neg (fun h => hz h.1)]; rw [e]
     rw [ed] at c3
     dsimp only at c3
     generalize (z2m s).2.2 = x at *
     rw [e] at c1 c2
     have hz' : (x == 0) = false := by simpa using hz
     have bx : (x == x) = true := by simp
     rw [hz'] at c8
     rw [← z0e] at c1 c2 c3 c8
     clear e ds ed
     (have := z0p; have := z2t; exact dvF4 tru tru tru)
 · (have := z0p; exact dvF4 tru tru tru)
theorem y0gs {P Q R S : Prop} (a : Q) (b : R) (c : S) (h : Mk P → Hid Q → Hid R → Hid S → P := by
 intro m q r s
 repeat' first | refine z07 (by first | assumption | (apply_assumption <;> first | assumption | omega)) ?_ ?_ | refine LSp.fit (by assumption) ?_ | simp (maxSteps := 4000000) (disch := omega) only [z13, z12, bun, ↓z05, ↓z01, z03, findLabel, ↓reduceIte, imp, shift, z0g, z0c, unown, names, z08, below, noF, isF, z04, z0a, z09, ren, z0t, z0u, z0h, renO, belowM, seval, -Int.reduceToNat, bT, z14, Int.reduceToNat, zb8, List.map_nil, List.nil_append, z6h, z4u, z39, *] | exact z0n _ | refine z0m _ _ ?_ | exact Cln.cl | refine z02 _ ?_ | refine z00 _ _ ?_ ?_ | refine z10 _ ?_ | (refine Fk.fk ?_ ?_ <;> intro hg <;> (try simp only [hg]) <;> (try simp only [z11] at hg) <;> try (exfalso; first | omega | exact Bool.noConfusion hg | exact hg trivial)) | refine And.intro (by omega) ?_ | omega
 first
 | done
 | all_goals (repeat revert hg)
   fail_if_success with_reducible refine m.use ?_
   exact q.out
   first
   | done
   | exact r.out
     first
     | done
     | exact s.out
       first | done | fail) : P := h ⟨tru⟩ ⟨a⟩ ⟨b⟩ ⟨c⟩
theorem zeo (s b : List UInt8) : z0q Tryz.prog 5 [Sv s, Sv b] (Bv true) := by
 refine sp [.tmp 4] Tryz.func5 Tryz.ntmps5 ?_
 by_cases hs : s.length ≤ 100
 · by_cases hb : b.length ≤ 100
   · have ds := z1f (s := s) (by omega)
     have db := z1f (s := b) (by omega)
     have c1 := z4i s ds
     have c2 := z4i b db
     have c3 := z4i (s ++ [46] ++ b) (z1f (by simp; omega))
     by_cases hz : (z2m s).2.2 = 0
     · by_cases hy : (z2m b).2.2 = 0
       · have hp := y05q hz hy
         rw [show s ++ 46 :: b = s ++ [46] ++ b by simp] at hp
         obtain ⟨s1, s2, s3, s4⟩ := zbh hz
         obtain ⟨b1, b2, b3, b4⟩ := zbh hy
         have c4 := z8i s (by omega) ds.run ds.fl s1
         have c5 := z8i b (by omega) db.run db.fl b1
         have l1 := (zby s1).2.2
         have l2 := (zby b1).2.2
         rw [s4] at c1 hp
         rw [b4] at c2 hp
         dsimp only at c1 c2 hp
         rw [← z0e] at c1 c2 c3 c4 c5
         generalize z3w s = L at *
         generalize z3w b = M at *
         generalize jA L = x at *
         generalize jA M = y at *
         generalize z2m (s ++ [46] ++ b) = z at *
         obtain ⟨z1, z2, z3⟩ := z
         dsimp only at c3 hp
         obtain ⟨p1, p2, p3⟩ := hp
         clear s4 b4 s1 b1 s2 b2 hz hy ds db
         by_cases h32 : 32 < L.length + M.length
         · have p1 := p1 h32
           subst p1
           clear p2 p3
           (have := z0p; have := z2t; exact y0gs tru tru tru)
         · by_cases h252 : 252 < x.length + y.length
           · have p2 := p2 (by omega) h252
             subst p2
             clear p1 p3
             (have := z0p; have := z2t; exact y0gs tru tru tru)
           · obtain ⟨q1, q2⟩ := p3 (by omega) (by omega)
             subst q1 q2
             clear p1 p2 p3
             have bz : (x ++ 46 :: y == x ++ 46 :: y) = true := by simp
             have bz2 : (x ++ 46 :: y == x ++ [46] ++ y) = true := by simp
             (have := z0p; have := z2t; exact y0gs tru tru tru)
       · generalize z2m s = x at *
         generalize z2m b = y at *
         generalize z2m (s ++ [46] ++ b) = z at *
         obtain ⟨x1, x2, x3⟩ := x
         obtain ⟨y1, y2, y3⟩ := y
         dsimp only at hz hy c1 c2
         subst hz
         have hy' : (y3 == 0) = false := by simpa using hy
         rw [← z0e] at c1 c2 c3
         (have := z0p; have := z2t; exact y0gs tru tru tru)
     · generalize z2m s = x at *
       generalize z2m b = y at *
       generalize z2m (s ++ [46] ++ b) = z at *
       obtain ⟨x1, x2, x3⟩ := x
       dsimp only at hz c1
       have hz' : (x3 == 0) = false := by simpa using hz
       rw [← z0e] at c1 c2 c3
       (have := z0p; have := z2t; exact y0gs tru tru tru)
   · (have := z0p; exact y0gs tru tru tru)
 · (have := z0p; exact y0gs tru tru tru)
end Go.AE
end
