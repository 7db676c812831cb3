/- A part of the abstract evaluator: no condition. -/
import Derived.Test.YtoppecphhiiiiaaGreatDoorAESound
set_option linter.unusedVariables false
set_option linter.unusedSimpArgs false
namespace Go.AE
section
variable {N : Nat} {C : bI} {P : Program} {V : dJ} {w0 w : World} {s : St} {G : Gh} {F : Nat → Prop} {a : Act}
theorem aH.v_inv {x v : Value} (h : aH w F G (.v x) v) : v = x := by cases h; rfl
theorem aH.ag_inv {cs : List AV} {v : Value} (h : aH w F G (.ag cs) v) : ∃ vs, v = .agg vs.toArray ∧ aF w F G cs vs := by cases h with | ag h => exact ⟨_, rfl, h⟩
theorem aH.tup_inv {cs : List AV} {v : Value} (h : aH w F G (.tup cs) v) : ∃ vs, v = .tuple vs.toArray ∧ aF w F G cs vs := by cases h with | tup h => exact ⟨_, rfl, h⟩
theorem aH.cp_inv {cs : List AV} {v : Value} (h : aH w F G (.cp cs) v) : ∃ b vs, v = .pointer (some b) ∧ F b.block ∧ gD w b vs ∧ aF w F [] cs vs := by
 cases h with | cp h1 h2 h3 => exact ⟨_, _, rfl, h1, h2, h3⟩
theorem aH.ptr_inv {id off : Nat} {v : Value} (h : aH w F G (.ptr id off) v) : ∃ L, G[id]? = some (some L) ∧ v = .pointer (some ⟨L.b, L.o + off, none⟩) := by
 cases h with | ptr h => exact ⟨_, h, rfl⟩
theorem aH.sl_inv {n : Nat} {cs : List AV} {v : Value} (h : aH w F G (.sl n cs) v) :
  (v = .slice none 0 0 ∧ n = 0 ∧ cs = []) ∨ ∃ b cap vs, v = .slice (some b) n cap ∧ F b.block ∧ n ≤ cap ∧ gD w b vs ∧ aF w F [] cs vs := by
 cases h with
 | sl0 => exact .inl ⟨rfl, rfl, rfl⟩
 | sl h1 h2 h3 h4 => exact .inr ⟨_, _, _, rfl, h1, h2, h3, h4⟩
theorem aH.ref_inv {id off n : Nat} {v : Value} (h : aH w F G (.ref id off n) v) :
  (G[id]? = some none ∧ v = .slice none 0 0 ∧ off = 0 ∧ n = 0) ∨ ∃ L off' cap, G[id]? = some (some L) ∧ v = .slice (some ⟨L.b, off', none⟩) n cap ∧ n ≤ cap ∧ (off = 0 → cap = L.cap) ∧ (n = 0 ∧ off ≠ 0 ∨ off' = L.o + off) := by
 cases h with
 | ref0 h => exact .inl ⟨h, rfl, rfl, rfl⟩
 | ref h1 h2 h3 => exact .inr ⟨_, _, _, h1, rfl, h3, h2, .inr rfl⟩
 | refe h1 h2 => exact .inr ⟨_, _, _, h1, rfl, Nat.zero_le _, fun e => absurd e h2, .inl ⟨rfl, h2⟩⟩
theorem OC : ∀ x y : List UInt8, kL x y = Op.bytesLess x y
 | _, [] => by cases ‹List UInt8› <;> simp [kL, Op.bytesLess]
 | [], _ :: _ => by simp [kL, Op.bytesLess]
 | a :: x, b :: y => by simp [kL, Op.bytesLess, OC x y]
theorem z95 (a b : ByteArray) : (⟨(a.data.toList ++ b.data.toList).toArray⟩ : ByteArray) = a ++ b := by
 apply ByteArray.ext
 simp
theorem zc9 {op : BinOp} {t : Nat} {a b : Nat} {K : Value → Prop} (h : fbin op a b K) (ox oy : Operand) (w : World) :
  ∃ r, K r ∧ (do eqGuard op t ox oy (.float .f64 a) (.float .f64 b); binOp op t (.float .f64 a) (.float .f64 b) : Sem Value).run P w = .ok r w := by
 unfold fbin at h
 split at h
 all_goals (first | exact h.elim | skip)
 ·unfold fout at h
  split at h
  ·rename_i r e
   refine ⟨_, h, ?_⟩
   unfold fadd at e
   simp [eqGuard, binOp, Op.floatArith, e]
  ·exact h.elim
 ·unfold fout at h
  split at h
  ·rename_i r e
   refine ⟨_, h, ?_⟩
   unfold fsub at e
   simp [eqGuard, binOp, Op.floatArith, e]
  ·exact h.elim
 all_goals (refine ⟨_, h, ?_⟩; simp [eqGuard, binOp, Op.floatCmp, ford])
theorem zaj {op : BinOp} {t : Nat} {a b c d : Nat} {K : Value → Prop} (h : cbin op a b c d K) (ox oy : Operand) (w : World) :
  ∃ r, K r ∧ (do eqGuard op t ox oy (.complex .f64 a b) (.complex .f64 c d); binOp op t (.complex .f64 a b) (.complex .f64 c d) : Sem Value).run P w = .ok r w := by
 unfold cbin at h
 split at h
 all_goals (first | exact h.elim | skip)
 ·unfold cout at h
  split at h
  ·rename_i r q e1 e2
   refine ⟨_, h, ?_⟩
   unfold fadd at e1 e2
   simp [eqGuard, binOp, Op.complexOp, Op.Complex.arith, Op.floatArith, e1, e2]
  ·exact h.elim
 all_goals (refine ⟨_, h, ?_⟩; simp [eqGuard, binOp, Op.complexOp, Op.Complex.cmp, Op.floatCmp, ford, asBool])
theorem za2 {op : BinOp} {t : Nat} {x y : Value} {K : Value → Prop} (h : bin op x y K) (ox oy : Operand) (w : World) :
  ∃ r, K r ∧ (do eqGuard op t ox oy x y; binOp op t x y : Sem Value).run P w = .ok r w := by
 unfold bin at h
 split at h
 all_goals (first | exact h.elim | skip)
 all_goals
  first
   | exact zc9 h ox oy w
   | exact zaj h ox oy w
   | (obtain ⟨rfl, h⟩ := h; refine ⟨_, h, ?_⟩; simp [eqGuard, binOp, Op.intArith, Op.intBits, Op.intCmp]; done)
   | (obtain ⟨rfl, h0, h⟩ := h; refine ⟨_, h, ?_⟩; simp [eqGuard, binOp, Op.intDiv, h0]; done)
   | (obtain ⟨h0, h⟩ := h; have h0' : ¬ (_ < (0:Int)) := Int.not_lt.mpr h0; refine ⟨_, h, ?_⟩; simp [eqGuard, binOp, Op.shift, h0']; done)
   | (refine ⟨_, h, ?_⟩; simp [eqGuard, binOp, Op.stringOp, ByteArray.toList_eq, OC]; done)
   | (obtain ⟨h0, h⟩ := h
      refine ⟨_, h, ?_⟩
      rename_i a b
      have h1 : ¬ (((a.size + b.size : Nat) : Int) > IntKind.i64.max) := by
       have : IntKind.i64.max = 9223372036854775807 := by decide
       rw [this]
       simp at h0
       have e1 : a.data.size = a.size := rfl
       have e2 : b.data.size = b.size := rfl
       omega
      simp only [eqGuard, binOp, Op.stringOp, Sem.run_bind]
      rw [if_neg h1, z95]
      rfl)
theorem zlb {op : UnOp} {x : Value} {K : Value → Prop} (h : un op x K) (w : World) : ∃ r, K r ∧ (Op.unary op x).run P w = .ok r w := by
 unfold un at h
 split at h
 all_goals first | exact h.elim | (refine ⟨_, h, ?_⟩; simp [Op.unary, Op.intArith]; done)
theorem OD : ∀ {cs : List AV} {l : List UInt8} {vs : List Value}, jJ cs = some l → aF w F G cs vs → ∃ ns : List Int, vs = ns.map (Value.int .u8) ∧ l = ns.map fun n => UInt8.ofNat n.toNat
 | [], l, vs, h, hr => by cases hr; simp [jJ] at h; subst h; exact ⟨[], rfl, rfl⟩
 | x :: cs, l, vs, h, hr => by
  cases hr with
  | cons hx hs =>
   unfold jJ at h
   split at h
   ·rename_i heq; simp at heq
   ·rename_i n cs' heq
    simp at heq
    obtain ⟨rfl, rfl⟩ := heq
    cases hx
    simp only [Option.map_eq_some_iff] at h
    obtain ⟨l', h1, rfl⟩ := h
    obtain ⟨ns, h2, h3⟩ := OD h1 hs
    exact ⟨n :: ns, by simp [h2], by simp [h3]⟩
   ·simp at h
end
end Go.AE
