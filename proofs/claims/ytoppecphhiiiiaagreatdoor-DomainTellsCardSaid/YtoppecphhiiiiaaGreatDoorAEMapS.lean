/- A part of the abstract evaluator: no condition. -/
import Derived.Test.YtoppecphhiiiiaaGreatDoorAEEffT
import Derived.Laws.StructEq
set_option linter.unusedVariables false
set_option linter.unusedSimpArgs false
namespace Go.AE
section
variable {N : Nat} {C : bI} {P : Program} {V : dJ} {w0 w w' : World} {s : St} {G : Gh} {F : Nat → Prop} {a : Act}
mutual
theorem z6 {w : World} {F : Nat → Prop} {G H : Gh} {x : AV} {v : Value} (hn : names x = false) (h : aH w F G x v) : aH w F H x v := by
 cases h with
 | v => exact .v _
 | junk => exact .junk _
 | un => exact .un
 | sl0 => exact .sl0
 | sl h1 h2 h3 h4 => exact .sl h1 h2 h3 h4
 | ref h1 h2 h3 => simp [names] at hn
 | refe h1 h2 => simp [names] at hn
 | ref0 h1 => simp [names] at hn
 | ptr h1 => simp [names] at hn
 | cp h1 h2 h3 => exact .cp h1 h2 h3
 | ag h1 => exact .ag (vS (by simpa [names] using hn) h1)
 | tup h1 => exact .tup (vS (by simpa [names] using hn) h1)
 | fn h1 h2 => simp [names] at hn; exact .fn (vS hn.1 h1) (vS hn.2 h2)
 | mp h1 h2 h3 => exact .mp h1 h2 h3
 | mr h1 => simp [names] at hn
theorem vS {w : World} {F : Nat → Prop} {G H : Gh} {xs : List AV} {vs : List Value} (hn : namess xs = false) (h : aF w F G xs vs) : aF w F H xs vs := by
 cases h with
 | nil => exact .nil
 | cons h1 h2 => simp [namess] at hn; exact .cons (z6 hn.1 h1) (vS hn.2 h2)
end
theorem qX {d : TypeDesc} {x y : Value} (hx : iJ d x = true) (hy : iJ d y = true) :
  (∃ k p q, d = .int k ∧ x = .int k p ∧ y = .int k q) ∨ (∃ p q, d = .bool ∧ x = .bool p ∧ y = .bool q) ∨ (∃ p q, d = .string ∧ x = .string p ∧ y = .string q) := by
 unfold iJ at hx
 split at hx
 ·rename_i k k' p
  simp at hx; subst hx
  unfold iJ at hy
  split at hy
  ·rename_i e; simp at e hy; subst e; subst hy; exact .inl ⟨_, _, _, rfl, rfl, rfl⟩
  ·rename_i e; simp at e
  ·rename_i e; simp at e
  ·simp at hy
 ·unfold iJ at hy
  split at hy
  ·rename_i e; simp at e
  ·exact .inr (.inl ⟨_, _, rfl, rfl, rfl⟩)
  ·rename_i e; simp at e
  ·simp at hy
 ·unfold iJ at hy
  split at hy
  ·rename_i e; simp at e
  ·rename_i e; simp at e
  ·exact .inr (.inr ⟨_, _, rfl, rfl, rfl⟩)
  ·simp at hy
 ·simp at hx
theorem EZ (p q : ByteArray) : (p == q) = (p.data.toList == q.data.toList) := by
 rw [beq_toListBytes, ByteArray.toList_eq, ByteArray.toList_eq]
theorem QN {t : Nat} {d : TypeDesc} (hu : P.underlying t = some d) {x y : Value} (hx : iJ d x = true) (hy : iJ d y = true) (n : Nat) : (Op.equalIn (n + 1) t x y).run P w = .ok (gL x y) w := by
 rcases qX hx hy with ⟨k, p, q, rfl, rfl, rfl⟩ | ⟨p, q, rfl, rfl, rfl⟩ | ⟨p, q, rfl, rfl, rfl⟩
 ·simp [Op.equalIn, run_underlying hu, gL]
 ·simp [Op.equalIn, run_underlying hu, gL]
 ·simp [Op.equalIn, run_underlying hu, gL, EZ]
theorem DL (hC : C.Ok P) {t : Nat} {d : TypeDesc} (hd : C.td t = some d) {v : Value} (hv : iJ d v = true) {xs : Array Value} {k : Nat} (hx : xs[k]? = some v) : (part t xs k).run P w = .ok v w := by
 have hu := hC.u hd
 have : (isAgg t).run P w = .ok false w := by
  simp only [isAgg, Sem.run_bind, run_underlying hu, Result.andThen_ok]
  rcases qX hv hv with ⟨k, p, q, rfl, _, _⟩ | ⟨p, q, rfl, _, _⟩ | ⟨p, q, rfl, _, _⟩ <;> rfl
 simp [part, this, hx]
theorem QI (hC : C.Ok P) (n : Nat) (xs ys : Array Value) : ∀ (fs : List Field) (k : Nat) (vs us : List Value), iI C fs k vs = true → iI C fs k us = true → xs.toList.drop k = vs → ys.toList.drop k = us →
  (Op.eqFields (n + 1) xs ys fs).run P w = .ok (eqs vs us) w
 | [], k, vs, us, hv, hu, _, _ => by
  cases vs <;> cases us <;> simp [iI] at hv hu
  simp [Op.eqFields, eqs]
 | f :: fs, k, vs, us, hv, hu, ex, ey => by
  cases vs with
  | nil => simp [iI] at hv
  | cons v vs =>
   cases us with
   | nil => simp [iI] at hu
   | cons u us =>
    simp only [iI, Bool.and_eq_true, beq_iff_eq, bne_iff_ne, ne_eq] at hv hu
    obtain ⟨⟨⟨h1, h2⟩, h3⟩, h4⟩ := hv
    obtain ⟨⟨_, h5⟩, h6⟩ := hu
    cases htd : C.td f.type with
    | none => rw [htd] at h3; simp at h3
    | some d =>
     rw [htd] at h3 h5
     simp only at h3 h5
     have gx : xs[k]? = some v := by
      have := congrArg (fun l => l[0]?) ex
      simpa using this
     have gy : ys[k]? = some u := by
      have := congrArg (fun l => l[0]?) ey
      simpa using this
     have ex' : xs.toList.drop (k + 1) = vs := by
      have := congrArg (List.drop 1) ex
      simpa [List.drop_drop] using this
     have ey' : ys.toList.drop (k + 1) = us := by
      have := congrArg (List.drop 1) ey
      simpa [List.drop_drop] using this
     have ih := QI hC n xs ys fs (k + 1) vs us h4 h6 ex' ey'
     simp only [Op.eqFields, h2, ne_eq, not_false_eq_true, if_true, Sem.run_bind, h1, DL hC htd h3 gx, DL hC htd h5 gy, Result.andThen_ok, QN (hC.u htd) h3 h5, eqs]
     cases gL v u <;> simp [ih]
theorem pG {t : Nat} {x : Value} (h : cC C t x = true) : (∃ d, C.td t = some d ∧ iJ d x = true) ∨ (∃ vs fs, x = .agg vs ∧ C.td t = some (.struct fs) ∧ t ∈ C.flat ∧ iI C fs.toList 0 vs.toList = true) := by
 unfold cC at h
 split at h
 ·rename_i vs
  split at h
  ·rename_i fs ht
   simp only [Bool.and_eq_true] at h
   exact .inr ⟨vs, fs, rfl, ht, by simpa using h.1, h.2⟩
  ·simp at h
 ·split at h
  ·rename_i d ht; exact .inl ⟨d, ht, h⟩
  ·simp at h
theorem RI {t : Nat} {fs : Array Field} (hu : P.underlying t = some (.struct fs)) : P.fieldsOf t = fs := by simp [Program.fieldsOf, hu]
theorem zf2 {d : TypeDesc} {vs : Array Value} : iJ d (.agg vs) = false := by cases d <;> rfl
theorem vI {fs : Array Field} {v : Value} : iJ (.struct fs) v = false := by cases v <;> rfl
theorem QO (hC : C.Ok P) {t : Nat} {x y : Value} (hx : cC C t x = true) (hy : cC C t y = true) : (Op.equal t x y).run P w = .ok (gM x y) w := by
 show (Op.equalIn (9999 + 1) t x y).run P w = _
 rcases pG hx with ⟨d, hd, h1⟩ | ⟨vs, fs, rfl, hd, hm, h1⟩ <;> rcases pG hy with ⟨d', hd', h2⟩ | ⟨us, fs', rfl, hd', hm', h2⟩
 ·rw [hd] at hd'; simp at hd'; subst hd'
  rw [QN (hC.u hd) h1 h2]
  rcases qX h1 h2 with ⟨k, p, q, rfl, rfl, rfl⟩ | ⟨p, q, rfl, rfl, rfl⟩ | ⟨p, q, rfl, rfl, rfl⟩ <;> rfl
 ·rw [hd] at hd'; simp at hd'; subst hd'; rw [vI] at h1; simp at h1
 ·rw [hd] at hd'; simp at hd'; subst hd'; rw [vI] at h2; simp at h2
 ·rw [hd] at hd'; simp at hd'; subst hd'
  have hu := hC.u hd
  rw [run_equalIn_struct w 9999 t vs us (by rw [RI hu]; exact hu) (hC.flat t hm).1, RI hu]
  exact QI hC 9998 vs us fs.toList 0 _ _ h1 h2 (by simp) (by simp)
theorem p9 (hC : C.Ok P) {t : Nat} {x : Value} (hx : cC C t x = true) (em : Bool) : (Instr.checkKey em 10000 t x).run P w = .ok () w := by
 have one : ∀ {n t d v}, C.td t = some d → iJ d v = true → (Instr.checkKey em (n + 1) t v).run P w = .ok () w := by
  intro n t d v hd h1
  have hu := hC.u hd
  rcases qX h1 h1 with ⟨k, p, q, rfl, rfl, _⟩ | ⟨p, q, rfl, rfl, _⟩ | ⟨p, q, rfl, rfl, _⟩ <;> simp [Instr.checkKey, run_underlying hu]
 rcases pG hx with ⟨d, hd, h1⟩ | ⟨vs, fs, rfl, hd, hm, h1⟩
 ·exact one hd h1
 ·have hu := hC.u hd
  have big : ∀ n, (Instr.checkKey em (n + 1 + 1) t (.agg vs)).run P w = .ok () w := by
   intro n
   unfold Instr.checkKey
   simp only [Sem.run_bind, run_underlying hu, Result.andThen_ok]
   rw [← Array.forIn_toList]
   have : ∀ (l : List Field) (k : Nat) (us : List Value), iI C l k us = true → vs.toList.drop k = us →
     (forIn l PUnit.unit fun f _ => if f.name ≠ "_" then do Instr.checkKey em (n + 1) f.type (← part f.type vs f.offset); pure (ForInStep.yield PUnit.unit) else pure (ForInStep.yield PUnit.unit) : Sem PUnit).run P w = .ok () w := by
    intro l
    induction l with
    | nil => intro k us _ _; simp
    | cons f l ih =>
     intro k us hu hd
     cases us with
     | nil => simp [iI] at hu
     | cons u us =>
      simp only [iI, Bool.and_eq_true, beq_iff_eq, bne_iff_ne, ne_eq] at hu
      obtain ⟨⟨⟨h1, h2⟩, h3⟩, h4⟩ := hu
      cases htd : C.td f.type with
      | none => rw [htd] at h3; simp at h3
      | some d =>
       rw [htd] at h3
       simp only at h3
       have gx : vs[k]? = some u := by
        have := congrArg (fun l => l[0]?) hd
        simpa using this
       have ex' : vs.toList.drop (k + 1) = us := by
        have := congrArg (List.drop 1) hd
        simpa [List.drop_drop] using this
       simp only [List.forIn_cons, h2, ne_eq, not_false_eq_true, if_true, Sem.run_bind, h1, DL hC htd h3 gx, Result.andThen_ok, one (n := n) htd h3, Sem.run_pure]
       exact ih (k + 1) us h4 ex'
   rw [this fs.toList 0 _ h1 (by simp)]; rfl
  exact big 9998
def qI (k : Value) (ents : List MapEntry) (i : Nat) (r : Option (Nat × Value)) : Prop :=
 (r = none ∧ ∀ e ∈ ents, gM k e.key = false) ∨ ∃ pre e post, ents = pre ++ e :: post ∧ r = some (i + pre.length, e.val) ∧ gM k e.key = true ∧ ∀ e' ∈ pre, gM k e'.key = false
theorem C5 (hC : C.Ok P) {t : Nat} {k : Value} (hk : cC C t k = true) (ents : List MapEntry) (hes : ∀ e ∈ ents, cC C t e.key = true) : ∃ r, (Instr.findKey t k ents).run P w = .ok r w ∧ qI k ents 0 r := by
 have step : ∀ {e : MapEntry} {es : List MapEntry} {i : Nat} {r}, gM k e.key = false → qI k es (i + 1) r → qI k (e :: es) i r := by
  rintro e es i r h0 (⟨rfl, h⟩ | ⟨pre, x, post, rfl, rfl, h1, h2⟩)
  ·exact .inl ⟨rfl, fun y hy => by rcases List.mem_cons.1 hy with rfl | hy; exact h0; exact h y hy⟩
  ·refine .inr ⟨e :: pre, x, post, rfl, ?_, h1, fun y hy => by rcases List.mem_cons.1 hy with rfl | hy; exact h0; exact h2 y hy⟩
   simp; omega
 rcases pG hk with ⟨d, hd, h1⟩ | ⟨vs, fs, rfl, hd, hm, h1⟩
 ·have now : ∀ (es : List MapEntry) (i : Nat), (∀ e ∈ es, cC C t e.key = true) → ∃ r, Instr.findNow d k es i = some r ∧ qI k es i r := by
   intro es
   induction es with
   | nil => intro i _; exact ⟨none, rfl, .inl ⟨rfl, by simp⟩⟩
   | cons e es ih =>
    intro i hes
    have hs : Instr.sameNow d k e.key = some (gM k e.key) := by
     have h2 : iJ d e.key = true := by
      rcases pG (hes e (by simp)) with ⟨d', hd', h2⟩ | ⟨_, _, _, hd', _, _⟩
      ·rw [hd] at hd'; simp at hd'; subst hd'; exact h2
      ·rw [hd] at hd'; simp at hd'; subst hd'; rw [vI] at h1; simp at h1
     rcases qX h1 h2 with ⟨q, a, b, rfl, h3, h4⟩ | ⟨a, b, rfl, h3, h4⟩ | ⟨a, b, rfl, h3, h4⟩ <;> rw [h3, h4] <;> simp [Instr.sameNow, gM, gL, EZ]
    simp only [Instr.findNow, hs]
    cases he : gM k e.key with
    | true => exact ⟨_, rfl, .inr ⟨[], e, es, rfl, rfl, he, by simp⟩⟩
    | false =>
     obtain ⟨r, h2, h3⟩ := ih (i + 1) (fun y hy => hes y (by simp [hy]))
     exact ⟨r, h2, step he h3⟩
  obtain ⟨r, h2, h3⟩ := now ents 0 hes
  exact ⟨r, by simp only [Instr.findKey, Sem.run_bind, run_underlying (hC.u hd), Result.andThen_ok, h2, Sem.run_pure], h3⟩
 ·have ask : ∀ (es : List MapEntry) (i : Nat), (∀ e ∈ es, cC C t e.key = true) → ∃ r, (Instr.findAsking t (.agg vs) es i).run P w = .ok r w ∧ qI (.agg vs) es i r := by
   intro es
   induction es with
   | nil => intro i _; exact ⟨none, by simp [Instr.findAsking], .inl ⟨rfl, by simp⟩⟩
   | cons e es ih =>
    intro i hes
    have hq := QO (w := w) hC hk (hes e (by simp))
    simp only [Instr.findAsking, Sem.run_bind, hq, Result.andThen_ok]
    cases he : gM (.agg vs) e.key with
    | true => exact ⟨_, rfl, .inr ⟨[], e, es, rfl, rfl, he, by simp⟩⟩
    | false =>
     obtain ⟨r, h2, h3⟩ := ih (i + 1) (fun y hy => hes y (by simp [hy]))
     exact ⟨r, by simpa using h2, step he h3⟩
  obtain ⟨r, h2, h3⟩ := ask ents 0 hes
  cases ents with
  | nil =>
   have : Instr.findNow (.struct fs) (.agg vs) [] 0 = some none := rfl
   refine ⟨none, by simp only [Instr.findKey, Sem.run_bind, run_underlying (hC.u hd), Result.andThen_ok, this, Sem.run_pure], .inl ⟨rfl, by simp⟩⟩
  | cons e es =>
   have : Instr.findNow (.struct fs) (.agg vs) (e :: es) 0 = none := rfl
   exact ⟨r, by simp only [Instr.findKey, Sem.run_bind, run_underlying (hC.u hd), Result.andThen_ok, this]; exact h2, h3⟩
theorem eU.keys {es : List (Value × AV)} {ents : List MapEntry} (h : eU w F es ents) {Q : Value → Prop} (hk : ∀ e ∈ es, Q e.1) : ∀ e ∈ ents, Q e.key := by
 induction es generalizing ents with
 | nil => cases h; simp
 | cons p es ih => cases h with
  | cons h1 h2 h3 =>
   intro e he
   rcases List.mem_cons.1 he with e0 | he
   ·rw [e0, h1]; exact hk _ (List.mem_cons_self ..)
   ·exact ih h3 (fun y hy => hk y (by simp [hy])) e he
theorem eU.found {es : List (Value × AV)} {ents : List MapEntry} (h : eU w F es ents) {k : Value} {i : Nat} {r : Option (Nat × Value)} (hf : qI k ents i r) :
  (r = none ∧ mget k es = none) ∨ ∃ j v x, r = some (j, v) ∧ mget k es = some x ∧ aH w F [] x v := by
 induction es generalizing ents i r with
 | nil => cases h; rcases hf with ⟨rfl, _⟩ | ⟨pre, e, post, he, _⟩; exact .inl ⟨rfl, rfl⟩; simp at he
 | cons p es ih =>
  cases h with
  | @cons k' x _ e' ents h1 h2 h3 =>
   rcases hf with ⟨rfl, hn⟩ | ⟨pre, e, post, he, hr, hq, hp⟩
   ·have hk := hn e' (by simp)
    rw [h1] at hk
    rcases ih h3 (i := i) (.inl ⟨rfl, fun y hy => hn y (by simp [hy])⟩) with ⟨_, h4⟩ | ⟨_, _, _, h4, _⟩
    ·left; exact ⟨rfl, by simp [mget, hk, h4]⟩
    ·simp at h4
   ·cases pre with
    | nil =>
     simp at he; obtain ⟨rfl, rfl⟩ := he
     right
     refine ⟨_, _, x, hr, ?_, h2⟩
     rw [h1] at hq
     simp [mget, hq]
    | cons q pre =>
     simp at he; obtain ⟨rfl, rfl⟩ := he
     have hk := hp e' (by simp)
     rw [h1] at hk
     rcases ih h3 (i := i + 1) (r := some (i + 1 + pre.length, e.val)) (.inr ⟨pre, e, post, rfl, rfl, hq, fun y hy => hp y (by simp [hy])⟩) with ⟨h4, _⟩ | ⟨j, v, y, h4, h5, h6⟩
     ·simp at h4
     ·right
      refine ⟨_, _, y, hr, by simp [mget, hk, h5], ?_⟩
      simp only [Option.some.injEq, Prod.mk.injEq] at h4
      rw [h4.2]; exact h6
mutual
theorem DP {x : AV} {k v : Value} (h : gQ x = some k) (hx : aH w F G x v) : v = k := by
 cases hx with
 | v => simpa [gQ] using h
 | ag hs =>
  simp only [gQ] at h
  split at h
  ·rename_i l hl
   have := zQ hl hs
   subst this
   simpa using h
  ·simp at h
 | _ => simp [gQ] at h
theorem zQ {xs : List AV} {l vs : List Value} (h : fO xs = some l) (hx : aF w F G xs vs) : vs = l := by
 cases hx with
 | nil => simp [fO] at h; exact h.symm ▸ rfl
 | cons h1 h2 =>
  simp only [fO] at h
  split at h
  ·rename_i v hv
   split at h
   ·rename_i m hm
    have e1 := DP hv h1
    have e2 := zQ hm h2
    subst e1; subst e2
    simpa using h
   ·simp at h
  ·simp at h
end
theorem zgq (h : aE P N V w0 s G F a w) {x : AV} {v : Value} (hx : aH w F G x v) {es : List (Value × AV)} (hm : iV s x = some es) :
  (v = .map none ∧ es = []) ∨ ∃ r ents clock, v = .map (some r) ∧ w.heap[r]? = some (.map ents clock) ∧ eU w F es ents.toList := by
 cases hx with
 | mp h1 h2 h3 => simp [iV] at hm; subst hm; exact .inr ⟨_, _, _, rfl, h2, h3⟩
 | mr hg =>
  rename_i id L
  simp only [iV] at hm
  split at hm
  ·rename_i es' ho
   simp at hm; subst hm
   have := h.ob id _ hg
   rw [ho] at this
   obtain ⟨L', ents, clock, e, h1, h2, _⟩ := this
   simp at e; subst e
   exact .inr ⟨_, _, _, rfl, h1, h2⟩
  ·simp at hm
 | v x =>
  unfold iV at hm
  split at hm
  ·rename_i e; simp at e
  ·rename_i e; simp at e
  ·rename_i e; simp at e hm; subst e; subst hm; exact .inl ⟨rfl, rfl⟩
  ·simp at hm
 | _ => simp [iV] at hm
theorem AT (v : Value) : aH w F G (qH v) v := by
 unfold qH
 split
 ·rename_i cs
  have hc : ∀ l : List Value, aF w F G (l.map .v) l := fun l => by
   induction l with
   | nil => exact .nil
   | cons x l ih => exact .cons (.v x) ih
  have := aH.ag (hc cs.toList)
  simpa using this
 ·exact .v _
theorem zg6 (hC : C.Ok P) (h : aE P N V w0 s G F a w) {t : Nat} {x k : Operand} {ok : Bool} {K : AV → Prop} (hp : jN C (C.td t) (iV s (ev s x)) (gQ (ev s k)) ok K) :
  ∃ y v, K y ∧ aH w F G y v ∧ (Instr.lookup t (a.eval x) (a.eval k) ok).run P w = .ok v w := by
 unfold jN at hp
 split at hp
 ·rename_i kt e es key ht hm hk
  split at hp
  ·rename_i ie hie
   obtain ⟨h1, h2, h3⟩ := hp
   have hkv := DP hk (h.ev k)
   have hu := hC.u ht
   have hz := wZ hC hie w
   rcases zgq h (h.ev x) hm with ⟨hv, rfl⟩ | ⟨r, ents, clock, hv, hb, hr⟩
   ·obtain ⟨r, f1, f2⟩ := C5 (w := w) hC h1 [] (by simp)
    have : r = none := by rcases f2 with ⟨h, _⟩ | ⟨pre, _, _, h, _⟩; exact h; simp at h
    subst this
    simp only [mget, MG] at h3
    cases ok with
    | true =>
     refine ⟨_, .tuple #[ie.zero, .bool false], h3, .tup (vs := [_, _]) (.cons (AT _) (.cons (.v _) .nil)), ?_⟩
     simp [Instr.lookup, run_underlying hu, hv, hkv, p9 hC h1, f1, hz]
    | false =>
     refine ⟨_, ie.zero, h3, AT _, ?_⟩
     simp [Instr.lookup, run_underlying hu, hv, hkv, p9 hC h1, f1, hz]
   ·obtain ⟨r', f1, f2⟩ := C5 (w := w) hC h1 ents.toList (hr.keys (Q := fun v => cC C kt v = true) h2)
    have hg : (getObj r).run P w = .ok (.map ents clock) w := by simp [getObj, Sem.run, hb]
    rcases hr.found f2 with ⟨rfl, h5⟩ | ⟨j, v, y, rfl, h5, h6⟩
    ·rw [h5] at h3
     simp only [MG] at h3
     cases ok with
     | true =>
      refine ⟨_, .tuple #[ie.zero, .bool false], h3, .tup (vs := [_, _]) (.cons (AT _) (.cons (.v _) .nil)), ?_⟩
      simp [Instr.lookup, run_underlying hu, hv, hkv, p9 hC h1, f1, hz, hg]
     | false =>
      refine ⟨_, ie.zero, h3, AT _, ?_⟩
      simp [Instr.lookup, run_underlying hu, hv, hkv, p9 hC h1, f1, hz, hg]
    ·rw [h5] at h3
     simp only [MG] at h3
     have h7 := aH.mono (F' := F) (w' := w) ⟨fun _ h => h, fun _ _ => rfl⟩ (bS.nil G) h6
     cases ok with
     | true =>
      refine ⟨_, .tuple #[v, .bool true], h3, .tup (vs := [_, _]) (.cons h7 (.cons (.v _) .nil)), ?_⟩
      simp [Instr.lookup, run_underlying hu, hv, hkv, p9 hC h1, f1, hg]
     | false =>
      refine ⟨_, v, h3, h7, ?_⟩
      simp [Instr.lookup, run_underlying hu, hv, hkv, p9 hC h1, f1, hg]
  ·exact hp.elim
 ·exact hp.elim
end
end Go.AE
