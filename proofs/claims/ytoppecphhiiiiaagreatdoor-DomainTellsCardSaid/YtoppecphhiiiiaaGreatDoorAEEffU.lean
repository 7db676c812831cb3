/- A part of the abstract evaluator: no condition. -/
import Derived.Test.YtoppecphhiiiiaaGreatDoorAEMapT
set_option linter.unusedVariables false
set_option linter.unusedSimpArgs false
namespace Go.AE
section
variable {N : Nat} {C : bI} {P : Program} {V : dJ} {w0 w w' : World} {s : St} {G : Gh} {F : Nat → Prop} {a : Act}
theorem D4 (h : aE P N V w0 s G F a w) (sz : Nat) : ∀ (l : List (Nat × Operand)) (i : Nat) (K : List AV → Prop), j3 sz i (l.map fun p => (p.1, ev s p.2)) K →
  ∃ cs, K cs ∧ aF w F [] cs ((l.map fun p => (p.1, a.eval p.2)).flatMap fun p => p.2.cells.toList) ∧ (∀ u ∈ (l.map fun p => (p.1, a.eval p.2)).flatMap fun p => p.2.cells.toList, u.oneCell' = true) ∧
   (∀ k p, (l.map fun p => (p.1, a.eval p.2))[k]? = some p → p.1 = i + k ∧ p.2.cells.size = sz) ∧ cs.length = l.length * sz
 | [], i, K, hk => ⟨[], hk, .nil, by simp, by simp, by simp⟩
 | (j, x) :: l, i, K, hk => by
  simp only [List.map_cons, j3] at hk
  obtain ⟨rfl, h1, h2, h3⟩ := hk
  obtain ⟨cs, k1, k2, k3, k4, k5⟩ := D4 h sz l (j + 1) _ h3
  obtain ⟨h4, h5⟩ := (h.ev x).cells' h2
  refine ⟨_, k1, ?_, ?_, ?_, ?_⟩
  ·simp only [List.map_cons, List.flatMap_cons]
   exact h4.append k2
  ·intro u hu
   simp only [List.map_cons, List.flatMap_cons] at hu
   rcases List.mem_append.1 hu with hu | hu
   ·exact h5 u hu
   ·exact k3 u hu
  ·intro k p hp
   cases k with
   | zero =>
    simp at hp; subst hp
    refine ⟨rfl, ?_⟩
    have := h4.length
    simp at this
    show (a.eval x).cells.size = sz
    omega
   | succ k =>
    have := k4 k p (by simpa using hp)
    exact ⟨by omega, this.2⟩
  ·simp only [List.length_append, List.length_cons, h1, k5, Nat.add_mul]
   omega
theorem VA (hC : C.Ok P) {o : Oper} {t e len : Nat} {i : TI} {parts : Array (Nat × Operand)} (ho : o.op = .buildSlice t len parts)
  (ht : C.td t = some (.slice e)) (hi : C.ti e = some i) (hl : parts.toList.length = len) (hsz : 0 < i.size) (hmax : len * i.size ≤ 16777216)
  (k4 : ∀ k p, (parts.toList.map fun p => (p.1, a.eval p.2))[k]? = some p → p.1 = 0 + k ∧ p.2.cells.size = i.size) {vs : List Value}
  (hvs : vs = (parts.toList.map fun p => (p.1, a.eval p.2)).flatMap fun p => p.2.cells.toList) (hvl : vs.length = len * i.size) :
  (execOp a.eval o).run P w = .ok (.value (.slice (some ⟨w.heap.size, 0, none⟩) len len)) (w.alloc (.cells vs.toArray e)) := by
 have hm : ¬ (2 ^ 24 < len * i.size) := by omega
 simp only [execOp, ho, Instr.buildSlice, Sem.run_bind, run_underlying (hC.u ht), Result.andThen_ok, iM hC hi]
 have hmap : (parts.map fun p => (p.1, a.eval p.2)).toList = parts.toList.map fun p => (p.1, a.eval p.2) := by simp
 by_cases h0 : len * i.size = 0
 ·have : len = 0 := by rcases Nat.mul_eq_zero.1 h0 with h0 | h0; exact h0; omega
  subst this
  have hpl : parts.toList = [] := List.eq_nil_of_length_eq_zero hl
  have hpa : parts = #[] := by cases parts; simp at hpl; simp [hpl]
  subst hpa
  simp at hvs
  subst hvs
  have hr0 : Array.range 0 = (#[] : Array Nat) := by decide
  simp [Instr.fill, newRow, hr0]
 ·simp only [gt_iff_lt, hm, if_false, Sem.run_pure, Result.andThen_ok, h0, Sem.run_bind, wZ hC hi]
  rw [hmap, C4 i.size _ 0 [] _ k4 (by simp) (by simp [hl]), ← hvs]
  simp [newRow]
theorem zac (hC : C.Ok P) (h : aE P N V w0 s G F a w) {o : Oper} (hd : cV N o.dst = true) {K : St → Prop} {t e len : Nat} {i : TI} {parts : Array (Nat × Operand)} (ho : o.op = .buildSlice t len parts)
  (ht : C.td t = some (.slice e)) (hi : C.ti e = some i) (hl : parts.toList.length = len) (hsz : 0 < i.size) (hmax : len * i.size ≤ 16777216)
  (hk : j3 i.size 0 (parts.toList.map fun p => (p.1, ev s p.2)) (klit s o.dst len e i.size K)) : dO N V w0 P o K a w F := by
 obtain ⟨cs, k1, k2, k3, k4, k5⟩ := D4 h i.size parts.toList 0 _ hk
 obtain ⟨vs, hvs⟩ : ∃ vs, vs = (parts.toList.map fun p => (p.1, a.eval p.2)).flatMap fun p => p.2.cells.toList := ⟨_, rfl⟩
 rw [← hvs] at k2 k3
 have hvl : vs.length = len * i.size := by rw [← k2.length, k5, hl]
 obtain ⟨_, j, hj, hjs, _, hz, _⟩ := hC.ty e i hi
 have hw : d7 w (w.alloc (.cells vs.toArray e)) := .alloc _ _
 have hrun : (execOp a.eval o).run P w = .ok (.value (.slice (some ⟨w.heap.size, 0, none⟩) len len)) (w.alloc (.cells vs.toArray e)) := by
  have hm : ¬ (2 ^ 24 < len * i.size) := by omega
  simp only [execOp, ho, Instr.buildSlice, Sem.run_bind, run_underlying (hC.u ht), Result.andThen_ok, iM hC hi]
  have hmap : (parts.map fun p => (p.1, a.eval p.2)).toList = parts.toList.map fun p => (p.1, a.eval p.2) := by simp
  by_cases h0 : len * i.size = 0
  ·have : len = 0 := by rcases Nat.mul_eq_zero.1 h0 with h0 | h0; exact h0; omega
   subst this
   have hpl : parts.toList = [] := List.eq_nil_of_length_eq_zero hl
   have hpa : parts = #[] := by cases parts; simp at hpl; simp [hpl]
   subst hpa
   simp at hvs
   subst hvs
   have hr0 : Array.range 0 = (#[] : Array Nat) := by decide
   simp [Instr.fill, newRow, hr0]
  ·simp only [gt_iff_lt, hm, if_false, Sem.run_pure, Result.andThen_ok, h0, Sem.run_bind, wZ hC hi]
   rw [hmap, C4 i.size _ 0 [] _ k4 (by simp) (by simp [hl]), ← hvs]
   simp [newRow]
 refine lK (g := some ⟨w.heap.size, 0, len⟩) h hd k1 hw ?_ ?_ ?_ hrun
 ·refine ⟨len, vs, ⟨hvl, .inr ⟨w.heap.size, len, vs.toArray, rfl, Nat.zero_le _, pL _ _, Nat.le_refl _, ?_, by simp [hvl], ?_⟩⟩, aF.mono (h.same hw) (bS.refl _) k2, k3, hsz, by simp⟩
  ·have : len ≤ len * i.size := Nat.le_mul_of_pos_right _ hsz
   unfold maxLen; omega
  ·rw [List.take_of_length_le (by simp [hvl])]
 ·rintro L hL; simp at hL; subst hL; exact ⟨Nat.le_refl _, by simp⟩
 ·exact .ref (off := 0) (gnew _ _ h) (fun _ => rfl) (Nat.le_refl _)
theorem V8 (h : aE P N V w0 s G F a w) (sz : Nat) : ∀ (l : List (Nat × Operand)) (i : Nat) (K : List AV → Prop), oD sz i (l.map fun p => (p.1, ev s p.2)) K →
  ∃ cs, K cs ∧ aF w F G cs ((l.map fun p => (p.1, a.eval p.2)).flatMap fun p => p.2.cells.toList) ∧ (∀ u ∈ (l.map fun p => (p.1, a.eval p.2)).flatMap fun p => p.2.cells.toList, u.oneCell' = true) ∧
   (∀ k p, (l.map fun p => (p.1, a.eval p.2))[k]? = some p → p.1 = i + k ∧ p.2.cells.size = sz) ∧ cs.length = l.length * sz
 | [], i, K, hk => ⟨[], hk, .nil, by simp, by simp, by simp⟩
 | (j, x) :: l, i, K, hk => by
  simp only [List.map_cons, oD] at hk
  obtain ⟨rfl, h1, h2, h3⟩ := hk
  obtain ⟨cs, k1, k2, k3, k4, k5⟩ := V8 h sz l (j + 1) _ h3
  have h4 := (h.ev x).cells h2
  have h5 : ∀ u ∈ (a.eval x).cells.toList, u.oneCell' = true := h4.ones h2
  refine ⟨_, k1, ?_, ?_, ?_, ?_⟩
  ·simp only [List.map_cons, List.flatMap_cons]
   exact h4.append k2
  ·intro u hu
   simp only [List.map_cons, List.flatMap_cons] at hu
   rcases List.mem_append.1 hu with hu | hu
   ·exact h5 u hu
   ·exact k3 u hu
  ·intro k p hp
   cases k with
   | zero =>
    simp at hp; subst hp
    refine ⟨rfl, ?_⟩
    have := h4.length
    simp at this
    show (a.eval x).cells.size = sz
    omega
   | succ k =>
    have := k4 k p (by simpa using hp)
    exact ⟨by omega, this.2⟩
  ·simp only [List.length_append, List.length_cons, h1, k5, Nat.add_mul]
   omega
theorem zab (hC : C.Ok P) (h : aE P N V w0 s G F a w) {o : Oper} (hd : cV N o.dst = true) {K : St → Prop} {t e len : Nat} {i : TI} {parts : Array (Nat × Operand)} (ho : o.op = .buildSlice t len parts)
  (ht : C.td t = some (.slice e)) (hi : C.ti e = some i) (hl : parts.toList.length = len) (hsz : 0 < i.size) (hmax : len * i.size ≤ 16777216)
  (hk : oD i.size 0 (parts.toList.map fun p => (p.1, ev s p.2)) (yP s o.dst len i.size K)) : dO N V w0 P o K a w F := by
 obtain ⟨cs, k1, k2, k3, k4, k5⟩ := V8 h i.size parts.toList 0 _ hk
 obtain ⟨vs, hvs⟩ : ∃ vs, vs = (parts.toList.map fun p => (p.1, a.eval p.2)).flatMap fun p => p.2.cells.toList := ⟨_, rfl⟩
 rw [← hvs] at k2 k3
 have hvl : vs.length = len * i.size := by rw [← k2.length, k5, hl]
 have hw : d7 w (w.alloc (.cells vs.toArray e)) := .alloc _ _
 have hrun := VA (w := w) hC ho ht hi hl hsz hmax k4 hvs hvl
 refine lK (g := some ⟨w.heap.size, 0, len⟩) h hd k1 hw ?_ ?_ ?_ hrun
 ·exact ⟨_, vs, rfl, by simpa using zY w vs.toArray e (by simpa using k3), aF.mono (h.same hw) (bS.snoc _ _) k2⟩
 ·rintro L hL; simp at hL; subst hL; exact ⟨Nat.le_refl _, by simp⟩
 ·exact .ref (off := 0) (gnew _ _ h) (fun _ => rfl) (Nat.le_refl _)
theorem zD (h : aE P N V w0 s G F a w) {id n e sz : Nat} {cs : List AV} {v : Value} (ho : obj s.m id = .arr e sz cs) (hx : aH w F G (.ref id 0 n) v) (hl : cs.length = n * sz) :
  ∃ g vs, G[id]? = some g ∧ v = slv g n ∧ w.ownsRow 0 e sz v n vs ∧ aF w F [] cs vs ∧ (∀ u ∈ vs, u.oneCell' = true) ∧ 0 < sz := by
 have key : ∀ g, G[id]? = some g → ∃ vs, w.ownsRow 0 e sz (slv g n) n vs ∧ aF w F [] cs vs ∧ (∀ u ∈ vs, u.oneCell' = true) ∧ 0 < sz ∧ ∀ L, g = some L → L.o = 0 := by
  intro g hg
  have := h.obG hg
  rw [ho] at this
  obtain ⟨n', vs, h1, h2, h3, h4, h5⟩ := this
  have hn : n' = n := by
   have := h1.1
   rw [← h2.length, hl] at this
   exact (Nat.eq_of_mul_eq_mul_right h4 this).symm
  subst hn
  exact ⟨vs, h1, h2, h3, h4, h5⟩
 rcases hx.ref_inv with ⟨hg, rfl, _, rfl⟩ | ⟨L, off', cap, hg, rfl, hn, hc, ho'⟩
 ·obtain ⟨vs, h1, h2, h3, h4, _⟩ := key _ hg
  exact ⟨_, vs, hg, rfl, h1, h2, h3, h4⟩
 ·obtain ⟨vs, h1, h2, h3, h4, h5⟩ := key _ hg
  have hcap := hc rfl
  have hoff : off' = 0 := by
   rcases ho' with ⟨_, h0⟩ | h0
   ·exact absurd rfl h0
   ·rw [h0, h5 L rfl]
  subst hcap; subst hoff
  exact ⟨_, vs, hg, rfl, h1, h2, h3, h4⟩
theorem zkz {cur : Array Value} {vs : List Value} {k : Nat} (h : cur.toList.take k = vs) (hl : vs.length = k) : ∀ (j : Nat) (u : Value), vs[j]? = some u → cur[j]? = some u := by
 intro j u hu
 rw [← h] at hu
 have hj : j < k := by have := (List.getElem?_eq_some_iff.1 hu).1; simp at this; omega
 rw [List.getElem?_take_of_lt hj] at hu
 simpa using hu
theorem z9g (hC : C.Ok P) (h : aE P N V w0 s G F a w) {o : Oper} (hd : cV N o.dst = true) {K : St → Prop} {t e n : Nat} {i : TI} {x y : Operand} {ncs : List AV}
  (ho : o.op = .call { callee := .builtin .append, args := #[x, y], argTypes := #[t, t] })
  (ht : C.td t = some (.slice e)) (hi : C.ti e = some i) (hy : iG s i.size (ev s y) = some (n, ncs)) (hk : xI s o.dst i e (ev s x) n ncs K) : dO N V w0 P o K a w F := by
 have hx := h.ev x
 obtain ⟨_, j, hj, hjs, hjb, hz, hzs⟩ := hC.ty e i hi
 have hut := hC.u ht
 have hexec : ∀ {v : Value} {w2 : World}, (Builtin.append_ #[t, t] o.type #[a.eval x, a.eval y]).run P w = .ok v w2 → (execOp a.eval o).run P w = .ok (.value v) w2 := by
  intro v w2 hr
  simp [execOp, ho, resolve, invoke, builtin, hr]
 unfold xI at hk
 split at hk
 ·
  rename_i heq
  rw [heq] at hx
  have hx := hx.v_inv
  obtain ⟨hl, hsz, hn1, hn2, hk⟩ := hk
  rcases BJ h hy (h.ev y) hl with ⟨hv, rfl, rfl⟩ | ⟨b, cap, vs, hv, hcap, hb, hr⟩
  ·have hrun : (Builtin.append_ #[t, t] o.type #[a.eval x, a.eval y]).run P w = .ok (.slice none 0 0) w := by
    rw [hx, hv]
    simp [Builtin.append_, run_underlying hut, sizeOf, typeInfo, hj, Builtin.lenOf, run_firstCells_none]
   refine lK (g := none) h hd hk (.refl w) ?_ (by simp) ?_ (hexec hrun)
   ·exact ⟨0, [], World.ownsRow_nil _ _ _ _, .nil, by simp, hsz, by simp⟩
   ·exact .ref0 (gnew _ _ h)
  ·have hvl : vs.length = n * i.size := by rw [← hr.length, hl]
   have hnews : ∀ j u, vs[j]? = some u → w.cell? (b.add j) = some u := fun j u hu => by
    rw [fW hb.1, hb.2.1 j (List.getElem?_eq_some_iff.1 hu).1, hu]
   by_cases hn0 : n = 0
   ·subst hn0
    have hrun : (Builtin.append_ #[t, t] o.type #[a.eval x, a.eval y]).run P w = .ok (.slice none 0 0) w := by
     rw [hx, hv]
     have := run_firstCells_some (P := P) w i.size 0 b 0 cap [] (by simp) (by simp)
     simp [Builtin.append_, run_underlying hut, iM hC hi, Builtin.lenOf, this]
    refine lK (g := none) h hd hk (.refl w) ?_ (by simp) ?_ (hexec hrun)
    ·have : ncs = [] := List.eq_nil_of_length_eq_zero (by simpa using hl)
     subst this
     exact ⟨0, [], World.ownsRow_nil _ _ _ _, .nil, by simp, hsz, by simp⟩
    ·exact .ref0 (gnew _ _ h)
   ·have hpos : 0 < n := by omega
    have hrun := run_append_nil (P := P) w t o.type e j i.zero hut hj hz b n cap vs (by rw [hjs]; exact hvl) hnews hpos (by omega) (by rw [hjb]; omega)
    have hg1 := grownCap_ge w n 0 e
    have hg2 := grownCap_le_maxLen w n 0 e (by unfold maxLen; omega)
    have hw : d7 w (w.drew.alloc (.cells (vs.toArray ++ Builtin.zeroCells i.zero.cells (grownCap w n 0 e - n)) e)) := (d7.drew w).trans (.alloc _ _)
    refine lK (g := some ⟨w.heap.size, 0, grownCap w n 0 e⟩) h hd hk hw ?_ ?_ ?_ (hexec (by rw [hx, hv]; exact hrun))
    ·refine ⟨n, vs, ⟨hvl, .inr ⟨w.heap.size, _, _, rfl, Nat.zero_le _, pL w.drew _, hg1, hg2, ?_, ?_⟩⟩, aF.mono (h.same hw) (bS.refl _) hr, hb.2.2, hsz, by simp⟩
     ·simp only [Array.size_append, List.size_toArray, size_zeroCells, hzs, hvl, ← Nat.add_mul]
      congr 1; omega
     ·simp only [Array.toList_append]
      rw [← hvl]
      exact List.take_left
    ·rintro L hL; simp at hL; subst hL; exact ⟨Nat.le_refl _, by simp⟩
    ·exact .ref (off := 0) (gnew _ _ h) (fun _ => rfl) hg1
 ·
  rename_i id len heq
  rw [heq] at hx
  split at hk
  ·rename_i e' sz cs hob
   obtain ⟨rfl, rfl, hcl, hnl, hn1, hn2, hk⟩ := hk
   obtain ⟨g, vs, hg, hv, hown, hrs, h1, hsz⟩ := zD h hob hx hcl
   have hvl := hown.1

   obtain ⟨us, hus, hul, hu1, hwhere⟩ : ∃ us, aF w F [] ncs us ∧ us.length = n * i.size ∧ (∀ u ∈ us, u.oneCell' = true) ∧
     ((a.eval y = .slice none 0 0 ∧ n = 0 ∧ us = []) ∨ ∃ b cap, a.eval y = .slice (some b) n cap ∧ gD w b us) := by
    rcases BJ h hy (h.ev y) hnl with ⟨h0, rfl, rfl⟩ | ⟨b, cap, us, h0, _, hb, hr⟩
    ·exact ⟨[], .nil, by simp, by simp, .inl ⟨h0, rfl, rfl⟩⟩
    ·exact ⟨us, hr, by rw [← hr.length, hnl], hb.2.2, .inr ⟨b, cap, h0, hb⟩⟩

   have main : ∃ g' w', (Builtin.append_ #[t, t] o.type #[a.eval x, a.eval y]).run P w = .ok (slv g' (len + n)) w' ∧
     ((∃ L, g = some L ∧ g' = some L ∧ w'.os = w.os ∧ w'.tape = w.tape ∧ w'.output = w.output ∧ w'.heap.size = w.heap.size ∧ (∀ k, k ≠ L.b → w'.heap[k]? = w.heap[k]?) ∧ w'.ownsRow 0 e' i.size (slv g' (len + n)) (len + n) (vs ++ us)) ∨
      (d7 w w' ∧ (∀ L, g' = some L → w.heap.size ≤ L.b ∧ L.b < w'.heap.size) ∧ w'.ownsRow 0 e' i.size (slv g' (len + n)) (len + n) (vs ++ us) ∧ ∀ L, g' = some L → L.o = 0)) := by
    have hmax : len + n ≤ maxLen := by unfold maxLen; omega
    have hL0 : ∀ L, g = some L → L.o = 0 := by
     have := h.obG hg
     rw [hob] at this
     obtain ⟨_, _, _, _, _, _, h5⟩ := this
     exact h5
    have grown : ∀ (old : Nat), old < len + n →
      (w.drew.alloc (.cells (vs.toArray ++ us.toArray ++ Builtin.zeroCells i.zero.cells (grownCap w (len + n) old e' - (len + n))) e')).ownsRow 0 e' i.size
       (.slice (some ⟨w.heap.size, 0, none⟩) (len + n) (grownCap w (len + n) old e')) (len + n) (vs ++ us) := by
     intro old hold
     have hge := grownCap_ge w (len + n) old e'
     have hcm := grownCap_le_maxLen w (len + n) old e' hmax
     have hlen : (vs ++ us).length = (len + n) * i.size := by rw [List.length_append, hvl, hul, Nat.add_mul]
     refine ⟨hlen, .inr ⟨w.heap.size, _, _, rfl, Nat.zero_le _, pL w.drew _, hge, hcm, ?_, ?_⟩⟩
     ·simp only [Array.size_append, List.size_toArray, size_zeroCells, hzs, hvl, hul, ← Nat.add_mul]
      congr 1; omega
     ·simp only [Array.toList_append, List.append_assoc]
      rw [← List.append_assoc, ← hlen]
      exact List.take_left
    have hgw : ∀ (c : Array Value), d7 w (w.drew.alloc (.cells c e')) := fun c => (d7.drew w).trans (.alloc _ _)
    rcases hwhere with ⟨hvy, rfl, rfl⟩ | ⟨b, cap, hvy, hb⟩
    ·
     refine ⟨g, w, ?_, ?_⟩
     ·rw [hv, hvy]
      cases g with
      | none =>
       rcases hown.2 with ⟨_, h5⟩ | ⟨g, cap, cur, h5, _⟩
       ·subst h5
        simp [slv, Builtin.append_, run_underlying hut, iM hC hi, Builtin.lenOf, run_firstCells_none]
       ·rw [hv] at h5; simp [slv] at h5
      | some L =>
       have hcap : len ≤ L.cap := by
        rcases hown.2 with ⟨h5, _⟩ | ⟨g, cap, cur, h5, _, _, h6, _⟩
        ·rw [hv] at h5; simp [slv] at h5
        ·rw [hv] at h5; simp [slv] at h5; omega
       simp [slv, Builtin.append_, run_underlying hut, iM hC hi, Builtin.lenOf, run_firstCells_none, hcap, storeCells]
     ·cases g with
      | none => exact .inr ⟨.refl w, by simp, by simpa [hv] using hown, by simp⟩
      | some L => exact .inl ⟨L, rfl, rfl, rfl, rfl, rfl, rfl, fun _ _ => rfl, by simpa [hv] using hown⟩
    ·have hnews : ∀ (j : Nat) (u : Value), us[j]? = some u → w.cell? (b.add j) = some u := fun j u hu => by
      rw [fW hb.1, hb.2.1 j (List.getElem?_eq_some_iff.1 hu).1, hu]
     rcases hown.2 with ⟨h5, rfl⟩ | ⟨gb, cap', cur, h5, _, hh, h6, h7, h8, h9⟩
     ·
      have hvs0 : vs = [] := List.eq_nil_of_length_eq_zero (by simpa using hvl)
      subst hvs0
      have hgn : g = none := by
       cases g with
       | none => rfl
       | some L => rw [hv] at h5; simp [slv] at h5
      subst hgn
      by_cases hn0 : n = 0
      ·subst hn0
       have hu0 : us = [] := List.eq_nil_of_length_eq_zero (by simpa using hul)
       subst hu0
       refine ⟨none, w, ?_, .inr ⟨.refl w, by simp, World.ownsRow_nil _ _ _ _, by simp⟩⟩
       rw [h5, hvy]
       have := run_firstCells_some (P := P) w i.size 0 b 0 cap [] (by simp) (by simp)
       simp [slv, Builtin.append_, run_underlying hut, iM hC hi, Builtin.lenOf, this]
      ·have hrun := run_append_nil (P := P) w t o.type e' j i.zero hut hj hz b n cap us (by rw [hjs]; exact hul) hnews (by omega) (by omega) (by rw [hjb]; have := hn2; simp at this; omega)
       have hrun' : (Builtin.append_ #[t, t] o.type #[a.eval x, a.eval y]).run P w = (Builtin.append_ #[t, t] o.type #[.slice none 0 0, .slice (some b) n cap]).run P w := by rw [h5, hvy]
       rw [Nat.zero_add]
       refine ⟨some ⟨w.heap.size, 0, grownCap w n 0 e'⟩, _, hrun'.trans hrun, .inr ⟨hgw _, ?_, ?_, ?_⟩⟩
       ·rintro L hL; simp at hL; subst hL; exact ⟨Nat.le_refl _, by simp⟩
       ·have := grown 0 (by omega)
        simpa [slv] using this
       ·rintro L hL; simp at hL; subst hL; rfl
     ·cases g with
      | none => rw [hv] at h5; simp [slv] at h5
      | some L =>
       have hLo := hL0 L rfl
       rw [hv] at h5
       simp [slv] at h5
       obtain ⟨rfl, rfl⟩ := h5
       have hv' : a.eval x = .slice (some ⟨L.b, 0, none⟩) len L.cap := by rw [hv]; rfl
       by_cases hroom : len + n ≤ L.cap
       ·have hfit : len * i.size + us.length ≤ cur.size := by rw [hul, h8, ← Nat.add_mul]; exact Nat.mul_le_mul_right _ hroom
        have hrun := run_append_room (P := P) w t o.type e' j hut hj L.b len L.cap cur hh b n cap us (by rw [hjs]; exact hul) hnews hb.2.2 hroom (by rw [hjs]; exact hfit)
        rw [hjs] at hrun
        have hlen : (vs ++ us).length = (len + n) * i.size := by rw [List.length_append, hvl, hul, Nat.add_mul]
        have hrun' : (Builtin.append_ #[t, t] o.type #[a.eval x, a.eval y]).run P w = (Builtin.append_ #[t, t] o.type #[.slice (some ⟨L.b, 0, none⟩) len L.cap, .slice (some b) n cap]).run P w := by rw [hv', hvy]
        refine ⟨some L, _, hrun'.trans hrun, .inl ⟨L, rfl, rfl, rfl, rfl, rfl, by simp, fun k hk => setRow_other w L.b k _ hk, hlen, .inr ⟨L.b, L.cap, _, rfl, Nat.zero_le _, setRow_heap w L.b cur _ e' _ hh, hroom, h7, ?_, ?_⟩⟩⟩
        ·simp only [List.size_toArray, List.length_append, List.length_take, List.length_drop, Array.length_toList]
         omega
        ·rw [h9, ← hlen]
         exact List.take_left
       ·have holds : ∀ (j : Nat) (u : Value), vs[j]? = some u → w.cell? ((⟨L.b, 0, none⟩ : Addr).add j) = some u := fun j u hu => by
         rw [fW rfl]
         have hj := zkz h9 hvl j u hu
         simp [World.cell?, hh, hj]
        have hrun := run_append_grow (P := P) w t o.type e' j i.zero hut hj hz ⟨L.b, 0, none⟩ len L.cap vs (by rw [hjs]; exact hvl) holds b n cap us (by rw [hjs]; exact hul) hnews (by omega) (by omega) (by rw [hjb]; exact growslice_fits (by omega) hn2)
        have hrun' : (Builtin.append_ #[t, t] o.type #[a.eval x, a.eval y]).run P w = (Builtin.append_ #[t, t] o.type #[.slice (some ⟨L.b, 0, none⟩) len L.cap, .slice (some b) n cap]).run P w := by rw [hv', hvy]
        refine ⟨some ⟨w.heap.size, 0, grownCap w (len + n) L.cap e'⟩, _, hrun'.trans hrun, .inr ⟨hgw _, ?_, ?_, ?_⟩⟩
        ·rintro M hM; simp at hM; subst hM; exact ⟨Nat.le_refl _, by simp⟩
        ·exact grown L.cap (by omega)
        ·rintro M hM; simp at hM; subst hM; rfl
   obtain ⟨g', w', hrun, hcase⟩ := main
   have hgl : id < G.length := (List.getElem?_eq_some_iff.1 hg).1
   rcases hcase with ⟨L, rfl, rfl, q1, q2, q3, q4, q5, q6⟩ | ⟨hw, hg', q6, q7⟩
   ·
    have hL0 : L.o = 0 := by
     have := h.obG hg
     rw [hob] at this
     obtain ⟨_, _, _, _, _, _, h5⟩ := this
     exact h5 L rfl
    have hsame : fQ F F w w' := ⟨fun _ h => h, fun b hb => q5 b fun e => (h.live id L hg).1 (e ▸ hb)⟩
    have hperm : eE V w0 L (.arr e' i.size (cs ++ ncs)) := by
     have := (h.live id L hg).2.2
     rw [hob] at this
     exact this
    have hturn := h.turn hg (o := .arr e' i.size (cs ++ ncs)) q1 q2 q3 q4 q5 ⟨len + n, vs ++ us, q6, (aF.mono hsame (bS.refl _) hrs).append (aF.mono hsame (bS.refl _) hus), fun u hu => by
      rcases List.mem_append.1 hu with hu | hu
      ·exact h1 u hu
      ·exact hu1 u hu, hsz, by simpa using hL0⟩ hperm (fun r hr e => by
      have := (h.live id L hg).2.2
      rw [hob] at this
      rcases this with h3 | ⟨_, h3⟩
      ·have hkr := h.rows r hr
       obtain ⟨c0, c, e1, fz, k1, _⟩ := hkr
       have := kT k1
       omega
      ·exact absurd e (h3 r hr)) (fun q => by rw [hob] at q; cases q)

    have hf := hturn.forget id
    rw [show (St.mk s.t (cD s.m id (.arr e' i.size (cs ++ ncs)))).m = cD s.m id (.arr e' i.size (cs ++ ncs)) from rfl, zfg] at hf
    have hcap : len + n ≤ L.cap := by
     rcases q6.2 with ⟨h5, _⟩ | ⟨g, cap, cur, h5, _, _, h6, _⟩
     ·simp [slv] at h5
     ·simp [slv] at h5; omega
    refine dO.val (s' := ⟨gO id s.t, cD (eH id s.m) id (.arr e' i.size (cs ++ ncs))⟩) hd rfl hk hf ?_ (hexec hrun)
    have := aH.ref (w := w') (F := F) (G := G) (id := id) (off := 0) (len := len + n) (cap := L.cap) (L := L) hg (fun _ => rfl) hcap
    rw [hL0] at this
    exact this
   ·have hren := h.renew hg (o := .arr e' i.size (cs ++ ncs)) hw ⟨len + n, vs ++ us, q6, (aF.mono (h.same hw) (bS.refl _) hrs).append (aF.mono (h.same hw) (bS.refl _) hus), fun u hu => by
      rcases List.mem_append.1 hu with hu | hu
      ·exact h1 u hu
      ·exact hu1 u hu, hsz, q7⟩ hg' (by rw [hob]; rfl) (by rw [hob]; intro e; cases e)
    refine dO.val (s' := ⟨gO id s.t, cD (eH id s.m) id (.arr e' i.size (cs ++ ncs))⟩) hd rfl hk hren ?_ (hexec hrun)
    have hnew : (G.set id g')[id]? = some g' := by simp [hgl]
    cases g' with
    | none =>
     rcases q6.2 with ⟨_, h5⟩ | ⟨g, cap, cur, h5, _⟩
     ·rw [h5]; exact .ref0 hnew
     ·simp [slv] at h5
    | some L =>
     have hcap : len + n ≤ L.cap := by
      rcases q6.2 with ⟨h5, _⟩ | ⟨g, cap, cur, h5, _, _, h6, _⟩
      ·simp [slv] at h5
      ·simp [slv] at h5; omega
     have := aH.ref (w := w') (F := F) (G := G.set id (some L)) (id := id) (off := 0) (len := len + n) (cap := L.cap) (L := L) hnew (fun _ => rfl) hcap
     rw [q7 L rfl] at this
     exact this
  ·exact hk.elim
 ·exact hk.elim
end
end Go.AE
