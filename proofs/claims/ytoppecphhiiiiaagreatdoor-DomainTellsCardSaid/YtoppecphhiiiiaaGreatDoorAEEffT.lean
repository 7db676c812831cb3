/- A part of the abstract evaluator: no condition. -/
import Derived.Test.YtoppecphhiiiiaaGreatDoorAEEffS
set_option linter.unusedVariables false
set_option linter.unusedSimpArgs false
namespace Go.AE
section
variable {N : Nat} {C : bI} {P : Program} {V : dJ} {w0 w w' : World} {s : St} {G : Gh} {F : Nat → Prop} {a : Act}
theorem ES {vs us : List Value} {off : Nat} (h : off + us.length ≤ vs.length) (j : Nat) :
  (vs.take off ++ us ++ vs.drop (off + us.length))[j]? = if off ≤ j ∧ j < off + us.length then us[j - off]? else vs[j]? := by
 have h1 : (vs.take off).length = off := by simp; omega
 by_cases hj : j < off
 ·rw [if_neg (by omega), List.append_assoc, List.getElem?_append_left (by omega), List.getElem?_take_of_lt hj]
 ·by_cases hk : j < off + us.length
  ·rw [if_pos ⟨by omega, hk⟩, List.append_assoc, List.getElem?_append_right (by omega), h1, List.getElem?_append_left (by omega)]
  ·rw [if_neg (by omega), List.getElem?_append_right (by simp; omega), List.getElem?_drop]
   congr 1
   simp
   omega
theorem wR {vs us : List Value} {off : Nat} (h : off + us.length ≤ vs.length) : (vs.take off ++ us ++ vs.drop (off + us.length)).length = vs.length := by
 simp; omega
theorem z9k {e sz n off : Nat} {L : bU} {vs us : List Value} (h : w.ownsRow 0 e sz (slv (some L) n) n vs) (hl : off + us.length ≤ vs.length) (h1 : ∀ u ∈ us, u.oneCell' = true) :
  ∃ w', (storeCells ⟨L.b, off, none⟩ us 0).run P w = .ok () w' ∧ w'.os = w.os ∧ w'.tape = w.tape ∧ w'.output = w.output ∧ w'.heap.size = w.heap.size ∧ (∀ k, k ≠ L.b → w'.heap[k]? = w.heap[k]?) ∧
   w'.ownsRow 0 e sz (slv (some L) n) n (vs.take off ++ us ++ vs.drop (off + us.length)) := by
 obtain ⟨hlen, h2⟩ := h
 rcases h2 with ⟨h2, _⟩ | ⟨g, cap, cur, hv, h3, hh, h4, h5, h6, h7⟩
 ·simp [slv] at h2
 ·simp [slv] at hv
  obtain ⟨rfl, rfl⟩ := hv
  have hsz : n * sz ≤ cur.size := by rw [h6]; exact Nat.mul_le_mul_right _ h4
  obtain ⟨w', r0, r1, r2, r3, r4, r5, c', r6, r7, r8⟩ := EY (P := P) L.b off e (0, 0) us 0 w cur hh (by omega) (fun j _ hc => by omega) h1
  refine ⟨w', r0, r1, r2, r3, r4, r5, by rw [wR hl]; exact hlen, .inr ⟨L.b, L.cap, c', rfl, h3, r6, h4, h5, by rw [r7]; exact h6, ?_⟩⟩
  apply List.ext_getElem?
  intro j
  rw [ES hl j, List.getElem?_take]
  have hcj := r8 j
  simp only [Nat.add_zero] at hcj
  have hvs : ∀ k, k < n * sz → vs[k]? = cur[k]? := fun k hk => by rw [← h7, List.getElem?_take_of_lt hk]; simp
  by_cases hj : j < n * sz
  ·rw [if_pos hj, Array.getElem?_toList, hcj]
   by_cases hin : off ≤ j ∧ j < off + us.length
   ·rw [if_pos hin, if_pos hin]
   ·rw [if_neg hin, if_neg hin, hvs j hj]
  ·rw [if_neg hj, if_neg (by omega)]
   exact (List.getElem?_eq_none (by omega)).symm
theorem zZ {b o off : Nat} {vs us : List Value} (h : eI w b o vs) (hl : off + us.length ≤ vs.length) (h1 : ∀ u ∈ us, u.oneCell' = true) :
  ∃ w', (storeCells ⟨b, o + off, none⟩ us 0).run P w = .ok () w' ∧ w'.os = w.os ∧ w'.tape = w.tape ∧ w'.output = w.output ∧ w'.heap.size = w.heap.size ∧ (∀ k, k ≠ b → w'.heap[k]? = w.heap[k]?) ∧
   eI w' b o (vs.take off ++ us ++ vs.drop (off + us.length)) ∧ (∀ r, r.b = b → r.lo = o → r.hi = o + vs.length → fD w0 w r → fD w0 w' r) := by
 obtain ⟨c, e, fz, h2, h3, h4, h5, h6⟩ := h
 obtain ⟨w', r0, r1, r2, r3, r4, r5, c', r6, r7, r8⟩ := EY (P := P) b (o + off) e fz us 0 w c h2 (by omega) (fun j hj => by have := h5 (off + j) (by omega); simpa [Nat.add_assoc] using this) h1
 simp only [Nat.add_zero] at r8
 refine ⟨w', r0, r1, r2, r3, r4, r5, ⟨c', e, fz, r6, by rw [wR hl, r7]; exact h3, fun i hi => ?_, fun i hi => h5 i (by rw [wR hl] at hi; exact hi), fun u hu => ?_⟩, ?_⟩
 ·rw [wR hl] at hi
  rw [ES hl i, r8]
  by_cases hin : off ≤ i ∧ i < off + us.length
  ·rw [if_pos (by omega), if_pos hin]
   congr 1
   omega
  ·rw [if_neg (by omega), if_neg hin, h4 i hi]
 ·rcases List.mem_append.1 hu with hu | hu
  ·rcases List.mem_append.1 hu with hu | hu
   ·exact h6 u (List.mem_of_mem_take hu)
   ·exact h1 u hu
  ·exact h6 u (List.mem_of_mem_drop hu)
 ·rintro r rfl hlo hhi ⟨c0, c1, e1, dW, k1, k2, k3, k4⟩
  rw [h2] at k2
  simp at k2
  obtain ⟨rfl, rfl, rfl⟩ := k2
  refine ⟨c0, c', e, fz, k1, r6, by rw [r7]; exact k3, fun j hj => ?_⟩
  rw [r8, if_neg (by omega)]
  exact k4 j hj
def Ends (o : Oper) (a a' : Act) (nx : Next) : Prop := (∃ v, nx = .value v ∧ a' = a.put o.dst v) ∨ (nx = .skip ∧ a' = a.put o.dst undef)
def dO (N : Nat) (V : dJ) (w0 : World) (P : Program) (o : Oper) (K : St → Prop) (a : Act) (w : World) (F : Nat → Prop) : Prop :=
 ∃ s' G' a' w' nx, K s' ∧ aE P N V w0 s' G' F a' w' ∧ (execOp a.eval o).run P w = .ok nx w' ∧ Ends o a a' nx
theorem dO.val {o : Oper} {K : St → Prop} {s' : St} {G' : Gh} {d : Option Nat} (hd : cV N d = true) (e : d = o.dst) {x : AV} {v : Value} (hk : K ⟨putD s'.t d x, s'.m⟩) (h : aE P N V w0 s' G' F a w') (hx : aH w' F G' x v)
  (hr : (execOp a.eval o).run P w = .ok (.value v) w') : dO N V w0 P o K a w F := by
 subst e
 exact ⟨_, G', a.put o.dst v, w', _, hk, h.putD hd hx, hr, .inl ⟨v, rfl, rfl⟩⟩
theorem lK (h : aE P N V w0 s G F a w) {o : Oper} (hd : cV N o.dst = true) {K : St → Prop} {x : AV} {ob : Ob} {g : Option bU} {v : Value} (hk : K (dS s o.dst x ob)) (hw : d7 w w')
  (ho : d6 w' F (G ++ [g]) g ob) (hg : ∀ L, g = some L → w.heap.size ≤ L.b ∧ L.b < w'.heap.size) (hx : aH w' F (G ++ [g]) x v) (hr : (execOp a.eval o).run P w = .ok (.value v) w') : dO N V w0 P o K a w F :=
 dO.val (s' := ⟨s.t, s.m ++ [ob]⟩) hd rfl hk (h.push hw ho hg) hx hr
theorem gnew (G : Gh) (g : Option bU) (h : aE P N V w0 s G F a w) : (G ++ [g])[s.m.length]? = some g := by
 rw [← h.len]; simp
theorem wZ (hC : C.Ok P) {t : Nat} {i : TI} (h : C.ti t = some i) (w : World) : (zeroValue t).run P w = .ok i.zero w := by
 obtain ⟨_, j, hj, _, _, hz, _⟩ := hC.ty t i h
 simp [zeroValue, typeInfo, hj, hz]
theorem pL (w : World) (o : Obj) : (w.alloc o).heap[w.heap.size]? = some o := by
 show (w.heap.push o)[w.heap.size]? = some o
 simp
theorem zY (w : World) (c : Array Value) (e : Nat) (h1 : ∀ u ∈ c.toList, u.oneCell' = true) : eI (w.alloc (.cells c e)) w.heap.size 0 c.toList :=
 ⟨c, e, (0, 0), pL _ _, by simp, fun i hi => by simp, fun i hi hc => by omega, h1⟩
theorem zaa (h : aE P N V w0 s G F a w) {o : Oper} (hd : cV N o.dst = true) {K : St → Prop} {t : Nat} {x : Operand} (ho : o.op = .box t x)
  (h1 : (bV (ev s x)).all dI = true) (hk : K (dS s o.dst (.ptr s.m.length 0) (.row true 1 (bV (ev s x))))) : dO N V w0 P o K a w F := by
 have hx := h.ev x
 have hc := hx.cells h1
 have hw : d7 w (w.alloc (.cells (a.eval x).cells t)) := .alloc _ _
 refine lK (g := some ⟨w.heap.size, 0, 0⟩) (v := .pointer (some ⟨w.heap.size, 0, none⟩)) h hd hk hw ?_ ?_ ?_ ?_
 ·refine ⟨_, _, rfl, zY _ _ _ (hc.ones h1), ?_⟩
  exact aF.mono (h.same hw) (bS.snoc _ _) hc
 ·rintro L hL; simp at hL; subst hL; exact ⟨Nat.le_refl _, by simp⟩
 ·exact .ptr (off := 0) (gnew _ _ h)
 ·simp [execOp, ho, Instr.box, newVar, newRow]
theorem zh6 (h : aE P N V w0 s G F a w) {o : Oper} (hd : cV N o.dst = true) {K : St → Prop} {e sz : Nat} (ho : o.op = .assign (.const (.slice none 0 0))) (hsz : 0 < sz)
  (hk : K (dS s o.dst (.ref s.m.length 0 0) (.arr e sz []))) : dO N V w0 P o K a w F := by
 refine lK (g := none) (v := .slice none 0 0) h hd hk (.refl w) ?_ ?_ ?_ ?_
 ·exact ⟨0, [], World.ownsRow_nil _ _ _ _, .nil, by simp, hsz, by simp⟩
 ·simp
 ·exact .ref0 (gnew _ _ h)
 ·simp [execOp, ho]; rfl
theorem z97 (hC : C.Ok P) (h : aE P N V w0 s G F a w) {o : Oper} (hd : cV N o.dst = true) {K : St → Prop} {t : Nat} {i : TI} (ho : o.op = .alloc t) (hi : C.ti t = some i)
  (hk : K (dS s o.dst (.ptr s.m.length 0) (.row true 1 (i.zero.cells.toList.map .v)))) (h1 : i.zero.cells.all (·.oneCell') = true) : dO N V w0 P o K a w F := by
 have hc : ∀ l : List Value, aF w F G (l.map .v) l := fun l => by
  induction l with
  | nil => exact .nil
  | cons x l ih => exact .cons (.v x) ih
 have hw : d7 w (w.alloc (.cells i.zero.cells t)) := .alloc _ _
 refine lK (g := some ⟨w.heap.size, 0, 0⟩) (v := .pointer (some ⟨w.heap.size, 0, none⟩)) h hd hk hw ?_ ?_ ?_ ?_
 ·refine ⟨_, _, rfl, zY _ _ _ ?_, ?_⟩
  ·intro u hu
   have := Array.all_eq_true.1 h1
   obtain ⟨j, hj, rfl⟩ := List.mem_iff_getElem.1 hu
   simpa using this j (by simpa using hj)
  ·exact aF.mono (h.same hw) (bS.snoc _ _) (hc _)
 ·rintro L hL; simp at hL; subst hL; exact ⟨Nat.le_refl _, by simp⟩
 ·exact .ptr (off := 0) (gnew _ _ h)
 ·simp [execOp, ho, Instr.alloc, wZ hC hi, newVar, newRow]
theorem CC (o : Nat) : ∀ (l : List Value) (k : Nat) (cells : Array Value), o + k + l.length ≤ cells.size →
  ((l.zipIdx k).foldl (fun cs (p : Value × Nat) => cs.setIfInBounds (o + p.2) p.1) cells).size = cells.size ∧
  ∀ j, ((l.zipIdx k).foldl (fun cs (p : Value × Nat) => cs.setIfInBounds (o + p.2) p.1) cells)[j]? = if o + k ≤ j ∧ j < o + k + l.length then l[j - (o + k)]? else cells[j]?
 | [], k, cells, _ => ⟨rfl, fun j => by rw [if_neg (by simp)]; rfl⟩
 | c :: l, k, cells, h => by
  simp only [List.length_cons] at h
  obtain ⟨h1, h2⟩ := CC o l (k + 1) (cells.setIfInBounds (o + k) c) (by simp; omega)
  simp only [List.zipIdx_cons, List.foldl_cons]
  refine ⟨by rw [h1]; simp, fun j => ?_⟩
  rw [h2 j, Array.getElem?_setIfInBounds]
  have e1 : o + (k + 1) = o + k + 1 := by omega
  rw [e1]
  simp only [List.length_cons]
  by_cases h0 : o + k = j
  ·subst h0
   rw [if_neg (by omega), if_pos rfl, if_pos (by omega), if_pos (by omega)]
   simp
  ·rw [if_neg h0]
   by_cases h2 : o + k + 1 ≤ j ∧ j < o + k + 1 + l.length
   ·rw [if_pos h2, if_pos (by omega)]
    have : j - (o + k) = (j - (o + k + 1)) + 1 := by omega
    rw [this, List.getElem?_cons_succ]
   ·rw [if_neg h2, if_neg (by omega)]
theorem C4 (sz : Nat) : ∀ (l : List (Nat × Value)) (i : Nat) (pre : List Value) (cells : Array Value), (∀ k p, l[k]? = some p → p.1 = i + k ∧ p.2.cells.size = sz) →
  cells.toList.take (i * sz) = pre → cells.size = (i + l.length) * sz →
  Instr.fill (fun i => some (i * sz, sz)) cells l = some (pre ++ l.flatMap fun p => p.2.cells.toList).toArray
 | [], i, pre, cells, _, hp, hs => by
  simp only [Instr.fill, List.flatMap_nil, List.append_nil]
  rw [← hp]
  simp at hs
  rw [List.take_of_length_le (by simp [hs])]
 | (j, v) :: l, i, pre, cells, hl, hp, hs => by
  obtain ⟨h0, hv⟩ := hl 0 (j, v) rfl
  have h0 : j = i := h0
  have hv : v.cells.size = sz := hv
  subst h0
  simp only [List.length_cons] at hs
  have hmul : j * sz + sz ≤ cells.size := by
   rw [hs, ← Nat.succ_mul]
   exact Nat.mul_le_mul_right _ (by omega)
  obtain ⟨f1, f2⟩ := CC (j * sz) v.cells.toList 0 cells (by simp [hv]; exact hmul)
  have hfold : v.cells.zipIdx.foldl (fun cs (p : Value × Nat) => cs.setIfInBounds (j * sz + p.2) p.1) cells = (v.cells.toList.zipIdx 0).foldl (fun cs (p : Value × Nat) => cs.setIfInBounds (j * sz + p.2) p.1) cells := by
   rw [← Array.foldl_toList, Array.toList_zipIdx]
  have hpre : List.take ((j + 1) * sz) ((v.cells.toList.zipIdx 0).foldl (fun cs (p : Value × Nat) => cs.setIfInBounds (j * sz + p.2) p.1) cells).toList = pre ++ v.cells.toList := by
   apply List.ext_getElem?
   intro k
   have hlen : pre.length = j * sz := by rw [← hp]; simp; omega
   have hvl : v.cells.toList.length = sz := by simpa using hv
   have f2k := f2 k
   rw [hvl] at f2k
   rw [Nat.succ_mul, List.getElem?_take, Array.getElem?_toList, f2k]
   simp only [Nat.add_zero]
   by_cases h1 : k < j * sz
   ·rw [if_pos (by omega), if_neg (by omega), List.getElem?_append_left (by omega), ← hp, List.getElem?_take_of_lt h1]
    simp
   ·rw [List.getElem?_append_right (by omega), hlen]
    by_cases h2 : k < j * sz + sz
    ·rw [if_pos h2, if_pos (by omega)]
    ·rw [if_neg h2]
     exact (List.getElem?_eq_none (by omega)).symm
  have := C4 sz l (j + 1) (pre ++ v.cells.toList) _ (fun k p hk => by have := hl (k + 1) p (by simpa using hk); refine ⟨?_, this.2⟩; omega) hpre (by rw [f1, hs]; congr 1; omega)
  have hc : (v.cells.size ≠ sz || decide (j * sz + v.cells.size > cells.size)) = false := by
   simp [hv]; exact hmul
  simp only [Instr.fill]
  rw [hfold]
  simp only [hc]
  rw [this]
  simp
end
end Go.AE
