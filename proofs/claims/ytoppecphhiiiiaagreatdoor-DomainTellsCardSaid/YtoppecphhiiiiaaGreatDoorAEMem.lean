/- A part of the abstract evaluator: no condition. -/
import Derived.Test.YtoppecphhiiiiaaGreatDoorAESound3
import Derived.Laws.AppendOwn
set_option linter.unusedVariables false
set_option linter.unusedSimpArgs false
namespace Go.AE
mutual
def aJ (id : Nat) : AV → Bool
 | .ref i _ _ => i == id
 | .ptr i _ => i == id
 | .mr i => i == id
 | .ag cs => fF id cs
 | .tup cs => fF id cs
 | .fn _ fs cs => fF id fs || fF id cs
 | _ => false
def fF (id : Nat) : List AV → Bool
 | [] => false
 | x :: l => aJ id x || fF id l
end
def kF (id : Nat) (x : AV) : AV := match aJ id x with | true => .junk | false => x
def gO (id : Nat) : List (Nat × AV) → List (Nat × AV)
 | [] => []
 | (k, x) :: l => (k, kF id x) :: gO id l
def j1 (id : Nat) : List AV → List AV
 | [] => []
 | x :: l => kF id x :: j1 id l
def aR (id : Nat) : Ob → Ob
 | .row true sz cs => .row true sz (j1 id cs)
 | o => o
def eH (id : Nat) : List Ob → List Ob
 | [] => []
 | o :: l => aR id o :: eH id l
section
variable {N : Nat} {C : bI} {P : Program} {V : dJ} {w0 w w' : World} {s : St} {G : Gh} {F : Nat → Prop} {a : Act}
theorem yC (t : List (Nat × AV)) (d : Nat) (x : AV) : get (put t d x) d = x := by
 induction t with
 | nil => simp [put, get]
 | cons p l ih =>
  obtain ⟨k, y⟩ := p
  by_cases h : k = d
  ·subst h; simp [put, get]
  ·simp [put, get, h, ih]
theorem CL (t : List (Nat × AV)) (d k : Nat) (x : AV) (h : k ≠ d) : get (put t d x) k = get t k := by
 induction t with
 | nil => simp [put, get]; intro e; exact absurd e.symm h
 | cons p l ih =>
  obtain ⟨j, y⟩ := p
  by_cases hj : j = d
  ·subst hj
   have : ¬ j = k := fun e => h e.symm
   simp [put, get, this]
  ·simp only [put, hj, if_false, get, ih]
theorem yB (t : List (Nat × AV)) (id k : Nat) : get (gO id t) k = kF id (get t k) := by
 induction t with
 | nil => simp [gO, get, kF, aJ]
 | cons p l ih =>
  obtain ⟨j, y⟩ := p
  by_cases h : j = k
  ·simp [gO, get, h]
  ·simp [gO, get, h, ih]
theorem oE (m : List Ob) (id k : Nat) : obj (eH id m) k = aR id (obj m k) := by
 induction m generalizing k with
 | nil => simp [eH, obj, aR]
 | cons o l ih => cases k <;> simp [eH, obj, ih]
theorem yU (m : List Ob) (id : Nat) : (eH id m).length = m.length := by
 induction m with
 | nil => rfl
 | cons o l ih => simp [eH, ih]
theorem D2 (m : List AV) (id : Nat) : (j1 id m).length = m.length := by
 induction m with
 | nil => rfl
 | cons o l ih => simp [j1, ih]
theorem yV (m : List Ob) (id : Nat) (o : Ob) : (cD m id o).length = m.length := by
 induction m generalizing id with
 | nil => rfl
 | cons _ l ih => cases id <;> simp [cD, ih]
theorem oF (m : List Ob) (id k : Nat) (o : Ob) (h : id < m.length) : obj (cD m id o) k = if k = id then o else obj m k := by
 induction m generalizing id k with
 | nil => simp at h
 | cons x l ih =>
  cases id with
  | zero => cases k <;> simp [cD, obj]
  | succ id =>
   cases k with
   | zero => simp [cD, obj]
   | succ k => simp only [cD, obj]; rw [ih]; simp; simpa using h
theorem tK (m : List Ob) (o : Ob) (k : Nat) (h : k < m.length) : obj (m ++ [o]) k = obj m k := by
 induction m generalizing k with
 | nil => simp at h
 | cons x l ih => cases k with
  | zero => simp [obj]
  | succ k => simp only [List.cons_append, obj]; exact ih k (by simpa using h)
theorem zB (m : List Ob) (o : Ob) : obj (m ++ [o]) m.length = o := by
 induction m with
 | nil => simp [obj]
 | cons x l ih => simpa [obj] using ih
theorem zC {m : List Ob} {k : Nat} (h : obj m k ≠ .dead) : k < m.length := by
 induction m generalizing k with
 | nil => exact absurd rfl h
 | cons o l ih => cases k with
  | zero => simp
  | succ k => have := ih (k := k) (by simpa [obj] using h); simp; omega
theorem sZ {m : List Ob} {k : Nat} (h : obj m k = .fence) : k < m.length := zC (by rw [h]; intro e; cases e)
theorem EC (id : Nat) (o : Ob) : rowish (aR id o) = rowish o := by
 cases o with
 | row k sz cs => cases k <;> simp [aR, rowish]
 | _ => simp [aR, rowish]
theorem aE.put (h : aE P N V w0 s G F a w) {d : Nat} (hd : d < N) {x : AV} {v : Value} (hx : aH w F G x v) : aE P N V w0 ⟨put s.t d x, s.m⟩ G F (a.put (some d) v) w where
 defers := h.defers
 tsize := by simp [Act.put, h.tsize]
 tm := fun k => by
  show aH w F G (get (AE.put s.t d x) k) _
  by_cases hk : k = d
  ·subst hk
   rw [yC]
   have : k < a.tmps.size := by rw [h.tsize]; exact hd
   simpa [Act.put, Array.getD_eq_getD_getElem?, this] using hx
  ·rw [CL _ _ _ _ hk]
   have := h.tm k
   have e : ¬ d = k := fun e => hk e.symm
   simpa [Act.put, Array.getD_eq_getD_getElem?, Array.getElem?_setIfInBounds, e] using this
 len := h.len
 ob := h.ob
 live := h.live
 inj := h.inj
 fb := h.fb
 keep := h.keep
 f0 := h.f0
 nd := h.nd
 rows := h.rows
 fence := h.fence
 tabs := h.tabs
 pin := h.pin
def putD (t : List (Nat × AV)) (d : Option Nat) (x : AV) : List (Nat × AV) := match d with | some d => AE.put t d x | none => t
def cV (N : Nat) (d : Option Nat) : Bool := match d with | some d => decide (d < N) | none => true
theorem aE.putD (h : aE P N V w0 s G F a w) {d : Option Nat} (hd : cV N d = true) {x : AV} {v : Value} (hx : aH w F G x v) : aE P N V w0 ⟨putD s.t d x, s.m⟩ G F (a.put d v) w := by
 cases d with
 | none => exact h
 | some d => exact h.put (by simpa [cV] using hd) hx
theorem x8.trans' {X : Nat → Prop} (h : x8 X w0 w) (os : w'.os = w.os) (tape : w'.tape = w.tape) (output : w'.output = w.output) (size : w.heap.size ≤ w'.heap.size)
  (blk : ∀ k, k < w0.heap.size → ¬ X k → w'.heap[k]? = w.heap[k]?) : x8 X w0 w' :=
 ⟨os.trans h.os, tape.trans h.tape, output.trans h.output, Nat.le_trans h.size size, fun k hk hx => (blk k hk hx).trans (h.block k hk hx)⟩
structure d7 (w w' : World) : Prop where
 os : w'.os = w.os
 tape : w'.tape = w.tape
 output : w'.output = w.output
 size : w.heap.size ≤ w'.heap.size
 block : ∀ k, k < w.heap.size → w'.heap[k]? = w.heap[k]?
theorem d7.refl (w : World) : d7 w w := ⟨rfl, rfl, rfl, Nat.le_refl _, fun _ _ => rfl⟩
theorem d7.trans {w1 w2 w3 : World} (h : d7 w1 w2) (k : d7 w2 w3) : d7 w1 w3 :=
 ⟨k.os.trans h.os, k.tape.trans h.tape, k.output.trans h.output, Nat.le_trans h.size k.size, fun i hi => (k.block i (Nat.lt_of_lt_of_le hi h.size)).trans (h.block i hi)⟩
theorem d7.drew (w : World) : d7 w w.drew := ⟨rfl, rfl, rfl, Nat.le_refl _, fun _ _ => rfl⟩
theorem d7.alloc (w : World) (o : Obj) : d7 w (w.alloc o) := ⟨rfl, rfl, rfl, by simp, fun k hk => Go.RowKit.Below.heap_alloc _ _ _ hk⟩
theorem zi1 {e sz n : Nat} {L : bU} {vs : List Value} (h : w.ownsRow 0 e sz (slv (some L) n) n vs) (hb : w'.heap[L.b]? = w.heap[L.b]?) : w'.ownsRow 0 e sz (slv (some L) n) n vs := by
 obtain ⟨h1, h2⟩ := h
 refine ⟨h1, ?_⟩
 rcases h2 with ⟨h2, _⟩ | ⟨g, cap, cur, hv, h3, hh, r⟩
 ·simp [slv] at h2
 ·refine .inr ⟨g, cap, cur, hv, h3, ?_, r⟩
  simp [slv] at hv
  rw [← hv.1, hb, hv.1, hh]
theorem eI.block {b o : Nat} {vs : List Value} (h : eI w b o vs) (hb : w'.heap[b]? = w.heap[b]?) : eI w' b o vs := by
 obtain ⟨c, e, fz, h1, r⟩ := h
 exact ⟨c, e, fz, by rw [hb]; exact h1, r⟩
theorem d6.keep {F' : Nat → Prop} {G G' : Gh} {g : Option bU} {o : Ob} (h : d6 w F G g o) (hs : fQ F F' w w') (hg : bS G G') (hb : ∀ L, g = some L → w'.heap[L.b]? = w.heap[L.b]?) : d6 w' F' G' g o := by
 cases o with
 | dead => trivial
 | fence => exact h
 | arr e sz cs =>
  obtain ⟨n, vs, h1, h2, h3, h4⟩ := h
  refine ⟨n, vs, ?_, aF.mono hs (bS.refl _) h2, h3, h4⟩
  cases g with
  | none => exact ⟨h1.1, by rcases h1.2 with h | ⟨_, _, _, h, _⟩; exact .inl h; simp [slv] at h⟩
  | some L => exact zi1 h1 (hb L rfl)
 | row k sz cs =>
  obtain ⟨L, vs, h1, h2, h3⟩ := h
  refine ⟨L, vs, h1, h2.block (hb L h1), ?_⟩
  cases k with
  | true => exact aF.mono hs hg h3
  | false => exact aF.mono hs (bS.refl _) h3
 | it t p =>
  obtain ⟨L, h1, h2, h3⟩ := h
  exact ⟨L, h1, by rw [hb L h1]; exact h2, h3⟩
 | mp es =>
  obtain ⟨L, ents, clock, h1, h2, h3, h4⟩ := h
  exact ⟨L, ents, clock, h1, by rw [hb L h1]; exact h2, eU.mono hs h3, h4⟩
theorem aE.same (h : aE P N V w0 s G F a w) (hw : d7 w w') : fQ F F w w' := ⟨fun _ h => h, fun b hb => hw.block b (h.fb b hb).1⟩
theorem fD.block {r : lD} (h : fD w0 w r) (hb : w'.heap[r.b]? = w.heap[r.b]?) : fD w0 w' r := by
 obtain ⟨c0, c, e, fz, h1, h2, h3⟩ := h
 exact ⟨c0, c, e, fz, h1, by rw [hb]; exact h2, h3⟩
theorem kT {i : Nat} {o : Obj} (h : w.heap[i]? = some o) : i < w.heap.size := (Array.getElem?_eq_some_iff.1 h).1
theorem fD.lt {r : lD} (h : fD w0 w r) : r.b < w.heap.size := by
 obtain ⟨c0, c, e, fz, h1, h2, h3⟩ := h
 exact kT h2
theorem aE.grow (h : aE P N V w0 s G F a w) (hw : d7 w w') : aE P N V w0 s G F a w' where
 defers := h.defers
 tsize := h.tsize
 tm := fun k => aH.mono (h.same hw) (bS.refl _) (h.tm k)
 len := h.len
 ob := fun id g hg => (h.ob id g hg).keep (h.same hw) (bS.refl _) fun L hL => hw.block _ (by subst hL; exact (h.live id L hg).2.1)
 live := fun id L hg => ⟨(h.live id L hg).1, Nat.lt_of_lt_of_le (h.live id L hg).2.1 hw.size, (h.live id L hg).2.2⟩
 inj := h.inj
 fb := fun b hb => ⟨Nat.lt_of_lt_of_le (h.fb b hb).1 hw.size, (h.fb b hb).2⟩
 keep := h.keep.trans' hw.os hw.tape hw.output hw.size fun k hk _ => hw.block k (Nat.lt_of_lt_of_le hk h.keep.size)
 f0 := h.f0
 nd := h.nd
 rows := fun r hr => (h.rows r hr).block (hw.block _ (h.rows r hr).lt)
 fence := h.fence
 tabs := h.tabs
 pin := h.pin
theorem aE.push (h : aE P N V w0 s G F a w) (hw : d7 w w') {o : Ob} {g : Option bU} (ho : d6 w' F (G ++ [g]) g o)
  (hg : ∀ L, g = some L → w.heap.size ≤ L.b ∧ L.b < w'.heap.size) : aE P N V w0 ⟨s.t, s.m ++ [o]⟩ (G ++ [g]) F a w' := by
 have h' := h.grow hw
 have hsplit : ∀ (id : Nat) (x : Option bU), (G ++ [g])[id]? = some x → (G[id]? = some x ∧ id < s.m.length) ∨ (id = s.m.length ∧ x = g) := by
  intro id x hx
  rw [← h.len]
  by_cases hid : id < G.length
  ·rw [List.getElem?_append_left hid] at hx; exact .inl ⟨hx, hid⟩
  ·rw [List.getElem?_append_right (by omega)] at hx
   have h0 : id - G.length = 0 := by
    have := (List.getElem?_eq_some_iff.1 hx).1
    simpa using this
   rw [h0] at hx
   simp at hx
   exact .inr ⟨by omega, hx.symm⟩
 exact {
  defers := h'.defers
  tsize := h'.tsize
  tm := fun k => aH.mono ⟨fun _ h => h, fun _ _ => rfl⟩ (bS.snoc _ _) (h'.tm k)
  len := by simp [h.len]
  ob := fun id x hx => by
   rcases hsplit id x hx with ⟨hx, hid⟩ | ⟨rfl, rfl⟩
   ·show d6 w' F _ x (obj (s.m ++ [o]) id)
    rw [tK _ _ _ hid]
    exact (h'.ob id x hx).keep ⟨fun _ h => h, fun _ _ => rfl⟩ (bS.snoc _ _) fun _ _ => rfl
   ·show d6 w' F _ x (obj (s.m ++ [o]) s.m.length)
    rw [zB]
    exact ho
  live := fun id L hL => by
   rcases hsplit id _ hL with ⟨hx, hid⟩ | ⟨rfl, hg'⟩
   ·show _ ∧ _ ∧ eE V w0 L (obj (s.m ++ [o]) id)
    rw [tK _ _ _ hid]
    exact h'.live id L hx
   ·have := hg L hg'.symm
    refine ⟨fun hF => ?_, this.2, ?_⟩
    ·have := (h.fb _ hF).1; omega
    ·have := h.keep.size
     have : w0.heap.size ≤ L.b := by omega
     show eE V w0 L (obj (s.m ++ [o]) s.m.length)
     rw [zB]
     unfold eE
     split
     all_goals exact .inl this
  inj := fun i j L M hi hj hb => by
   rcases hsplit i _ hi with ⟨hi', _⟩ | ⟨ei, hi'⟩ <;> rcases hsplit j _ hj with ⟨hj', _⟩ | ⟨ej, hj'⟩
   ·exact h.inj i j L M hi' hj' hb
   ·have := (h.live i L hi').2.1; have := hg M hj'.symm; omega
   ·have := (h.live j M hj').2.1; have := hg L hi'.symm; omega
   ·omega
  fb := h'.fb
  keep := h'.keep
  f0 := h.f0
  nd := h.nd
  rows := h'.rows
  fence := fun k hk => (tK _ _ _ (sZ (h.fence k hk))).trans (h.fence k hk)
  tabs := h.tabs
  pin := fun id L hp => by
   obtain ⟨h1, h2, h3⟩ := h.pin id L hp
   have hlt : id < s.m.length := by rw [← h.len]; exact (List.getElem?_eq_some_iff.1 h2).1
   refine ⟨h1, bS.snoc _ _ _ _ h2, ?_⟩
   show rowish (obj (s.m ++ [o]) id) = true
   rw [tK _ _ _ hlt]; exact h3 }
theorem aE.turn (h : aE P N V w0 s G F a w) {id : Nat} {L : bU} (hid : G[id]? = some (some L)) {o : Ob}
  (os : w'.os = w.os) (tape : w'.tape = w.tape) (output : w'.output = w.output) (size : w'.heap.size = w.heap.size)
  (blk : ∀ k, k ≠ L.b → w'.heap[k]? = w.heap[k]?) (ho : d6 w' F G (some L) o) (hp : eE V w0 L o)
  (hr : ∀ r ∈ V.regs, r.b = L.b → fD w0 w' r) (hri : rowish (obj s.m id) = true → rowish o = true) : aE P N V w0 ⟨s.t, cD s.m id o⟩ G F a w' := by
 have hlt : id < s.m.length := by rw [← h.len]; exact (List.getElem?_eq_some_iff.1 hid).1
 have hL := h.live id L hid
 have hs : fQ F F w w' := ⟨fun _ h => h, fun b hb => blk b fun e => hL.1 (e ▸ hb)⟩
 exact {
  defers := h.defers
  tsize := h.tsize
  tm := fun k => aH.mono hs (bS.refl _) (h.tm k)
  len := by simp [yV, h.len]
  ob := fun j g hg => by
   show d6 w' F G g (obj (cD s.m id o) j)
   rw [oF _ _ _ _ hlt]
   split
   ·rename_i e; subst e
    rw [hid] at hg; simp at hg; subst hg
    exact ho
   ·rename_i e
    refine (h.ob j g hg).keep hs (bS.refl _) fun M hM => blk _ fun eb => e ?_
    subst hM
    exact h.inj j id M L hg hid eb
  live := fun j M hM => by
   show _ ∧ _ ∧ eE V w0 M (obj (cD s.m id o) j)
   rw [oF _ _ _ _ hlt, size]
   refine ⟨(h.live j M hM).1, (h.live j M hM).2.1, ?_⟩
   split
   ·rename_i e; subst e
    rw [hid] at hM; simp at hM; subst hM
    exact hp
   ·exact (h.live j M hM).2.2
  inj := h.inj
  fb := fun b hb => by rw [size]; exact h.fb b hb
  keep := h.keep.trans' os tape output (by omega) fun k hk hx => blk k fun e => by
   subst e
   unfold eE at hp
   split at hp
   ·rcases hp with hp | hp
    ·omega
    ·exact hx (.inr ⟨_, hp, rfl⟩)
   ·rcases hp with hp | hp
    ·omega
    ·exact hx hp
   ·rcases hp with hp | hp
    ·omega
    ·exact hx (.inl hp.1)
  f0 := h.f0
  nd := h.nd
  rows := fun r hr' => by
   by_cases e : r.b = L.b
   ·exact hr r hr' e
   ·exact (h.rows r hr').block (blk _ e)
  fence := fun k hk => by
   show obj (cD s.m id o) k = .fence
   have h1 := h.fence k hk
   rw [oF _ _ _ _ hlt]
   split
   ·rename_i e; subst e
    have := h.ob k _ hid
    rw [h1] at this
    cases this
   ·exact h1
  tabs := h.tabs
  pin := fun j M hp => by
   obtain ⟨h1, h2, h3⟩ := h.pin j M hp
   refine ⟨h1, h2, ?_⟩
   show rowish (obj (cD s.m id o) j) = true
   rw [oF _ _ _ _ hlt]
   split
   ·rename_i e; subst e; exact hri h3
   ·exact h3 }
theorem kQ {G : Gh} {id j : Nat} {g' : Option bU} (h : j ≠ id) : (G.set id g')[j]? = G[j]? := by
 rw [List.getElem?_set_ne (fun e => h e.symm)]
mutual
theorem aH.off {id : Nat} {g' : Option bU} (hs : fQ F F w w') : ∀ {G : Gh} {x : AV} {v : Value}, aJ id x = false → aH w F G x v → aH w' F (G.set id g') x v
 | _, _, _, _, .v x => .v x
 | _, _, _, _, .junk x => .junk x
 | _, _, _, _, .un => .un
 | _, _, _, _, .sl0 => .sl0
 | _, _, _, _, .sl hf hn hr hp => .sl hf hn (hr.same hs hf) (aF.mono hs (bS.refl _) hp)
 | _, _, _, hh, .ref hg hc hl => .ref (by rw [kQ (by simpa [aJ] using hh)]; exact hg) hc hl
 | _, _, _, hh, .refe hg hc => .refe (by rw [kQ (by simpa [aJ] using hh)]; exact hg) hc
 | _, _, _, hh, .ref0 hg => .ref0 (by rw [kQ (by simpa [aJ] using hh)]; exact hg)
 | _, _, _, hh, .ptr hg => .ptr (by rw [kQ (by simpa [aJ] using hh)]; exact hg)
 | _, _, _, _, .cp hf hr hp => .cp hf (hr.same hs hf) (aF.mono hs (bS.refl _) hp)
 | _, _, _, hh, .ag hp => .ag (aF.off hs (by simpa [aJ] using hh) hp)
 | _, _, _, hh, .tup hp => .tup (aF.off hs (by simpa [aJ] using hh) hp)
 | _, _, _, hh, .fn hp hp' => .fn (aF.off hs (by simp [aJ] at hh; exact hh.1) hp) (aF.off hs (by simp [aJ] at hh; exact hh.2) hp')
 | _, _, _, _, .mp hf h1 h2 => .mp hf ((hs.heap _ hf).trans h1) (eU.mono hs h2)
 | _, _, _, hh, .mr hg => .mr (by rw [kQ (by simpa [aJ] using hh)]; exact hg)
theorem aF.off {id : Nat} {g' : Option bU} (hs : fQ F F w w') : ∀ {G : Gh} {xs : List AV} {vs : List Value}, fF id xs = false → aF w F G xs vs → aF w' F (G.set id g') xs vs
 | _, _, _, _, .nil => .nil
 | _, _, _, hh, .cons hx hp => .cons (aH.off hs (by simp [fF] at hh; exact hh.1) hx) (aF.off hs (by simp [fF] at hh; exact hh.2) hp)
end
theorem aH.kill {id : Nat} {g' : Option bU} (hs : fQ F F w w') {x : AV} {v : Value} (h : aH w F G x v) : aH w' F (G.set id g') (kF id x) v := by
 unfold kF
 split
 ·exact .junk v
 ·rename_i hh; exact h.off hs hh
theorem aF.kill {id : Nat} {g' : Option bU} (hs : fQ F F w w') {xs : List AV} {vs : List Value} (h : aF w F G xs vs) : aF w' F (G.set id g') (j1 id xs) vs := by
 induction xs generalizing vs with
 | nil => cases h; exact .nil
 | cons x xs ih => cases h with | cons hx hp => exact .cons (hx.kill hs) (ih hp)
theorem aE.renew (h : aE P N V w0 s G F a w) {id : Nat} {g0 g' : Option bU} (hid : G[id]? = some g0) {o : Ob} (hw : d7 w w')
  (ho : d6 w' F (G.set id g') g' o) (hg : ∀ L, g' = some L → w.heap.size ≤ L.b ∧ L.b < w'.heap.size) (hri : rowish (obj s.m id) = false) (hnf : obj s.m id ≠ .fence) :
  aE P N V w0 ⟨gO id s.t, cD (eH id s.m) id o⟩ (G.set id g') F a w' := by
 have hltG : id < G.length := (List.getElem?_eq_some_iff.1 hid).1
 have hlt : id < (eH id s.m).length := by rw [yU, ← h.len]; exact hltG
 have hs := h.same hw
 have h' := h.grow hw
 have hnew : (G.set id g')[id]? = some g' := by simp [hltG]
 exact {
  defers := h.defers
  tsize := h.tsize
  tm := fun k => by
   show aH w' F _ (get (gO id s.t) k) _
   rw [yB]
   exact (h.tm k).kill hs
  len := by simp [yV, yU, h.len]
  ob := fun j g hg => by
   show d6 w' F _ g (obj (cD (eH id s.m) id o) j)
   rw [oF _ _ _ _ hlt]
   split
   ·rename_i e; subst e
    rw [hnew] at hg; simp at hg; subst hg
    exact ho
   ·rename_i e
    rw [kQ e] at hg
    rw [oE]
    have hj := h'.ob j g hg
    cases hoj : obj s.m j with
    | row k sz cs =>
     rw [hoj] at hj
     cases k with
     | true =>
      obtain ⟨L, vs, h1, h2, h3⟩ := hj
      exact ⟨L, vs, h1, h2, h3.kill ⟨fun _ h => h, fun _ _ => rfl⟩⟩
     | false => exact hj
    | dead => trivial
    | fence => rw [hoj] at hj; exact hj
    | arr e sz cs => rw [hoj] at hj; exact hj
    | it t p => rw [hoj] at hj; exact hj
    | mp es => rw [hoj] at hj; exact hj
  live := fun j M hM => by
   show _ ∧ _ ∧ eE V w0 M (obj (cD (eH id s.m) id o) j)
   rw [oF _ _ _ _ hlt]
   by_cases e : j = id
   ·subst e
    rw [hnew] at hM; simp at hM
    have := hg M hM
    rw [if_pos rfl]
    refine ⟨fun hF => ?_, this.2, ?_⟩
    ·have := (h.fb _ hF).1; omega
    ·have := h.keep.size
     have : w0.heap.size ≤ M.b := by omega
     unfold eE
     split
     all_goals exact .inl this
   ·rw [kQ e] at hM
    rw [if_neg e, oE]
    refine ⟨(h'.live j M hM).1, (h'.live j M hM).2.1, ?_⟩
    have := (h'.live j M hM).2.2
    cases hoj : obj s.m j with
    | row k sz cs =>
     rw [hoj] at this
     cases k with
     | true => simpa [aR, eE, D2] using this
     | false => exact this
    | dead => rw [hoj] at this; exact this
    | fence => rw [hoj] at this; exact this
    | arr e sz cs => rw [hoj] at this; exact this
    | it t p => rw [hoj] at this; exact this
    | mp es => rw [hoj] at this; exact this
  inj := fun i j L M hi hj hb => by
   by_cases ei : i = id <;> by_cases ej : j = id
   ·omega
   ·subst ei
    rw [hnew] at hi; simp at hi
    rw [kQ ej] at hj
    have := hg L hi; have := (h.live j M hj).2.1; omega
   ·subst ej
    rw [hnew] at hj; simp at hj
    rw [kQ ei] at hi
    have := hg M hj; have := (h.live i L hi).2.1; omega
   ·rw [kQ ei] at hi
    rw [kQ ej] at hj
    exact h.inj i j L M hi hj hb
  fb := h'.fb
  keep := h'.keep
  f0 := h.f0
  nd := h.nd
  rows := h'.rows
  fence := fun k hk => by
   show obj (cD (eH id s.m) id o) k = .fence
   have h1 := h.fence k hk
   rw [oF _ _ _ _ hlt]
   split
   ·rename_i e; subst e; exact absurd h1 hnf
   ·rw [oE, h1]; rfl
  tabs := h.tabs
  pin := fun j M hp => by
   obtain ⟨h1, h2, h3⟩ := h.pin j M hp
   have e : j ≠ id := fun e => by subst e; rw [h3] at hri; cases hri
   refine ⟨h1, by rw [kQ e]; exact h2, ?_⟩
   show rowish (obj (cD (eH id s.m) id o) j) = true
   rw [oF _ _ _ _ hlt, if_neg e, oE, EC]
   exact h3 }
theorem TP {id : Nat} {x : AV} {v : Value} (h : aH w F G x v) : aH w F G (kF id x) v := by
 unfold kF
 split
 ·exact .junk v
 ·exact h
theorem zff {id : Nat} {xs : List AV} {vs : List Value} (h : aF w F G xs vs) : aF w F G (j1 id xs) vs := by
 induction xs generalizing vs with
 | nil => cases h; exact .nil
 | cons x xs ih => cases h with | cons hx hp => exact .cons (TP hx) (ih hp)
theorem aE.forget (h : aE P N V w0 s G F a w) (id : Nat) : aE P N V w0 ⟨gO id s.t, eH id s.m⟩ G F a w where
 defers := h.defers
 tsize := h.tsize
 tm := fun k => by
  show aH w F G (get (gO id s.t) k) _
  rw [yB]
  exact TP (h.tm k)
 len := by simp [yU, h.len]
 ob := fun j g hg => by
  show d6 w F G g (obj (eH id s.m) j)
  rw [oE]
  have hj := h.ob j g hg
  cases hoj : obj s.m j with
  | row k sz cs =>
   rw [hoj] at hj
   cases k with
   | true =>
    obtain ⟨L, vs, h1, h2, h3⟩ := hj
    exact ⟨L, vs, h1, h2, zff h3⟩
   | false => exact hj
  | dead => trivial
  | fence => rw [hoj] at hj; exact hj
  | arr e sz cs => rw [hoj] at hj; exact hj
  | it t p => rw [hoj] at hj; exact hj
  | mp es => rw [hoj] at hj; exact hj
 live := fun j M hM => by
  show _ ∧ _ ∧ eE V w0 M (obj (eH id s.m) j)
  rw [oE]
  refine ⟨(h.live j M hM).1, (h.live j M hM).2.1, ?_⟩
  have := (h.live j M hM).2.2
  cases hoj : obj s.m j with
  | row k sz cs =>
   rw [hoj] at this
   cases k with
   | true => simpa [aR, eE, D2] using this
   | false => exact this
  | dead => rw [hoj] at this; exact this
  | fence => rw [hoj] at this; exact this
  | arr e sz cs => rw [hoj] at this; exact this
  | it t p => rw [hoj] at this; exact this
  | mp es => rw [hoj] at this; exact this
 inj := h.inj
 fb := h.fb
 keep := h.keep
 f0 := h.f0
 nd := h.nd
 rows := h.rows
 fence := fun k hk => by
  show obj (eH id s.m) k = .fence
  rw [oE, h.fence k hk]; rfl
 tabs := h.tabs
 pin := fun j M hp => by
  obtain ⟨h1, h2, h3⟩ := h.pin j M hp
  refine ⟨h1, h2, ?_⟩
  show rowish (obj (eH id s.m) j) = true
  rw [oE, EC]
  exact h3
theorem zfg (id i : Nat) (o : Ob) (m : List Ob) : eH id (cD m i o) = cD (eH id m) i (aR id o) := by
 induction m generalizing i with
 | nil => rfl
 | cons x l ih => cases i <;> simp [cD, eH, ih]
end
end Go.AE
