/- A part of the abstract evaluator: no condition. -/
import Derived.Test.YtoppecphhiiiiaaGreatDoorAELoop
set_option linter.unusedVariables false
set_option linter.unusedSimpArgs false
namespace Go.AE
section
variable {N : Nat} {C : bI} {P : Program} {V : dJ} {w0 w w' : World} {s s' : St} {G : Gh} {F : Nat → Prop} {a : Act}
def celly : Ob → Bool
 | .row _ _ _ => true
 | .arr _ _ _ => true
 | .dead => true
 | .fence => true
 | _ => false
def cellys : List Ob → Bool
 | [] => true
 | o :: l => celly o && cellys l
theorem BL : ∀ {m : List Ob} (k : Nat), cellys m = true → celly (obj m k) = true
 | [], k, _ => rfl
 | o :: l, 0, h => by simp [cellys] at h; exact h.1
 | o :: l, k + 1, h => by simp [cellys] at h; exact BL k h.2
theorem OX {g : Option bU} {o : Ob} (h : d6 w F G g o) (hc : celly o = true) (hd : o ≠ .dead) : ∀ L, g = some L → ∃ x, w.heap[L.b]? = some x ∧ x.isCells = true := by
 rintro L rfl
 cases o with
 | dead => exact absurd rfl hd
 | fence => cases h
 | row k sz cs =>
  obtain ⟨M, vs, e, ⟨c, e', fz, h1, _⟩, _⟩ := h
  cases e
  exact ⟨_, h1, rfl⟩
 | arr e sz cs =>
  obtain ⟨n, vs, ⟨_, h1⟩, _⟩ := h
  rcases h1 with ⟨h1, _⟩ | ⟨gb, cap, cur, h1, _, h2, _⟩
  ·cases h1
  ·cases h1; exact ⟨_, h2, rfl⟩
 | it t p => cases hc
 | mp es => cases hc
theorem aE.grownBy (h : aE P N V w0 s G F a w) (hc : cellys s.m = true) {row : Option Nat} (hg : w.grownBy w' row) (hr : ∀ r, row = some r → w0.heap.size ≤ r ∧ ¬ F r ∧ ∃ o : Obj, w.heap[r]? = some o ∧ o.isCells = false) :
  aE P N V w0 s G F a w' := by
 have hne : ∀ {k : Nat} {x : Obj}, w.heap[k]? = some x → x.isCells = true → some k ≠ row := by
  rintro k x hx hxc e
  obtain ⟨_, _, o, ho, hoc⟩ := hr k e.symm
  rw [hx] at ho; cases ho
  rw [hxc] at hoc; cases hoc
 have hs : fQ F F w w' := ⟨fun _ h => h, fun b hb => hg.block b (h.fb b hb).1 fun e => (hr b e.symm).2.1 hb⟩
 exact {
  defers := h.defers
  tsize := h.tsize
  tm := fun k => aH.mono hs (bS.refl _) (h.tm k)
  len := h.len
  ob := fun id g hg' => by
   have ho := h.ob id g hg'
   by_cases hd : obj s.m id = .dead
   ·rw [hd]; trivial
   ·refine ho.keep hs (bS.refl _) fun L hL => ?_
    obtain ⟨x, hx, hxc⟩ := OX ho (BL id hc) hd L hL
    exact hg.block _ (kT hx) (hne hx hxc)
  live := fun id L hg' => ⟨(h.live id L hg').1, Nat.lt_of_lt_of_le (h.live id L hg').2.1 hg.size, (h.live id L hg').2.2⟩
  inj := h.inj
  fb := fun b hb => ⟨Nat.lt_of_lt_of_le (h.fb b hb).1 hg.size, (h.fb b hb).2⟩
  keep := h.keep.trans' hg.os hg.tape hg.output hg.size fun k hk _ => hg.block k (Nat.lt_of_lt_of_le hk h.keep.size) fun e => by have := (hr k e.symm).1; omega
  f0 := h.f0
  nd := h.nd
  rows := fun r hr' => (h.rows r hr').block (by
   obtain ⟨c0, c, e, fz, h1, h2, _⟩ := h.rows r hr'
   exact hg.block _ (kT h2) (hne h2 rfl))
  fence := h.fence
  tabs := h.tabs
  pin := h.pin }
theorem aE.defer (h : aE P N V w0 s G F a w) (d : Deferred) : aE P N { V with ds := d :: V.ds } w0 s G F { a with defers := d :: a.defers } w where
 defers := by show d :: a.defers = d :: V.ds; rw [h.defers]
 tsize := h.tsize
 tm := h.tm
 len := h.len
 ob := h.ob
 live := h.live
 inj := h.inj
 fb := h.fb
 keep := h.keep
 f0 := h.f0
 nd := h.nd
 rows := h.rows
 fence := h.fence
 tabs := h.tabs
 pin := h.pin
def oC : AV → Bool
 | .v _ => true
 | .junk => true
 | .un => true
 | .ptr _ _ => true
 | .ref _ _ _ => true
 | _ => false
theorem aH.free {F' : Nat → Prop} {x : AV} {v : Value} (hf : oC x = true) (h : aH w F G x v) : aH w F' G x v := by
 cases h <;> first | (simp [oC] at hf; done) | (constructor <;> assumption)
theorem aF.free {F' : Nat → Prop} {xs : List AV} {vs : List Value} (hf : xs.all oC = true) (h : aF w F G xs vs) : aF w F' G xs vs := by
 induction xs generalizing vs with
 | nil => cases h; exact .nil
 | cons x xs ih =>
  simp only [List.all_cons, Bool.and_eq_true] at hf
  cases h with | cons h1 h2 => exact .cons (h1.free hf.1) (ih hf.2 h2)
def y9 : Ob → Bool
 | .row _ _ cs => cs.all oC
 | .arr _ _ cs => cs.all oC
 | .dead => true
 | .fence => true
 | _ => false
theorem d6.free {F' : Nat → Prop} {g : Option bU} {o : Ob} (hf : y9 o = true) (h : d6 w F G g o) : d6 w F' G g o := by
 cases o with
 | dead => trivial
 | fence => exact h
 | row k sz cs =>
  obtain ⟨L, vs, h1, h2, h3⟩ := h
  exact ⟨L, vs, h1, h2, h3.free hf⟩
 | arr e sz cs =>
  obtain ⟨n, vs, h1, h2, h3⟩ := h
  exact ⟨n, vs, h1, h2.free hf, h3⟩
 | _ => cases hf
def pH : List Ob → Bool
 | [] => true
 | o :: l => y9 o && pH l
theorem RW : ∀ {m : List Ob} (k : Nat), pH m = true → y9 (obj m k) = true
 | [], k, _ => rfl
 | o :: l, 0, h => by simp [pH] at h; exact h.1
 | o :: l, k + 1, h => by simp [pH] at h; exact RW k h.2
def v7 : List (Nat × AV) → Bool
 | [] => true
 | (_, x) :: l => oC x && v7 l
theorem RX : ∀ {t : List (Nat × AV)} (k : Nat), v7 t = true → oC (get t k) = true
 | [], k, _ => rfl
 | (j, x) :: l, k, h => by
  simp [v7] at h
  show oC (if j = k then x else get l k) = true
  split
  ·exact h.1
  ·exact RX k h.2
theorem aE.refr {F0 FR : Nat → Prop} {ds : List Deferred} (h : aE P N ⟨F0, [], [], ds, none, fun _ => none⟩ w0 s G F a w) (ht : v7 s.t = true) (hm : pH s.m = true) (h1 : ∀ b, F0 b → FR b) (h2 : ∀ b, FR b → b < w.heap.size)
  (h3 : ∀ (id : Nat) (L : bU), G[id]? = some (some L) → ¬ FR L.b) : aE P N ⟨FR, [], [], ds, none, fun _ => none⟩ w0 s G FR a w where
 defers := h.defers
 tsize := h.tsize
 tm := fun k => (h.tm k).free (RX k ht)
 len := h.len
 ob := fun id g hg => (h.ob id g hg).free (RW id hm)
 live := fun id L hg => ⟨h3 id L hg, (h.live id L hg).2⟩
 inj := h.inj
 fb := fun b hb => ⟨h2 b hb, .inr (by rintro (h | ⟨r, hr, _⟩); cases h; cases hr)⟩
 keep := h.keep
 f0 := ⟨fun _ h => h, fun _ h => .inl h⟩
 nd := h.nd
 rows := h.rows
 fence := h.fence
 tabs := h.tabs.sub h1
 pin := h.pin
theorem aE.shrink {FR : Nat → Prop} {ds : List Deferred} (h : aE P N ⟨FR, [], [], ds, none, fun _ => none⟩ w0 s G F a w) (ht : v7 s.t = true) (hm : pH s.m = true) : aE P N ⟨FR, [], [], ds, none, fun _ => none⟩ w0 s G FR a w :=
 h.refr ht hm (fun _ h => h) (fun b hb => (h.fb b (h.f0.1 b hb)).1) fun id L hg hF => (h.live id L hg).1 (h.f0.1 _ hF)
theorem aE.nilBox (h : aE P N V w0 s G F a w) {id j : Nat} {L : bU} (hid : G[id]? = some (some L)) (hj : G[j]? = some none) (ho : obj s.m id = .row true 1 [.v (.slice none 0 0)]) :
  aE P N V w0 ⟨s.t, cD s.m id (.row true 1 [.ref j 0 0])⟩ G F a w := by
 have hL := h.live id L hid
 have hob := h.ob id _ hid
 rw [ho] at hob hL
 refine h.turn hid rfl rfl rfl rfl (fun _ _ => rfl) ?_ ?_ (fun r hr _ => h.rows r hr) (fun _ => rfl)
 ·obtain ⟨M, vs, h1, h2, h3⟩ := hob
  refine ⟨M, vs, h1, h2, ?_⟩
  cases h3 with
  | cons h3 h4 =>
   cases h4; cases h3
   exact .cons (.ref0 hj) .nil
 ·exact hL.2.2
theorem aE.nilArr (h : aE P N V w0 s G F a w) (e sz : Nat) (hsz : 0 < sz) : aE P N V w0 ⟨s.t, s.m ++ [.arr e sz []]⟩ (G ++ [none]) F a w :=
 h.push (.refl w) ⟨0, [], ⟨by simp, .inl ⟨rfl, rfl⟩⟩, .nil, by simp, hsz, fun L e => by cases e⟩ fun L e => by cases e
def WH : Op → Bool
 | .call { callee := .value _, .. } => false
 | _ => true
def x9 (P : Program) (N : Nat) (V : dJ) (w0 : World) (F : Nat → Prop) (K : St → Prop) (a : Act) (w : World) : Prop := ∃ s G, K s ∧ aE P N V w0 s G F a w
theorem zlo (r : Option Nat) (m : Nat) (hC : C.Ok P) (h : aE P N V w0 s G F a w) {o : Oper} (hd : cV N o.dst = true) (hn : WH o.op = true) {K : St → Prop} {Q : Exit → Act → World → Prop} (hk : wop C P s o K) : o.wpIn (fr r) m P a w (x9 P N V w0 F K) Q := by
 unfold wop at hk
 split at hk
 ·rename_i f args ats ho
  rw [ho] at hn; cases hn
 ·have hnd : ∀ c, o.op ≠ .defer c := fun c e => by simp [gH, e, jS, bB] at hk
  obtain ⟨s', G', a', w', nx, h1, h2, h3, h4⟩ := BT hC h hd hk
  refine ⟨fun _ _ => trivial, ?_⟩
  rw [l0 r a.eval o hnd, h3]
  rcases h4 with ⟨v, rfl, rfl⟩ | ⟨rfl, rfl⟩
  ·exact ⟨s', G', h1, h2⟩
  ·exact ⟨s', G', h1, h2⟩
def opF (N : Nat) (o : Oper) : Bool := cV N o.dst && WH o.op && o.guard.isNone
theorem FW (r : Option Nat) (m : Nat) (rest : List Oper) (hC : C.Ok P) (ops : Array Oper) {K : St → Prop} {Q : Exit → Act → World → Prop} (hQ : ∀ a w, x9 P N V w0 F K a w → wpListIn (fr r) m P ops Q rest a w) :
  ∀ (os : List Oper) {s : St} {G : Gh} {a : Act} {w : World}, os.all (opF N) = true → aE P N V w0 s G F a w → wops C P ops.toList K os s → wpListIn (fr r) m P ops Q (os ++ rest) a w
 | [], s, G, a, w, _, h, hk => hQ a w ⟨s, G, hk, h⟩
 | o :: os, s, G, a, w, hd, h, hk => by
  simp only [List.all_cons, opF, Bool.and_eq_true] at hd
  obtain ⟨⟨⟨hd1, hd2⟩, hd3⟩, hd4⟩ := hd
  have hg : o.guard = none := by simpa using hd3
  unfold wops at hk
  rw [hg] at hk
  dsimp only at hk
  show wpListIn (fr r) m P ops Q (o :: (os ++ rest)) a w
  unfold wpListIn
  rw [if_pos (by simp [Region.wanted, hg])]
  exact AQ (zlo r m hC h hd1 hd2 hk) fun a w ⟨s, G, h1, h2⟩ => FW r m rest hC ops hQ os hd4 h2 h1
theorem vL (r : Option Nat) (m : Nat) (hC : C.Ok P) {ops os : List Oper} {Q : Exit → Act → World → Prop} (Qs : Exit → St → Prop) (hd : os.all (opF N) = true) (h : aE P N V w0 s G F a w) (hw : WR C P ops Qs os s)
  (hQ : ∀ a w, x9 P N V w0 F (Qs .normal) a w → Q .normal a w) : wpListIn (fr r) m P ops.toArray Q os a w := by
 have := FW r m [] (Q := Q) hC ops.toArray (K := Qs .normal) hQ os hd h (by simpa using hw.out)
 simpa using this
theorem zfz (r : Option Nat) (m k : Nat) (hC : C.Ok P) {ops os : List Oper} {Q : Exit → Act → World → Prop} (Qs : Exit → St → Prop) (hd : (os.take k).all (opF N) = true) (h : aE P N V w0 s G F a w) (hw : WR C P ops Qs (os.take k) s)
  (hQ : ∀ a w, x9 P N V w0 F (Qs .normal) a w → wpListIn (fr r) m P ops.toArray Q (os.drop k) a w) : wpListIn (fr r) m P ops.toArray Q os a w := by
 have := FW r m (os.drop k) (Q := Q) hC ops.toArray (K := Qs .normal) hQ (os.take k) hd h (by simpa using hw.out)
 rwa [List.take_append_drop] at this
theorem aE.redefer (h : aE P N V w0 s G F a w) (ds : List Deferred) : aE P N { V with ds := ds } w0 s G F { a with defers := ds } w where
 defers := rfl
 tsize := h.tsize
 tm := h.tm
 len := h.len
 ob := h.ob
 live := h.live
 inj := h.inj
 fb := h.fb
 keep := h.keep
 f0 := h.f0
 nd := h.nd
 rows := h.rows
 fence := h.fence
 tabs := h.tabs
 pin := h.pin
def lively : List Ob → Bool
 | [] => true
 | .dead :: _ => false
 | _ :: l => lively l
theorem VB : ∀ {m : List Ob} (k : Nat), lively m = true → k < m.length → obj m k ≠ .dead
 | [], k, _, h => by simp at h
 | o :: l, 0, h, _ => by cases o <;> simp [lively] at h <;> simp [obj]
 | o :: l, k + 1, h, hk => by
  have hl : lively l = true := by cases o <;> simp [lively] at h <;> exact h
  exact VB k hl (by simpa using hk)
theorem aE.lentCells {m0 : List Ob} {g : Gh} (h : aE P N (VL F m0 g) w ⟨s.t, m0 ++ [.fence]⟩ (g ++ [none]) F a w) (hc : cellys m0 = true) (hl : lively m0 = true) {k : Nat} (hX : (VL F m0 g).X k) : ∃ x, w.heap[k]? = some x ∧ x.isCells = true := by
 have main : ∀ (i : Nat) (L : bU), g[i]? = some (some L) → L.b = k → ∃ x, w.heap[k]? = some x ∧ x.isCells = true := by
  rintro i L hi rfl
  have hgl : (g ++ [none])[i]? = some (some L) := by
   rw [List.getElem?_append_left (List.getElem?_eq_some_iff.1 hi).1]; exact hi
  have hlen : g.length = m0.length := by have := h.len; simpa using this
  have hlt : i < m0.length := by rw [← hlen]; exact (List.getElem?_eq_some_iff.1 hi).1
  have ho := h.ob i _ hgl
  rw [show (St.mk s.t (m0 ++ [.fence])).m = m0 ++ [.fence] from rfl, zhh _ _ hlt] at ho
  exact OX ho (BL i hc) (VB i hl hlt) L rfl
 rcases hX with hX | ⟨r, hr, rfl⟩
 ·obtain ⟨i, L, h1, _, _, h4⟩ := (tL _ _ _).1 hX
  exact main i L h1 h4
 ·obtain ⟨i, L, _, _, _, h1, _, h3⟩ := (lS _ _ _).1 hr
  exact main i L h1 (by rw [h3])
theorem aE.lentKeeps {m0 : List Ob} {g : Gh} {s' : St} {G' : Gh} {F' : Nat → Prop} {a' : Act} {N' : Nat} (h : aE P N (VL F m0 g) w ⟨s.t, m0 ++ [.fence]⟩ (g ++ [none]) F a w) (hc : cellys m0 = true) (hl : lively m0 = true)
  {ds : List Deferred} (h' : aE P N' { VL F m0 g with ds := ds } w s' G' F' a' w') : KeepsOthers w w' ∧ ∀ b, F b → w'.heap[b]? = w.heap[b]? := by
 have hX : ∀ {k : Nat} {x : Obj}, w.heap[k]? = some x → x.isCells = false → ¬ (VL F m0 g).X k := by
  intro k x hx hxc hX
  obtain ⟨y, hy, hyc⟩ := h.lentCells hc hl hX
  rw [hx] at hy; cases hy
  rw [hxc] at hyc; cases hyc
 refine ⟨⟨h'.keep.size, fun k o hk ho => (h'.keep.block k (kT hk) (hX hk ho)).trans hk⟩, fun b hb => h'.keep.block b (h.fb b hb).1 ?_⟩
 rcases (h.fb b hb).2 with q | q
 ·have := (h.fb b hb).1; omega
 ·exact q
theorem lC.sub {F0 FR : Nat → Prop} {r : AV} {e : Ending} (h : lC w FR r e w') (h1 : ∀ b, F0 b → FR b) (h2 : ∀ b, FR b → F0 b ∨ w.heap.size ≤ b) : lC w F0 r e w' := by
 obtain ⟨v, F', H, q1, q2, q3, q4, q5⟩ := h
 exact ⟨v, F', H, q1, q2, fun b hb => q3 b (h1 b hb), fun b hb => ⟨by rcases (q4 b hb).1 with h | h; exact h2 b h; exact .inr h, (q4 b hb).2⟩, q5⟩
end
end Go.AE
