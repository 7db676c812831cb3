/- A part of the abstract evaluator: no condition. -/
import Derived.Test.YtoppecphhiiiiaaGreatDoorAELoop
set_option linter.unusedVariables false
set_option linter.unusedSimpArgs false
namespace Go.AE
section
variable {N : Nat} {C : Ctx} {P : Program} {V : z2e} {w0 w w' : World} {s s' : St} {G : Gh} {F : Nat → Prop} {a : Act}
def celly : Ob → Bool
 | .row _ _ _ => true
 | .arr _ _ _ => true
 | .dead => true
 | .fence => true
 | _ => false
def cellys : List Ob → Bool
 | [] => true
 | o :: l => celly o && cellys l
theorem zcw : ∀ {m : List Ob} (k : Nat), cellys m = true → celly (obj m k) = true
 | [], k, _ => rfl
 | o :: l, 0, h => by simp [cellys] at h; exact h.1
 | o :: l, k + 1, h => by simp [cellys] at h; exact zcw k h.2
theorem zfv {g : Option Loc} {o : Ob} (h : z1w w F G g o) (hc : celly o = true) (hd : o ≠ .dead) : ∀ L, g = some L → ∃ x, w.heap[L.b]? = some x ∧ x.isCells = true := by
 rintro L rfl
 cases o with
 | dead => exact absurd rfl hd
 | fence => cases h
 | row k sz cs =>
   obtain ⟨M, vs, e, ⟨c, e', fz, h1, _⟩, _⟩ := h
   cases e
   exact ⟨_, h1, rfl⟩
 | arr e sz cs =>
   obtain ⟨n, vs, ⟨_, h1⟩, _⟩ := h
   rcases h1 with ⟨h1, _⟩ | ⟨gb, cap, cur, h1, _, h2, _⟩
   · cases h1
   · cases h1; exact ⟨_, h2, rfl⟩
 | it t p => cases hc
 | mp es => cases hc
theorem Rel.grownBy (h : Rel P N V w0 s G F a w) (hc : cellys s.m = true) {row : Option Nat} (hg : w.grownBy w' row) (hr : ∀ r, row = some r → w0.heap.size ≤ r ∧ ¬ F r ∧ ∃ o : Obj, w.heap[r]? = some o ∧ o.isCells = false) :
   Rel P N V w0 s G F a w' := by
 have hne : ∀ {k : Nat} {x : Obj}, w.heap[k]? = some x → x.isCells = true → some k ≠ row := by
   rintro k x hx hxc e
   obtain ⟨_, _, o, ho, hoc⟩ := hr k e.symm
   rw [hx] at ho; cases ho
   rw [hxc] at hoc; cases hoc
 have hs : zev F F w w' := ⟨fun _ h => h, fun b hb => hg.block b (h.fb b hb).1 fun e => (hr b e.symm).2.1 hb⟩
 exact {
   defers := h.defers
   tsize := h.tsize
   tm := fun k => Rep.mono hs (z2v.refl _) (h.tm k)
   len := h.len
   ob := fun id g hg' => by
     have ho := h.ob id g hg'
     by_cases hd : obj s.m id = .dead
     · rw [hd]; trivial
     · refine ho.keep hs (z2v.refl _) fun L hL => ?_
       obtain ⟨x, hx, hxc⟩ := zfv ho (zcw id hc) hd L hL
       exact hg.block _ (z1q hx) (hne hx hxc)
   live := fun id L hg' => ⟨(h.live id L hg').1, Nat.lt_of_lt_of_le (h.live id L hg').2.1 hg.size, (h.live id L hg').2.2⟩
   inj := h.inj
   fb := fun b hb => ⟨Nat.lt_of_lt_of_le (h.fb b hb).1 hg.size, (h.fb b hb).2⟩
   keep := h.keep.trans' hg.os hg.tape hg.output hg.size fun k hk _ => hg.block k (Nat.lt_of_lt_of_le hk h.keep.size) fun e => by have := (hr k e.symm).1; omega
   f0 := h.f0
   nd := h.nd
   rows := fun r hr' => (h.rows r hr').block (by
     obtain ⟨c0, c, e, fz, h1, h2, _⟩ := h.rows r hr'
     exact hg.block _ (z1q h2) (hne h2 rfl))
   fence := h.fence
   tabs := h.tabs
   pin := h.pin }
theorem Rel.defer (h : Rel P N V w0 s G F a w) (d : Deferred) : Rel P N { V with ds := d :: V.ds } w0 s G F { a with defers := d :: a.defers } w where
 defers := by show d :: a.defers = d :: V.ds; rw [h.defers]
 tsize := h.tsize
 tm := h.tm
 len := h.len
 ob := h.ob
 live := h.live
 inj := h.inj
 fb := h.fb
 keep := h.keep
 f0 := h.f0
 nd := h.nd
 rows := h.rows
 fence := h.fence
 tabs := h.tabs
 pin := h.pin
def zn2 : AV → Bool
 | .v _ => true
 | .junk => true
 | .un => true
 | .ptr _ _ => true
 | .ref _ _ _ => true
 | _ => false
theorem Rep.free {F' : Nat → Prop} {x : AV} {v : Value} (hf : zn2 x = true) (h : Rep w F G x v) : Rep w F' G x v := by
 cases h <;> first | (simp [zn2] at hf; done) | (constructor <;> assumption)
theorem z0l.free {F' : Nat → Prop} {xs : List AV} {vs : List Value} (hf : xs.all zn2 = true) (h : z0l w F G xs vs) : z0l w F' G xs vs := by
 induction xs generalizing vs with
 | nil => cases h; exact .nil
 | cons x xs ih =>
   simp only [List.all_cons, Bool.and_eq_true] at hf
   cases h with | cons h1 h2 => exact .cons (h1.free hf.1) (ih hf.2 h2)
def y0b3 : Ob → Bool
 | .row _ _ cs => cs.all zn2
 | .arr _ _ cs => cs.all zn2
 | .dead => true
 | .fence => true
 | _ => false
theorem z1w.free {F' : Nat → Prop} {g : Option Loc} {o : Ob} (hf : y0b3 o = true) (h : z1w w F G g o) : z1w w F' G g o := by
 cases o with
 | dead => trivial
 | fence => exact h
 | row k sz cs =>
   obtain ⟨L, vs, h1, h2, h3⟩ := h
   exact ⟨L, vs, h1, h2, h3.free hf⟩
 | arr e sz cs =>
   obtain ⟨n, vs, h1, h2, h3⟩ := h
   exact ⟨n, vs, h1, h2.free hf, h3⟩
 | _ => cases hf
def zdm : List Ob → Bool
 | [] => true
 | o :: l => y0b3 o && zdm l
theorem zk6 : ∀ {m : List Ob} (k : Nat), zdm m = true → y0b3 (obj m k) = true
 | [], k, _ => rfl
 | o :: l, 0, h => by simp [zdm] at h; exact h.1
 | o :: l, k + 1, h => by simp [zdm] at h; exact zk6 k h.2
def zpg : List (Nat × AV) → Bool
 | [] => true
 | (_, x) :: l => zn2 x && zpg l
theorem zk7 : ∀ {t : List (Nat × AV)} (k : Nat), zpg t = true → zn2 (get t k) = true
 | [], k, _ => rfl
 | (j, x) :: l, k, h => by
   simp [zpg] at h
   show zn2 (if j = k then x else get l k) = true
   split
   · exact h.1
   · exact zk7 k h.2
theorem Rel.refr {F0 FR : Nat → Prop} {ds : List Deferred} (h : Rel P N ⟨F0, [], [], ds, none, fun _ => none⟩ w0 s G F a w) (ht : zpg s.t = true) (hm : zdm s.m = true) (h1 : ∀ b, F0 b → FR b) (h2 : ∀ b, FR b → b < w.heap.size)
   (h3 : ∀ (id : Nat) (L : Loc), G[id]? = some (some L) → ¬ FR L.b) : Rel P N ⟨FR, [], [], ds, none, fun _ => none⟩ w0 s G FR a w where
 defers := h.defers
 tsize := h.tsize
 tm := fun k => (h.tm k).free (zk7 k ht)
 len := h.len
 ob := fun id g hg => (h.ob id g hg).free (zk6 id hm)
 live := fun id L hg => ⟨h3 id L hg, (h.live id L hg).2⟩
 inj := h.inj
 fb := fun b hb => ⟨h2 b hb, .inr (by rintro (h | ⟨r, hr, _⟩); cases h; cases hr)⟩
 keep := h.keep
 f0 := ⟨fun _ h => h, fun _ h => .inl h⟩
 nd := h.nd
 rows := h.rows
 fence := h.fence
 tabs := h.tabs.sub h1
 pin := h.pin
theorem Rel.shrink {FR : Nat → Prop} {ds : List Deferred} (h : Rel P N ⟨FR, [], [], ds, none, fun _ => none⟩ w0 s G F a w) (ht : zpg s.t = true) (hm : zdm s.m = true) : Rel P N ⟨FR, [], [], ds, none, fun _ => none⟩ w0 s G FR a w :=
 h.refr ht hm (fun _ h => h) (fun b hb => (h.fb b (h.f0.1 b hb)).1) fun id L hg hF => (h.live id L hg).1 (h.f0.1 _ hF)
theorem Rel.nilBox (h : Rel P N V w0 s G F a w) {id j : Nat} {L : Loc} (hid : G[id]? = some (some L)) (hj : G[j]? = some none) (ho : obj s.m id = .row true 1 [.v (.slice none 0 0)]) :
   Rel P N V w0 ⟨s.t, z1d s.m id (.row true 1 [.ref j 0 0])⟩ G F a w := by
 have hL := h.live id L hid
 have hob := h.ob id _ hid
 rw [ho] at hob hL
 refine h.turn hid rfl rfl rfl rfl (fun _ _ => rfl) ?_ ?_ (fun r hr _ => h.rows r hr) (fun _ => rfl)
 · obtain ⟨M, vs, h1, h2, h3⟩ := hob
   refine ⟨M, vs, h1, h2, ?_⟩
   cases h3 with
   | cons h3 h4 =>
     cases h4; cases h3
     exact .cons (.ref0 hj) .nil
 · exact hL.2.2
theorem Rel.nilArr (h : Rel P N V w0 s G F a w) (e sz : Nat) (hsz : 0 < sz) : Rel P N V w0 ⟨s.t, s.m ++ [.arr e sz []]⟩ (G ++ [none]) F a w :=
 h.push (.refl w) ⟨0, [], ⟨by simp, .inl ⟨rfl, rfl⟩⟩, .nil, by simp, hsz, fun L e => by cases e⟩ fun L e => by cases e
def y0f7 : Op → Bool
 | .call { callee := .value _, .. } => false
 | _ => true
def y0a4 (P : Program) (N : Nat) (V : z2e) (w0 : World) (F : Nat → Prop) (K : St → Prop) (a : Act) (w : World) : Prop := ∃ s G, K s ∧ Rel P N V w0 s G F a w
theorem y01l (r : Option Nat) (m : Nat) (hC : C.Ok P) (h : Rel P N V w0 s G F a w) {o : Oper} (hd : dOk N o.dst = true) (hn : y0f7 o.op = true) {K : St → Prop} {Q : Exit → Act → World → Prop} (hk : wop C P s o K) : o.wpIn (fr r) m P a w (y0a4 P N V w0 F K) Q := by
 unfold wop at hk
 split at hk
 · rename_i f args ats ho
   rw [ho] at hn; cases hn
 · have hnd : ∀ c, o.op ≠ .defer c := fun c e => by simp [z5q, e, zay, z06] at hk
   obtain ⟨s', G', a', w', nx, h1, h2, h3, h4⟩ := zg2 hC h hd hk
   refine ⟨fun _ _ => trivial, ?_⟩
   rw [z2b r a.eval o hnd, h3]
   rcases h4 with ⟨v, rfl, rfl⟩ | ⟨rfl, rfl⟩
   · exact ⟨s', G', h1, h2⟩
   · exact ⟨s', G', h1, h2⟩
def opF (N : Nat) (o : Oper) : Bool := dOk N o.dst && y0f7 o.op && o.guard.isNone
theorem zb6 (r : Option Nat) (m : Nat) (rest : List Oper) (hC : C.Ok P) (ops : Array Oper) {K : St → Prop} {Q : Exit → Act → World → Prop} (hQ : ∀ a w, y0a4 P N V w0 F K a w → wpListIn (fr r) m P ops Q rest a w) :
   ∀ (os : List Oper) {s : St} {G : Gh} {a : Act} {w : World}, os.all (opF N) = true → Rel P N V w0 s G F a w → wops C P ops.toList K os s → wpListIn (fr r) m P ops Q (os ++ rest) a w
 | [], s, G, a, w, _, h, hk => hQ a w ⟨s, G, hk, h⟩
 | o :: os, s, G, a, w, hd, h, hk => by
   simp only [List.all_cons, opF, Bool.and_eq_true] at hd
   obtain ⟨⟨⟨hd1, hd2⟩, hd3⟩, hd4⟩ := hd
   have hg : o.guard = none := by simpa using hd3
   unfold wops at hk
   rw [hg] at hk
   dsimp only at hk
   show wpListIn (fr r) m P ops Q (o :: (os ++ rest)) a w
   unfold wpListIn
   rw [if_pos (by simp [Region.wanted, hg])]
   exact z9v (y01l r m hC h hd1 hd2 hk) fun a w ⟨s, G, h1, h2⟩ => zb6 r m rest hC ops hQ os hd4 h2 h1
theorem z8j (r : Option Nat) (m : Nat) (hC : C.Ok P) {ops os : List Oper} {Q : Exit → Act → World → Prop} (Qs : Exit → St → Prop) (hd : os.all (opF N) = true) (h : Rel P N V w0 s G F a w) (hw : WR C P ops Qs os s)
   (hQ : ∀ a w, y0a4 P N V w0 F (Qs .normal) a w → Q .normal a w) : wpListIn (fr r) m P ops.toArray Q os a w := by
 have := zb6 r m [] (Q := Q) hC ops.toArray (K := Qs .normal) hQ os hd h (by simpa using hw.out)
 simpa using this
theorem y07l (r : Option Nat) (m k : Nat) (hC : C.Ok P) {ops os : List Oper} {Q : Exit → Act → World → Prop} (Qs : Exit → St → Prop) (hd : (os.take k).all (opF N) = true) (h : Rel P N V w0 s G F a w) (hw : WR C P ops Qs (os.take k) s)
   (hQ : ∀ a w, y0a4 P N V w0 F (Qs .normal) a w → wpListIn (fr r) m P ops.toArray Q (os.drop k) a w) : wpListIn (fr r) m P ops.toArray Q os a w := by
 have := zb6 r m (os.drop k) (Q := Q) hC ops.toArray (K := Qs .normal) hQ (os.take k) hd h (by simpa using hw.out)
 rwa [List.take_append_drop] at this
theorem Rel.redefer (h : Rel P N V w0 s G F a w) (ds : List Deferred) : Rel P N { V with ds := ds } w0 s G F { a with defers := ds } w where
 defers := rfl
 tsize := h.tsize
 tm := h.tm
 len := h.len
 ob := h.ob
 live := h.live
 inj := h.inj
 fb := h.fb
 keep := h.keep
 f0 := h.f0
 nd := h.nd
 rows := h.rows
 fence := h.fence
 tabs := h.tabs
 pin := h.pin
def lively : List Ob → Bool
 | [] => true
 | .dead :: _ => false
 | _ :: l => lively l
theorem zko : ∀ {m : List Ob} (k : Nat), lively m = true → k < m.length → obj m k ≠ .dead
 | [], k, _, h => by simp at h
 | o :: l, 0, h, _ => by cases o <;> simp [lively] at h <;> simp [obj]
 | o :: l, k + 1, h, hk => by
   have hl : lively l = true := by cases o <;> simp [lively] at h <;> exact h
   exact zko k hl (by simpa using hk)
theorem Rel.lentCells {m0 : List Ob} {g : Gh} (h : Rel P N (VL F m0 g) w ⟨s.t, m0 ++ [.fence]⟩ (g ++ [none]) F a w) (hc : cellys m0 = true) (hl : lively m0 = true) {k : Nat} (hX : (VL F m0 g).X k) : ∃ x, w.heap[k]? = some x ∧ x.isCells = true := by
 have main : ∀ (i : Nat) (L : Loc), g[i]? = some (some L) → L.b = k → ∃ x, w.heap[k]? = some x ∧ x.isCells = true := by
   rintro i L hi rfl
   have hgl : (g ++ [none])[i]? = some (some L) := by
     rw [List.getElem?_append_left (List.getElem?_eq_some_iff.1 hi).1]; exact hi
   have hlen : g.length = m0.length := by have := h.len; simpa using this
   have hlt : i < m0.length := by rw [← hlen]; exact (List.getElem?_eq_some_iff.1 hi).1
   have ho := h.ob i _ hgl
   rw [show (St.mk s.t (m0 ++ [.fence])).m = m0 ++ [.fence] from rfl, zil _ _ hlt] at ho
   exact zfv ho (zcw i hc) (zko i hl hlt) L rfl
 rcases hX with hX | ⟨r, hr, rfl⟩
 · obtain ⟨i, L, h1, _, _, h4⟩ := (z6u _ _ _).1 hX
   exact main i L h1 h4
 · obtain ⟨i, L, _, _, _, h1, _, h3⟩ := (z2l _ _ _).1 hr
   exact main i L h1 (by rw [h3])
theorem Rel.lentKeeps {m0 : List Ob} {g : Gh} {s' : St} {G' : Gh} {F' : Nat → Prop} {a' : Act} {N' : Nat} (h : Rel P N (VL F m0 g) w ⟨s.t, m0 ++ [.fence]⟩ (g ++ [none]) F a w) (hc : cellys m0 = true) (hl : lively m0 = true)
   {ds : List Deferred} (h' : Rel P N' { VL F m0 g with ds := ds } w s' G' F' a' w') : KeepsOthers w w' ∧ ∀ b, F b → w'.heap[b]? = w.heap[b]? := by
 have hX : ∀ {k : Nat} {x : Obj}, w.heap[k]? = some x → x.isCells = false → ¬ (VL F m0 g).X k := by
   intro k x hx hxc hX
   obtain ⟨y, hy, hyc⟩ := h.lentCells hc hl hX
   rw [hx] at hy; cases hy
   rw [hxc] at hyc; cases hyc
 refine ⟨⟨h'.keep.size, fun k o hk ho => (h'.keep.block k (z1q hk) (hX hk ho)).trans hk⟩, fun b hb => h'.keep.block b (h.fb b hb).1 ?_⟩
 rcases (h.fb b hb).2 with q | q
 · have := (h.fb b hb).1; omega
 · exact q
theorem y01o.sub {F0 FR : Nat → Prop} {r : AV} {e : Ending} (h : y01o w FR r e w') (h1 : ∀ b, F0 b → FR b) (h2 : ∀ b, FR b → F0 b ∨ w.heap.size ≤ b) : y01o w F0 r e w' := by
 obtain ⟨v, F', H, q1, q2, q3, q4, q5⟩ := h
 exact ⟨v, F', H, q1, q2, fun b hb => q3 b (h1 b hb), fun b hb => ⟨by rcases (q4 b hb).1 with h | h; exact h2 b h; exact .inr h, (q4 b hb).2⟩, q5⟩
end
end Go.AE
