/- A part of the abstract evaluator: no condition. -/
import Derived.Test.YtoppecphhiiiiaaGreatDoorAESound3
import Derived.Laws.AppendOwn
set_option linter.unusedVariables false
set_option linter.unusedSimpArgs false
namespace Go.AE
mutual
def z0c (id : Nat) : AV → Bool
 | .ref i _ _ => i == id
 | .ptr i _ => i == id
 | .mr i => i == id
 | .ag cs => z2d id cs
 | .tup cs => z2d id cs
 | .fn _ fs cs => z2d id fs || z2d id cs
 | _ => false
def z2d (id : Nat) : List AV → Bool
 | [] => false
 | x :: l => z0c id x || z2d id l
end
def zbt (id : Nat) (x : AV) : AV := match z0c id x with | true => .junk | false => x
def z69 (id : Nat) : List (Nat × AV) → List (Nat × AV)
 | [] => []
 | (k, x) :: l => (k, zbt id x) :: z69 id l
def z56 (id : Nat) : List AV → List AV
 | [] => []
 | x :: l => zbt id x :: z56 id l
def z0g (id : Nat) : Ob → Ob
 | .row true sz cs => .row true sz (z56 id cs)
 | o => o
def z3o (id : Nat) : List Ob → List Ob
 | [] => []
 | o :: l => z0g id o :: z3o id l
section
variable {N : Nat} {C : Ctx} {P : Program} {V : z2e} {w0 w w' : World} {s : St} {G : Gh} {F : Nat → Prop} {a : Act}
theorem z5t (t : List (Nat × AV)) (d : Nat) (x : AV) : get (put t d x) d = x := by
 induction t with
 | nil => simp [put, get]
 | cons p l ih =>
   obtain ⟨k, y⟩ := p
   by_cases h : k = d
   · subst h; simp [put, get]
   · simp [put, get, h, ih]
theorem z7a (t : List (Nat × AV)) (d k : Nat) (x : AV) (h : k ≠ d) : get (put t d x) k = get t k := by
 induction t with
 | nil => simp [put, get]; intro e; exact absurd e.symm h
 | cons p l ih =>
   obtain ⟨j, y⟩ := p
   by_cases hj : j = d
   · subst hj
     have : ¬ j = k := fun e => h e.symm
     simp [put, get, this]
   · simp only [put, hj, if_false, get, ih]
theorem zbp (t : List (Nat × AV)) (id k : Nat) : get (z69 id t) k = zbt id (get t k) := by
 induction t with
 | nil => simp [z69, get, zbt, z0c]
 | cons p l ih =>
   obtain ⟨j, y⟩ := p
   by_cases h : j = k
   · simp [z69, get, h]
   · simp [z69, get, h, ih]
theorem z40 (m : List Ob) (id k : Nat) : obj (z3o id m) k = z0g id (obj m k) := by
 induction m generalizing k with
 | nil => simp [z3o, obj, z0g]
 | cons o l ih => cases k <;> simp [z3o, obj, ih]
theorem z5v (m : List Ob) (id : Nat) : (z3o id m).length = m.length := by
 induction m with
 | nil => rfl
 | cons o l ih => simp [z3o, ih]
theorem z7d (m : List AV) (id : Nat) : (z56 id m).length = m.length := by
 induction m with
 | nil => rfl
 | cons o l ih => simp [z56, ih]
theorem z5w (m : List Ob) (id : Nat) (o : Ob) : (z1d m id o).length = m.length := by
 induction m generalizing id with
 | nil => rfl
 | cons _ l ih => cases id <;> simp [z1d, ih]
theorem z41 (m : List Ob) (id k : Nat) (o : Ob) (h : id < m.length) : obj (z1d m id o) k = if k = id then o else obj m k := by
 induction m generalizing id k with
 | nil => simp at h
 | cons x l ih =>
   cases id with
   | zero => cases k <;> simp [z1d, obj]
   | succ id =>
     cases k with
     | zero => simp [z1d, obj]
     | succ k => simp only [z1d, obj]; rw [ih]; simp; simpa using h
theorem z2n (m : List Ob) (o : Ob) (k : Nat) (h : k < m.length) : obj (m ++ [o]) k = obj m k := by
 induction m generalizing k with
 | nil => simp at h
 | cons x l ih => cases k with
   | zero => simp [obj]
   | succ k => simp only [List.cons_append, obj]; exact ih k (by simpa using h)
theorem z4r (m : List Ob) (o : Ob) : obj (m ++ [o]) m.length = o := by
 induction m with
 | nil => simp [obj]
 | cons x l ih => simpa [obj] using ih
theorem zy1 {m : List Ob} {k : Nat} (h : obj m k ≠ .dead) : k < m.length := by
 induction m generalizing k with
 | nil => exact absurd rfl h
 | cons o l ih => cases k with
   | zero => simp
   | succ k => have := ih (k := k) (by simpa [obj] using h); simp; omega
theorem z9c {m : List Ob} {k : Nat} (h : obj m k = .fence) : k < m.length := zy1 (by rw [h]; intro e; cases e)
theorem z8t (id : Nat) (o : Ob) : rowish (z0g id o) = rowish o := by
 cases o with
 | row k sz cs => cases k <;> simp [z0g, rowish]
 | _ => simp [z0g, rowish]
theorem Rel.put (h : Rel P N V w0 s G F a w) {d : Nat} (hd : d < N) {x : AV} {v : Value} (hx : Rep w F G x v) : Rel P N V w0 ⟨put s.t d x, s.m⟩ G F (a.put (some d) v) w where
 defers := h.defers
 tsize := by simp [Act.put, h.tsize]
 tm := fun k => by
   show Rep w F G (get (AE.put s.t d x) k) _
   by_cases hk : k = d
   · subst hk
     rw [z5t]
     have : k < a.tmps.size := by rw [h.tsize]; exact hd
     simpa [Act.put, Array.getD_eq_getD_getElem?, this] using hx
   · rw [z7a _ _ _ _ hk]
     have := h.tm k
     have e : ¬ d = k := fun e => hk e.symm
     simpa [Act.put, Array.getD_eq_getD_getElem?, Array.getElem?_setIfInBounds, e] using this
 len := h.len
 ob := h.ob
 live := h.live
 inj := h.inj
 fb := h.fb
 keep := h.keep
 f0 := h.f0
 nd := h.nd
 rows := h.rows
 fence := h.fence
 tabs := h.tabs
 pin := h.pin
def putD (t : List (Nat × AV)) (d : Option Nat) (x : AV) : List (Nat × AV) := match d with | some d => AE.put t d x | none => t
def dOk (N : Nat) (d : Option Nat) : Bool := match d with | some d => decide (d < N) | none => true
theorem Rel.putD (h : Rel P N V w0 s G F a w) {d : Option Nat} (hd : dOk N d = true) {x : AV} {v : Value} (hx : Rep w F G x v) : Rel P N V w0 ⟨putD s.t d x, s.m⟩ G F (a.put d v) w := by
 cases d with
 | none => exact h
 | some d => exact h.put (by simpa [dOk] using hd) hx
theorem Keep.trans' {X : Nat → Prop} (h : Keep X w0 w) (os : w'.os = w.os) (tape : w'.tape = w.tape) (output : w'.output = w.output) (size : w.heap.size ≤ w'.heap.size)
   (blk : ∀ k, k < w0.heap.size → ¬ X k → w'.heap[k]? = w.heap[k]?) : Keep X w0 w' :=
 ⟨os.trans h.os, tape.trans h.tape, output.trans h.output, Nat.le_trans h.size size, fun k hk hx => (blk k hk hx).trans (h.block k hk hx)⟩
structure z65 (w w' : World) : Prop where
 os : w'.os = w.os
 tape : w'.tape = w.tape
 output : w'.output = w.output
 size : w.heap.size ≤ w'.heap.size
 block : ∀ k, k < w.heap.size → w'.heap[k]? = w.heap[k]?
theorem z65.refl (w : World) : z65 w w := ⟨rfl, rfl, rfl, Nat.le_refl _, fun _ _ => rfl⟩
theorem z65.trans {w1 w2 w3 : World} (h : z65 w1 w2) (k : z65 w2 w3) : z65 w1 w3 :=
 ⟨k.os.trans h.os, k.tape.trans h.tape, k.output.trans h.output, Nat.le_trans h.size k.size, fun i hi => (k.block i (Nat.lt_of_lt_of_le hi h.size)).trans (h.block i hi)⟩
theorem z65.drew (w : World) : z65 w w.drew := ⟨rfl, rfl, rfl, Nat.le_refl _, fun _ _ => rfl⟩
theorem z65.alloc (w : World) (o : Obj) : z65 w (w.alloc o) := ⟨rfl, rfl, rfl, by simp, fun k hk => Go.RowKit.Below.heap_alloc _ _ _ hk⟩
theorem znn {e sz n : Nat} {L : Loc} {vs : List Value} (h : w.ownsRow 0 e sz (slv (some L) n) n vs) (hb : w'.heap[L.b]? = w.heap[L.b]?) : w'.ownsRow 0 e sz (slv (some L) n) n vs := by
 obtain ⟨h1, h2⟩ := h
 refine ⟨h1, ?_⟩
 rcases h2 with ⟨h2, _⟩ | ⟨g, cap, cur, hv, h3, hh, r⟩
 · simp [slv] at h2
 · refine .inr ⟨g, cap, cur, hv, h3, ?_, r⟩
   simp [slv] at hv
   rw [← hv.1, hb, hv.1, hh]
theorem z3t.block {b o : Nat} {vs : List Value} (h : z3t w b o vs) (hb : w'.heap[b]? = w.heap[b]?) : z3t w' b o vs := by
 obtain ⟨c, e, fz, h1, r⟩ := h
 exact ⟨c, e, fz, by rw [hb]; exact h1, r⟩
theorem z1w.keep {F' : Nat → Prop} {G G' : Gh} {g : Option Loc} {o : Ob} (h : z1w w F G g o) (hs : zev F F' w w') (hg : z2v G G') (hb : ∀ L, g = some L → w'.heap[L.b]? = w.heap[L.b]?) : z1w w' F' G' g o := by
 cases o with
 | dead => trivial
 | fence => exact h
 | arr e sz cs =>
   obtain ⟨n, vs, h1, h2, h3, h4⟩ := h
   refine ⟨n, vs, ?_, z0l.mono hs (z2v.refl _) h2, h3, h4⟩
   cases g with
   | none => exact ⟨h1.1, by rcases h1.2 with h | ⟨_, _, _, h, _⟩; exact .inl h; simp [slv] at h⟩
   | some L => exact znn h1 (hb L rfl)
 | row k sz cs =>
   obtain ⟨L, vs, h1, h2, h3⟩ := h
   refine ⟨L, vs, h1, h2.block (hb L h1), ?_⟩
   cases k with
   | true => exact z0l.mono hs hg h3
   | false => exact z0l.mono hs (z2v.refl _) h3
 | it t p =>
   obtain ⟨L, h1, h2, h3⟩ := h
   exact ⟨L, h1, by rw [hb L h1]; exact h2, h3⟩
 | mp es =>
   obtain ⟨L, ents, clock, h1, h2, h3, h4⟩ := h
   exact ⟨L, ents, clock, h1, by rw [hb L h1]; exact h2, z49.mono hs h3, h4⟩
theorem Rel.same (h : Rel P N V w0 s G F a w) (hw : z65 w w') : zev F F w w' := ⟨fun _ h => h, fun b hb => hw.block b (h.fb b hb).1⟩
theorem z1j.block {r : Reg} (h : z1j w0 w r) (hb : w'.heap[r.b]? = w.heap[r.b]?) : z1j w0 w' r := by
 obtain ⟨c0, c, e, fz, h1, h2, h3⟩ := h
 exact ⟨c0, c, e, fz, h1, by rw [hb]; exact h2, h3⟩
theorem z1q {i : Nat} {o : Obj} (h : w.heap[i]? = some o) : i < w.heap.size := (Array.getElem?_eq_some_iff.1 h).1
theorem z1j.lt {r : Reg} (h : z1j w0 w r) : r.b < w.heap.size := by
 obtain ⟨c0, c, e, fz, h1, h2, h3⟩ := h
 exact z1q h2
theorem Rel.grow (h : Rel P N V w0 s G F a w) (hw : z65 w w') : Rel P N V w0 s G F a w' where
 defers := h.defers
 tsize := h.tsize
 tm := fun k => Rep.mono (h.same hw) (z2v.refl _) (h.tm k)
 len := h.len
 ob := fun id g hg => (h.ob id g hg).keep (h.same hw) (z2v.refl _) fun L hL => hw.block _ (by subst hL; exact (h.live id L hg).2.1)
 live := fun id L hg => ⟨(h.live id L hg).1, Nat.lt_of_lt_of_le (h.live id L hg).2.1 hw.size, (h.live id L hg).2.2⟩
 inj := h.inj
 fb := fun b hb => ⟨Nat.lt_of_lt_of_le (h.fb b hb).1 hw.size, (h.fb b hb).2⟩
 keep := h.keep.trans' hw.os hw.tape hw.output hw.size fun k hk _ => hw.block k (Nat.lt_of_lt_of_le hk h.keep.size)
 f0 := h.f0
 nd := h.nd
 rows := fun r hr => (h.rows r hr).block (hw.block _ (h.rows r hr).lt)
 fence := h.fence
 tabs := h.tabs
 pin := h.pin
theorem Rel.push (h : Rel P N V w0 s G F a w) (hw : z65 w w') {o : Ob} {g : Option Loc} (ho : z1w w' F (G ++ [g]) g o)
   (hg : ∀ L, g = some L → w.heap.size ≤ L.b ∧ L.b < w'.heap.size) : Rel P N V w0 ⟨s.t, s.m ++ [o]⟩ (G ++ [g]) F a w' := by
 have h' := h.grow hw
 have hsplit : ∀ (id : Nat) (x : Option Loc), (G ++ [g])[id]? = some x → (G[id]? = some x ∧ id < s.m.length) ∨ (id = s.m.length ∧ x = g) := by
   intro id x hx
   rw [← h.len]
   by_cases hid : id < G.length
   · rw [List.getElem?_append_left hid] at hx; exact .inl ⟨hx, hid⟩
   · rw [List.getElem?_append_right (by omega)] at hx
     have h0 : id - G.length = 0 := by
       have := (List.getElem?_eq_some_iff.1 hx).1
       simpa using this
     rw [h0] at hx
     simp at hx
     exact .inr ⟨by omega, hx.symm⟩
 exact {
   defers := h'.defers
   tsize := h'.tsize
   tm := fun k => Rep.mono ⟨fun _ h => h, fun _ _ => rfl⟩ (z2v.snoc _ _) (h'.tm k)
   len := by simp [h.len]
   ob := fun id x hx => by
     rcases hsplit id x hx with ⟨hx, hid⟩ | ⟨rfl, rfl⟩
     · show z1w w' F _ x (obj (s.m ++ [o]) id)
       rw [z2n _ _ _ hid]
       exact (h'.ob id x hx).keep ⟨fun _ h => h, fun _ _ => rfl⟩ (z2v.snoc _ _) fun _ _ => rfl
     · show z1w w' F _ x (obj (s.m ++ [o]) s.m.length)
       rw [z4r]
       exact ho
   live := fun id L hL => by
     rcases hsplit id _ hL with ⟨hx, hid⟩ | ⟨rfl, hg'⟩
     · show _ ∧ _ ∧ zal V w0 L (obj (s.m ++ [o]) id)
       rw [z2n _ _ _ hid]
       exact h'.live id L hx
     · have := hg L hg'.symm
       refine ⟨fun hF => ?_, this.2, ?_⟩
       · have := (h.fb _ hF).1; omega
       · have := h.keep.size
         have : w0.heap.size ≤ L.b := by omega
         show zal V w0 L (obj (s.m ++ [o]) s.m.length)
         rw [z4r]
         unfold zal
         split
         all_goals exact .inl this
   inj := fun i j L M hi hj hb => by
     rcases hsplit i _ hi with ⟨hi', _⟩ | ⟨ei, hi'⟩ <;> rcases hsplit j _ hj with ⟨hj', _⟩ | ⟨ej, hj'⟩
     · exact h.inj i j L M hi' hj' hb
     · have := (h.live i L hi').2.1; have := hg M hj'.symm; omega
     · have := (h.live j M hj').2.1; have := hg L hi'.symm; omega
     · omega
   fb := h'.fb
   keep := h'.keep
   f0 := h.f0
   nd := h.nd
   rows := h'.rows
   fence := fun k hk => (z2n _ _ _ (z9c (h.fence k hk))).trans (h.fence k hk)
   tabs := h.tabs
   pin := fun id L hp => by
     obtain ⟨h1, h2, h3⟩ := h.pin id L hp
     have hlt : id < s.m.length := by rw [← h.len]; exact (List.getElem?_eq_some_iff.1 h2).1
     refine ⟨h1, z2v.snoc _ _ _ _ h2, ?_⟩
     show rowish (obj (s.m ++ [o]) id) = true
     rw [z2n _ _ _ hlt]; exact h3 }
theorem Rel.turn (h : Rel P N V w0 s G F a w) {id : Nat} {L : Loc} (hid : G[id]? = some (some L)) {o : Ob}
   (os : w'.os = w.os) (tape : w'.tape = w.tape) (output : w'.output = w.output) (size : w'.heap.size = w.heap.size)
   (blk : ∀ k, k ≠ L.b → w'.heap[k]? = w.heap[k]?) (ho : z1w w' F G (some L) o) (hp : zal V w0 L o)
   (hr : ∀ r ∈ V.regs, r.b = L.b → z1j w0 w' r) (hri : rowish (obj s.m id) = true → rowish o = true) : Rel P N V w0 ⟨s.t, z1d s.m id o⟩ G F a w' := by
 have hlt : id < s.m.length := by rw [← h.len]; exact (List.getElem?_eq_some_iff.1 hid).1
 have hL := h.live id L hid
 have hs : zev F F w w' := ⟨fun _ h => h, fun b hb => blk b fun e => hL.1 (e ▸ hb)⟩
 exact {
   defers := h.defers
   tsize := h.tsize
   tm := fun k => Rep.mono hs (z2v.refl _) (h.tm k)
   len := by simp [z5w, h.len]
   ob := fun j g hg => by
     show z1w w' F G g (obj (z1d s.m id o) j)
     rw [z41 _ _ _ _ hlt]
     split
     · rename_i e; subst e
       rw [hid] at hg; simp at hg; subst hg
       exact ho
     · rename_i e
       refine (h.ob j g hg).keep hs (z2v.refl _) fun M hM => blk _ fun eb => e ?_
       subst hM
       exact h.inj j id M L hg hid eb
   live := fun j M hM => by
     show _ ∧ _ ∧ zal V w0 M (obj (z1d s.m id o) j)
     rw [z41 _ _ _ _ hlt, size]
     refine ⟨(h.live j M hM).1, (h.live j M hM).2.1, ?_⟩
     split
     · rename_i e; subst e
       rw [hid] at hM; simp at hM; subst hM
       exact hp
     · exact (h.live j M hM).2.2
   inj := h.inj
   fb := fun b hb => by rw [size]; exact h.fb b hb
   keep := h.keep.trans' os tape output (by omega) fun k hk hx => blk k fun e => by
     subst e
     unfold zal at hp
     split at hp
     · rcases hp with hp | hp
       · omega
       · exact hx (.inr ⟨_, hp, rfl⟩)
     · rcases hp with hp | hp
       · omega
       · exact hx hp
     · rcases hp with hp | hp
       · omega
       · exact hx (.inl hp.1)
   f0 := h.f0
   nd := h.nd
   rows := fun r hr' => by
     by_cases e : r.b = L.b
     · exact hr r hr' e
     · exact (h.rows r hr').block (blk _ e)
   fence := fun k hk => by
     show obj (z1d s.m id o) k = .fence
     have h1 := h.fence k hk
     rw [z41 _ _ _ _ hlt]
     split
     · rename_i e; subst e
       have := h.ob k _ hid
       rw [h1] at this
       cases this
     · exact h1
   tabs := h.tabs
   pin := fun j M hp => by
     obtain ⟨h1, h2, h3⟩ := h.pin j M hp
     refine ⟨h1, h2, ?_⟩
     show rowish (obj (z1d s.m id o) j) = true
     rw [z41 _ _ _ _ hlt]
     split
     · rename_i e; subst e; exact hri h3
     · exact h3 }
theorem z1o {G : Gh} {id j : Nat} {g' : Option Loc} (h : j ≠ id) : (G.set id g')[j]? = G[j]? := by
 rw [List.getElem?_set_ne (fun e => h e.symm)]
mutual
theorem Rep.off {id : Nat} {g' : Option Loc} (hs : zev F F w w') : ∀ {G : Gh} {x : AV} {v : Value}, z0c id x = false → Rep w F G x v → Rep w' F (G.set id g') x v
 | _, _, _, _, .v x => .v x
 | _, _, _, _, .junk x => .junk x
 | _, _, _, _, .un => .un
 | _, _, _, _, .sl0 => .sl0
 | _, _, _, _, .sl hf hn hr hp => .sl hf hn (hr.same hs hf) (z0l.mono hs (z2v.refl _) hp)
 | _, _, _, hh, .ref hg hc hl => .ref (by rw [z1o (by simpa [z0c] using hh)]; exact hg) hc hl
 | _, _, _, hh, .refe hg hc => .refe (by rw [z1o (by simpa [z0c] using hh)]; exact hg) hc
 | _, _, _, hh, .ref0 hg => .ref0 (by rw [z1o (by simpa [z0c] using hh)]; exact hg)
 | _, _, _, hh, .ptr hg => .ptr (by rw [z1o (by simpa [z0c] using hh)]; exact hg)
 | _, _, _, _, .cp hf hr hp => .cp hf (hr.same hs hf) (z0l.mono hs (z2v.refl _) hp)
 | _, _, _, hh, .ag hp => .ag (z0l.off hs (by simpa [z0c] using hh) hp)
 | _, _, _, hh, .tup hp => .tup (z0l.off hs (by simpa [z0c] using hh) hp)
 | _, _, _, hh, .fn hp hp' => .fn (z0l.off hs (by simp [z0c] at hh; exact hh.1) hp) (z0l.off hs (by simp [z0c] at hh; exact hh.2) hp')
 | _, _, _, _, .mp hf h1 h2 => .mp hf ((hs.heap _ hf).trans h1) (z49.mono hs h2)
 | _, _, _, hh, .mr hg => .mr (by rw [z1o (by simpa [z0c] using hh)]; exact hg)
theorem z0l.off {id : Nat} {g' : Option Loc} (hs : zev F F w w') : ∀ {G : Gh} {xs : List AV} {vs : List Value}, z2d id xs = false → z0l w F G xs vs → z0l w' F (G.set id g') xs vs
 | _, _, _, _, .nil => .nil
 | _, _, _, hh, .cons hx hp => .cons (Rep.off hs (by simp [z2d] at hh; exact hh.1) hx) (z0l.off hs (by simp [z2d] at hh; exact hh.2) hp)
end
theorem Rep.kill {id : Nat} {g' : Option Loc} (hs : zev F F w w') {x : AV} {v : Value} (h : Rep w F G x v) : Rep w' F (G.set id g') (zbt id x) v := by
 unfold zbt
 split
 · exact .junk v
 · rename_i hh; exact h.off hs hh
theorem z0l.kill {id : Nat} {g' : Option Loc} (hs : zev F F w w') {xs : List AV} {vs : List Value} (h : z0l w F G xs vs) : z0l w' F (G.set id g') (z56 id xs) vs := by
 induction xs generalizing vs with
 | nil => cases h; exact .nil
 | cons x xs ih => cases h with | cons hx hp => exact .cons (hx.kill hs) (ih hp)
theorem Rel.renew (h : Rel P N V w0 s G F a w) {id : Nat} {g0 g' : Option Loc} (hid : G[id]? = some g0) {o : Ob} (hw : z65 w w')
   (ho : z1w w' F (G.set id g') g' o) (hg : ∀ L, g' = some L → w.heap.size ≤ L.b ∧ L.b < w'.heap.size) (hri : rowish (obj s.m id) = false) (hnf : obj s.m id ≠ .fence) :
   Rel P N V w0 ⟨z69 id s.t, z1d (z3o id s.m) id o⟩ (G.set id g') F a w' := by
 have hltG : id < G.length := (List.getElem?_eq_some_iff.1 hid).1
 have hlt : id < (z3o id s.m).length := by rw [z5v, ← h.len]; exact hltG
 have hs := h.same hw
 have h' := h.grow hw
 have hnew : (G.set id g')[id]? = some g' := by simp [hltG]
 exact {
   defers := h.defers
   tsize := h.tsize
   tm := fun k => by
     show Rep w' F _ (get (z69 id s.t) k) _
     rw [zbp]
     exact (h.tm k).kill hs
   len := by simp [z5w, z5v, h.len]
   ob := fun j g hg => by
     show z1w w' F _ g (obj (z1d (z3o id s.m) id o) j)
     rw [z41 _ _ _ _ hlt]
     split
     · rename_i e; subst e
       rw [hnew] at hg; simp at hg; subst hg
       exact ho
     · rename_i e
       rw [z1o e] at hg
       rw [z40]
       have hj := h'.ob j g hg
       cases hoj : obj s.m j with
       | row k sz cs =>
         rw [hoj] at hj
         cases k with
         | true =>
           obtain ⟨L, vs, h1, h2, h3⟩ := hj
           exact ⟨L, vs, h1, h2, h3.kill ⟨fun _ h => h, fun _ _ => rfl⟩⟩
         | false => exact hj
       | dead => trivial
       | fence => rw [hoj] at hj; exact hj
       | arr e sz cs => rw [hoj] at hj; exact hj
       | it t p => rw [hoj] at hj; exact hj
       | mp es => rw [hoj] at hj; exact hj
   live := fun j M hM => by
     show _ ∧ _ ∧ zal V w0 M (obj (z1d (z3o id s.m) id o) j)
     rw [z41 _ _ _ _ hlt]
     by_cases e : j = id
     · subst e
       rw [hnew] at hM; simp at hM
       have := hg M hM
       rw [if_pos rfl]
       refine ⟨fun hF => ?_, this.2, ?_⟩
       · have := (h.fb _ hF).1; omega
       · have := h.keep.size
         have : w0.heap.size ≤ M.b := by omega
         unfold zal
         split
         all_goals exact .inl this
     · rw [z1o e] at hM
       rw [if_neg e, z40]
       refine ⟨(h'.live j M hM).1, (h'.live j M hM).2.1, ?_⟩
       have := (h'.live j M hM).2.2
       cases hoj : obj s.m j with
       | row k sz cs =>
         rw [hoj] at this
         cases k with
         | true => simpa [z0g, zal, z7d] using this
         | false => exact this
       | dead => rw [hoj] at this; exact this
       | fence => rw [hoj] at this; exact this
       | arr e sz cs => rw [hoj] at this; exact this
       | it t p => rw [hoj] at this; exact this
       | mp es => rw [hoj] at this; exact this
   inj := fun i j L M hi hj hb => by
     by_cases ei : i = id <;> by_cases ej : j = id
     · omega
     · subst ei
       rw [hnew] at hi; simp at hi
       rw [z1o ej] at hj
       have := hg L hi; have := (h.live j M hj).2.1; omega
     · subst ej
       rw [hnew] at hj; simp at hj
       rw [z1o ei] at hi
       have := hg M hj; have := (h.live i L hi).2.1; omega
     · rw [z1o ei] at hi
       rw [z1o ej] at hj
       exact h.inj i j L M hi hj hb
   fb := h'.fb
   keep := h'.keep
   f0 := h.f0
   nd := h.nd
   rows := h'.rows
   fence := fun k hk => by
     show obj (z1d (z3o id s.m) id o) k = .fence
     have h1 := h.fence k hk
     rw [z41 _ _ _ _ hlt]
     split
     · rename_i e; subst e; exact absurd h1 hnf
     · rw [z40, h1]; rfl
   tabs := h.tabs
   pin := fun j M hp => by
     obtain ⟨h1, h2, h3⟩ := h.pin j M hp
     have e : j ≠ id := fun e => by subst e; rw [h3] at hri; cases hri
     refine ⟨h1, by rw [z1o e]; exact h2, ?_⟩
     show rowish (obj (z1d (z3o id s.m) id o) j) = true
     rw [z41 _ _ _ _ hlt, if_neg e, z40, z8t]
     exact h3 }
theorem zpk {id : Nat} {x : AV} {v : Value} (h : Rep w F G x v) : Rep w F G (zbt id x) v := by
 unfold zbt
 split
 · exact .junk v
 · exact h
theorem y00b {id : Nat} {xs : List AV} {vs : List Value} (h : z0l w F G xs vs) : z0l w F G (z56 id xs) vs := by
 induction xs generalizing vs with
 | nil => cases h; exact .nil
 | cons x xs ih => cases h with | cons hx hp => exact .cons (zpk hx) (ih hp)
theorem Rel.forget (h : Rel P N V w0 s G F a w) (id : Nat) : Rel P N V w0 ⟨z69 id s.t, z3o id s.m⟩ G F a w where
 defers := h.defers
 tsize := h.tsize
 tm := fun k => by
   show Rep w F G (get (z69 id s.t) k) _
   rw [zbp]
   exact zpk (h.tm k)
 len := by simp [z5v, h.len]
 ob := fun j g hg => by
   show z1w w F G g (obj (z3o id s.m) j)
   rw [z40]
   have hj := h.ob j g hg
   cases hoj : obj s.m j with
   | row k sz cs =>
     rw [hoj] at hj
     cases k with
     | true =>
       obtain ⟨L, vs, h1, h2, h3⟩ := hj
       exact ⟨L, vs, h1, h2, y00b h3⟩
     | false => exact hj
   | dead => trivial
   | fence => rw [hoj] at hj; exact hj
   | arr e sz cs => rw [hoj] at hj; exact hj
   | it t p => rw [hoj] at hj; exact hj
   | mp es => rw [hoj] at hj; exact hj
 live := fun j M hM => by
   show _ ∧ _ ∧ zal V w0 M (obj (z3o id s.m) j)
   rw [z40]
   refine ⟨(h.live j M hM).1, (h.live j M hM).2.1, ?_⟩
   have := (h.live j M hM).2.2
   cases hoj : obj s.m j with
   | row k sz cs =>
     rw [hoj] at this
     cases k with
     | true => simpa [z0g, zal, z7d] using this
     | false => exact this
   | dead => rw [hoj] at this; exact this
   | fence => rw [hoj] at this; exact this
   | arr e sz cs => rw [hoj] at this; exact this
   | it t p => rw [hoj] at this; exact this
   | mp es => rw [hoj] at this; exact this
 inj := h.inj
 fb := h.fb
 keep := h.keep
 f0 := h.f0
 nd := h.nd
 rows := h.rows
 fence := fun k hk => by
   show obj (z3o id s.m) k = .fence
   rw [z40, h.fence k hk]; rfl
 tabs := h.tabs
 pin := fun j M hp => by
   obtain ⟨h1, h2, h3⟩ := h.pin j M hp
   refine ⟨h1, h2, ?_⟩
   show rowish (obj (z3o id s.m) j) = true
   rw [z40, z8t]
   exact h3
theorem zt1 (id i : Nat) (o : Ob) (m : List Ob) : z3o id (z1d m i o) = z1d (z3o id m) i (z0g id o) := by
 induction m generalizing i with
 | nil => rfl
 | cons x l ih => cases i <;> simp [z1d, z3o, ih]
end
end Go.AE
