/- A part of the abstract evaluator: no condition. -/
import Derived.Test.YtoppecphhiiiiaaGreatDoorAERound
import Derived.Test.YtoppecphhiiiiaaGreatDoorAEMore
set_option linter.unusedVariables false
set_option linter.unusedSimpArgs false
namespace Go.AE
section
variable {N : Nat} {C : bI} {P : Program} {V : dJ} {w0 w w' : World} {s : St} {G : Gh} {F : Nat → Prop} {a : Act}
theorem zj4 {fn : Func} {z : Bool} {r : AV} {ds : List Deferred} {a' : Act} {s' : St} {G' : Gh} {F' : Nat → Prop} (hC : C.Ok P) (h' : aE P fn.ntmps ⟨F, [], [], ds, none, fun _ => none⟩ w s' G' F' a' w') (hret : zU C z fn.results.toList r s') :
  ∃ v, (results fn a'.tmps).run P w' = .ok v w' ∧ lC w F r (.returned v) w' := by
 have hgrow : d7 w w' := ⟨h'.keep.os, h'.keep.tape, h'.keep.output, h'.keep.size, fun k hk => h'.keep.block k hk (by rintro (h | ⟨r, hr, _⟩) <;> simp at *)⟩
 have new : ∀ (id : Nat) (L : bU), G'[id]? = some (some L) → w.heap.size ≤ L.b := by
  intro j L hj
  have := (h'.live j L hj).2.2
  unfold eE at this
  split at this
  ·rcases this with h | h
   ·exact h
   ·simp at h
  ·rcases this with h | (h | ⟨r, hr, _⟩)
   ·exact h
   ·simp at h
   ·simp at hr
  ·rcases this with h | h
   ·exact h
   ·simp at h
 have post : ∀ {v : Value} {used : List Nat}, rZ w' F' G' s' [] used (imp 0 r).2 → aH w' F' (ghosts G' used) (imp 0 r).1 v → lC w F r (.returned v) w' := by
  intro v used hx hv
  obtain ⟨ho, hsrc⟩ := WO h' hx
  refine ⟨v, F', _, rfl, hgrow, h'.f0.1, fun b hb => ⟨h'.f0.2 b hb, (h'.fb b hb).1⟩, hv, ho, fun id L hL => ?_⟩
  obtain ⟨j, hj⟩ := hsrc id L hL
  exact new j L hj
 have postz : ∀ {x : AV} {v : Value}, aH w' F' G' x v → fz s' x = r → lC w F r (.returned v) w' := by
  intro x v hv e
  have hi := CG s' 0 x
  rw [e] at hi
  have h1 := v8 h' hv
  rw [e] at h1
  refine ⟨v, hP F' G', [], rfl, hgrow, fun b hb => .inl (h'.f0.1 b hb), ?_, by rw [hi]; exact h1, ?_, by simp⟩
  ·rintro b (hb | ⟨id, L, hg, rfl⟩)
   ·exact ⟨h'.f0.2 b hb, (h'.fb b hb).1⟩
   ·exact ⟨.inr (new id L hg), (h'.live id L hg).2.1⟩
  ·rw [hi]
   exact ⟨rfl, by simp, by simp, by simp⟩
 obtain ⟨xs, vs, k1, k2, k3⟩ := E5 hC h' hret
 refine ⟨_, k3, ?_⟩
 unfold nH at k1
 split at k1
 ·cases k2 with
  | cons k2 k4 =>
   cases k4
   obtain ⟨r', used, q1, q2, q3⟩ := C2 h' _ k1 k2
   subst q1
   exact post q2 q3
 ·rename_i hne
  obtain ⟨rs, used, q1, q2, q3⟩ := y7 h' _ k1 k2
  subst q1
  have : rF vs = .tuple vs.toArray := by
   match vs, k2 with
   | [], _ => rfl
   | [v], k2 =>
    exfalso
    cases k2 with
    | cons _ k4 => cases k4; exact hne _ rfl
   | _ :: _ :: _, _ => rfl
  rw [this]
  exact post (by simpa [imp] using q2) (by simpa [imp] using aH.tup q3)
 ·cases k2 with
  | cons k2 k4 =>
   cases k4
   exact postz k2 k1
 ·rename_i hne
  have : rF vs = .tuple vs.toArray := by
   match vs, k2 with
   | [], _ => rfl
   | [v], k2 =>
    exfalso
    cases k2 with
    | cons _ k4 => cases k4; exact hne _ rfl
   | _ :: _ :: _, _ => rfl
  rw [this]
  exact postz (x := .tup xs) (.tup k2) (by simpa [fz] using k1)
theorem aE.fresh (h : aE P N V w0 ⟨s.t, []⟩ [] F a w) : aE P N ⟨F, [], [], V.ds, none, fun _ => none⟩ w ⟨s.t, []⟩ [] F a w where
 defers := h.defers
 tsize := h.tsize
 tm := h.tm
 len := rfl
 ob := fun id g hg => by simp at hg
 live := fun id L hg => by simp at hg
 inj := fun i j L M hi => by simp at hi
 fb := fun b hb => ⟨(h.fb b hb).1, .inr (by rintro (h | ⟨r, hr, _⟩) <;> simp at *)⟩
 keep := ⟨rfl, rfl, rfl, Nat.le_refl _, fun _ _ _ => rfl⟩
 f0 := ⟨fun _ h => h, fun _ h => .inl h⟩
 nd := by simp
 rows := by simp
 fence := fun k hk => by cases hk
 tabs := h.tb
 pin := fun id L hp => by cases hp
theorem aE.grown {F0 : Nat → Prop} {ds : List Deferred} (h : aE P N ⟨F0, [], [], ds, none, fun _ => none⟩ w0 s G F a w) : d7 w0 w :=
 ⟨h.keep.os, h.keep.tape, h.keep.output, h.keep.size, fun k hk => h.keep.block k hk (by rintro (h | ⟨r, hr, _⟩) <;> simp at *)⟩
theorem tY {P : Program} {w w' : World} {F : Nat → Prop} (h : fK P w F) (hl : ∀ b, F b → b < w'.heap.size) (hs : ∀ b, F b → w'.heap[b]? = w.heap[b]?) : fK P w' F := by
 obtain ⟨u, h1, h2⟩ := h
 exact ⟨u, h1, fun b hb => ⟨(h2 b hb).1, hl b (h2 b hb).1, (hs b (h2 b hb).1).trans (h2 b hb).2.2⟩⟩
theorem wI {t : List (Nat × AV)} (hT : fK P w F) (hF : ∀ b, F b → b < w.heap.size) (hn : a.tmps.size = N) (ht : ∀ k, aH w F [] (get t k) (a.tmps.getD k undef)) : aE P N ⟨F, [], [], a.defers, none, fun _ => none⟩ w ⟨t, []⟩ [] F a w where
 defers := rfl
 tsize := hn
 tm := ht
 len := rfl
 ob := fun id g hg => by simp at hg
 live := fun id L hg => by simp at hg
 inj := fun i j L M hi => by simp at hi
 fb := fun b hb => ⟨hF b hb, .inr (by rintro (h | ⟨r, hr, _⟩) <;> simp at *)⟩
 keep := ⟨rfl, rfl, rfl, Nat.le_refl _, fun _ _ _ => rfl⟩
 f0 := ⟨fun _ h => h, fun _ h => .inl h⟩
 nd := by simp
 rows := by simp
 fence := fun k hk => by cases hk
 tabs := hT
 pin := fun id L hp => by cases hp
theorem zT {args : List AV} {vs : List Value} {ds : List Deferred} (hT : fK P w F) (hF : ∀ b, F b → b < w.heap.size) (hr : aF w F [] args vs) (hla : args.length ≤ N) :
  aE P N ⟨F, [], [], ds, none, fun _ => none⟩ w ⟨fY 0 args, []⟩ [] F { tmps := vs.toArray ++ Array.replicate (N - vs.toArray.size) undef, defers := ds } w := by
 have hlen := hr.length
 refine wI (a := { tmps := vs.toArray ++ Array.replicate (N - vs.toArray.size) undef, defers := ds }) hT hF (by simp; omega) fun k => ?_
 rcases CS vs (N - vs.length) args 0 k hr with h1 | h1
 ·have e : (vs.toArray ++ Array.replicate (N - vs.toArray.size) undef).getD k undef = ((vs ++ List.replicate (N - vs.length) undef)[k]?).getD undef := by
   rw [Array.getD_eq_getD_getElem?]
   congr 1
   rw [← Array.getElem?_toList]
   simp
  show aH w F [] (get (fY 0 args) k) _
  rw [e]
  simpa using h1
 ·show aH w F [] (get (fY 0 args) k) _
  rw [h1]; exact .junk _
theorem zg3 (hC : C.Ok P) {t : Nat} {i : TI} (hi : C.ti t = some i) (ha : i.agg = false) (h : aE P N V w0 s G F a w) {k : Nat} {x : AV} {o : Oper} (ho : o.op = .load t (.tmp k)) (hx : aH w F G (.cp [x]) (a.tmps.getD k undef)) :
  ∃ v, aH w F G x v ∧ (execOp a.eval o).run P w = .ok (.value v) w := by
 obtain ⟨y, v, rfl, h2, h3⟩ := Y3 hC (h.putSame hx) (o := o) (K := fun y => y = x) (by
  rw [ho]
  show bB C _ (.load t (.tmp k)) _
  simp only [bB, hi, ev]
  rw [yC]
  simp [gP, ha, nth])
 exact ⟨v, h2, h3⟩
theorem aE.atv (h : aE P N V w0 s G F a w) {k : Nat} {v : Value} (hk : get s.t k = .v v) : a.tmps.getD k undef = v := by
 have := h.tm k
 rw [hk] at this
 exact this.v_inv
theorem yX (r : Option Nat) (m : Nat) (hC : C.Ok P) {ops : Array Oper} {Q : Exit → Act → World → Prop} {rest : List Oper} {t : Nat} {i : TI} (hi : C.ti t = some i) (ha : i.agg = false) {k : Nat} {x : AV} {o : Oper} (hg : o.guard = none) (ho : o.op = .load t (.tmp k))
  (hd : cV N o.dst = true) (h : aE P N V w0 s G F a w) (hx : aH w F G (.cp [x]) (a.tmps.getD k undef)) (next : ∀ a', aE P N V w0 ⟨putD s.t o.dst x, s.m⟩ G F a' w → wpListIn (fr r) m P ops Q rest a' w) :
  wpListIn (fr r) m P ops Q (o :: rest) a w := by
 obtain ⟨v, h2, h3⟩ := zg3 hC hi ha h ho hx
 refine wpListIn_plain hg fun K hK => ⟨fun _ _ => trivial, ?_⟩
 rw [l0 r a.eval o (fun c e => by rw [ho] at e; cases e), h3, Oper.uponIn_value]
 exact hK _ _ (next _ (h.putD hd h2))
theorem D3 (r : Option Nat) (m : Nat) {ops : Array Oper} {Q : Exit → Act → World → Prop} {rest : List Oper} {o : Oper} (hg : o.guard = none) {f : Operand} {args : Array Operand} {ats : Array TypeId}
  (ho : o.op = .call { callee := .value f, args := args, argTypes := ats }) {l : Nat} (hf : a.eval f = .func (.yield l) #[] #[]) {vals : Array Value} (hv : args.map a.eval = vals) {R : Ending → World → Prop}
  (hy : YieldAt (fr r) (m - 1) P l vals w R) (hn : ∀ e w', R e w' → ∃ v, e = .returned v ∧ wpListIn (fr r) m P ops Q rest (a.put o.dst v) w') : wpListIn (fr r) m P ops Q (o :: rest) a w := by
 obtain ⟨fn, tmps, assign, body, h1, h2⟩ := hy
 have hrun : (execOp a.eval o).run P w = .ok (.round l fn tmps assign body) w := by
  simp only [execOp, ho, resolve, hf, Deferred.ofValue, Sem.run_bind, Sem.run_pure, Result.andThen_ok, invoke]
  simp [hv, h1]
 refine wpListIn_plain hg fun K hK => ⟨fun _ _ => trivial, ?_⟩
 rw [l0 r a.eval o (fun c e => by rw [ho] at e; cases e), hrun, Oper.uponIn_round]
 refine ⟨fun e => by simp [fr, Fence.wide] at e, h2.mono ?_⟩
 intro e w' he
 obtain ⟨v, rfl, hn⟩ := hn e w' he
 exact hK _ _ hn
theorem yW (r : Option Nat) (m : Nat) (hC : C.Ok P) {ops os : List Oper} {Q : Exit → Act → World → Prop} (Qs : Exit → St → Prop) (hd : (os.all fun o => cV N o.dst) = true) (h : aE P N V w0 s G F a w) (hw : WR C P ops Qs os s)
  (hQ : ∀ a w, eB P N V w0 (Qs .normal) a w → Q .normal a w) : wpListIn (fr r) m P ops.toArray Q os a w := by
 have := AO r m [] (Q := Q) hC ops.toArray (K := Qs .normal) hQ os (fun o ho => List.all_eq_true.1 hd o ho) h (by simpa using hw.out)
 simpa using this
theorem vM (r : Option Nat) (m k : Nat) (hC : C.Ok P) {ops os : List Oper} {Q : Exit → Act → World → Prop} (Qs : Exit → St → Prop) (hd : (os.all fun o => cV N o.dst) = true) (h : aE P N V w0 s G F a w) (hw : WR C P ops Qs (os.take k) s)
  (hQ : ∀ a w, eB P N V w0 (Qs .normal) a w → wpListIn (fr r) m P ops.toArray Q (os.drop k) a w) : wpListIn (fr r) m P ops.toArray Q os a w := by
 have := AO r m (os.drop k) (Q := Q) hC ops.toArray (K := Qs .normal) hQ (os.take k) (fun o ho => List.all_eq_true.1 hd o (List.mem_of_mem_take ho)) h (by simpa using hw.out)
 rwa [List.take_append_drop] at this
theorem E0 (t : List (Nat × Value)) (hT : fK P w F) (hF : ∀ b, F b → b < w.heap.size) (hn : a.tmps.size = N) (ht : ∀ kv ∈ t, a.tmps.getD kv.1 undef = kv.2) : aE P N ⟨F, [], [], a.defers, none, fun _ => none⟩ w ⟨t.map fun kv => (kv.1, .v kv.2), []⟩ [] F a w := by
 refine wI hT hF hn fun k => ?_
 clear hn
 induction t with
 | nil => exact .junk _
 | cons kv t ih =>
  simp only [List.map_cons, get]
  split
  ·rename_i e; subst e; rw [ht kv (by simp)]; exact .v _
  ·exact ih fun kv h => ht kv (List.mem_cons_of_mem _ h)
structure xD (b o : Nat) (v : Value) (w w' : World) : Prop where
 os : w'.os = w.os
 tape : w'.tape = w.tape
 output : w'.output = w.output
 size : w'.heap.size = w.heap.size
 block : ∀ k, k ≠ b → w'.heap[k]? = w.heap[k]?
 row : eI w' b o [v]
theorem zko (hC : C.Ok P) {t : Nat} {i : TI} (hi : C.ti t = some i) (hsz : i.size = 1) {o : Oper} {p x : Operand} (ho : o.op = .store t p x) {b off : Nat} {v u : Value} (hp : a.eval p = .pointer (some ⟨b, off, none⟩)) (hx : a.eval x = v) (hv : v.oneCell' = true)
  (hvc : v.cells = #[v]) (hrow : eI w b off [u]) : ∃ w', (execOp a.eval o).run P w = .ok .skip w' ∧ xD b off v w w' := by
 obtain ⟨w2, r0, r1, r2, r3, r4, r5, r6, r7⟩ := zZ (P := P) (w0 := w) (off := 0) (us := [v]) hrow (by simp) (by simpa using hv)
 have hs := EW hC hi (b := ⟨b, off, none⟩) (v := v) (by rw [hvc, hsz]; rfl) w2 (by rw [hvc]; simpa using r0)
 refine ⟨w2, ?_, r1, r2, r3, r4, r5, ?_⟩
 ·simp [execOp, ho, hp, hx, hs]
 ·simpa using r6
theorem V0 (r : Option Nat) (m : Nat) (hC : C.Ok P) {ops : Array Oper} {Q : Exit → Act → World → Prop} {rest : List Oper} {t : Nat} {i : TI} (hi : C.ti t = some i) (hsz : i.size = 1) {o : Oper} {p x : Operand} (hg : o.guard = none) (ho : o.op = .store t p x) (hd : o.dst = none)
  {b off : Nat} {v u : Value} (hp : a.eval p = .pointer (some ⟨b, off, none⟩)) (hx : a.eval x = v) (hv : v.oneCell' = true) (hvc : v.cells = #[v]) (hrow : eI w b off [u]) (next : ∀ w', xD b off v w w' → wpListIn (fr r) m P ops Q rest a w') :
  wpListIn (fr r) m P ops Q (o :: rest) a w := by
 obtain ⟨w', h1, h2⟩ := zko hC hi hsz ho hp hx hv hvc hrow
 refine wpListIn_plain hg fun K hK => ⟨fun _ _ => trivial, ?_⟩
 rw [l0 r a.eval o (fun c e => by rw [ho] at e; cases e), h1, Oper.uponIn_skip, hd]
 exact hK _ _ (next w' h2)
theorem zj3 (hC : C.Ok P) {t : Nat} {i : TI} (hi : C.ti t = some i) (ha : i.agg = false) {fn : Func} {k : Nat} (hf : fn.results = #[.cell k t]) {tmps : Array Value} {b off : Nat} {v : Value} (hp : tmps.getD k undef = .pointer (some ⟨b, off, none⟩)) (hrow : eI w b off [v]) :
  (results fn tmps).run P w = .ok v w := by
 obtain ⟨c, e, fz, h1, h2, h3, _, _⟩ := hrow
 have hc : w.cell? ⟨b, off, none⟩ = some v := by
  have := h3 0 (by simp)
  simp only [World.cell?, h1]
  simpa using this
 rw [Array.getD_eq_getD_getElem?] at hp
 simp [results, hf, hp, loadVar, wN hC hi, ha, hc, asAddr]
theorem eI.keepAt {b o : Nat} {vs : List Value} (h : eI w b o vs) (hb : w'.heap[b]? = w.heap[b]?) : eI w' b o vs := by
 obtain ⟨c, e, fz, h1, h2⟩ := h
 exact ⟨c, e, fz, hb.trans h1, h2⟩
end
def dQ (K1 : St → Prop) (K2 : Nat → St → Prop) (K3 : St → Prop) : Exit → St → Prop
 | .normal, s => K1 s
 | .exit i, s => K2 i s
 | .ret, s => K3 s
 | _, _ => False
theorem lM (K1 : St → Prop) (K2 : Nat → St → Prop) (K3 : St → Prop) (s : St) : dQ K1 K2 K3 .normal s = K1 s := rfl
theorem zbz (K1 : St → Prop) (K2 : Nat → St → Prop) (K3 : St → Prop) (s : St) (i : Nat) : dQ K1 K2 K3 (.exit i) s = K2 i s := rfl
theorem zc0 (K1 : St → Prop) (K2 : Nat → St → Prop) (K3 : St → Prop) (s : St) : dQ K1 K2 K3 .ret s = K3 s := rfl
end Go.AE
