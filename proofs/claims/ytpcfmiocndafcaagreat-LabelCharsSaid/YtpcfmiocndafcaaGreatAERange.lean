/- A part of the abstract evaluator: no condition. -/
import Derived.Test.YtpcfmiocndafcaaGreatAERound
import Derived.Test.YtpcfmiocndafcaaGreatAEMore
set_option linter.unusedVariables false
set_option linter.unusedSimpArgs false
namespace Go.AE
section
variable {N : Nat} {C : Ctx} {P : Program} {V : z3q} {w0 w w' : World} {s : St} {G : Gh} {F : Nat → Prop} {a : Act}
theorem Rel.grown {F0 : Nat → Prop} {ds : List Deferred} (h : Rel N ⟨F0, [], [], ds, none, fun _ => none⟩ w0 s G F a w) : Grow w0 w :=
  ⟨h.keep.os, h.keep.tape, h.keep.output, h.keep.size, fun k hk => h.keep.block k hk (by rintro (h | ⟨r, hr, _⟩) <;> simp at *)⟩
theorem zug {t : List (Nat × AV)} (hF : ∀ b, F b → b < w.heap.size) (hn : a.tmps.size = N) (ht : ∀ k, Rep w F [] (get t k) (a.tmps.getD k undef)) : Rel N ⟨F, [], [], a.defers, none, fun _ => none⟩ w ⟨t, []⟩ [] F a w where
  defers := rfl
  tsize := hn
  tm := ht
  len := rfl
  ob := fun id g hg => by simp at hg
  live := fun id L hg => by simp at hg
  inj := fun i j L M hi => by simp at hi
  fb := fun b hb => ⟨hF b hb, .inr (by rintro (h | ⟨r, hr, _⟩) <;> simp at *)⟩
  keep := ⟨rfl, rfl, rfl, Nat.le_refl _, fun _ _ _ => rfl⟩
  f0 := ⟨fun _ h => h, fun _ h => .inl h⟩
  nd := by simp
  rows := by simp
  fence := fun k hk => by cases hk
  pin := fun id L hp => by cases hp
theorem zuf {args : List AV} {vs : List Value} {ds : List Deferred} (hF : ∀ b, F b → b < w.heap.size) (hr : Reps w F [] args vs) (hla : args.length ≤ N) :
    Rel N ⟨F, [], [], ds, none, fun _ => none⟩ w ⟨z5w 0 args, []⟩ [] F { tmps := vs.toArray ++ Array.replicate (N - vs.toArray.size) undef, defers := ds } w := by
  have hlen := hr.length
  refine zug (a := { tmps := vs.toArray ++ Array.replicate (N - vs.toArray.size) undef, defers := ds }) hF (by simp; omega) fun k => ?_
  rcases zei vs (N - vs.length) args 0 k hr with h1 | h1
  · have e : (vs.toArray ++ Array.replicate (N - vs.toArray.size) undef).getD k undef = ((vs ++ List.replicate (N - vs.length) undef)[k]?).getD undef := by
      rw [Array.getD_eq_getD_getElem?]
      congr 1
      rw [← Array.getElem?_toList]
      simp
    show Rep w F [] (get (z5w 0 args) k) _
    rw [e]
    simpa using h1
  · show Rep w F [] (get (z5w 0 args) k) _
    rw [h1]; exact .junk _
theorem load_cell (hC : C.Ok P) {t : Nat} {i : TI} (hi : C.ti t = some i) (ha : i.agg = false) (h : Rel N V w0 s G F a w) {k : Nat} {x : AV} {o : Oper} (ho : o.op = .load t (.tmp k)) (hx : Rep w F G (.cp [x]) (a.tmps.getD k undef)) :
    ∃ v, Rep w F G x v ∧ (execOp a.eval o).run P w = .ok (.value v) w := by
  obtain ⟨y, v, rfl, h2, h3⟩ := zf7 hC (h.putSame hx) (o := o) (K := fun y => y = x) (by
    rw [ho]
    show z0j C _ (.load t (.tmp k)) _
    simp only [z0j, hi, ev]
    rw [z61]
    simp [z3u, ha, nth])
  exact ⟨v, h2, h3⟩
theorem Rel.atv (h : Rel N V w0 s G F a w) {k : Nat} {v : Value} (hk : get s.t k = .v v) : a.tmps.getD k undef = v := by
  have := h.tm k
  rw [hk] at this
  exact this.v_inv
theorem zms (r : Option Nat) (m : Nat) (hC : C.Ok P) {ops : Array Oper} {Q : Exit → Act → World → Prop} {rest : List Oper} {t : Nat} {i : TI} (hi : C.ti t = some i) (ha : i.agg = false) {k : Nat} {x : AV} {o : Oper} (hg : o.guard = none) (ho : o.op = .load t (.tmp k))
    (hd : dOk N o.dst = true) (h : Rel N V w0 s G F a w) (hx : Rep w F G (.cp [x]) (a.tmps.getD k undef)) (next : ∀ a', Rel N V w0 ⟨putD s.t o.dst x, s.m⟩ G F a' w → wpListIn (fr r) m P ops Q rest a' w) :
    wpListIn (fr r) m P ops Q (o :: rest) a w := by
  obtain ⟨v, h2, h3⟩ := load_cell hC hi ha h ho hx
  refine wpListIn_plain hg fun K hK => ⟨fun _ _ => trivial, ?_⟩
  rw [z71 r a.eval o (fun c e => by rw [ho] at e; cases e), h3, Oper.uponIn_value]
  exact hK _ _ (next _ (h.putD hd h2))
theorem zw1 (r : Option Nat) (m : Nat) {ops : Array Oper} {Q : Exit → Act → World → Prop} {rest : List Oper} {o : Oper} (hg : o.guard = none) {f : Operand} {args : Array Operand} {ats : Array TypeId}
    (ho : o.op = .call { callee := .value f, args := args, argTypes := ats }) {l : Nat} (hf : a.eval f = .func (.yield l) #[] #[]) {vals : Array Value} (hv : args.map a.eval = vals) {R : Ending → World → Prop}
    (hy : YieldAt (fr r) (m - 1) P l vals w R) (hn : ∀ e w', R e w' → ∃ v, e = .returned v ∧ wpListIn (fr r) m P ops Q rest (a.put o.dst v) w') : wpListIn (fr r) m P ops Q (o :: rest) a w := by
  obtain ⟨fn, tmps, assign, body, h1, h2⟩ := hy
  have hrun : (execOp a.eval o).run P w = .ok (.round l fn tmps assign body) w := by
    simp only [execOp, ho, resolve, hf, Deferred.ofValue, Sem.run_bind, Sem.run_pure, Result.andThen_ok, invoke]
    simp [hv, h1]
  refine wpListIn_plain hg fun K hK => ⟨fun _ _ => trivial, ?_⟩
  rw [z71 r a.eval o (fun c e => by rw [ho] at e; cases e), hrun, Oper.uponIn_round]
  refine ⟨fun e => by simp [fr, Fence.wide] at e, h2.mono ?_⟩
  intro e w' he
  obtain ⟨v, rfl, hn⟩ := hn e w' he
  exact hK _ _ hn
theorem zkf (r : Option Nat) (m : Nat) (hC : C.Ok P) {ops os : List Oper} {Q : Exit → Act → World → Prop} (Qs : Exit → St → Prop) (hd : (os.all fun o => dOk N o.dst) = true) (h : Rel N V w0 s G F a w) (hw : WR C P ops Qs os s)
    (hQ : ∀ a w, Lies N V w0 (Qs .normal) a w → Q .normal a w) : wpListIn (fr r) m P ops.toArray Q os a w := by
  have := z7l r m [] (Q := Q) hC ops.toArray (K := Qs .normal) hQ os (fun o ho => List.all_eq_true.1 hd o ho) h (by simpa using hw.out)
  simpa using this
theorem zkg (r : Option Nat) (m k : Nat) (hC : C.Ok P) {ops os : List Oper} {Q : Exit → Act → World → Prop} (Qs : Exit → St → Prop) (hd : (os.all fun o => dOk N o.dst) = true) (h : Rel N V w0 s G F a w) (hw : WR C P ops Qs (os.take k) s)
    (hQ : ∀ a w, Lies N V w0 (Qs .normal) a w → wpListIn (fr r) m P ops.toArray Q (os.drop k) a w) : wpListIn (fr r) m P ops.toArray Q os a w := by
  have := z7l r m (os.drop k) (Q := Q) hC ops.toArray (K := Qs .normal) hQ (os.take k) (fun o ho => List.all_eq_true.1 hd o (List.mem_of_mem_take ho)) h (by simpa using hw.out)
  rwa [List.take_append_drop] at this
theorem rel_vs (t : List (Nat × Value)) (hF : ∀ b, F b → b < w.heap.size) (hn : a.tmps.size = N) (ht : ∀ kv ∈ t, a.tmps.getD kv.1 undef = kv.2) : Rel N ⟨F, [], [], a.defers, none, fun _ => none⟩ w ⟨t.map fun kv => (kv.1, .v kv.2), []⟩ [] F a w := by
  refine zug hF hn fun k => ?_
  clear hn
  induction t with
  | nil => exact .junk _
  | cons kv t ih =>
    simp only [List.map_cons, get]
    split
    · rename_i e; subst e; rw [ht kv (by simp)]; exact .v _
    · exact ih fun kv h => ht kv (List.mem_cons_of_mem _ h)
structure Wrote (b o : Nat) (v : Value) (w w' : World) : Prop where
  os : w'.os = w.os
  tape : w'.tape = w.tape
  output : w'.output = w.output
  size : w'.heap.size = w.heap.size
  block : ∀ k, k ≠ b → w'.heap[k]? = w.heap[k]?
  row : z76 w' b o [v]
theorem zws (hC : C.Ok P) {t : Nat} {i : TI} (hi : C.ti t = some i) (hsz : i.size = 1) {o : Oper} {p x : Operand} (ho : o.op = .store t p x) {b off : Nat} {v u : Value} (hp : a.eval p = .pointer (some ⟨b, off, none⟩)) (hx : a.eval x = v) (hv : v.oneCell' = true)
    (hvc : v.cells = #[v]) (hrow : z76 w b off [u]) : ∃ w', (execOp a.eval o).run P w = .ok .skip w' ∧ Wrote b off v w w' := by
  obtain ⟨w2, r0, r1, r2, r3, r4, r5, r6, r7⟩ := zno (P := P) (w0 := w) (off := 0) (us := [v]) hrow (by simp) (by simpa using hv)
  have hs := zfy hC hi (b := ⟨b, off, none⟩) (v := v) (by rw [hvc, hsz]; rfl) w2 (by rw [hvc]; simpa using r0)
  refine ⟨w2, ?_, r1, r2, r3, r4, r5, ?_⟩
  · simp [execOp, ho, hp, hx, hs]
  · simpa using r6
theorem zib (r : Option Nat) (m : Nat) (hC : C.Ok P) {ops : Array Oper} {Q : Exit → Act → World → Prop} {rest : List Oper} {t : Nat} {i : TI} (hi : C.ti t = some i) (hsz : i.size = 1) {o : Oper} {p x : Operand} (hg : o.guard = none) (ho : o.op = .store t p x) (hd : o.dst = none)
    {b off : Nat} {v u : Value} (hp : a.eval p = .pointer (some ⟨b, off, none⟩)) (hx : a.eval x = v) (hv : v.oneCell' = true) (hvc : v.cells = #[v]) (hrow : z76 w b off [u]) (next : ∀ w', Wrote b off v w w' → wpListIn (fr r) m P ops Q rest a w') :
    wpListIn (fr r) m P ops Q (o :: rest) a w := by
  obtain ⟨w', h1, h2⟩ := zws hC hi hsz ho hp hx hv hvc hrow
  refine wpListIn_plain hg fun K hK => ⟨fun _ _ => trivial, ?_⟩
  rw [z71 r a.eval o (fun c e => by rw [ho] at e; cases e), h1, Oper.uponIn_skip, hd]
  exact hK _ _ (next w' h2)
theorem znm (hC : C.Ok P) {t : Nat} {i : TI} (hi : C.ti t = some i) (ha : i.agg = false) {fn : Func} {k : Nat} (hf : fn.results = #[.cell k t]) {tmps : Array Value} {b off : Nat} {v : Value} (hp : tmps.getD k undef = .pointer (some ⟨b, off, none⟩)) (hrow : z76 w b off [v]) :
    (results fn tmps).run P w = .ok v w := by
  obtain ⟨c, e, fz, h1, h2, h3, _, _⟩ := hrow
  have hc : w.cell? ⟨b, off, none⟩ = some v := by
    have := h3 0 (by simp)
    simp only [World.cell?, h1]
    simpa using this
  rw [Array.getD_eq_getD_getElem?] at hp
  simp [results, hf, hp, loadVar, z70 hC hi, ha, hc, asAddr]
theorem z76.keepAt {b o : Nat} {vs : List Value} (h : z76 w b o vs) (hb : w'.heap[b]? = w.heap[b]?) : z76 w' b o vs := by
  obtain ⟨c, e, fz, h1, h2⟩ := h
  exact ⟨c, e, fz, hb.trans h1, h2⟩
end
def endQ (K1 : St → Prop) (K2 : Nat → St → Prop) (K3 : St → Prop) : Exit → St → Prop
  | .normal, s => K1 s
  | .exit i, s => K2 i s
  | .ret, s => K3 s
  | _, _ => False
theorem z1t (K1 : St → Prop) (K2 : Nat → St → Prop) (K3 : St → Prop) (s : St) : endQ K1 K2 K3 .normal s = K1 s := rfl
theorem zlx (K1 : St → Prop) (K2 : Nat → St → Prop) (K3 : St → Prop) (s : St) (i : Nat) : endQ K1 K2 K3 (.exit i) s = K2 i s := rfl
end Go.AE
