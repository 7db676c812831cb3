/- A part of the abstract evaluator: no condition. -/
import Derived.Test.YtekgeapohenheaaGreatAERound
import Derived.Test.YtekgeapohenheaaGreatAEMore
set_option linter.unusedVariables false
set_option linter.unusedSimpArgs false
/- A function whose text holds a loop over a function. -/
namespace Go.AE

section
variable {N : Nat} {C : Ctx} {P : Program} {V : Given} {w0 w w' : World} {s : St} {G : Gh} {F : Nat → Prop} {a : Act}

/-- WHAT IS HANDED BACK: a state that is right for the results is a right ending. -/
theorem ret_post {fn : Func} {z : Bool} {r : AV} {ds : List Deferred} {a' : Act} {s' : St} {G' : Gh} {F' : Nat → Prop} (hC : C.Ok P) (h' : Rel fn.ntmps ⟨F, [], [], ds, none, fun _ => none⟩ w s' G' F' a' w') (hret : retP C z fn.results.toList r s') :
    ∃ v, (results fn a'.tmps).run P w' = .ok v w' ∧ Post w F r (.returned v) w' := by
  have hgrow : Grow w w' := ⟨h'.keep.os, h'.keep.tape, h'.keep.output, h'.keep.size, fun k hk => h'.keep.block k hk (by rintro (h | ⟨r, hr, _⟩) <;> simp at *)⟩
  have new : ∀ (id : Nat) (L : Loc), G'[id]? = some (some L) → w.heap.size ≤ L.b := by
    intro j L hj
    have := (h'.live j L hj).2.2
    unfold Perm at this
    split at this
    · rcases this with h | h
      · exact h
      · simp at h
    · rcases this with h | (h | ⟨r, hr, _⟩)
      · exact h
      · simp at h
      · simp at hr
    · rcases this with h | h
      · exact h
      · simp at h
  have post : ∀ {v : Value} {used : List Nat}, ExpOk w' F' G' s' [] used (imp 0 r).2 → Rep w' F' (ghosts G' used) (imp 0 r).1 v → Post w F r (.returned v) w' := by
    intro v used hx hv
    obtain ⟨ho, hsrc⟩ := objs_exp h' hx
    refine ⟨v, F', _, rfl, hgrow, h'.f0.1, fun b hb => ⟨h'.f0.2 b hb, (h'.fb b hb).1⟩, hv, ho, fun id L hL => ?_⟩
    obtain ⟨j, hj⟩ := hsrc id L hL
    exact new j L hj
  have postz : ∀ {x : AV} {v : Value}, Rep w' F' G' x v → fz s' x = r → Post w F r (.returned v) w' := by
    intro x v hv e
    have hi := fz_imp s' 0 x
    rw [e] at hi
    have h1 := fz_sound h' hv
    rw [e] at h1
    refine ⟨v, Lent F' G', [], rfl, hgrow, fun b hb => .inl (h'.f0.1 b hb), ?_, by rw [hi]; exact h1, ?_, by simp⟩
    · rintro b (hb | ⟨id, L, hg, rfl⟩)
      · exact ⟨h'.f0.2 b hb, (h'.fb b hb).1⟩
      · exact ⟨.inr (new id L hg), (h'.live id L hg).2.1⟩
    · rw [hi]
      exact ⟨rfl, by simp, by simp, by simp⟩
  obtain ⟨xs, vs, k1, k2, k3⟩ := results_run hC h' hret
  refine ⟨_, k3, ?_⟩
  unfold expR at k1
  split at k1
  · cases k2 with
    | cons k2 k4 =>
      cases k4
      obtain ⟨r', used, q1, q2, q3⟩ := exp_sound h' _ k1 k2
      subst q1
      exact post q2 q3
  · rename_i hne
    obtain ⟨rs, used, q1, q2, q3⟩ := exps_sound h' _ k1 k2
    subst q1
    have : packV vs = .tuple vs.toArray := by
      match vs, k2 with
      | [], _ => rfl
      | [v], k2 =>
        exfalso
        cases k2 with
        | cons _ k4 => cases k4; exact hne _ rfl
      | _ :: _ :: _, _ => rfl
    rw [this]
    exact post (by simpa [imp] using q2) (by simpa [imp] using Rep.tup q3)
  · cases k2 with
    | cons k2 k4 =>
      cases k4
      exact postz k2 k1
  · rename_i hne
    have : packV vs = .tuple vs.toArray := by
      match vs, k2 with
      | [], _ => rfl
      | [v], k2 =>
        exfalso
        cases k2 with
        | cons _ k4 => cases k4; exact hne _ rfl
      | _ :: _ :: _, _ => rfl
    rw [this]
    exact postz (x := .tup xs) (.tup k2) (by simpa [fz] using k1)

/-- A state without memory of its own, from here on. -/
theorem Rel.fresh (h : Rel N V w0 ⟨s.t, []⟩ [] F a w) : Rel N ⟨F, [], [], V.ds, none, fun _ => none⟩ w ⟨s.t, []⟩ [] F a w where
  defers := h.defers
  tsize := h.tsize
  tm := h.tm
  len := rfl
  ob := fun id g hg => by simp at hg
  live := fun id L hg => by simp at hg
  inj := fun i j L M hi => by simp at hi
  fb := fun b hb => ⟨(h.fb b hb).1, .inr (by rintro (h | ⟨r, hr, _⟩) <;> simp at *)⟩
  keep := ⟨rfl, rfl, rfl, Nat.le_refl _, fun _ _ _ => rfl⟩
  f0 := ⟨fun _ h => h, fun _ h => .inl h⟩
  nd := by simp
  rows := by simp
  fence := fun k hk => by cases hk
  pin := fun id L hp => by cases hp

theorem Rel.grown {F0 : Nat → Prop} {ds : List Deferred} (h : Rel N ⟨F0, [], [], ds, none, fun _ => none⟩ w0 s G F a w) : Grow w0 w :=
  ⟨h.keep.os, h.keep.tape, h.keep.output, h.keep.size, fun k hk => h.keep.block k hk (by rintro (h | ⟨r, hr, _⟩) <;> simp at *)⟩


theorem rel_of {t : List (Nat × AV)} (hF : ∀ b, F b → b < w.heap.size) (hn : a.tmps.size = N) (ht : ∀ k, Rep w F [] (get t k) (a.tmps.getD k undef)) : Rel N ⟨F, [], [], a.defers, none, fun _ => none⟩ w ⟨t, []⟩ [] F a w where
  defers := rfl
  tsize := hn
  tm := ht
  len := rfl
  ob := fun id g hg => by simp at hg
  live := fun id L hg => by simp at hg
  inj := fun i j L M hi => by simp at hi
  fb := fun b hb => ⟨hF b hb, .inr (by rintro (h | ⟨r, hr, _⟩) <;> simp at *)⟩
  keep := ⟨rfl, rfl, rfl, Nat.le_refl _, fun _ _ _ => rfl⟩
  f0 := ⟨fun _ h => h, fun _ h => .inl h⟩
  nd := by simp
  rows := by simp
  fence := fun k hk => by cases hk
  pin := fun id L hp => by cases hp

theorem rel_init {args : List AV} {vs : List Value} {ds : List Deferred} (hF : ∀ b, F b → b < w.heap.size) (hr : Reps w F [] args vs) (hla : args.length ≤ N) :
    Rel N ⟨F, [], [], ds, none, fun _ => none⟩ w ⟨initT 0 args, []⟩ [] F { tmps := vs.toArray ++ Array.replicate (N - vs.toArray.size) undef, defers := ds } w := by
  have hlen := hr.length
  refine rel_of (a := { tmps := vs.toArray ++ Array.replicate (N - vs.toArray.size) undef, defers := ds }) hF (by simp; omega) fun k => ?_
  rcases initT_get vs (N - vs.length) args 0 k hr with h1 | h1
  · have e : (vs.toArray ++ Array.replicate (N - vs.toArray.size) undef).getD k undef = ((vs ++ List.replicate (N - vs.length) undef)[k]?).getD undef := by
      rw [Array.getD_eq_getD_getElem?]
      congr 1
      rw [← Array.getElem?_toList]
      simp
    show Rep w F [] (get (initT 0 args) k) _
    rw [e]
    simpa using h1
  · show Rep w F [] (get (initT 0 args) k) _
    rw [h1]; exact .junk _

/-- A cell's load, with what the slot holds known for itself. -/
theorem load_cell (hC : C.Ok P) {t : Nat} {i : TI} (hi : C.ti t = some i) (ha : i.agg = false) (h : Rel N V w0 s G F a w) {k : Nat} {x : AV} {o : Oper} (ho : o.op = .load t (.tmp k)) (hx : Rep w F G (.cp [x]) (a.tmps.getD k undef)) :
    ∃ v, Rep w F G x v ∧ (execOp a.eval o).run P w = .ok (.value v) w := by
  obtain ⟨y, v, rfl, h2, h3⟩ := pure2_sound hC (h.putSame hx) (o := o) (K := fun y => y = x) (by
    rw [ho]
    show pureOp C _ (.load t (.tmp k)) _
    simp only [pureOp, hi, ev]
    rw [get_put_same]
    simp [partOf, ha, nth])
  exact ⟨v, h2, h3⟩


theorem Rel.atv (h : Rel N V w0 s G F a w) {k : Nat} {v : Value} (hk : get s.t k = .v v) : a.tmps.getD k undef = v := by
  have := h.tm k
  rw [hk] at this
  exact this.v_inv

theorem list_load (r : Option Nat) (m : Nat) (hC : C.Ok P) {ops : Array Oper} {Q : Exit → Act → World → Prop} {rest : List Oper} {t : Nat} {i : TI} (hi : C.ti t = some i) (ha : i.agg = false) {k : Nat} {x : AV} {o : Oper} (hg : o.guard = none) (ho : o.op = .load t (.tmp k))
    (hd : dOk N o.dst = true) (h : Rel N V w0 s G F a w) (hx : Rep w F G (.cp [x]) (a.tmps.getD k undef)) (next : ∀ a', Rel N V w0 ⟨putD s.t o.dst x, s.m⟩ G F a' w → wpListIn (fr r) m P ops Q rest a' w) :
    wpListIn (fr r) m P ops Q (o :: rest) a w := by
  obtain ⟨v, h2, h3⟩ := load_cell hC hi ha h ho hx
  refine wpListIn_plain hg fun K hK => ⟨fun _ _ => trivial, ?_⟩
  rw [semAt_run r a.eval o (fun c e => by rw [ho] at e; cases e), h3, Oper.uponIn_value]
  exact hK _ _ (next _ (h.putD hd h2))

theorem list_yield (r : Option Nat) (m : Nat) {ops : Array Oper} {Q : Exit → Act → World → Prop} {rest : List Oper} {o : Oper} (hg : o.guard = none) {f : Operand} {args : Array Operand} {ats : Array TypeId}
    (ho : o.op = .call { callee := .value f, args := args, argTypes := ats }) {l : Nat} (hf : a.eval f = .func (.yield l) #[] #[]) {vals : Array Value} (hv : args.map a.eval = vals) {R : Ending → World → Prop}
    (hy : YieldAt (fr r) (m - 1) P l vals w R) (hn : ∀ e w', R e w' → ∃ v, e = .returned v ∧ wpListIn (fr r) m P ops Q rest (a.put o.dst v) w') : wpListIn (fr r) m P ops Q (o :: rest) a w := by
  obtain ⟨fn, tmps, assign, body, h1, h2⟩ := hy
  have hrun : (execOp a.eval o).run P w = .ok (.round l fn tmps assign body) w := by
    simp only [execOp, ho, resolve, hf, Deferred.ofValue, Sem.run_bind, Sem.run_pure, Result.andThen_ok, invoke]
    simp [hv, h1]
  refine wpListIn_plain hg fun K hK => ⟨fun _ _ => trivial, ?_⟩
  rw [semAt_run r a.eval o (fun c e => by rw [ho] at e; cases e), hrun, Oper.uponIn_round]
  refine ⟨fun e => by simp [fr, Fence.wide] at e, h2.mono ?_⟩
  intro e w' he
  obtain ⟨v, rfl, hn⟩ := hn e w' he
  exact hK _ _ hn


theorem list_end (r : Option Nat) (m : Nat) (hC : C.Ok P) {ops os : List Oper} {Q : Exit → Act → World → Prop} (Qs : Exit → St → Prop) (hd : (os.all fun o => dOk N o.dst) = true) (h : Rel N V w0 s G F a w) (hw : WR C P ops Qs os s)
    (hQ : ∀ a w, Lies N V w0 (Qs .normal) a w → Q .normal a w) : wpListIn (fr r) m P ops.toArray Q os a w := by
  have := wopsR_sound r m [] (Q := Q) hC ops.toArray (K := Qs .normal) hQ os (fun o ho => List.all_eq_true.1 hd o ho) h (by simpa using hw.out)
  simpa using this

theorem list_pre (r : Option Nat) (m k : Nat) (hC : C.Ok P) {ops os : List Oper} {Q : Exit → Act → World → Prop} (Qs : Exit → St → Prop) (hd : (os.all fun o => dOk N o.dst) = true) (h : Rel N V w0 s G F a w) (hw : WR C P ops Qs (os.take k) s)
    (hQ : ∀ a w, Lies N V w0 (Qs .normal) a w → wpListIn (fr r) m P ops.toArray Q (os.drop k) a w) : wpListIn (fr r) m P ops.toArray Q os a w := by
  have := wopsR_sound r m (os.drop k) (Q := Q) hC ops.toArray (K := Qs .normal) hQ (os.take k) (fun o ho => List.all_eq_true.1 hd o (List.mem_of_mem_take ho)) h (by simpa using hw.out)
  rwa [List.take_append_drop] at this


theorem rel_vs (t : List (Nat × Value)) (hF : ∀ b, F b → b < w.heap.size) (hn : a.tmps.size = N) (ht : ∀ kv ∈ t, a.tmps.getD kv.1 undef = kv.2) : Rel N ⟨F, [], [], a.defers, none, fun _ => none⟩ w ⟨t.map fun kv => (kv.1, .v kv.2), []⟩ [] F a w := by
  refine rel_of hF hn fun k => ?_
  clear hn
  induction t with
  | nil => exact .junk _
  | cons kv t ih =>
    simp only [List.map_cons, get]
    split
    · rename_i e; subst e; rw [ht kv (by simp)]; exact .v _
    · exact ih fun kv h => ht kv (List.mem_cons_of_mem _ h)


/-- What a store left as it was, and what it wrote. -/
structure Wrote (b o : Nat) (v : Value) (w w' : World) : Prop where
  os : w'.os = w.os
  tape : w'.tape = w.tape
  output : w'.output = w.output
  size : w'.heap.size = w.heap.size
  block : ∀ k, k ≠ b → w'.heap[k]? = w.heap[k]?
  row : RowAt w' b o [v]

theorem store1_run (hC : C.Ok P) {t : Nat} {i : TI} (hi : C.ti t = some i) (hsz : i.size = 1) {o : Oper} {p x : Operand} (ho : o.op = .store t p x) {b off : Nat} {v u : Value} (hp : a.eval p = .pointer (some ⟨b, off, none⟩)) (hx : a.eval x = v) (hv : v.oneCell' = true)
    (hvc : v.cells = #[v]) (hrow : RowAt w b off [u]) : ∃ w', (execOp a.eval o).run P w = .ok .skip w' ∧ Wrote b off v w w' := by
  obtain ⟨w2, r0, r1, r2, r3, r4, r5, r6, r7⟩ := row_store (P := P) (w0 := w) (off := 0) (us := [v]) hrow (by simp) (by simpa using hv)
  have hs := storeAt_run hC hi (b := ⟨b, off, none⟩) (v := v) (by rw [hvc, hsz]; rfl) w2 (by rw [hvc]; simpa using r0)
  refine ⟨w2, ?_, r1, r2, r3, r4, r5, ?_⟩
  · simp [execOp, ho, hp, hx, hs]
  · simpa using r6

theorem list_store (r : Option Nat) (m : Nat) (hC : C.Ok P) {ops : Array Oper} {Q : Exit → Act → World → Prop} {rest : List Oper} {t : Nat} {i : TI} (hi : C.ti t = some i) (hsz : i.size = 1) {o : Oper} {p x : Operand} (hg : o.guard = none) (ho : o.op = .store t p x) (hd : o.dst = none)
    {b off : Nat} {v u : Value} (hp : a.eval p = .pointer (some ⟨b, off, none⟩)) (hx : a.eval x = v) (hv : v.oneCell' = true) (hvc : v.cells = #[v]) (hrow : RowAt w b off [u]) (next : ∀ w', Wrote b off v w w' → wpListIn (fr r) m P ops Q rest a w') :
    wpListIn (fr r) m P ops Q (o :: rest) a w := by
  obtain ⟨w', h1, h2⟩ := store1_run hC hi hsz ho hp hx hv hvc hrow
  refine wpListIn_plain hg fun K hK => ⟨fun _ _ => trivial, ?_⟩
  rw [semAt_run r a.eval o (fun c e => by rw [ho] at e; cases e), h1, Oper.uponIn_skip, hd]
  exact hK _ _ (next w' h2)

theorem results_cell (hC : C.Ok P) {t : Nat} {i : TI} (hi : C.ti t = some i) (ha : i.agg = false) {fn : Func} {k : Nat} (hf : fn.results = #[.cell k t]) {tmps : Array Value} {b off : Nat} {v : Value} (hp : tmps.getD k undef = .pointer (some ⟨b, off, none⟩)) (hrow : RowAt w b off [v]) :
    (results fn tmps).run P w = .ok v w := by
  obtain ⟨c, e, fz, h1, h2, h3, _, _⟩ := hrow
  have hc : w.cell? ⟨b, off, none⟩ = some v := by
    have := h3 0 (by simp)
    simp only [World.cell?, h1]
    simpa using this
  rw [Array.getD_eq_getD_getElem?] at hp
  simp [results, hf, hp, loadVar, run_isAgg' hC hi, ha, hc, asAddr]

theorem RowAt.keepAt {b o : Nat} {vs : List Value} (h : RowAt w b o vs) (hb : w'.heap[b]? = w.heap[b]?) : RowAt w' b o vs := by
  obtain ⟨c, e, fz, h1, h2⟩ := h
  exact ⟨c, e, fz, hb.trans h1, h2⟩

end
/-- How a piece of text ends: at its end, by leaving a block, by returning. -/
def endQ (K1 : St → Prop) (K2 : Nat → St → Prop) (K3 : St → Prop) : Exit → St → Prop
  | .normal, s => K1 s
  | .exit i, s => K2 i s
  | .ret, s => K3 s
  | _, _ => False
theorem endQ_normal (K1 : St → Prop) (K2 : Nat → St → Prop) (K3 : St → Prop) (s : St) : endQ K1 K2 K3 .normal s = K1 s := rfl
theorem endQ_exit (K1 : St → Prop) (K2 : Nat → St → Prop) (K3 : St → Prop) (s : St) (i : Nat) : endQ K1 K2 K3 (.exit i) s = K2 i s := rfl
theorem endQ_ret (K1 : St → Prop) (K2 : Nat → St → Prop) (K3 : St → Prop) (s : St) : endQ K1 K2 K3 .ret s = K3 s := rfl
end Go.AE
