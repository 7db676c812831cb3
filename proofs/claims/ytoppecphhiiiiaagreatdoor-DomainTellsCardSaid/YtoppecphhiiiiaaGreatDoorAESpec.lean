/- A part of the abstract evaluator: no condition. -/
import Derived.Test.YtoppecphhiiiiaaGreatDoorAEAwp
set_option linter.unusedVariables false
set_option linter.unusedSimpArgs false
namespace Go.AE
mutual
def kO (s : St) (used : List Nat) : AV → (AV → List Nat → Prop) → Prop
 | .ref id 0 n, K => (match obj s.m id with
  | .arr e sz cs => used.contains id = false ∧ cs.length = n * sz ∧ K (.own e sz n cs) (used ++ [id])
  | _ => False)
 | .v x, K => K (.v x) used
 | .sl n cs, K => K (.sl n cs) used
 | .cp cs, K => K (.cp cs) used
 | .mp es, K => K (.mp es) used
 | .ag xs, K => mG s used xs fun ys u => K (.ag ys) u
 | .fn f a b, K => (namess a || namess b) = false ∧ K (.fn f a b) used
 | _, _ => False
def mG (s : St) (used : List Nat) : List AV → (List AV → List Nat → Prop) → Prop
 | [], K => K [] used
 | x :: l, K => kO s used x fun y u => mG s u l fun ys u' => K (y :: ys) u'
end
def wK (C : bI) (s : St) : ResultVar → (AV → Prop) → Prop
 | .tmp t, K => K (get s.t t)
 | .cell p t, K => bB C s (.load t (.tmp p)) K
def lT (C : bI) (s : St) : List ResultVar → (List AV → Prop) → Prop
 | [], K => K []
 | r :: rs, K => wK C s r fun x => lT C s rs fun xs => K (x :: xs)
def nH (z : Bool) (s : St) (r : AV) (xs : List AV) : Prop :=
 match z, xs with
 | false, [x] => kO s [] x fun y _ => y = r
 | false, xs => mG s [] xs fun ys _ => .tup ys = r
 | true, [x] => fz s x = r
 | true, xs => .tup (fzs s xs) = r
def zU (C : bI) (z : Bool) (ts : List ResultVar) (r : AV) (s : St) : Prop := lT C s ts (nH z s r)
def tP (C : bI) (z : Bool) (ts : List ResultVar) (r : AV) : Exit → St → Prop
 | .normal, s => zU C z ts r s
 | .ret, s => zU C z ts r s
 | _, _ => False
def fY : Nat → List AV → List (Nat × AV)
 | _, [] => []
 | k, x :: l => (k, x) :: fY (k + 1) l
section
variable {N : Nat} {C : bI} {P : Program} {V : dJ} {w0 w w' : World} {s s' : St} {G : Gh} {F : Nat → Prop} {a : Act}
def ghosts (G : Gh) (us : List Nat) : Gh := us.map fun id => (G[id]?).getD none
def rZ (w : World) (F : Nat → Prop) (G : Gh) (s : St) (used used' : List Nat) (obs : List Ob) : Prop :=
 ∃ new, used' = used ++ new ∧ obs = new.map (obj s.m) ∧ (used.Nodup → used'.Nodup) ∧ (∀ id ∈ new, ∃ e sz cs, obj s.m id = .arr e sz cs) ∧ ∀ id ∈ new, id < G.length
theorem zd6 (G : Gh) (us new : List Nat) : bS (ghosts G us) (ghosts G (us ++ new)) := fun id x hx => by
 unfold ghosts at *
 rw [List.map_append, List.getElem?_append_left (List.getElem?_eq_some_iff.1 hx).1]
 exact hx
mutual
theorem C2 (h : aE P N V w0 s G F a w) : ∀ (x : AV) {used : List Nat} {v : Value} {K : AV → List Nat → Prop}, kO s used x K → aH w F G x v →
  ∃ r used', K r used' ∧ rZ w F G s used used' (imp used.length r).2 ∧ aH w F (ghosts G used') (imp used.length r).1 v
 | x, used, v, K, hk, hx => by
  unfold kO at hk
  have same : ∀ {y : AV}, y = x → names y = false → K y used → (∀ k, imp k y = (y, [])) → ∃ r used', K r used' ∧ rZ w F G s used used' (imp used.length r).2 ∧ aH w F (ghosts G used') (imp used.length r).1 v := by
   rintro y rfl hn hk hi
   refine ⟨y, used, hk, ⟨[], by simp, by simp [hi], fun h => h, by simp, by simp⟩, ?_⟩
   rw [hi]
   exact z6 hn hx
  split at hk
  ·rename_i id n
   split at hk
   ·rename_i e sz cs ho
    obtain ⟨h1, h2, h3⟩ := hk
    obtain ⟨g, vs, hg, rfl, hown, _⟩ := zD h ho hx h2
    have hlt : id < G.length := (List.getElem?_eq_some_iff.1 hg).1
    refine ⟨_, _, h3, ⟨[id], rfl, by simp [imp, ho], fun hnd => ?_, by simpa using ⟨e, sz, cs, ho⟩, by simpa using hlt⟩, ?_⟩
    ·simp at h1
     rw [List.nodup_append]
     refine ⟨hnd, by simp, ?_⟩
     intro a ha b hb
     simp at hb; subst hb
     exact fun e => h1 (e ▸ ha)
    ·simp only [imp]
     have hgh : (ghosts G (used ++ [id]))[used.length]? = some g := by
      simp [ghosts, hg]
     cases g with
     | none =>
      rcases hown.2 with ⟨_, hn⟩ | ⟨_, _, _, h5, _⟩
      ·subst hn; exact .ref0 hgh
      ·simp [slv] at h5
     | some L =>
      have hcap : n ≤ L.cap := by
       rcases hown.2 with ⟨h5, _⟩ | ⟨g, cap, cur, h5, _, _, h6, _⟩
       ·simp [slv] at h5
       ·simp [slv] at h5; omega
      have hL0 : L.o = 0 := by
       have := h.obG hg
       rw [ho] at this
       obtain ⟨_, _, _, _, _, _, h5⟩ := this
       exact h5 L rfl
      have := aH.ref (w := w) (F := F) (off := 0) (len := n) (cap := L.cap) hgh (fun _ => rfl) hcap
      rw [hL0] at this
      exact this
   ·exact hk.elim
  ·exact same rfl rfl hk (fun _ => rfl)
  ·exact same rfl rfl hk (fun _ => rfl)
  ·exact same rfl rfl hk (fun _ => rfl)
  ·exact same rfl rfl hk (fun _ => rfl)
  ·rename_i xs
   obtain ⟨vs, rfl, hr⟩ := hx.ag_inv
   obtain ⟨rs, used', k1, k2, k3⟩ := y7 h xs hk hr
   exact ⟨.ag rs, used', k1, by simpa [imp] using k2, by simpa [imp] using aH.ag k3⟩
  ·rename_i f fa fb
   exact same rfl (by simpa [names] using hk.1) hk.2 (fun _ => rfl)
  ·exact hk.elim
theorem y7 (h : aE P N V w0 s G F a w) : ∀ (xs : List AV) {used : List Nat} {vs : List Value} {K : List AV → List Nat → Prop}, mG s used xs K → aF w F G xs vs →
  ∃ rs used', K rs used' ∧ rZ w F G s used used' (imps used.length rs).2 ∧ aF w F (ghosts G used') (imps used.length rs).1 vs
 | [], used, vs, K, hk, hx => by
  cases hx
  simp only [mG] at hk
  exact ⟨[], used, hk, ⟨[], by simp, by simp [imps], fun h => h, by simp, by simp⟩, by simp [imps]; exact .nil⟩
 | x :: xs, used, vs, K, hk, hx => by
  cases hx with
  | cons h1 h2 =>
   simp only [mG] at hk
   obtain ⟨r, u1, k1, ⟨n1, e1, o1, nd1, ar1, lt1⟩, k3⟩ := C2 h x hk h1
   obtain ⟨rs, u2, q1, ⟨n2, e2, o2, nd2, ar2, lt2⟩, q3⟩ := y7 h xs k1 h2
   have hlen : used.length + (imp used.length r).2.length = u1.length := by rw [o1, e1]; simp
   refine ⟨r :: rs, u2, q1, ⟨n1 ++ n2, by rw [e2, e1, List.append_assoc], ?_, fun h => nd2 (nd1 h), ?_, ?_⟩, ?_⟩
   ·simp only [imps, hlen]
    rw [o1, o2, List.map_append]
   ·intro id hid
    rcases List.mem_append.1 hid with hid | hid
    ·exact ar1 id hid
    ·exact ar2 id hid
   ·intro id hid
    rcases List.mem_append.1 hid with hid | hid
    ·exact lt1 id hid
    ·exact lt2 id hid
   ·simp only [imps, hlen]
    refine .cons ?_ q3
    rw [e2]
    exact aH.mono ⟨fun _ h => h, fun _ _ => rfl⟩ (zd6 _ _ _) k3
end
theorem zhj (l : List Nat) (f : Nat → Ob) (k : Nat) (h : k < l.length) : obj (l.map f) k = f l[k] := by
 induction l generalizing k with
 | nil => simp at h
 | cons x l ih => cases k with
  | zero => rfl
  | succ k => simp only [List.map_cons, obj, List.getElem_cons_succ]; exact ih k (by simpa using h)
theorem WO (h : aE P N V w0 s G F a w) {used : List Nat} {obs : List Ob} (hx : rZ w F G s [] used obs) : o8 w F (ghosts G used) obs ∧ ∀ (id : Nat) (L : bU), (ghosts G used)[id]? = some (some L) → ∃ j : Nat, G[j]? = some (some L) := by
 obtain ⟨new, e, ho, hnd, har, hlt⟩ := hx
 simp at e; subst e
 have hnd := hnd (by simp)
 have hget : ∀ (k : Nat) (g : Option bU), (ghosts G used)[k]? = some g → ∃ hk : k < used.length, G[used[k]]? = some g := by
  intro k g hg
  unfold ghosts at hg
  have hk : k < used.length := by have := (List.getElem?_eq_some_iff.1 hg).1; simpa using this
  refine ⟨hk, ?_⟩
  rw [List.getElem?_map, List.getElem?_eq_getElem hk] at hg
  simp at hg
  have hl := hlt _ (List.getElem_mem hk)
  rw [List.getElem?_eq_getElem hl] at hg ⊢
  simpa using hg
 refine ⟨⟨by simp [ghosts, ho], fun k g hg => ?_, fun k L hL => ?_, fun i j L M hi hj hb => ?_⟩, fun k L hL => ⟨_, (hget k _ hL).2⟩⟩
 ·obtain ⟨hk, hg'⟩ := hget k g hg
  have := h.ob _ g hg'
  rw [ho, zhj _ _ _ hk]
  obtain ⟨e, sz, cs, he⟩ := har _ (List.getElem_mem hk)
  rw [he] at this ⊢
  exact this
 ·obtain ⟨hk, hg'⟩ := hget k _ hL
  exact ⟨(h.live _ L hg').1, (h.live _ L hg').2.1⟩
 ·obtain ⟨hki, hgi⟩ := hget i _ hi
  obtain ⟨hkj, hgj⟩ := hget j _ hj
  have := h.inj _ _ L M hgi hgj hb
  exact (List.getElem_inj hnd).1 this
theorem CS (vs : List Value) (n : Nat) : ∀ (xs : List AV) (k j : Nat), aF w F G xs vs → aH w F G (get (fY k xs) j) (if k ≤ j then ((vs ++ List.replicate n undef)[j - k]?).getD undef else undef) ∨ get (fY k xs) j = .junk := by
 intro xs
 induction xs generalizing vs with
 | nil => intro k j _; exact .inr rfl
 | cons x xs ih =>
  intro k j h
  cases h with
  | @cons _ _ _ v vs h1 h2 =>
   by_cases hj : k = j
   ·subst hj
    left
    simp [fY, get]
    exact h1
   ·simp only [fY, get, hj, if_false]
    rcases ih vs (k + 1) j h2 with h3 | h3
    ·by_cases hle : k + 1 ≤ j
     ·left
      rw [if_pos hle] at h3
      rw [if_pos (by omega)]
      have : j - k = (j - (k + 1)) + 1 := by omega
      rw [this]
      simpa using h3
     ·rw [if_neg hle] at h3
      right
      have : ∀ (l : List AV) (m : Nat), j < m → get (fY m l) j = .junk := by
       intro l
       induction l with
       | nil => intro m _; rfl
       | cons y l ih => intro m hm; simp only [fY, get]; rw [if_neg (by omega)]; exact ih (m + 1) (by omega)
      exact this xs (k + 1) (by omega)
    ·exact .inr h3
def rI (tmps : Array Value) : ResultVar → Sem Value
 | .tmp t => pure (tmps.getD t undef)
 | .cell p t => do loadVar t (← asAddr (tmps.getD p undef))
theorem zj2 (hC : C.Ok P) (h : aE P N V w0 s G F a w) {r : ResultVar} {K : AV → Prop} (hk : wK C s r K) :
  ∃ x v, K x ∧ aH w F G x v ∧ (rI a.tmps r).run P w = .ok v w := by
 cases r with
 | tmp t => exact ⟨_, _, hk, h.tm t, by simp [rI]⟩
 | cell p t =>
  obtain ⟨x, v, h1, h2, h3⟩ := wC (o := { dst := none, op := .load t (.tmp p), type := 0, pos := "", after := #[], guard := none }) hC h hk
  refine ⟨x, v, h1, h2, ?_⟩
  have hp : ∃ b, a.tmps.getD p undef = .pointer (some b) := by
   have h5 := h.tm p
   have h4 : bB C s (.load t (.tmp p)) K := hk
   unfold bB at h4
   simp only [ev] at h4
   split at h4
   ·rename_i e; rw [e] at h5; obtain ⟨b, _, hb, _⟩ := h5.cp_inv; exact ⟨b, hb⟩
   ·rename_i e; rw [e] at h5; obtain ⟨L, _, hb⟩ := h5.ptr_inv; exact ⟨_, hb⟩
   ·exact h4.elim
  obtain ⟨b, hb⟩ := hp
  have hev : a.eval (.tmp p) = .pointer (some b) := hb
  simp only [execOp, hev, Instr.loadAt, Instr.sureAddr, Sem.run_bind, Sem.run_pure, Result.andThen_ok] at h3
  simp only [rI, hb, asAddr, Sem.run_bind, Sem.run_pure, Result.andThen_ok]
  generalize (loadVar t b).run P w = q at h3 ⊢
  cases q with
  | ok u w2 =>
   simp at h3
   rw [h3.1, h3.2]
  | halt e w2 => simp [Result.andThen] at h3
theorem z00 (hC : C.Ok P) (h : aE P N V w0 s G F a w) : ∀ {rs : List ResultVar} {K : List AV → Prop}, lT C s rs K →
  ∃ xs vs, K xs ∧ aF w F G xs vs ∧ (rs.mapM (rI a.tmps)).run P w = .ok vs w
 | [], K, hk => ⟨[], [], hk, .nil, by simp⟩
 | r :: rs, K, hk => by
  obtain ⟨x, v, h1, h2, h3⟩ := zj2 hC h hk
  obtain ⟨xs, vs, k1, k2, k3⟩ := z00 hC h h1
  refine ⟨x :: xs, v :: vs, k1, .cons h2 k2, ?_⟩
  rw [List.mapM_cons]
  simp only [Sem.run_bind, h3, Result.andThen_ok, k3, Sem.run_pure]
def rF : List Value → Value
 | [v] => v
 | vs => .tuple vs.toArray
def XJ : List AV → AV
 | [v] => v
 | vs => .tup vs
theorem E5 (hC : C.Ok P) (h : aE P N V w0 s G F a w) {fn : Func} {K : List AV → Prop} (hk : lT C s fn.results.toList K) : ∃ xs vs, K xs ∧ aF w F G xs vs ∧ (results fn a.tmps).run P w = .ok (rF vs) w := by
 obtain ⟨xs, vs, h1, h2, h3⟩ := z00 hC h hk
 refine ⟨xs, vs, h1, h2, ?_⟩
 have e : (fn.results.mapM (rI a.tmps)).run P w = .ok vs.toArray w := by
  rw [Array.mapM_eq_mapM_toList]
  show Sem.run P (List.toArray <$> List.mapM (rI a.tmps) fn.results.toList) w = _
  rw [map_eq_pure_bind]
  simp only [Sem.run_bind, h3, Result.andThen_ok, Sem.run_pure]
 have e0 : results fn a.tmps = (do let vs ← fn.results.mapM (rI a.tmps); pure (if h : vs.size = 1 then vs[0] else .tuple vs)) := by
  unfold results
  congr 1
 rw [e0]
 simp only [Sem.run_bind]
 rw [e]
 simp only [Result.andThen_ok, Sem.run_pure]
 congr 1
 match vs with
 | [] => rfl
 | [v] => rfl
 | v :: u :: l => simp [rF]
mutual
theorem CG (s : St) (k : Nat) : ∀ x : AV, imp k (fz s x) = (fz s x, [])
 | .ref id off n => by simp only [fz, dW]; split <;> simp [imp]
 | .ptr id off => by simp only [fz]; split <;> simp [imp]
 | .ag cs => by simp only [fz, imp]; rw [CI s k cs]
 | .tup cs => by simp only [fz, imp]; rw [CI s k cs]
 | .fn f a b => by simp [fz, imp]
 | .v x => by simp [fz, imp]
 | .junk => by simp [fz, imp]
 | .un => by simp [fz, imp]
 | .sl n cs => by simp [fz, imp]
 | .cp cs => by simp [fz, imp]
 | .mp cs => by simp [fz, imp]
 | .mr id => by simp only [fz]; split <;> simp [imp]
 | .own e sz n cs => by simp [fz, imp]
 | .lend sz n cs => by simp [fz, imp]
 | .lptr cs => by simp [fz, imp]
theorem CI (s : St) (k : Nat) : ∀ xs : List AV, imps k (fzs s xs) = (fzs s xs, [])
 | [] => by simp [fzs, imps]
 | x :: l => by
  simp only [fzs, imps]
  rw [CG s k x]
  simp only [List.length_nil, Nat.add_zero, List.nil_append]
  rw [CI s k l]
end
theorem zki {f : FuncId} {fn : Func} {c : Code} {args : List AV} {r : AV} {z : Bool} (hC : C.Ok P) (hf : P.funcs[f]? = some fn) (hb : fn.body = some c) (hname : (fn.name == "runtime.NumGoroutine") = false)
  (hok : f9 fn.ntmps c = true) (hla : args.length ≤ fn.ntmps) (h : AW C P c (tP C z fn.results.toList r) ⟨fY 0 args, []⟩) : aG P f args r := by
 refine ⟨⟨fn, hf, by simp [hb], hname⟩, fun w F vs hF hT hr => ?_⟩
 have hlen := hr.length
 refine calls_of_wp hf hb ?_
 have hrel : aE P fn.ntmps ⟨F, [], [], [], none, fun _ => none⟩ w ⟨fY 0 args, []⟩ [] F { tmps := vs.toArray ++ Array.replicate (fn.ntmps - vs.toArray.size) undef, defers := [] } w := {
  defers := rfl
  tsize := by simp; omega
  tm := fun k => by
   rcases CS vs (fn.ntmps - vs.length) args 0 k hr with h1 | h1
   ·have e : (vs.toArray ++ Array.replicate (fn.ntmps - vs.toArray.size) undef).getD k undef = ((vs ++ List.replicate (fn.ntmps - vs.length) undef)[k]?).getD undef := by
     rw [Array.getD_eq_getD_getElem?]
     congr 1
     rw [← Array.getElem?_toList]
     simp
    show aH w F [] (get (fY 0 args) k) _
    rw [e]
    simpa using h1
   ·show aH w F [] (get (fY 0 args) k) _
    rw [h1]; exact .junk _
  len := rfl
  ob := fun id g hg => by simp at hg
  live := fun id L hg => by simp at hg
  inj := fun i j L M hi => by simp at hi
  fb := fun b hb => ⟨hF b hb, .inr (by rintro (h | ⟨r, hr, _⟩) <;> simp at *)⟩
  keep := ⟨rfl, rfl, rfl, Nat.le_refl _, fun _ _ _ => rfl⟩
  f0 := ⟨fun _ h => h, fun _ h => .inl h⟩
  nd := by simp
  rows := by simp
  fence := fun k hk => by cases hk
  tabs := hT
  pin := fun id L hp => by cases hp }
 refine wp_mono (m4 hC c hok hrel h.out) ?_
 have fin : ∀ {a' : Act} {w' : World} {s' : St} {G' : Gh} {F' : Nat → Prop}, aE P fn.ntmps ⟨F, [], [], [], none, fun _ => none⟩ w s' G' F' a' w' → zU C z fn.results.toList r s' →
   a'.defers = [] ∧ ∃ v, (results fn a'.tmps).run P w' = .ok v w' ∧ lC w F r (.returned v) w' := by
  intro a' w' s' G' F' h' hret
  refine ⟨h'.defers, ?_⟩
  have hgrow : d7 w w' := ⟨h'.keep.os, h'.keep.tape, h'.keep.output, h'.keep.size, fun k hk => h'.keep.block k hk (by rintro (h | ⟨r, hr, _⟩) <;> simp at *)⟩
  have new : ∀ (id : Nat) (L : bU), G'[id]? = some (some L) → w.heap.size ≤ L.b := by
   intro j L hj
   have := (h'.live j L hj).2.2
   unfold eE at this
   split at this
   ·rcases this with h | h
    ·exact h
    ·simp at h
   ·rcases this with h | (h | ⟨r, hr, _⟩)
    ·exact h
    ·simp at h
    ·simp at hr
   ·rcases this with h | h
    ·exact h
    ·simp at h
  have post : ∀ {v : Value} {used : List Nat}, rZ w' F' G' s' [] used (imp 0 r).2 → aH w' F' (ghosts G' used) (imp 0 r).1 v → lC w F r (.returned v) w' := by
   intro v used hx hv
   obtain ⟨ho, hsrc⟩ := WO h' hx
   refine ⟨v, F', _, rfl, hgrow, h'.f0.1, fun b hb => ⟨h'.f0.2 b hb, (h'.fb b hb).1⟩, hv, ho, fun id L hL => ?_⟩
   obtain ⟨j, hj⟩ := hsrc id L hL
   exact new j L hj
  have postz : ∀ {x : AV} {v : Value}, aH w' F' G' x v → fz s' x = r → lC w F r (.returned v) w' := by
   intro x v hv e
   have hi := CG s' 0 x
   rw [e] at hi
   have h1 := v8 h' hv
   rw [e] at h1
   refine ⟨v, hP F' G', [], rfl, hgrow, fun b hb => .inl (h'.f0.1 b hb), ?_, by rw [hi]; exact h1, ?_, by simp⟩
   ·rintro b (hb | ⟨id, L, hg, rfl⟩)
    ·exact ⟨h'.f0.2 b hb, (h'.fb b hb).1⟩
    ·exact ⟨.inr (new id L hg), (h'.live id L hg).2.1⟩
   ·rw [hi]
    exact ⟨rfl, by simp, by simp, by simp⟩
  obtain ⟨xs, vs, k1, k2, k3⟩ := E5 hC h' hret
  refine ⟨_, k3, ?_⟩
  unfold nH at k1
  split at k1
  ·cases k2 with
   | cons k2 k4 =>
    cases k4
    obtain ⟨r', used, q1, q2, q3⟩ := C2 h' _ k1 k2
    subst q1
    exact post q2 q3
  ·rename_i hne
   obtain ⟨rs, used, q1, q2, q3⟩ := y7 h' _ k1 k2
   subst q1
   have : rF vs = .tuple vs.toArray := by
    match vs, k2 with
    | [], _ => rfl
    | [v], k2 =>
     exfalso
     cases k2 with
     | cons _ k4 => cases k4; exact hne _ rfl
    | _ :: _ :: _, _ => rfl
   rw [this]
   exact post (by simpa [imp] using q2) (by simpa [imp] using aH.tup q3)
  ·cases k2 with
   | cons k2 k4 =>
    cases k4
    exact postz k2 k1
  ·rename_i hne
   have : rF vs = .tuple vs.toArray := by
    match vs, k2 with
    | [], _ => rfl
    | [v], k2 =>
     exfalso
     cases k2 with
     | cons _ k4 => cases k4; exact hne _ rfl
    | _ :: _ :: _, _ => rfl
   rw [this]
   exact postz (x := .tup xs) (.tup k2) (by simpa [fz] using k1)
 rintro e a' w' ⟨s', G', F', hq, h'⟩
 cases e with
 | normal => exact fin h' hq
 | ret => exact fin h' hq
 | exit id => exact hq.elim
 | goto l => exact hq.elim
 | panic ch => exact hq.elim
 | outgrown => exact hq.elim
end
end Go.AE
