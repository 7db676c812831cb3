/- Regions whose order is open: each operation writes its slot alone, so that the order does not matter. -/
import Derived.Test.YtkokdbkkiffjjaaAEQuiet
import Derived.Orders
set_option linter.unusedVariables false
set_option linter.unusedSimpArgs false
namespace Go.AE

theorem eachOk_get {ops : List Oper} : ∀ (l : List Oper) (k : Nat), eachOk ops k l = true → ∀ (i : Nat) (o : Oper), l[i]? = some o → backOk (k + i) o = true ∧ ∀ t ∈ looks ops o, lookOk ops (k + i) o t = true
  | [], k, _, i, o, ho => by simp at ho
  | p :: l, k, h, i, o, ho => by
    simp only [eachOk, Bool.and_eq_true] at h
    cases i with
    | zero => simp at ho; subst ho; exact ⟨h.1.1, by simpa using h.1.2⟩
    | succ i =>
      have := eachOk_get l (k + 1) h.2 i o (by simpa using ho)
      have e : k + 1 + i = k + (i + 1) := by omega
      rw [e] at this
      exact this

theorem writer_some : ∀ (l : List Oper) (k t j : Nat), writer l k t = some j → k ≤ j ∧ ∃ o, l[j - k]? = some o ∧ o.dst = some t
  | [], k, t, j, h => by simp [writer] at h
  | o :: l, k, t, j, h => by
    simp only [writer] at h
    split at h
    · rename_i e; simp at h; subst h; exact ⟨Nat.le_refl _, o, by simp, e⟩
    · obtain ⟨h1, p, h2, h3⟩ := writer_some l (k + 1) t j h
      refine ⟨by omega, p, ?_, h3⟩
      have : j - k = (j - (k + 1)) + 1 := by omega
      rw [this]; simpa using h2

theorem writer_of : ∀ (l : List Oper) (k i t : Nat) (o : Oper), nodupB (l.filterMap (·.dst)) = true → l[i]? = some o → o.dst = some t → writer l k t = some (k + i)
  | [], k, i, t, o, _, h, _ => by simp at h
  | p :: l, k, i, t, o, hn, h, hd => by
    cases i with
    | zero => simp at h; subst h; simp [writer, hd]
    | succ i =>
      have h' : l[i]? = some o := by simpa using h
      have hmem : t ∈ l.filterMap (·.dst) := List.mem_filterMap.2 ⟨o, List.mem_of_getElem? h', hd⟩
      cases hp : p.dst with
      | none =>
        simp only [List.filterMap_cons, hp] at hn
        simp only [writer, hp]
        have := writer_of l (k + 1) i t o hn h' hd
        simp [this]; omega
      | some u =>
        simp only [List.filterMap_cons, hp, nodupB, Bool.and_eq_true, Bool.not_eq_true'] at hn
        have hne : u ≠ t := fun e => by subst e; simp at hn; simp at hmem; obtain ⟨q, hq, hqd⟩ := hmem; exact hn.1 q hq hqd
        simp only [writer, hp]
        rw [if_neg (by simpa using hne)]
        have := writer_of l (k + 1) i t o hn.2 h' hd
        rw [this]; congr 1; omega

theorem bindsTo_spec {o : Oper} {j : Nat} (h : bindsTo o j = true) : ∃ e ∈ o.after, Region.binds .any e = true ∧ e.on = j := by
  simp only [bindsTo, List.any_eq_true, Bool.and_eq_true, beq_iff_eq] at h
  obtain ⟨e, he, h1, h2⟩ := h
  exact ⟨e, by simpa using he, h1, h2⟩

section
variable {N : Nat} {C : Ctx} {P : Program} {V : Given} {w0 w w' : World} {s s' : St} {G : Gh} {F : Nat → Prop} {a : Act}

/-- What an operation's value may be. -/
def OV (C : Ctx) (P : Program) (s : St) (o : Oper) (x : AV) : Prop :=
  match o.op with
  | .call { callee := .value f, args, .. } => (match ev s f with
    | .fn k first cap => ∃ r, Spec P k (fzs s (first ++ args.toList.map (ev s) ++ cap)) r ∧ (namess (first ++ args.toList.map (ev s) ++ cap) = false ∨ clean r) ∧ plainR (unown r) = true ∧ x = unown r
    | _ => False)
  | _ => pureOp C s o.op (· = x)

theorem qop_OV {o : Oper} {K : St → Prop} (h : qop C P s o K) : ∃ x, OV C P s o x ∧ K ⟨putD s.t o.dst x, s.m⟩ := by
  unfold qop at h
  split at h
  · rename_i f args ats ho
    split at h
    · rename_i k first cap hf
      obtain ⟨r, h1, h2, h3, h4⟩ := h
      exact ⟨unown r, by unfold OV; rw [ho]; simp only [hf]; exact ⟨r, h1, h2, h3, rfl⟩, h4⟩
    · exact h.elim
  · rename_i hne
    obtain ⟨x, h1, h2⟩ := pureOp_rel h
    refine ⟨x, ?_, h1⟩
    unfold OV
    split
    · rename_i f args ats ho; exact absurd ho (hne f args ats)
    · exact h2 _ rfl

theorem fz1_m (hm : s.m = s'.m) : fz1 s = fz1 s' := by funext x; cases x <;> simp only [fz1, hm]

mutual
theorem fz_m (hm : s.m = s'.m) : ∀ x : AV, fz s x = fz s' x
  | .ref id off n => by simp only [fz, fz1_m hm]
  | .ptr id off => by simp only [fz, fz1_m hm, hm]
  | .ag cs => by simp only [fz, fzs_m hm cs]
  | .tup cs => by simp only [fz, fzs_m hm cs]
  | .fn f x y => by simp only [fz, fzs_m hm x, fzs_m hm y]
  | .v _ => rfl
  | .junk => rfl
  | .un => rfl
  | .sl _ _ => rfl
  | .cp _ => rfl
  | .mp _ => rfl
  | .mr _ => rfl
  | .own _ _ _ _ => rfl
  | .lend _ _ _ => rfl
  | .lptr _ => rfl
theorem fzs_m (hm : s.m = s'.m) : ∀ xs : List AV, fzs s xs = fzs s' xs
  | [] => rfl
  | x :: l => by simp only [fzs, fz_m hm x, fzs_m hm l]
end

theorem OV_local {o : Oper} {x : AV} (hm : s.m = s'.m) (he : ∀ y ∈ o.op.operands, ev s y = ev s' y) (h : OV C P s o x) : OV C P s' o x := by
  unfold OV at h ⊢
  split
  · rename_i f args ats ho
    rw [ho] at h
    simp only at h
    have hf := he f (by simp [ho, Op.operands, Call.operands])
    have ha : args.toList.map (ev s) = args.toList.map (ev s') := List.map_congr_left fun y hy => he y (by simp [ho, Op.operands, Call.operands]; exact .inr (by simpa using hy))
    rw [← hf]
    split
    · rename_i k first cap hk
      simp only [hk] at h
      rw [← ha, ← fzs_m hm]
      exact h
    · rename_i hk
      split at h
      · rename_i k first cap hk'; exact absurd hk' (hk k first cap)
      · exact h
  · rename_i hne
    split at h
    · rename_i f args ats ho; exact absurd ho (hne f args ats)
    · exact pureOp_local hm he h

/-- Blocks of what a call hands over. -/
def OwnB (H : Gh) (b : Nat) : Prop := ∃ (id : Nat) (L : Loc), H[id]? = some (some L) ∧ L.b = b

mutual
theorem unown_sound {w : World} {F : Nat → Prop} {H : Gh} {obs : List Ob} (ho : ∀ (id : Nat) (g : Option Loc), H[id]? = some g → ObRel w F H g (obj obs id)) :
    ∀ (r : AV) (k : Nat) {v : Value}, (∀ j, j < (imp k r).2.length → obj obs (k + j) = obj (imp k r).2 j) → plainR (unown r) = true → Rep w F H (imp k r).1 v → Rep w (fun b => F b ∨ OwnB H b) [] (unown r) v
  | .own e sz n cs, k, v, hob, hp, h => by
    have h0 := hob 0 (by simp [imp])
    simp only [imp, Nat.add_zero, obj] at h0
    simp only [imp] at h
    simp only [unown]
    have hsub : Same F (fun b => F b ∨ OwnB H b) w w := ⟨fun _ h => .inl h, fun _ _ => rfl⟩
    rcases h.ref_inv with ⟨hg, rfl, _, rfl⟩ | ⟨L, off', cap, hg, rfl, hn, hc, hoff⟩
    · have := ho k _ hg
      rw [h0] at this
      obtain ⟨n', vs, hown, hr, _⟩ := this
      have hvs : vs = [] := by
        rcases hown.2 with ⟨_, hn⟩ | ⟨_, _, _, h5, _⟩
        · subst hn; exact List.eq_nil_of_length_eq_zero (by simpa using hown.1)
        · simp [slv] at h5
      subst hvs
      have : cs = [] := List.eq_nil_of_length_eq_zero (by simpa using hr.length)
      subst this
      exact .sl0
    · have := ho k _ hg
      rw [h0] at this
      obtain ⟨n', vs, hown, hr, h1, _, hL0⟩ := this
      have e : off' = L.o + 0 := by rcases hoff with ⟨_, h⟩ | h; exact absurd rfl h; exact h
      subst e
      refine .sl (.inr ⟨k, L, hg, rfl⟩) hn ?_ (Reps.mono hsub (GSub.refl _) hr)
      rw [hL0 L rfl]
      exact arr_reads hown h1
  | .tup xs, k, v, hob, hp, h => by
    simp only [imp] at h hob
    obtain ⟨vs, rfl, hr⟩ := h.tup_inv
    simp only [unown, plainR] at hp ⊢
    exact .tup (unowns_sound ho xs k hob hp hr)
  | .v x, k, v, hob, hp, h => by cases h; exact .v _
  | .sl n cs, k, v, hob, hp, h => by
    simp only [imp] at h
    exact Rep.mono ⟨fun _ h => .inl h, fun _ _ => rfl⟩ (GSub.nil _) (by
      cases h with
      | sl0 => exact .sl0
      | sl h1 h2 h3 h4 => exact .sl h1 h2 h3 h4)
  | .cp cs, k, v, hob, hp, h => by
    simp only [imp] at h
    exact Rep.mono ⟨fun _ h => .inl h, fun _ _ => rfl⟩ (GSub.nil _) (by cases h with | cp h1 h2 h3 => exact .cp h1 h2 h3)
  | .mp cs, k, v, hob, hp, h => by
    simp only [imp] at h
    exact Rep.mono ⟨fun _ h => .inl h, fun _ _ => rfl⟩ (GSub.nil _) (by cases h with | mp h1 h2 h3 => exact .mp h1 h2 h3)
  | .junk, k, v, hob, hp, h => by simp [unown, plainR] at hp
  | .un, k, v, hob, hp, h => by simp [unown, plainR] at hp
  | .ref _ _ _, k, v, hob, hp, h => by simp [unown, plainR] at hp
  | .ptr _ _, k, v, hob, hp, h => by simp [unown, plainR] at hp
  | .ag _, k, v, hob, hp, h => by simp [unown, plainR] at hp
  | .fn _ _ _, k, v, hob, hp, h => by simp [unown, plainR] at hp
  | .mr _, k, v, hob, hp, h => by simp [unown, plainR] at hp
  | .lend _ _ _, k, v, hob, hp, h => by simp [unown, plainR] at hp
  | .lptr _, k, v, hob, hp, h => by simp [unown, plainR] at hp
theorem unowns_sound {w : World} {F : Nat → Prop} {H : Gh} {obs : List Ob} (ho : ∀ (id : Nat) (g : Option Loc), H[id]? = some g → ObRel w F H g (obj obs id)) :
    ∀ (rs : List AV) (k : Nat) {vs : List Value}, (∀ j, j < (imps k rs).2.length → obj obs (k + j) = obj (imps k rs).2 j) → plainRs (unowns rs) = true → Reps w F H (imps k rs).1 vs → Reps w (fun b => F b ∨ OwnB H b) [] (unowns rs) vs
  | [], k, vs, hob, hp, h => by cases h; exact .nil
  | r :: rs, k, vs, hob, hp, h => by
    simp only [imps] at h hob
    simp only [unowns, plainRs, Bool.and_eq_true] at hp ⊢
    cases h with
    | cons h1 h2 =>
      refine .cons (unown_sound ho r k (fun j hj => ?_) hp.1 h1) (unowns_sound ho rs _ (fun j hj => ?_) hp.2 h2)
      · rw [hob j (by simp; omega), obj_append_left _ _ _ hj]
      · have := hob ((imp k r).2.length + j) (by simp; omega)
        rw [← Nat.add_assoc] at this
        rw [this, obj_append_right _ _ _ (by omega)]
        congr 1
        omega
end

theorem qcall_sound (h : Rel N V w0 s G F a w) {o : Oper} (hd : dOk N o.dst = true) {f : Operand} {args : Array Operand} {ats : Array TypeId} {k : Nat} {first cap : List AV} {r : AV} {Q : Exit → Act → World → Prop}
    (ho : o.op = .call { callee := .value f, args := args, argTypes := ats }) (hf : ev s f = .fn k first cap) (hs : Spec P k (fzs s (first ++ args.toList.map (ev s) ++ cap)) r)
    (hcl : namess (first ++ args.toList.map (ev s) ++ cap) = false ∨ clean r) (hp : plainR (unown r) = true) : o.wp P a w (Lies N V w0 (· = ⟨putD s.t o.dst (unown r), s.m⟩)) Q := by
  have hfv := h.ev f
  rw [hf] at hfv
  obtain ⟨hbody, hspec⟩ := hs
  obtain ⟨fvs, cvs, hfe, hr1, hr2⟩ : ∃ fvs cvs : List Value, a.eval f = .func (.func k) fvs.toArray cvs.toArray ∧ Reps w F G first fvs ∧ Reps w F G cap cvs := by
    cases hfv' : a.eval f <;> rw [hfv'] at hfv <;> cases hfv
    exact ⟨_, _, rfl, by assumption, by assumption⟩
  have hargs : Reps w F G (first ++ args.toList.map (ev s) ++ cap) (fvs ++ args.toList.map a.eval ++ cvs) := (hr1.append (Reps.ev h _)).append hr2
  have hrun := enter_run (P := P) (w := w) ho hfe hbody
  have harr : fvs.toArray ++ args.map a.eval ++ cvs.toArray = (fvs ++ args.toList.map a.eval ++ cvs).toArray := by
    apply Array.ext'; simp
  rw [harr] at hrun
  unfold Oper.wp
  rw [hrun, Oper.upon_enter]
  have fin : ∀ {w' : World} {v : Value} {F' : Nat → Prop} {H : Gh}, Grow w w' → (∀ b, F b → F' b) → (∀ b, F' b → (F b ∨ w.heap.size ≤ b) ∧ b < w'.heap.size) → Rep w' F' H (imp 0 r).1 v → Objs w' F' H (imp 0 r).2 →
      (∀ (id : Nat) (L : Loc), H[id]? = some (some L) → w.heap.size ≤ L.b) → Lies N V w0 (· = ⟨putD s.t o.dst (unown r), s.m⟩) (a.put o.dst v) w' := by
    intro w' v F' H hw hF hF' hrep hobs hnew
    have hv := unown_sound hobs.ob r 0 (fun j _ => by rw [Nat.zero_add]) hp hrep
    have hi := h.brought hw (F' := fun b => F' b ∨ OwnB H b) (fun b hb => .inl (hF b hb)) (fun b hb => by
      rcases hb with hb | ⟨id, L, hg, rfl⟩
      · exact hF' b hb
      · exact ⟨.inr (hnew id L hg), (hobs.lt id L hg).2⟩) (H := []) (obs := []) ⟨rfl, by simp, by simp, by simp⟩ (by simp)
    have hi' := hi.putD hd (Rep.mono ⟨fun _ h => h, fun _ _ => rfl⟩ (GSub.nil _) hv)
    refine ⟨_, _, _, ?_, hi'⟩
    simp
  by_cases hn : namess (first ++ args.toList.map (ev s) ++ cap) = false
  · refine (hspec w F _ (fun b hb => (h.fb b hb).1) (fzs_noname h hn hargs)).mono ?_
    rintro e w' ⟨v, F', H, rfl, hw, hF, hF', hrep, hobs, hnew⟩
    exact fin hw hF hF' hrep hobs hnew
  · have hcl : clean r := hcl.resolve_left hn
    refine (hspec w (Lent F G) _ (fun b hb => by
      rcases hb with hb | ⟨id, L, hg, rfl⟩
      · exact (h.fb b hb).1
      · exact (h.live id L hg).2.1) (fzs_sound h hargs)).mono ?_
    rintro e w' ⟨v, F', H, rfl, hw, hF, hF', hrep, hobs, hnew⟩
    exact fin hw (F' := F) (fun _ h => h) (fun b hb => ⟨.inl hb, Nat.lt_of_lt_of_le (h.fb b hb).1 hw.size⟩) (hrep.clean hcl) (hobs.clean (imp_clean hcl) (fun b hb => hF b (.inl hb))) hnew

theorem OV_sound (hC : C.Ok P) (h : Rel N V w0 s G F a w) {o : Oper} (hd : dOk N o.dst = true) {x : AV} {Q : Exit → Act → World → Prop} (ho : OV C P s o x) : o.wp P a w (Lies N V w0 (· = ⟨putD s.t o.dst x, s.m⟩)) Q := by
  unfold OV at ho
  split at ho
  · rename_i f args ats hop
    split at ho
    · rename_i k first cap hf
      obtain ⟨r, h1, h2, h3, rfl⟩ := ho
      exact qcall_sound h hd hop hf h1 h2 h3
    · exact ho.elim
  · obtain ⟨s', G', a', w', nx, h1, h2, h3, h4⟩ := eff_pure hC h hd (K := (· = ⟨putD s.t o.dst x, s.m⟩)) (by
      obtain ⟨y, hy, hk⟩ := pureOp_rel ho
      subst hy
      exact hk _ rfl)
    unfold Oper.wp
    rw [h3]
    rcases h4 with ⟨v, rfl, rfl⟩ | ⟨rfl, rfl⟩
    · exact ⟨s', G', F, h1, h2⟩
    · exact ⟨s', G', F, h1, h2⟩

/-- What stands in an operation's slot behind it, its guard included. -/
def Val (C : Ctx) (P : Program) (ops : List Oper) (s : St) (o : Oper) (x : AV) : Prop :=
  match o.guard with
  | none => OV C P s o x
  | some (j, want) => ∃ d, dstOf ops j = some d ∧ ((get s.t d = .v (.bool want) ∧ OV C P s o x) ∨ (get s.t d = .v (.bool (!want)) ∧ x = .un) ∨ (get s.t d = .un ∧ x = .un))

theorem ev_get {t t' : List (Nat × AV)} {m : List Ob} (h : ∀ k, get t k = get t' k) (y : Operand) : ev ⟨t, m⟩ y = ev ⟨t', m⟩ y := by cases y <;> simp [ev, h]

theorem get_putD (t : List (Nat × AV)) (d : Option Nat) (x : AV) (k : Nat) : get (putD t d x) k = if d = some k then x else get t k := by
  cases d with
  | none => simp [putD]
  | some d =>
    by_cases h : d = k
    · subst h; simp [putD, get_put_same]
    · simp [putD, h, get_put_other _ _ _ _ (fun e => h e.symm)]

theorem get_put (t : List (Nat × AV)) (d : Nat) (x : AV) (k : Nat) : get (put t d x) k = if d = k then x else get t k := by
  have := get_putD t (some d) x k
  simpa [putD] using this

/-- The run in the text's order: a value for each operation. -/
def Run (C : Ctx) (P : Program) (ops : List Oper) (Q : St → Prop) (os : List Oper) (s : St) : Prop :=
  ∃ xs : List AV, xs.length = os.length ∧
    ∃ sf : St, Q sf ∧ sf.m = s.m ∧ ∃ ss : Nat → St, (∀ k, get (ss 0).t k = get s.t k) ∧ (∀ i, (ss i).m = s.m) ∧ (∀ k, get (ss os.length).t k = get sf.t k) ∧
      ∀ (i : Nat) (o : Oper) (x : AV), os[i]? = some o → xs[i]? = some x → Val C P ops (ss i) o x ∧ ∀ k, get (ss (i + 1)).t k = if o.dst = some k then x else get (ss i).t k

theorem qops_run {ops : List Oper} {Q : St → Prop} : ∀ (os : List Oper) (s : St), qops C P ops Q os s → Run C P ops Q os s
  | [], s, h => ⟨[], rfl, s, h, rfl, fun _ => s, fun _ => rfl, fun _ => rfl, fun _ => rfl, by simp⟩
  | o :: os, s, h => by
    -- one operation, then the rest
    have step : ∀ (x : AV) (s1 : St), Val C P ops s o x → s1.m = s.m → (∀ k, get s1.t k = if o.dst = some k then x else get s.t k) → qops C P ops Q os s1 → Run C P ops Q (o :: os) s := by
      intro x s1 hv hm hg hq
      obtain ⟨xs, hl, sf, hQ, hfm, ss, h0, h1, h2, h3⟩ := qops_run os s1 hq
      refine ⟨x :: xs, by simp [hl], sf, hQ, hfm.trans hm, fun i => match i with | 0 => s | i + 1 => ss i, fun _ => rfl, fun i => ?_, ?_, ?_⟩
      · cases i with
        | zero => rfl
        | succ i => exact (h1 i).trans hm
      · exact h2
      · intro i p y hp hy
        cases i with
        | zero =>
          simp at hp hy; subst hp; subst hy
          exact ⟨hv, fun k => (h0 k).trans (hg k)⟩
        | succ i => exact h3 i p y (by simpa using hp) (by simpa using hy)
    unfold qops at h
    split at h
    · rename_i hgd
      obtain ⟨x, h1, h2⟩ := qop_OV h
      exact step x ⟨putD s.t o.dst x, s.m⟩ (by unfold Val; rw [hgd]; exact h1) rfl (fun k => get_putD _ _ _ _) h2
    · rename_i j want hgd
      split at h
      · exact h.elim
      · rename_i d hdst
        split at h
        · rename_i b hb
          have same : ∀ c, b = c → ∀ k, get (put s.t d (.v (.bool c))) k = get s.t k := fun c hc k => by
            rw [get_put]; split
            · rename_i e; subst e; rw [hb, hc]
            · rfl
          have taken : ∀ c, b = c → c = want → qop C P ⟨put s.t d (.v (.bool c)), s.m⟩ o (qops C P ops Q os) → Run C P ops Q (o :: os) s := fun c hc hw h => by
            obtain ⟨x, h1, h2⟩ := qop_OV h
            have hv : Val C P ops s o x := by
              unfold Val; rw [hgd]
              refine ⟨d, hdst, .inl ⟨by rw [hb, hc, hw], OV_local (s := ⟨put s.t d (.v (.bool c)), s.m⟩) rfl (fun y _ => ?_) h1⟩⟩
              exact ev_get (m := s.m) (same c hc) y
            exact step x ⟨putD (put s.t d (.v (.bool c))) o.dst x, s.m⟩ hv rfl (fun k => by rw [get_putD, same c hc]) h2
          have skipped : ∀ c, b = c → c = !want → qops C P ops Q os ⟨putD (put s.t d (.v (.bool c))) o.dst .un, s.m⟩ → Run C P ops Q (o :: os) s := fun c hc hw h => by
            have hv : Val C P ops s o .un := by
              unfold Val; rw [hgd]
              exact ⟨d, hdst, .inr (.inl ⟨by rw [hb, hc, hw], rfl⟩)⟩
            exact step .un ⟨putD (put s.t d (.v (.bool c))) o.dst .un, s.m⟩ hv rfl (fun k => by rw [get_putD, same c hc]) h
          cases want <;> cases b <;> simp only [wg] at h
          · exact taken false rfl rfl (h.2 trivial)
          · exact skipped true rfl rfl (h.1 trivial)
          · exact skipped false rfl rfl (h.2 trivial)
          · exact taken true rfl rfl (h.1 trivial)
        · rename_i hb
          exact step .un ⟨putD s.t o.dst .un, s.m⟩ (by unfold Val; rw [hgd]; exact ⟨d, hdst, .inr (.inr ⟨hb, rfl⟩)⟩) rfl (fun k => get_putD _ _ _ _) h
        · exact h.elim

/-- A state by what has been carried out. -/
def At (ops : List Oper) (xs : List AV) (s : St) (L : Array Bool) (k : Nat) : AV :=
  match writer ops 0 k with
  | some i => if L.getD i false then xs.getD i .junk else get s.t k
  | none => get s.t k

theorem Rel.gets (h : Rel N V w0 s G F a w) (hm : s'.m = s.m) (hg : ∀ k, get s'.t k = get s.t k) : Rel N V w0 s' G F a w where
  defers := h.defers
  tsize := h.tsize
  tm := fun k => by rw [hg]; exact h.tm k
  len := by rw [hm]; exact h.len
  ob := by rw [hm]; exact h.ob
  live := by rw [hm]; exact h.live
  inj := h.inj
  fb := h.fb
  keep := h.keep
  f0 := h.f0
  nd := h.nd
  rows := h.rows

theorem Rel.drawn (h : Rel N V w0 s G F a w) : Rel N V w0 s G F a { w with drawn := w.drawn + 1 } := h.grow (.drew w)

/-- What an operation looks at. -/
theorem Val_local {ops : List Oper} {o : Oper} {x : AV} (hm : s.m = s'.m) (hg : ∀ k ∈ looks ops o, get s.t k = get s'.t k) (h : Val C P ops s o x) : Val C P ops s' o x := by
  have hov : OV C P s o x → OV C P s' o x := OV_local hm fun y hy => by
    cases y with
    | tmp t => exact hg t (List.mem_append_left _ (List.mem_filterMap.2 ⟨_, by simpa using hy, rfl⟩))
    | _ => rfl
  unfold Val at h ⊢
  cases hgd : o.guard with
  | none => rw [hgd] at h; exact hov h
  | some p =>
    obtain ⟨j, want⟩ := p
    rw [hgd] at h
    obtain ⟨d, hd, h⟩ := h
    have hl : get s.t d = get s'.t d := hg d (List.mem_append_right _ (by rw [hgd]; simp [hd]))
    refine ⟨d, hd, ?_⟩
    rw [← hl]
    rcases h with ⟨h1, h2⟩ | h | h
    · exact .inl ⟨h1, hov h2⟩
    · exact .inr (.inl h)
    · exact .inr (.inr h)

/-- An operation is carried out, or passed by. -/
theorem Val_sound (hC : C.Ok P) {ops : Array Oper} {i : Nat} {o : Oper} {x : AV} (ho : ops[i]? = some o) (h : Rel N V w0 s G F a w) (hd : dOk N o.dst = true) (hv : Val C P ops.toList s o x) {K : Act → World → Prop} {Q : Exit → Act → World → Prop}
    (hk : ∀ a w, Lies N V w0 (· = ⟨putD s.t o.dst x, s.m⟩) a w → K a w) : wpOp P ops Q i K a w := by
  unfold wpOp
  rw [ho]
  simp only
  have run : OV C P s o x → o.wp P a w K Q := fun hov => Oper.wp_mono (OV_sound hC h hd hov) hk
  have skip : x = .un → K (a.put o.dst undef) w := fun e => hk _ _ ⟨_, G, F, rfl, by subst e; exact h.putD hd .un⟩
  unfold Val at hv
  cases hgd : o.guard with
  | none =>
    rw [hgd] at hv
    rw [if_pos (by simp [Region.wanted, hgd])]
    exact .inl (run hv)
  | some p =>
    obtain ⟨j, want⟩ := p
    rw [hgd] at hv
    obtain ⟨d, hdst, hv⟩ := hv
    have htm := h.tm d
    rcases hv with ⟨h1, h2⟩ | ⟨h1, h2⟩ | ⟨h1, h2⟩
    · rw [h1] at htm
      have hy := yielded_bool hdst htm.v_inv
      rw [if_pos (by simp [Region.wanted, hgd, hy])]
      exact .inl (run h2)
    · rw [h1] at htm
      have hy := yielded_bool hdst htm.v_inv
      rw [if_neg (by simp [Region.wanted, hgd, hy])]
      exact skip h2
    · rw [h1] at htm
      have hv : a.tmps.getD d undef = .tuple #[] := by cases hx : a.tmps.getD d undef <;> rw [hx] at htm <;> cases htm; rfl
      have hy := yielded_un hdst hv
      rw [if_neg (by simp [Region.wanted, hgd, hy])]
      exact skip h2

theorem unlisted_lt (n : Nat) (L : Array Bool) (i : Nat) (hi : i < n) (hs : L.size = n) (hl : L.getD i true = false) :
    ((List.range n).filter fun j => !(L.setIfInBounds i true).getD j true).length < ((List.range n).filter fun j => !L.getD j true).length := by
  have hsub : ((List.range n).filter fun j => !(L.setIfInBounds i true).getD j true) = (((List.range n).filter fun j => !L.getD j true).filter fun j => decide (j ≠ i)) := by
    rw [List.filter_filter]
    apply List.filter_congr
    intro j hj
    by_cases e : i = j
    · subst e
      have : i < L.size := by omega
      simp [this]
    · rw [getD_set_ne true e]
      have : j ≠ i := fun h => e h.symm
      simp [this]
  rw [hsub]
  have hmem : i ∈ (List.range n).filter fun j => !L.getD j true := by simp [hi]; simpa using hl
  have := List.length_filter_lt_length_iff_exists (p := fun j => decide (j ≠ i)) (l := (List.range n).filter fun j => !L.getD j true)
  exact this.2 ⟨i, hmem, by simp⟩

theorem draw_sound (hC : C.Ok P) {id : Nat} {ops : Array Oper} {Q : Exit → St → Prop} (h : Rel N V w0 s G F a w) (hd : ∀ o ∈ ops.toList, dOk N o.dst = true) (hok : drawOk ops.toList = true)
    (hk : qops C P ops.toList (Q .normal) ops.toList s) : (Code.region id ops true).wp P (fun e => Lies N V w0 (Q e)) a w := by
  simp only [drawOk, Bool.and_eq_true] at hok
  obtain ⟨hnd, heach⟩ := hok
  have hEach := eachOk_get ops.toList 0 heach
  simp only [Nat.zero_add] at hEach
  obtain ⟨xs, hxl, sf, hQ, hfm, ss, hs0, hsm, hsf, hval⟩ := qops_run _ _ hk
  have hget : ∀ i o, ops[i]? = some o → ops.toList[i]? = some o := fun i o h => by rw [Array.getElem?_toList]; exact h
  -- the text's states, by who has been there
  have htext : ∀ (i : Nat), i ≤ ops.toList.length → ∀ k, get (ss i).t k = match writer ops.toList 0 k with | some j => if j < i then xs.getD j .junk else get s.t k | none => get s.t k := by
    intro i
    induction i with
    | zero => intro _ k; rw [hs0]; split <;> simp
    | succ i ih =>
      intro hi k
      have hio : i < ops.toList.length := by omega
      have ho : ops.toList[i]? = some ops.toList[i] := List.getElem?_eq_getElem hio
      have hx : xs[i]? = some xs[i] := List.getElem?_eq_getElem (by omega)
      rw [(hval i _ _ ho hx).2 k]
      by_cases hdk : ops.toList[i].dst = some k
      · rw [if_pos hdk, writer_of _ 0 i k _ hnd ho hdk]
        simp [hx]
      · rw [if_neg hdk, ih (by omega) k]
        cases hw : writer ops.toList 0 k with
        | none => rfl
        | some j =>
          simp only
          by_cases hj : j < i
          · rw [if_pos hj, if_pos (by omega)]
          · by_cases hj' : j = i
            · subst hj'
              obtain ⟨_, p, hp, hpd⟩ := writer_some _ _ _ _ hw
              rw [Nat.sub_zero, ho] at hp
              simp only [Option.some.injEq] at hp
              exact absurd (hp ▸ hpd) hdk
            · rw [if_neg hj, if_neg (by omega)]
  refine wp_region_any hC.mixed ?_
  have hn : ops.toList.length = ops.size := by simp
  -- behind all
  have done : ∀ {L : Array Bool} {a : Act} {w : World} {s1 : St} {G : Gh} {F : Nat → Prop}, (∀ i, i < ops.size → L.getD i false = true) → Rel N V w0 s1 G F a w → s1.m = s.m → (∀ k, get s1.t k = At ops.toList xs s L k) → Lies N V w0 (Q .normal) a w := by
    intro L a w s1 G F hall hr hm hg
    refine ⟨sf, G, F, hQ, hr.gets (hfm.trans hm.symm) fun k => ?_⟩
    rw [← hsf, htext _ (Nat.le_refl _), hg]
    unfold At
    cases hw : writer ops.toList 0 k with
    | none => rfl
    | some j =>
      obtain ⟨_, p, hp, _⟩ := writer_some _ _ _ _ hw
      have hj : j < ops.toList.length := by have := (List.getElem?_eq_some_iff.1 hp).1; simpa using this
      simp only
      rw [if_pos hj, hall j (by omega)]
      rfl
  have key : ∀ (fuel : Nat) (L : Array Bool) (a : Act) (w : World) (s1 : St) (G : Gh) (F : Nat → Prop), L.size = ops.size → ((List.range ops.size).filter fun j => !L.getD j true).length ≤ fuel →
      (∀ (j : Nat) (o : Oper), ops[j]? = some o → L.getD j false = true → ∀ e ∈ o.after, Region.binds .any e = true → L.getD e.on false = true) →
      Rel N V w0 s1 G F a w → s1.m = s.m → (∀ k, get s1.t k = At ops.toList xs s L k) → wpAny P .any ops (fun e => Lies N V w0 (Q e)) fuel L a w := by
    intro fuel
    induction fuel with
    | zero =>
      intro L a w s1 G F hsz hcnt hcl hr hm hg
      have hall : ∀ i, i < ops.size → L.getD i true = true := by
        intro i hi
        cases hb : L.getD i true with
        | true => rfl
        | false =>
          have : i ∈ (List.range ops.size).filter fun j => !L.getD j true := by simp only [List.mem_filter, List.mem_range, hb]; exact ⟨hi, rfl⟩
          have := List.length_pos_of_mem this
          omega
      refine ⟨?_, done (fun i hi => ?_) hr hm hg⟩
      · cases hready : Region.ready .any ops L with
        | nil => rfl
        | cons i l =>
          have : i ∈ Region.ready .any ops L := by rw [hready]; simp
          rw [mem_ready] at this
          obtain ⟨h1, o, ho, _⟩ := this
          have := hall i (Array.getElem?_eq_some_iff.1 ho).1
          rw [h1] at this; simp at this
      · have := hall i hi
        have hlt : i < L.size := by omega
        simpa [Array.getD_eq_getD_getElem?, hlt] using this
    | succ fuel ih =>
      intro L a w s1 G F hsz hcnt hcl hr hm hg
      have hsame : ∀ i, i < ops.size → L.getD i true = L.getD i false := fun i hi => by
        have hlt : i < L.size := by omega
        simp [Array.getD_eq_getD_getElem?, hlt]
      refine ⟨fun hready => done (fun i hi => ?_) hr hm hg, fun i hi => ?_⟩
      · induction i using Nat.strongRecOn with
        | _ i ihi =>
          cases hb : L.getD i false with
          | true => rfl
          | false =>
            have ho : ops[i]? = some ops[i] := Array.getElem?_eq_getElem hi
            have hb' := (hEach i _ (hget i _ ho)).1
            have : i ∈ Region.ready .any ops L := by
              rw [mem_ready]
              refine ⟨by rw [hsame i hi, hb], _, ho, fun e he hbind => ?_⟩
              simp only [backOk, List.all_eq_true] at hb'
              have := hb' e (by simpa using he)
              simp only [hbind, Bool.not_true, Bool.false_or, decide_eq_true_eq] at this
              exact ihi e.on this (by omega)
            rw [hready] at this
            simp at this
      · have hi' := hi
        rw [mem_ready] at hi'
        obtain ⟨hun, o, ho, hbefore⟩ := hi'
        have hio : i < ops.size := (Array.getElem?_eq_some_iff.1 ho).1
        have hunf : L.getD i false = false := by rw [← hsame i hio, hun]
        have hol := hget i o ho
        have hx : xs[i]? = some xs[i] := List.getElem?_eq_getElem (by omega)
        have hv := (hval i o _ hol hx).1
        have hlook := (hEach i o hol).2
        have hv1 : Val C P ops.toList s1 o xs[i] := by
          refine Val_local ((hsm i).trans hm.symm) (fun k hk => ?_) hv
          have hlk := hlook k hk
          rw [htext i (by omega) k, hg k]
          unfold At
          unfold lookOk at hlk
          cases hw : writer ops.toList 0 k with
          | none => rfl
          | some j =>
            rw [hw] at hlk
            simp only [Bool.or_eq_true, beq_iff_eq] at hlk
            simp only
            rcases hlk with rfl | hlk
            · rw [if_neg (Nat.lt_irrefl _), hunf]; rfl
            · by_cases hj : j < i
              · rw [if_pos hj] at hlk
                obtain ⟨e, he, hbind, hon⟩ := bindsTo_spec hlk
                have := hbefore e he hbind
                rw [hon] at this
                rw [if_pos hj, this]; rfl
              · rw [if_neg hj] at hlk
                obtain ⟨_, p, hp, _⟩ := writer_some _ _ _ _ hw
                rw [Nat.sub_zero] at hp
                rw [hp] at hlk
                simp only at hlk
                obtain ⟨e, he, hbind, hon⟩ := bindsTo_spec hlk
                have hpa : ops[j]? = some p := by rw [← Array.getElem?_toList]; exact hp
                have : L.getD j false = false := by
                  cases hb : L.getD j false with
                  | false => rfl
                  | true =>
                    have := hcl j p hpa hb e he hbind
                    rw [hon, hunf] at this; simp at this
                rw [if_neg hj, this]; rfl
        refine Val_sound hC ho hr (hd o (List.mem_of_getElem? hol)) hv1 ?_
        rintro a' w' ⟨s2, G2, F2, rfl, hr2⟩
        have hset : ∀ j, (L.setIfInBounds i true).getD j false = if j = i then true else L.getD j false := by
          intro j
          by_cases e : j = i
          · subst e; have : j < L.size := by omega
            simp [this]
          · rw [if_neg e, getD_set_ne false (fun h => e h.symm)]
        refine ih _ _ _ _ _ _ (by simp [hsz]) (by have := unlisted_lt ops.size L i hio hsz hun; omega) ?_ hr2 hm ?_
        · intro j p hp hj e he hbind
          rw [hset] at hj ⊢
          by_cases eo : e.on = i
          · rw [if_pos eo]
          · rw [if_neg eo]
            by_cases ej : j = i
            · subst ej; rw [ho] at hp; simp at hp; subst hp; exact hbefore e he hbind
            · rw [if_neg ej] at hj; exact hcl j p hp hj e he hbind
        · intro k
          show get (putD s1.t o.dst xs[i]) k = _
          rw [get_putD]
          by_cases hdk : o.dst = some k
          · rw [if_pos hdk]
            unfold At
            rw [writer_of _ 0 i k o hnd hol hdk]
            simp only [Nat.zero_add]
            rw [hset, if_pos rfl]
            simp [hx]
          · rw [if_neg hdk, hg k]
            unfold At
            cases hw : writer ops.toList 0 k with
            | none => rfl
            | some j =>
              simp only
              rw [hset]
              by_cases ej : j = i
              · subst ej
                obtain ⟨_, p, hp, hpd⟩ := writer_some _ _ _ _ hw
                rw [Nat.sub_zero, hol] at hp
                simp only [Option.some.injEq] at hp
                exact absurd (hp ▸ hpd) hdk
              · rw [if_neg ej]
  refine key ops.size _ a _ s G F (by simp) ?_ ?_ h.drawn rfl ?_
  · have := List.length_filter_le (fun j => !(Array.replicate ops.size false).getD j true) (List.range ops.size)
    simpa using this
  · intro j o hj hl
    have hlt := (Array.getElem?_eq_some_iff.1 hj).1
    simp [hlt] at hl
  · intro k
    unfold At
    split
    · rename_i j hw
      obtain ⟨_, p, hp, _⟩ := writer_some _ _ _ _ hw
      have hj : j < ops.size := by have := (List.getElem?_eq_some_iff.1 hp).1; simp at this; omega
      simp [hj]
    · rfl

end
end Go.AE
