/- A part of the abstract evaluator: no condition. -/
import Derived.Test.YteidmpcdcfoncaaDoorAERegS
set_option linter.unusedVariables false
set_option linter.unusedSimpArgs false
/- Operations that turn nothing: their value, and what it hangs on. -/
namespace Go.AE
variable {C : Ctx} {s s' : St} 

theorem partOf_rel {i : TI} {cs : List AV} {off : Nat} {K : AV → Prop} (h : partOf i cs off K) : ∃ x, K x ∧ ∀ K' : AV → Prop, K' x → partOf i cs off K' := by
  unfold partOf at h ⊢
  cases ha : i.agg <;> rw [ha] at h <;> exact ⟨_, h.2, fun K' hk => ⟨h.1, hk⟩⟩

theorem lenOp_rel {d : TypeDesc} {x : AV} {K : AV → Prop} (h : lenOp d x K) : ∃ x', K x' ∧ ∀ K' : AV → Prop, K' x' → lenOp d x K' := by
  unfold lenOp at h ⊢
  split at h <;> first | exact h.elim | exact ⟨_, h, fun K' hk => hk⟩

theorem fout_rel {o : Option Nat} {K : Value → Prop} (h : fout o K) : ∃ x', K x' ∧ ∀ K' : Value → Prop, K' x' → fout o K' := by
  cases o with
  | none => exact h.elim
  | some r => exact ⟨_, h, fun K' hk => hk⟩
theorem cout_rel {o p : Option Nat} {K : Value → Prop} (h : cout o p K) : ∃ x', K x' ∧ ∀ K' : Value → Prop, K' x' → cout o p K' := by
  cases o with
  | none => exact h.elim
  | some r =>
    cases p with
    | none => exact h.elim
    | some q => exact ⟨_, h, fun K' hk => hk⟩
theorem fbin_rel {op : BinOp} {a b : Nat} {K : Value → Prop} (h : fbin op a b K) : ∃ x', K x' ∧ ∀ K' : Value → Prop, K' x' → fbin op a b K' := by
  unfold fbin at h ⊢
  split at h
  all_goals first
    | exact h.elim
    | exact fout_rel h
    | exact ⟨_, h, fun K' hk => hk⟩
theorem cbin_rel {op : BinOp} {a b c d : Nat} {K : Value → Prop} (h : cbin op a b c d K) : ∃ x', K x' ∧ ∀ K' : Value → Prop, K' x' → cbin op a b c d K' := by
  unfold cbin at h ⊢
  split at h
  all_goals first
    | exact h.elim
    | exact cout_rel h
    | exact ⟨_, h, fun K' hk => hk⟩
theorem f2i_rel {k : IntKind} {b : Nat} {K : Value → Prop} (h : f2i k b K) : ∃ x', K x' ∧ ∀ K' : Value → Prop, K' x' → f2i k b K' := by
  unfold f2i at h ⊢
  cases e : (FloatKind.f64.decode b).toInt .zero with
  | none => rw [e] at h; exact h.elim
  | some n => rw [e] at h; exact ⟨_, h.2.2, fun K' hk => ⟨h.1, h.2.1, hk⟩⟩
theorem realV_rel {x : AV} {K : Value → Prop} (h : realV x K) : ∃ x', K x' ∧ ∀ K' : Value → Prop, K' x' → realV x K' := by
  unfold realV at h ⊢
  split at h
  · exact ⟨_, h, fun K' hk => hk⟩
  · exact h.elim
theorem imagV_rel {x : AV} {K : Value → Prop} (h : imagV x K) : ∃ x', K x' ∧ ∀ K' : Value → Prop, K' x' → imagV x K' := by
  unfold imagV at h ⊢
  split at h
  · exact ⟨_, h, fun K' hk => hk⟩
  · exact h.elim
theorem cplxV_rel {x y : AV} {K : Value → Prop} (h : cplxV x y K) : ∃ x', K x' ∧ ∀ K' : Value → Prop, K' x' → cplxV x y K' := by
  unfold cplxV at h ⊢
  split at h
  · exact ⟨_, h, fun K' hk => hk⟩
  · exact h.elim
theorem bin_rel {op : BinOp} {a b : Value} {K : Value → Prop} (h : bin op a b K) : ∃ x', K x' ∧ ∀ K' : Value → Prop, K' x' → bin op a b K' := by
  unfold bin at h ⊢
  split at h <;> first
    | exact h.elim
    | exact fbin_rel h
    | exact cbin_rel h
    | exact ⟨_, h, fun K' hk => hk⟩
    | exact ⟨_, h.2, fun K' hk => ⟨h.1, hk⟩⟩
    | exact ⟨_, h.2.2, fun K' hk => ⟨h.1, h.2.1, hk⟩⟩

theorem un_rel {op : UnOp} {a : Value} {K : Value → Prop} (h : un op a K) : ∃ x', K x' ∧ ∀ K' : Value → Prop, K' x' → un op a K' := by
  unfold un at h ⊢
  split at h <;> first | exact h.elim | exact ⟨_, h, fun K' hk => hk⟩

theorem pureOp_rel {op : Op} {K : AV → Prop} (h : pureOp C s op K) : ∃ x, K x ∧ ∀ K' : AV → Prop, K' x → pureOp C s op K' := by
  unfold pureOp at h
  split at h
  all_goals try (exact h.elim)
  all_goals try (exact ⟨_, h, fun K' hk => by unfold pureOp; exact hk⟩)
  · -- pick
    split at h
    · rename_i t heq
      cases t with
      | true => exact ⟨_, h.1 rfl, fun K' hk => by unfold pureOp; simp only [heq]; exact ⟨fun _ => hk, fun h => by simp at h⟩⟩
      | false => exact ⟨_, h.2 rfl, fun K' hk => by unfold pureOp; simp only [heq]; exact ⟨fun h => by simp at h, fun _ => hk⟩⟩
    · exact h.elim
  · -- binOp
    split at h
    · rename_i p q e1 e2
      split at h
      · exact ⟨_, h.2, fun K' hk => by unfold pureOp; simp only [e1, e2]; exact ⟨h.1, hk⟩⟩
      · exact ⟨_, h.2, fun K' hk => by unfold pureOp; simp only [e1, e2]; exact ⟨h.1, hk⟩⟩
      · exact h.elim
    · rename_i p q hne e1 e2
      obtain ⟨x', h1, h2⟩ := bin_rel h
      refine ⟨_, h1, fun K' hk => ?_⟩
      have h3 := h2 (kv K') hk
      unfold pureOp
      simp only [e1, e2]
      exact h3
    · exact h.elim
  · -- unOp
    split at h
    · rename_i p e1
      obtain ⟨x', h1, h2⟩ := un_rel h
      exact ⟨_, h1, fun K' hk => by unfold pureOp; simp only [e1]; exact h2 (kv K') hk⟩
    · exact h.elim
  · -- extract
    split at h
    · rename_i xs e1
      exact ⟨_, h.2, fun K' hk => by unfold pureOp; simp only [e1]; exact ⟨h.1, hk⟩⟩
    · exact h.elim
  · -- index
    split at h
    · rename_i e0 e1 e2
      exact ⟨_, h.2.2, fun K' hk => by unfold pureOp; simp only [e0, e1, e2]; exact ⟨h.1, h.2.1, hk⟩⟩
    · rename_i e0 e1 e2
      obtain ⟨h0, h1, h⟩ := h
      split at h
      · rename_i e3
        obtain ⟨x', h3, h4⟩ := partOf_rel h
        exact ⟨_, h3, fun K' hk => by unfold pureOp; simp only [e0, e1, e2, e3]; exact ⟨h0, h1, h4 K' hk⟩⟩
      · exact h.elim
    · exact h.elim
  · -- indexAddr
    split at h
    all_goals try (exact h.elim)
    all_goals
      rename_i e0 e1 e2
      obtain ⟨h0, h1, h⟩ := h
      split at h
      · rename_i e3
        exact ⟨_, h, fun K' hk => by unfold pureOp; simp only [e0, e1, e2, e3]; exact ⟨h0, h1, hk⟩⟩
      · exact h.elim
  · -- load
    split at h
    · rename_i e0 e1
      obtain ⟨x', h3, h4⟩ := partOf_rel h
      exact ⟨_, h3, fun K' hk => by unfold pureOp; simp only [e0, e1]; exact h4 K' hk⟩
    · rename_i e0 e1
      split at h
      all_goals try (exact h.elim)
      all_goals
        rename_i e3
        obtain ⟨x', h3, h4⟩ := partOf_rel h
        exact ⟨_, h3, fun K' hk => by unfold pureOp; simp only [e0, e1, e3]; exact h4 K' hk⟩
    · exact h.elim
  · -- field
    split at h
    · rename_i e0 e1
      obtain ⟨x', h3, h4⟩ := partOf_rel h
      exact ⟨_, h3, fun K' hk => by unfold pureOp; simp only [e0, e1]; exact h4 K' hk⟩
    · exact h.elim
  · -- fieldAddr
    split at h
    all_goals try (exact h.elim)
    all_goals
      rename_i e0 e1
      exact ⟨_, h.2, fun K' hk => by unfold pureOp; simp only [e0, e1]; exact ⟨h.1, hk⟩⟩
  · -- nilCheck
    split at h
    all_goals try (exact h.elim)
    all_goals
      rename_i e1
      exact ⟨_, h, fun K' hk => by unfold pureOp; simp only [e1]; exact hk⟩
  · -- convert
    split at h
    all_goals try (exact h.elim)
    · rename_i e0 e1 e2
      exact ⟨_, h, fun K' hk => by unfold pureOp; simp only [e0, e1, e2]; exact hk⟩
    · rename_i e0 e1 e2
      exact ⟨_, h, fun K' hk => by unfold pureOp; simp only [e0, e1, e2]; exact hk⟩
    · rename_i e0 e1 e2
      exact ⟨_, h, fun K' hk => by unfold pureOp; simp only [e0, e1, e2]; exact hk⟩
    · rename_i e0 e1 e2
      exact ⟨_, h, fun K' hk => by unfold pureOp; simp only [e0, e1, e2]; exact hk⟩
    · rename_i e0 e1 e2
      obtain ⟨x', h1, h2⟩ := f2i_rel h
      exact ⟨_, h1, fun K' hk => by unfold pureOp; simp only [e0, e1, e2]; exact h2 (kv K') hk⟩
    · rename_i e0 e1
      obtain ⟨he, h⟩ := h
      split at h
      · rename_i e3
        split at h
        · rename_i e4
          exact ⟨_, h.2, fun K' hk => by unfold pureOp; simp only [e0, e1, e3, e4]; exact ⟨he, h.1, hk⟩⟩
        · exact h.elim
      · exact h.elim
  · -- slice
    split at h
    all_goals try (exact h.elim)
    · rename_i e0 e1
      split at h
      all_goals try (exact h.elim)
      · rename_i e2 e3
        exact ⟨_, h, fun K' hk => by unfold pureOp; simp only [e0, e1, e2, e3]; exact hk⟩
      · rename_i e2 e3
        exact ⟨_, h.2.2, fun K' hk => by unfold pureOp; simp only [e0, e1, e2, e3]; exact ⟨h.1, h.2.1, hk⟩⟩
      · rename_i e2 e3
        exact ⟨_, h.2.2, fun K' hk => by unfold pureOp; simp only [e0, e1, e2, e3]; exact ⟨h.1, h.2.1, hk⟩⟩
      · rename_i e2 e3
        exact ⟨_, h.2.2.2, fun K' hk => by unfold pureOp; simp only [e0, e1, e2, e3]; exact ⟨h.1, h.2.1, h.2.2.1, hk⟩⟩
    · rename_i e0 e1
      split at h
      · rename_i e4
        split at h
        all_goals try (exact h.elim)
        · rename_i e2 e3
          exact ⟨_, h, fun K' hk => by unfold pureOp; simp only [e0, e1, e2, e3, e4]; exact hk⟩
        · rename_i e2 e3
          exact ⟨_, h.2.2.2, fun K' hk => by unfold pureOp; simp only [e0, e1, e2, e3, e4]; exact ⟨h.1, h.2.1, h.2.2.1, hk⟩⟩
        · rename_i e2 e3
          exact ⟨_, h.2.2.2, fun K' hk => by unfold pureOp; simp only [e0, e1, e2, e3, e4]; exact ⟨h.1, h.2.1, h.2.2.1, hk⟩⟩
        · rename_i e2 e3
          exact ⟨_, h.2.2.2.2, fun K' hk => by unfold pureOp; simp only [e0, e1, e2, e3, e4]; exact ⟨h.1, h.2.1, h.2.2.1, h.2.2.2.1, hk⟩⟩
      · exact h.elim
    · rename_i e0 e1
      split at h
      · rename_i e4
        split at h
        all_goals try (exact h.elim)
        · rename_i e2 e3
          exact ⟨_, h, fun K' hk => by unfold pureOp; simp only [e0, e1, e2, e3, e4]; exact hk⟩
        · rename_i e2 e3
          exact ⟨_, h.2.2.2, fun K' hk => by unfold pureOp; simp only [e0, e1, e2, e3, e4]; exact ⟨h.1, h.2.1, h.2.2.1, hk⟩⟩
        · rename_i e2 e3
          exact ⟨_, h.2.2, fun K' hk => by unfold pureOp; simp only [e0, e1, e2, e3, e4]; exact ⟨h.1, h.2.1, hk⟩⟩
        · rename_i e2 e3
          exact ⟨_, h.2.2.2.2, fun K' hk => by unfold pureOp; simp only [e0, e1, e2, e3, e4]; exact ⟨h.1, h.2.1, h.2.2.1, h.2.2.2.1, hk⟩⟩
      · exact h.elim
  · -- len
    split at h
    · rename_i e0 e1
      split at h
      · rename_i e2
        obtain ⟨x', h3, h4⟩ := lenOp_rel h
        exact ⟨_, h3, fun K' hk => by unfold pureOp; simp only [e0, e1, e2]; exact h4 K' hk⟩
      · exact h.elim
    · exact h.elim
  · split at h
    · rename_i e0
      exact ⟨_, h.2, fun K' hk => by unfold pureOp; simp only [e0]; exact ⟨h.1, hk⟩⟩
    · exact h.elim
  · split at h
    · rename_i e0
      exact ⟨_, h.2, fun K' hk => by unfold pureOp; simp only [e0]; exact ⟨h.1, hk⟩⟩
    · exact h.elim
  · split at h
    · rename_i e0
      obtain ⟨x', h1, h2⟩ := realV_rel h
      exact ⟨_, h1, fun K' hk => by unfold pureOp; simp only [e0]; exact h2 (kv K') hk⟩
    · exact h.elim
  · split at h
    · rename_i e0
      obtain ⟨x', h1, h2⟩ := imagV_rel h
      exact ⟨_, h1, fun K' hk => by unfold pureOp; simp only [e0]; exact h2 (kv K') hk⟩
    · exact h.elim
  · split at h
    · rename_i e0
      obtain ⟨x', h1, h2⟩ := cplxV_rel h
      exact ⟨_, h1, fun K' hk => by unfold pureOp; simp only [e0]; exact h2 (kv K') hk⟩
    · exact h.elim

theorem fill_rel {C : Ctx} {fs : List Field} : ∀ {l : List (Nat × AV)} {cs : List AV} {K : List AV → Prop}, fillCells C fs cs l K → ∃ x, K x ∧ ∀ K' : List AV → Prop, K' x → fillCells C fs cs l K'
  | [], cs, K, h => ⟨_, h, fun _ hk => hk⟩
  | (j, x) :: l, cs, K, h => by
    simp only [fillCells] at h
    split at h
    · rename_i fd hfd
      split at h
      · rename_i i hi
        obtain ⟨h1, h2, h3, h4⟩ := h
        obtain ⟨y, k1, k2⟩ := fill_rel h4
        exact ⟨y, k1, fun K' hk => by simp only [fillCells, hfd, hi]; exact ⟨h1, h2, h3, k2 K' hk⟩⟩
      · exact h.elim
    · exact h.elim

theorem build_rel {i : Option TI} {ps : List (Nat × AV)} {K : AV → Prop} (h : buildOp C i ps K) : ∃ x, K x ∧ ∀ K' : AV → Prop, K' x → buildOp C i ps K' := by
  unfold buildOp at h
  split at h
  · rename_i i
    split at h
    · rename_i fs hfs
      obtain ⟨h1, h2⟩ := h
      obtain ⟨y, k1, k2⟩ := fill_rel h2
      exact ⟨.ag y, k1, fun K' hk => by unfold buildOp; simp only [hfs]; exact ⟨h1, k2 (kag K') hk⟩⟩
    · exact h.elim
  · exact h.elim

theorem look_rel {d : Option TypeDesc} {es : Option (List (Value × AV))} {k : Option Value} {ok : Bool} {K : AV → Prop} (h : lookOp C d es k ok K) : ∃ x, K x ∧ ∀ K' : AV → Prop, K' x → lookOp C d es k ok K' := by
  unfold lookOp at h
  split at h
  · rename_i kt e es key
    split at h
    · rename_i ie hie
      obtain ⟨h1, h2, h3⟩ := h
      cases hg : mget key es with
      | none =>
        rw [hg] at h3
        exact ⟨_, h3, fun K' hk => by simp only [lookOp, hie, hg]; exact ⟨h1, h2, hk⟩⟩
      | some x =>
        rw [hg] at h3
        exact ⟨_, h3, fun K' hk => by simp only [lookOp, hie, hg]; exact ⟨h1, h2, hk⟩⟩
    · exact h.elim
  · exact h.elim

theorem nilP_rel {x : AV} {K : Bool → Prop} (h : nilP x K) : ∃ b, K b ∧ ∀ K' : Bool → Prop, K' b → nilP x K' := by
  unfold nilP at h
  split at h
  · exact ⟨_, h.2, fun K' hk => ⟨h.1, hk⟩⟩
  · exact ⟨_, h.2, fun K' hk => ⟨h.1, hk⟩⟩
  · exact ⟨_, h, fun K' hk => hk⟩
  · exact ⟨_, h, fun K' hk => hk⟩
  · exact h.elim
theorem bin2_rel {op : BinOp} {t : Nat} {x y : AV} {K : AV → Prop} {D : (AV → Prop) → Prop} (h : bin2 C op t x y K (D K)) (hD : D K → ∃ x, K x ∧ ∀ K' : AV → Prop, K' x → D K') :
    ∃ z, K z ∧ ∀ K' : AV → Prop, K' z → bin2 C op t x y K' (D K') := by
  unfold bin2 at h
  split at h
  · split at h
    · rename_i e1 e2
      exact ⟨_, h.2.2, fun K' hk => by simp only [bin2, e1, e2]; exact ⟨h.1, h.2.1, hk⟩⟩
    · rename_i e1 e2
      exact ⟨_, h.2.2, fun K' hk => by simp only [bin2, e1, e2]; exact ⟨h.1, h.2.1, hk⟩⟩
    · exact h.elim
  · split at h
    · rename_i e1
      exact ⟨_, h, fun K' hk => by simp only [bin2, e1]; exact hk⟩
    · rename_i e1
      exact ⟨_, h, fun K' hk => by simp only [bin2, e1]; exact hk⟩
    · exact h.elim
  · split at h
    · rename_i e1
      exact ⟨_, h, fun K' hk => by simp only [bin2, e1]; exact hk⟩
    · rename_i e1
      exact ⟨_, h, fun K' hk => by simp only [bin2, e1]; exact hk⟩
    · exact h.elim
  · split at h
    · rename_i e1
      obtain ⟨z, k1, k2⟩ := nilP_rel h
      exact ⟨_, k1, fun K' hk => by unfold bin2; simp only [e1]; exact k2 _ hk⟩
    · rename_i e1
      obtain ⟨z, k1, k2⟩ := nilP_rel h
      exact ⟨_, k1, fun K' hk => by unfold bin2; simp only [e1]; exact k2 _ hk⟩
    · exact h.elim
  · rename_i h4 h1 h2 h3
    obtain ⟨z, k1, k2⟩ := hD h
    refine ⟨z, k1, fun K' hk => ?_⟩
    unfold bin2
    split
    · rename_i cs ds; exact absurd rfl (h1 cs ds rfl)
    · rename_i f fa fb; exact absurd rfl (h2 f fa fb rfl)
    · exact absurd rfl (h3 rfl)
    · exact absurd rfl h4
    · exact k2 K' hk

theorem pure2_rel {op : Op} {K : AV → Prop} (h : pure2 C s op K) : ∃ x, K x ∧ ∀ K' : AV → Prop, K' x → pure2 C s op K' := by
  unfold pure2 at h
  split at h
  · exact build_rel h
  · exact look_rel h
  · exact bin2_rel (D := fun K => pureOp C s (.binOp _ _ _ _ _) K) h pureOp_rel
  · rename_i h1 h2 h3
    obtain ⟨z, k1, k2⟩ := pureOp_rel h
    refine ⟨z, k1, fun K' hk => ?_⟩
    unfold pure2
    split
    · rename_i t ps; exact absurd rfl (h1 t ps)
    · rename_i t x ix ok; exact absurd rfl (h2 t x ix ok)
    · rename_i o t x y u; exact absurd rfl (h3 o t x y u)
    · exact k2 K' hk

theorem cellsOf_m (hm : s.m = s'.m) (sz : Nat) (x : AV) : cellsOf s sz x = cellsOf s' sz x := by unfold cellsOf; rw [hm]

/-- An operation that turns nothing looks at its operands and at the objects alone. -/
theorem pureOp_local {op : Op} {K : AV → Prop} (hm : s.m = s'.m) (he : ∀ x ∈ op.operands, ev s x = ev s' x) (h : pureOp C s op K) : pureOp C s' op K := by
  cases op with
  | call c =>
    obtain ⟨callee, args, ats⟩ := c
    have ha : args.toList.map (ev s) = args.toList.map (ev s') := List.map_congr_left fun x hx => he x (by simp [Op.operands, Call.operands]; exact .inr (by simpa using hx))
    cases callee with
    | builtin b =>
      cases b
      case len =>
        obtain ⟨args⟩ := args
        obtain ⟨ats⟩ := ats
        rcases args with _ | ⟨x, _ | ⟨y, args⟩⟩
        · unfold pureOp at h; exact h.elim
        · rcases ats with _ | ⟨t, _ | ⟨u, ats⟩⟩
          · unfold pureOp at h; exact h.elim
          · have hx := he x (by simp [Op.operands, Call.operands])
            unfold pureOp at h ⊢
            simp only at h ⊢
            rw [← hx]; exact h
          · unfold pureOp at h; exact h.elim
        · unfold pureOp at h; exact h.elim
      case min => unfold pureOp at h ⊢; simp only at h ⊢; rw [← ha]; exact h
      case max => unfold pureOp at h ⊢; simp only at h ⊢; rw [← ha]; exact h
      case real => unfold pureOp at h ⊢; simp only at h ⊢; rw [← ha]; exact h
      case imag => unfold pureOp at h ⊢; simp only at h ⊢; rw [← ha]; exact h
      case complex => unfold pureOp at h ⊢; simp only at h ⊢; rw [← ha]; exact h
      all_goals (unfold pureOp at h; exact h.elim)
    | value f => unfold pureOp at h; exact h.elim
    | invoke r m => unfold pureOp at h; exact h.elim
  | makeFunc fn first cap =>
    have h1 : first.toList.map (ev s) = first.toList.map (ev s') := List.map_congr_left fun x hx => he x (by simp [Op.operands]; exact .inl (by simpa using hx))
    have h2 : cap.toList.map (ev s) = cap.toList.map (ev s') := List.map_congr_left fun x hx => he x (by simp [Op.operands]; exact .inr (by simpa using hx))
    cases fn with
    | func f => unfold pureOp at h ⊢; simp only at h ⊢; rw [← h1, ← h2]; exact h
    | _ => unfold pureOp at h; exact h.elim
  | slice t x lo hi mx =>
    have hx := he x (by simp [Op.operands])
    have hl : lo.map (ev s) = lo.map (ev s') := by cases lo with | none => rfl | some l => simp [he l (by simp [Op.operands])]
    have hh : hi.map (ev s) = hi.map (ev s') := by cases hi with | none => rfl | some l => simp [he l (by simp [Op.operands])]
    cases mx with
    | none => unfold pureOp at h ⊢; simp only at h ⊢; rw [← hx, ← hl, ← hh]; exact h
    | some m => unfold pureOp at h; exact h.elim
  | move x =>
    have hx := he x (by simp [Op.operands])
    have h : K (ev s x) := h
    rw [hx] at h; exact h
  | assign x =>
    have hx := he x (by simp [Op.operands])
    have h : K (ev s x) := h
    rw [hx] at h; exact h
  | pick c x y => unfold pureOp at h ⊢; simp only at h ⊢; rw [← he c (by simp [Op.operands]), ← he x (by simp [Op.operands]), ← he y (by simp [Op.operands])]; exact h
  | binOp op t x y ty => unfold pureOp at h ⊢; simp only at h ⊢; rw [← he x (by simp [Op.operands]), ← he y (by simp [Op.operands])]; exact h
  | unOp op t x => unfold pureOp at h ⊢; simp only at h ⊢; rw [← he x (by simp [Op.operands])]; exact h
  | extract x i => unfold pureOp at h ⊢; simp only at h ⊢; rw [← he x (by simp [Op.operands])]; exact h
  | index t x y => unfold pureOp at h ⊢; simp only at h ⊢; rw [← he x (by simp [Op.operands]), ← he y (by simp [Op.operands])]; exact h
  | indexAddr t x y => unfold pureOp at h ⊢; simp only at h ⊢; rw [← he x (by simp [Op.operands]), ← he y (by simp [Op.operands])]; exact h
  | load t x => unfold pureOp at h ⊢; simp only at h ⊢; rw [← he x (by simp [Op.operands]), ← hm]; exact h
  | field t x f => unfold pureOp at h ⊢; simp only at h ⊢; rw [← he x (by simp [Op.operands])]; exact h
  | fieldAddr t x f => unfold pureOp at h ⊢; simp only at h ⊢; rw [← he x (by simp [Op.operands])]; exact h
  | nilCheck x => unfold pureOp at h ⊢; simp only at h ⊢; rw [← he x (by simp [Op.operands])]; exact h
  | convert src dst x =>
    unfold pureOp at h ⊢; simp only at h ⊢; rw [← he x (by simp [Op.operands])]
    have : cellsOf s' 1 = cellsOf s 1 := by funext y; exact (cellsOf_m hm 1 y).symm
    rw [this]; exact h
  | _ => unfold pureOp at h; exact h.elim

theorem mapOf_m (hm : s.m = s'.m) (x : AV) : mapOf s x = mapOf s' x := by unfold mapOf; rw [hm]

theorem pure2_local {op : Op} {K : AV → Prop} (hm : s.m = s'.m) (he : ∀ x ∈ op.operands, ev s x = ev s' x) (h : pure2 C s op K) : pure2 C s' op K := by
  unfold pure2 at h
  split at h
  · rename_i t parts
    have h1 : parts.toList.map (fun p => (p.1, ev s p.2)) = parts.toList.map fun p => (p.1, ev s' p.2) := List.map_congr_left fun p hp => by
      rw [he p.2 (by simp [Op.operands]; exact ⟨p.1, by simpa using hp⟩)]
    rw [h1] at h
    exact h
  · rename_i t x ix ok
    rw [he x (by simp [Op.operands]), he ix (by simp [Op.operands]), mapOf_m hm] at h
    exact h
  · rename_i o t x y u
    have h0 := he x (by simp [Op.operands])
    have h1 := he y (by simp [Op.operands])
    rw [h0, h1] at h
    show bin2 C o t (ev s' x) (ev s' y) K (pureOp C s' (.binOp o t x y u) K)
    have e : pureOp C s (.binOp o t x y u) K = pureOp C s' (.binOp o t x y u) K := by
      unfold pureOp; simp only [h0, h1]
    rw [← e]; exact h
  · rename_i h1 h2 h3
    have := pureOp_local hm he h
    unfold pure2
    split
    · rename_i t ps; exact absurd rfl (h1 t ps)
    · rename_i t x ix ok; exact absurd rfl (h2 t x ix ok)
    · rename_i o t x y u; exact absurd rfl (h3 o t x y u)
    · exact this

theorem lit_rel {sz : Nat} : ∀ {ps : List (Nat × AV)} {i : Nat} {K : List AV → Prop}, litCells sz i ps K → ∃ cs, K cs ∧ ∀ K' : List AV → Prop, K' cs → litCells sz i ps K'
  | [], i, K, h => ⟨[], h, fun _ hk => hk⟩
  | (j, x) :: l, i, K, h => by
    simp only [litCells] at h
    obtain ⟨h1, h2, h3, h4⟩ := h
    obtain ⟨cs, k1, k2⟩ := lit_rel h4
    exact ⟨_, k1, fun K' hk => by simp only [litCells]; exact ⟨h1, h2, h3, k2 (kapp K' (cellsAV x)) hk⟩⟩

theorem quiet_rel {op : Op} {K : AV → Prop} (h : quietOp C s op K) : ∃ x, K x ∧ ∀ K' : AV → Prop, K' x → quietOp C s op K' := by
  unfold quietOp at h
  split at h
  · rename_i t len parts
    unfold litQ at h
    split at h
    · rename_i e ht
      split at h
      · rename_i i hi
        obtain ⟨h1, h2, h3, h4⟩ := h
        obtain ⟨cs, k1, k2⟩ := lit_rel h4
        exact ⟨_, k1, fun K' hk => by simp only [quietOp, litQ, ht, hi]; exact ⟨h1, h2, h3, k2 _ hk⟩⟩
      · exact h.elim
    · exact h.elim
  · rename_i hne
    obtain ⟨x, k1, k2⟩ := pure2_rel h
    refine ⟨x, k1, fun K' hk => ?_⟩
    unfold quietOp
    split
    · rename_i t len ps; exact absurd rfl (hne t len ps)
    · exact k2 K' hk

theorem slots_local {op : Op} {K : AV → Prop} (hs : slotOnly op = true) (he : ∀ x ∈ op.operands, ev s x = ev s' x) (h : pureOp C s op K) : pureOp C s' op K := by
  cases op with
  | makeFunc fn first cap =>
    have h1 : first.toList.map (ev s) = first.toList.map (ev s') := List.map_congr_left fun x hx => he x (by simp [Op.operands]; exact .inl (by simpa using hx))
    have h2 : cap.toList.map (ev s) = cap.toList.map (ev s') := List.map_congr_left fun x hx => he x (by simp [Op.operands]; exact .inr (by simpa using hx))
    cases fn with
    | func f => unfold pureOp at h ⊢; simp only at h ⊢; rw [← h1, ← h2]; exact h
    | _ => unfold pureOp at h; exact h.elim
  | slice t x lo hi mx =>
    have hx := he x (by simp [Op.operands])
    have hl : lo.map (ev s) = lo.map (ev s') := by cases lo with | none => rfl | some l => simp [he l (by simp [Op.operands])]
    have hh : hi.map (ev s) = hi.map (ev s') := by cases hi with | none => rfl | some l => simp [he l (by simp [Op.operands])]
    cases mx with
    | none => unfold pureOp at h ⊢; simp only at h ⊢; rw [← hx, ← hl, ← hh]; exact h
    | some m => unfold pureOp at h; exact h.elim
  | move x =>
    have hx := he x (by simp [Op.operands])
    have h : K (ev s x) := h
    rw [hx] at h; exact h
  | assign x =>
    have hx := he x (by simp [Op.operands])
    have h : K (ev s x) := h
    rw [hx] at h; exact h
  | pick c x y => unfold pureOp at h ⊢; simp only at h ⊢; rw [← he c (by simp [Op.operands]), ← he x (by simp [Op.operands]), ← he y (by simp [Op.operands])]; exact h
  | binOp op t x y ty => unfold pureOp at h ⊢; simp only at h ⊢; rw [← he x (by simp [Op.operands]), ← he y (by simp [Op.operands])]; exact h
  | unOp op t x => unfold pureOp at h ⊢; simp only at h ⊢; rw [← he x (by simp [Op.operands])]; exact h
  | extract x i => unfold pureOp at h ⊢; simp only at h ⊢; rw [← he x (by simp [Op.operands])]; exact h
  | index t x y => unfold pureOp at h ⊢; simp only at h ⊢; rw [← he x (by simp [Op.operands]), ← he y (by simp [Op.operands])]; exact h
  | indexAddr t x y => unfold pureOp at h ⊢; simp only at h ⊢; rw [← he x (by simp [Op.operands]), ← he y (by simp [Op.operands])]; exact h
  | field t x f => unfold pureOp at h ⊢; simp only at h ⊢; rw [← he x (by simp [Op.operands])]; exact h
  | fieldAddr t x f => unfold pureOp at h ⊢; simp only at h ⊢; rw [← he x (by simp [Op.operands])]; exact h
  | nilCheck x => unfold pureOp at h ⊢; simp only at h ⊢; rw [← he x (by simp [Op.operands])]; exact h
  | build t ps => unfold pureOp at h; exact h.elim
  | buildSlice t n ps => unfold pureOp at h; exact h.elim
  | _ => simp [slotOnly] at hs

theorem pure2_slots {op : Op} {K : AV → Prop} (hs : slotOnly op = true) (he : ∀ x ∈ op.operands, ev s x = ev s' x) (h : pure2 C s op K) : pure2 C s' op K := by
  unfold pure2 at h
  split at h
  · rename_i t parts
    have h1 : parts.toList.map (fun p => (p.1, ev s p.2)) = parts.toList.map fun p => (p.1, ev s' p.2) := List.map_congr_left fun p hp => by
      rw [he p.2 (by simp [Op.operands]; exact ⟨p.1, by simpa using hp⟩)]
    rw [h1] at h
    exact h
  · simp [slotOnly] at hs
  · rename_i o t x y u
    have h0 := he x (by simp [Op.operands])
    have h1 := he y (by simp [Op.operands])
    rw [h0, h1] at h
    show bin2 C o t (ev s' x) (ev s' y) K (pureOp C s' (.binOp o t x y u) K)
    have e : pureOp C s (.binOp o t x y u) K = pureOp C s' (.binOp o t x y u) K := by
      unfold pureOp; simp only [h0, h1]
    rw [← e]; exact h
  · rename_i h1 h2 h3
    have := slots_local hs he h
    unfold pure2
    split
    · rename_i t ps; exact absurd rfl (h1 t ps)
    · rename_i t x ix ok; exact absurd rfl (h2 t x ix ok)
    · rename_i o t x y u; exact absurd rfl (h3 o t x y u)
    · exact this

theorem quiet_slots {op : Op} {K : AV → Prop} (hs : slotOnly op = true) (he : ∀ x ∈ op.operands, ev s x = ev s' x) (h : quietOp C s op K) : quietOp C s' op K := by
  unfold quietOp at h
  split at h
  · rename_i t len parts
    have h1 : parts.toList.map (fun p => (p.1, ev s p.2)) = parts.toList.map fun p => (p.1, ev s' p.2) := List.map_congr_left fun p hp => by
      rw [he p.2 (by simp [Op.operands]; exact ⟨p.1, by simpa using hp⟩)]
    rw [h1] at h
    exact h
  · rename_i hne
    have := pure2_slots hs he h
    unfold quietOp
    split
    · rename_i t len ps; exact absurd rfl (hne t len ps)
    · exact this

/-- The objects that are there are as they were. -/
def MSub (m m' : List Ob) : Prop := ∀ id, (∀ _ : obj m id = .dead, False) → obj m' id = obj m id

theorem MSub.refl (m : List Ob) : MSub m m := fun _ _ => rfl

theorem cellsOf_ext (hm : MSub s.m s'.m) {sz : Nat} {x : AV} {r : Nat × List AV} (h : cellsOf s sz x = some r) : cellsOf s' sz x = some r := by
  unfold cellsOf at h ⊢
  split
  · exact h
  · exact h
  · exact h
  · rename_i id off len
    simp only at h
    rw [hm id (fun e => by rw [e] at h; simp at h)]
    exact h
  · rename_i h1 h2 h4 h3
    split at h
    · rename_i n cs; exact absurd rfl (h1 n cs)
    · exact absurd rfl h2
    · rename_i a b c; exact absurd rfl (h4 a b c)
    · rename_i a b c; exact absurd rfl (h3 a b c)
    · exact h

theorem mapOf_ext (hm : MSub s.m s'.m) {x : AV} {r : List (Value × AV)} (h : mapOf s x = some r) : mapOf s' x = some r := by
  unfold mapOf at h ⊢
  split
  · exact h
  · rename_i id
    simp only at h
    rw [hm id (fun e => by rw [e] at h; simp at h)]
    exact h
  · exact h
  · rename_i h1 h2 h3
    split at h
    · rename_i es; exact absurd rfl (h1 es)
    · rename_i id; exact absurd rfl (h2 id)
    · exact absurd rfl h3
    · exact h

theorem load_ext {t : Nat} {x : Operand} {K : AV → Prop} (hm : MSub s.m s'.m) (hx : ev s x = ev s' x) (h : pureOp C s (.load t x) K) : pureOp C s' (.load t x) K := by
  unfold pureOp at h ⊢
  simp only at h ⊢
  rw [← hx]
  split
  · rename_i e1 e2; rw [e1, e2] at h; exact h
  · rename_i i id off e1 e2
    rw [e1, e2] at h
    simp only at h
    rw [hm id (fun e => by rw [e] at h; exact h)]
    exact h
  · rename_i h1 h2
    split at h
    · rename_i i cs e1 e2; exact absurd e2 (h1 i cs e1)
    · rename_i i id off e1 e2; exact absurd e2 (h2 i id off e1)
    · exact h

theorem pureOp_ext {op : Op} {K : AV → Prop} (hm : MSub s.m s'.m) (he : ∀ x ∈ op.operands, ev s x = ev s' x) (h : pureOp C s op K) : pureOp C s' op K := by
  by_cases hs : slotOnly op = true
  · exact slots_local hs he h
  · cases op with
    | load t x => exact load_ext hm (he x (by simp [Op.operands])) h
    | convert src dst x =>
      unfold pureOp at h ⊢; simp only at h ⊢; rw [← he x (by simp [Op.operands])]
      split
      · rename_i e1 e2 e3; rw [e1, e2, e3] at h; exact h
      · rename_i e1 e2 e3; rw [e1, e2, e3] at h; exact h
      · rename_i e1 e2 e3; rw [e1, e2, e3] at h; exact h
      · rename_i e1 e2 e3; rw [e1, e2, e3] at h; exact h
      · rename_i e1 e2 e3; rw [e1, e2, e3] at h; exact h
      · rename_i e e1 e2
        rw [e1, e2] at h
        simp only at h
        refine ⟨h.1, ?_⟩
        have h := h.2
        split at h
        · rename_i n cs ec
          rw [cellsOf_ext hm ec]
          exact h
        · exact h.elim
      · split at h
        all_goals first | exact h.elim | (exfalso; simp_all; done) | (exfalso; rename_i hn _ _ _; exact hn _ _ _ _ rfl rfl rfl rfl) | (exfalso; simp_all; rename_i hn _ _ _; exact hn _ _ _ _ rfl rfl rfl rfl)
    | call c =>
      obtain ⟨callee, args, ats⟩ := c
      have ha : args.toList.map (ev s) = args.toList.map (ev s') := List.map_congr_left fun x hx => he x (by simp [Op.operands, Call.operands]; exact .inr (by simpa using hx))
      cases callee with
      | builtin b =>
        cases b
        case len =>
          obtain ⟨args⟩ := args
          obtain ⟨ats⟩ := ats
          rcases args with _ | ⟨x, _ | ⟨y, args⟩⟩
          · unfold pureOp at h; exact h.elim
          · rcases ats with _ | ⟨t, _ | ⟨u, ats⟩⟩
            · unfold pureOp at h; exact h.elim
            · have hx := he x (by simp [Op.operands, Call.operands])
              unfold pureOp at h ⊢
              simp only at h ⊢
              rw [← hx]; exact h
            · unfold pureOp at h; exact h.elim
          · unfold pureOp at h; exact h.elim
        case min => unfold pureOp at h ⊢; simp only at h ⊢; rw [← ha]; exact h
        case max => unfold pureOp at h ⊢; simp only at h ⊢; rw [← ha]; exact h
        case real => unfold pureOp at h ⊢; simp only at h ⊢; rw [← ha]; exact h
        case imag => unfold pureOp at h ⊢; simp only at h ⊢; rw [← ha]; exact h
        case complex => unfold pureOp at h ⊢; simp only at h ⊢; rw [← ha]; exact h
        all_goals (unfold pureOp at h; exact h.elim)
      | value f => unfold pureOp at h; exact h.elim
      | invoke r m => unfold pureOp at h; exact h.elim
    | _ => first | (exfalso; exact hs rfl) | (unfold pureOp at h; exact h.elim)

theorem quiet_ext {op : Op} {K : AV → Prop} (hm : MSub s.m s'.m) (he : ∀ x ∈ op.operands, ev s x = ev s' x) (h : quietOp C s op K) : quietOp C s' op K := by
  by_cases hs : slotOnly op = true
  · exact quiet_slots hs he h
  · cases op with
    | lookup t x ix ok =>
      have h0 : lookOp C (C.td t) (mapOf s (ev s x)) (plainV (ev s ix)) ok K := h
      show lookOp C (C.td t) (mapOf s' (ev s' x)) (plainV (ev s' ix)) ok K
      rw [← he x (by simp [Op.operands]), ← he ix (by simp [Op.operands])]
      unfold lookOp at h0 ⊢
      split at h0
      · rename_i kt e es key e1 e2 e3
        rw [mapOf_ext hm e2, e1, e3]
        exact h0
      · exact h0.elim
    | _ => first | (exfalso; exact hs rfl) | exact pureOp_ext (C := C) (K := K) hm he h

end Go.AE
