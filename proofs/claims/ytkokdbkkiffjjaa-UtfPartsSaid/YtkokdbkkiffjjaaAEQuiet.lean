/- Operations that turn nothing: their value, and what it hangs on. -/
import Derived.Test.YtkokdbkkiffjjaaAERegS
set_option linter.unusedVariables false
set_option linter.unusedSimpArgs false
namespace Go.AE
variable {C : Ctx} {s s' : St} 

theorem partOf_rel {i : TI} {cs : List AV} {off : Nat} {K : AV → Prop} (h : partOf i cs off K) : ∃ x, K x ∧ ∀ K' : AV → Prop, K' x → partOf i cs off K' := by
  unfold partOf at h ⊢
  cases ha : i.agg <;> rw [ha] at h <;> exact ⟨_, h.2, fun K' hk => ⟨h.1, hk⟩⟩

theorem lenOp_rel {d : TypeDesc} {x : AV} {K : AV → Prop} (h : lenOp d x K) : ∃ x', K x' ∧ ∀ K' : AV → Prop, K' x' → lenOp d x K' := by
  unfold lenOp at h ⊢
  split at h <;> first | exact h.elim | exact ⟨_, h, fun K' hk => hk⟩

theorem bin_rel {op : BinOp} {a b : Value} {K : Value → Prop} (h : bin op a b K) : ∃ x', K x' ∧ ∀ K' : Value → Prop, K' x' → bin op a b K' := by
  unfold bin at h ⊢
  split at h <;> first
    | exact h.elim
    | exact ⟨_, h, fun K' hk => hk⟩
    | exact ⟨_, h.2, fun K' hk => ⟨h.1, hk⟩⟩
    | exact ⟨_, h.2.2, fun K' hk => ⟨h.1, h.2.1, hk⟩⟩

theorem un_rel {op : UnOp} {a : Value} {K : Value → Prop} (h : un op a K) : ∃ x', K x' ∧ ∀ K' : Value → Prop, K' x' → un op a K' := by
  unfold un at h ⊢
  split at h <;> first | exact h.elim | exact ⟨_, h, fun K' hk => hk⟩

theorem pureOp_rel {op : Op} {K : AV → Prop} (h : pureOp C s op K) : ∃ x, K x ∧ ∀ K' : AV → Prop, K' x → pureOp C s op K' := by
  unfold pureOp at h
  split at h
  all_goals try (exact h.elim)
  all_goals try (exact ⟨_, h, fun K' hk => by unfold pureOp; exact hk⟩)
  · -- pick
    split at h
    · rename_i t heq
      cases t with
      | true => exact ⟨_, h.1 rfl, fun K' hk => by unfold pureOp; simp only [heq]; exact ⟨fun _ => hk, fun h => by simp at h⟩⟩
      | false => exact ⟨_, h.2 rfl, fun K' hk => by unfold pureOp; simp only [heq]; exact ⟨fun h => by simp at h, fun _ => hk⟩⟩
    · exact h.elim
  · -- binOp
    split at h
    · rename_i p q e1 e2
      split at h
      · exact ⟨_, h.2, fun K' hk => by unfold pureOp; simp only [e1, e2]; exact ⟨h.1, hk⟩⟩
      · exact ⟨_, h.2, fun K' hk => by unfold pureOp; simp only [e1, e2]; exact ⟨h.1, hk⟩⟩
      · exact h.elim
    · rename_i p q hne e1 e2
      obtain ⟨x', h1, h2⟩ := bin_rel h
      refine ⟨_, h1, fun K' hk => ?_⟩
      have h3 := h2 (kv K') hk
      unfold pureOp
      simp only [e1, e2]
      exact h3
    · exact h.elim
  · -- unOp
    split at h
    · rename_i p e1
      obtain ⟨x', h1, h2⟩ := un_rel h
      exact ⟨_, h1, fun K' hk => by unfold pureOp; simp only [e1]; exact h2 (kv K') hk⟩
    · exact h.elim
  · -- extract
    split at h
    · rename_i xs e1
      exact ⟨_, h.2, fun K' hk => by unfold pureOp; simp only [e1]; exact ⟨h.1, hk⟩⟩
    · exact h.elim
  · -- index
    split at h
    · rename_i e0 e1 e2
      exact ⟨_, h.2.2, fun K' hk => by unfold pureOp; simp only [e0, e1, e2]; exact ⟨h.1, h.2.1, hk⟩⟩
    · rename_i e0 e1 e2
      obtain ⟨h0, h1, h⟩ := h
      split at h
      · rename_i e3
        obtain ⟨x', h3, h4⟩ := partOf_rel h
        exact ⟨_, h3, fun K' hk => by unfold pureOp; simp only [e0, e1, e2, e3]; exact ⟨h0, h1, h4 K' hk⟩⟩
      · exact h.elim
    · exact h.elim
  · -- indexAddr
    split at h
    all_goals try (exact h.elim)
    all_goals
      rename_i e0 e1 e2
      obtain ⟨h0, h1, h⟩ := h
      split at h
      · rename_i e3
        exact ⟨_, h, fun K' hk => by unfold pureOp; simp only [e0, e1, e2, e3]; exact ⟨h0, h1, hk⟩⟩
      · exact h.elim
  · -- load
    split at h
    · rename_i e0 e1
      obtain ⟨x', h3, h4⟩ := partOf_rel h
      exact ⟨_, h3, fun K' hk => by unfold pureOp; simp only [e0, e1]; exact h4 K' hk⟩
    · rename_i e0 e1
      split at h
      all_goals try (exact h.elim)
      all_goals
        rename_i e3
        obtain ⟨x', h3, h4⟩ := partOf_rel h
        exact ⟨_, h3, fun K' hk => by unfold pureOp; simp only [e0, e1, e3]; exact h4 K' hk⟩
    · exact h.elim
  · -- field
    split at h
    · rename_i e0 e1
      obtain ⟨x', h3, h4⟩ := partOf_rel h
      exact ⟨_, h3, fun K' hk => by unfold pureOp; simp only [e0, e1]; exact h4 K' hk⟩
    · exact h.elim
  · -- fieldAddr
    split at h
    all_goals try (exact h.elim)
    all_goals
      rename_i e0 e1
      exact ⟨_, h.2, fun K' hk => by unfold pureOp; simp only [e0, e1]; exact ⟨h.1, hk⟩⟩
  · -- nilCheck
    split at h
    all_goals try (exact h.elim)
    all_goals
      rename_i e1
      exact ⟨_, h, fun K' hk => by unfold pureOp; simp only [e1]; exact hk⟩
  · -- convert
    split at h
    all_goals try (exact h.elim)
    · rename_i e0 e1 e2
      exact ⟨_, h, fun K' hk => by unfold pureOp; simp only [e0, e1, e2]; exact hk⟩
    · rename_i e0 e1 e2
      exact ⟨_, h, fun K' hk => by unfold pureOp; simp only [e0, e1, e2]; exact hk⟩
    · rename_i e0 e1 e2
      exact ⟨_, h, fun K' hk => by unfold pureOp; simp only [e0, e1, e2]; exact hk⟩
    · rename_i e0 e1
      obtain ⟨he, h⟩ := h
      split at h
      · rename_i e3
        split at h
        · rename_i e4
          exact ⟨_, h.2, fun K' hk => by unfold pureOp; simp only [e0, e1, e3, e4]; exact ⟨he, h.1, hk⟩⟩
        · exact h.elim
      · exact h.elim
  · -- slice
    split at h
    all_goals try (exact h.elim)
    · rename_i e0 e1
      split at h
      all_goals try (exact h.elim)
      · rename_i e2 e3
        exact ⟨_, h, fun K' hk => by unfold pureOp; simp only [e0, e1, e2, e3]; exact hk⟩
      · rename_i e2 e3
        exact ⟨_, h.2.2, fun K' hk => by unfold pureOp; simp only [e0, e1, e2, e3]; exact ⟨h.1, h.2.1, hk⟩⟩
      · rename_i e2 e3
        exact ⟨_, h.2.2, fun K' hk => by unfold pureOp; simp only [e0, e1, e2, e3]; exact ⟨h.1, h.2.1, hk⟩⟩
      · rename_i e2 e3
        exact ⟨_, h.2.2.2, fun K' hk => by unfold pureOp; simp only [e0, e1, e2, e3]; exact ⟨h.1, h.2.1, h.2.2.1, hk⟩⟩
    · rename_i e0 e1
      split at h
      · rename_i e4
        split at h
        all_goals try (exact h.elim)
        · rename_i e2 e3
          exact ⟨_, h, fun K' hk => by unfold pureOp; simp only [e0, e1, e2, e3, e4]; exact hk⟩
        · rename_i e2 e3
          exact ⟨_, h.2.2.2, fun K' hk => by unfold pureOp; simp only [e0, e1, e2, e3, e4]; exact ⟨h.1, h.2.1, h.2.2.1, hk⟩⟩
        · rename_i e2 e3
          exact ⟨_, h.2.2.2, fun K' hk => by unfold pureOp; simp only [e0, e1, e2, e3, e4]; exact ⟨h.1, h.2.1, h.2.2.1, hk⟩⟩
        · rename_i e2 e3
          exact ⟨_, h.2.2.2.2, fun K' hk => by unfold pureOp; simp only [e0, e1, e2, e3, e4]; exact ⟨h.1, h.2.1, h.2.2.1, h.2.2.2.1, hk⟩⟩
      · exact h.elim
    · rename_i e0 e1
      split at h
      · rename_i e4
        split at h
        all_goals try (exact h.elim)
        · rename_i e2 e3
          exact ⟨_, h, fun K' hk => by unfold pureOp; simp only [e0, e1, e2, e3, e4]; exact hk⟩
        · rename_i e2 e3
          exact ⟨_, h.2.2.2, fun K' hk => by unfold pureOp; simp only [e0, e1, e2, e3, e4]; exact ⟨h.1, h.2.1, h.2.2.1, hk⟩⟩
        · rename_i e2 e3
          exact ⟨_, h.2.2, fun K' hk => by unfold pureOp; simp only [e0, e1, e2, e3, e4]; exact ⟨h.1, h.2.1, hk⟩⟩
        · rename_i e2 e3
          exact ⟨_, h.2.2.2.2, fun K' hk => by unfold pureOp; simp only [e0, e1, e2, e3, e4]; exact ⟨h.1, h.2.1, h.2.2.1, h.2.2.2.1, hk⟩⟩
      · exact h.elim
  · -- len
    split at h
    · rename_i e0 e1
      split at h
      · rename_i e2
        obtain ⟨x', h3, h4⟩ := lenOp_rel h
        exact ⟨_, h3, fun K' hk => by unfold pureOp; simp only [e0, e1, e2]; exact h4 K' hk⟩
      · exact h.elim
    · exact h.elim
  · split at h
    · rename_i e0
      exact ⟨_, h.2, fun K' hk => by unfold pureOp; simp only [e0]; exact ⟨h.1, hk⟩⟩
    · exact h.elim
  · split at h
    · rename_i e0
      exact ⟨_, h.2, fun K' hk => by unfold pureOp; simp only [e0]; exact ⟨h.1, hk⟩⟩
    · exact h.elim

theorem cellsOf_m (hm : s.m = s'.m) (sz : Nat) (x : AV) : cellsOf s sz x = cellsOf s' sz x := by unfold cellsOf; rw [hm]

/-- An operation that turns nothing looks at its operands and at the objects alone. -/
theorem pureOp_local {op : Op} {K : AV → Prop} (hm : s.m = s'.m) (he : ∀ x ∈ op.operands, ev s x = ev s' x) (h : pureOp C s op K) : pureOp C s' op K := by
  cases op with
  | call c =>
    obtain ⟨callee, args, ats⟩ := c
    have ha : args.toList.map (ev s) = args.toList.map (ev s') := List.map_congr_left fun x hx => he x (by simp [Op.operands, Call.operands]; exact .inr (by simpa using hx))
    cases callee with
    | builtin b =>
      cases b
      case len =>
        obtain ⟨args⟩ := args
        obtain ⟨ats⟩ := ats
        rcases args with _ | ⟨x, _ | ⟨y, args⟩⟩
        · unfold pureOp at h; exact h.elim
        · rcases ats with _ | ⟨t, _ | ⟨u, ats⟩⟩
          · unfold pureOp at h; exact h.elim
          · have hx := he x (by simp [Op.operands, Call.operands])
            unfold pureOp at h ⊢
            simp only at h ⊢
            rw [← hx]; exact h
          · unfold pureOp at h; exact h.elim
        · unfold pureOp at h; exact h.elim
      case min => unfold pureOp at h ⊢; simp only at h ⊢; rw [← ha]; exact h
      case max => unfold pureOp at h ⊢; simp only at h ⊢; rw [← ha]; exact h
      all_goals (unfold pureOp at h; exact h.elim)
    | value f => unfold pureOp at h; exact h.elim
    | invoke r m => unfold pureOp at h; exact h.elim
  | makeFunc fn first cap =>
    have h1 : first.toList.map (ev s) = first.toList.map (ev s') := List.map_congr_left fun x hx => he x (by simp [Op.operands]; exact .inl (by simpa using hx))
    have h2 : cap.toList.map (ev s) = cap.toList.map (ev s') := List.map_congr_left fun x hx => he x (by simp [Op.operands]; exact .inr (by simpa using hx))
    cases fn with
    | func f => unfold pureOp at h ⊢; simp only at h ⊢; rw [← h1, ← h2]; exact h
    | _ => unfold pureOp at h; exact h.elim
  | slice t x lo hi mx =>
    have hx := he x (by simp [Op.operands])
    have hl : lo.map (ev s) = lo.map (ev s') := by cases lo with | none => rfl | some l => simp [he l (by simp [Op.operands])]
    have hh : hi.map (ev s) = hi.map (ev s') := by cases hi with | none => rfl | some l => simp [he l (by simp [Op.operands])]
    cases mx with
    | none => unfold pureOp at h ⊢; simp only at h ⊢; rw [← hx, ← hl, ← hh]; exact h
    | some m => unfold pureOp at h; exact h.elim
  | move x =>
    have hx := he x (by simp [Op.operands])
    have h : K (ev s x) := h
    rw [hx] at h; exact h
  | assign x =>
    have hx := he x (by simp [Op.operands])
    have h : K (ev s x) := h
    rw [hx] at h; exact h
  | pick c x y => unfold pureOp at h ⊢; simp only at h ⊢; rw [← he c (by simp [Op.operands]), ← he x (by simp [Op.operands]), ← he y (by simp [Op.operands])]; exact h
  | binOp op t x y ty => unfold pureOp at h ⊢; simp only at h ⊢; rw [← he x (by simp [Op.operands]), ← he y (by simp [Op.operands])]; exact h
  | unOp op t x => unfold pureOp at h ⊢; simp only at h ⊢; rw [← he x (by simp [Op.operands])]; exact h
  | extract x i => unfold pureOp at h ⊢; simp only at h ⊢; rw [← he x (by simp [Op.operands])]; exact h
  | index t x y => unfold pureOp at h ⊢; simp only at h ⊢; rw [← he x (by simp [Op.operands]), ← he y (by simp [Op.operands])]; exact h
  | indexAddr t x y => unfold pureOp at h ⊢; simp only at h ⊢; rw [← he x (by simp [Op.operands]), ← he y (by simp [Op.operands])]; exact h
  | load t x => unfold pureOp at h ⊢; simp only at h ⊢; rw [← he x (by simp [Op.operands]), ← hm]; exact h
  | field t x f => unfold pureOp at h ⊢; simp only at h ⊢; rw [← he x (by simp [Op.operands])]; exact h
  | fieldAddr t x f => unfold pureOp at h ⊢; simp only at h ⊢; rw [← he x (by simp [Op.operands])]; exact h
  | nilCheck x => unfold pureOp at h ⊢; simp only at h ⊢; rw [← he x (by simp [Op.operands])]; exact h
  | convert src dst x =>
    unfold pureOp at h ⊢; simp only at h ⊢; rw [← he x (by simp [Op.operands])]
    have : cellsOf s' 1 = cellsOf s 1 := by funext y; exact (cellsOf_m hm 1 y).symm
    rw [this]; exact h
  | _ => unfold pureOp at h; exact h.elim
end Go.AE
