/- A part of the abstract evaluator: no condition. -/
import Derived.Test.YtoppecphhiiiiaaGreatDoorAERegS
set_option linter.unusedVariables false
set_option linter.unusedSimpArgs false
namespace Go.AE
variable {C : bI} {s s' : St}
theorem zN {i : TI} {cs : List AV} {off : Nat} {K : AV → Prop} (h : gP i cs off K) : ∃ x, K x ∧ ∀ K' : AV → Prop, K' x → gP i cs off K' := by
 unfold gP at h ⊢
 cases ha : i.agg <;> rw [ha] at h <;> exact ⟨_, h.2, fun K' hk => ⟨h.1, hk⟩⟩
theorem zfw {d : TypeDesc} {x : AV} {K : AV → Prop} (h : kS d x K) : ∃ x', K x' ∧ ∀ K' : AV → Prop, K' x' → kS d x K' := by
 unfold kS at h ⊢
 split at h <;> first | exact h.elim | exact ⟨_, h, fun K' hk => hk⟩
theorem zcv {o : Option Nat} {K : Value → Prop} (h : fout o K) : ∃ x', K x' ∧ ∀ K' : Value → Prop, K' x' → fout o K' := by
 cases o with
 | none => exact h.elim
 | some r => exact ⟨_, h, fun K' hk => hk⟩
theorem zb7 {o p : Option Nat} {K : Value → Prop} (h : cout o p K) : ∃ x', K x' ∧ ∀ K' : Value → Prop, K' x' → cout o p K' := by
 cases o with
 | none => exact h.elim
 | some r =>
  cases p with
  | none => exact h.elim
  | some q => exact ⟨_, h, fun K' hk => hk⟩
theorem zc8 {op : BinOp} {a b : Nat} {K : Value → Prop} (h : fbin op a b K) : ∃ x', K x' ∧ ∀ K' : Value → Prop, K' x' → fbin op a b K' := by
 unfold fbin at h ⊢
 split at h
 all_goals first
  | exact h.elim
  | exact zcv h
  | exact ⟨_, h, fun K' hk => hk⟩
theorem zai {op : BinOp} {a b c d : Nat} {K : Value → Prop} (h : cbin op a b c d K) : ∃ x', K x' ∧ ∀ K' : Value → Prop, K' x' → cbin op a b c d K' := by
 unfold cbin at h ⊢
 split at h
 all_goals first
  | exact h.elim
  | exact zb7 h
  | exact ⟨_, h, fun K' hk => hk⟩
theorem zc7 {k : IntKind} {b : Nat} {K : Value → Prop} (h : sY k b K) : ∃ x', K x' ∧ ∀ K' : Value → Prop, K' x' → sY k b K' := by
 unfold sY at h ⊢
 cases e : (FloatKind.f64.decode b).toInt .zero with
 | none => rw [e] at h; exact h.elim
 | some n => rw [e] at h; exact ⟨_, h.2.2, fun K' hk => ⟨h.1, h.2.1, hk⟩⟩
theorem zit {x : AV} {K : Value → Prop} (h : wG x K) : ∃ x', K x' ∧ ∀ K' : Value → Prop, K' x' → wG x K' := by
 unfold wG at h ⊢
 split at h
 ·exact ⟨_, h, fun K' hk => hk⟩
 ·exact h.elim
theorem zeq {x : AV} {K : Value → Prop} (h : vF x K) : ∃ x', K x' ∧ ∀ K' : Value → Prop, K' x' → vF x K' := by
 unfold vF at h ⊢
 split at h
 ·exact ⟨_, h, fun K' hk => hk⟩
 ·exact h.elim
theorem zb8 {x y : AV} {K : Value → Prop} (h : uR x y K) : ∃ x', K x' ∧ ∀ K' : Value → Prop, K' x' → uR x y K' := by
 unfold uR at h ⊢
 split at h
 ·exact ⟨_, h, fun K' hk => hk⟩
 ·exact h.elim
theorem za1 {op : BinOp} {a b : Value} {K : Value → Prop} (h : bin op a b K) : ∃ x', K x' ∧ ∀ K' : Value → Prop, K' x' → bin op a b K' := by
 unfold bin at h ⊢
 split at h <;> first
  | exact h.elim
  | exact zc8 h
  | exact zai h
  | exact ⟨_, h, fun K' hk => hk⟩
  | exact ⟨_, h.2, fun K' hk => ⟨h.1, hk⟩⟩
  | exact ⟨_, h.2.2, fun K' hk => ⟨h.1, h.2.1, hk⟩⟩
theorem zla {op : UnOp} {a : Value} {K : Value → Prop} (h : un op a K) : ∃ x', K x' ∧ ∀ K' : Value → Prop, K' x' → un op a K' := by
 unfold un at h ⊢
 split at h <;> first | exact h.elim | exact ⟨_, h, fun K' hk => hk⟩
theorem DT {op : Op} {K : AV → Prop} (h : bB C s op K) : ∃ x, K x ∧ ∀ K' : AV → Prop, K' x → bB C s op K' := by
 unfold bB at h
 split at h
 all_goals try (exact h.elim)
 all_goals try (exact ⟨_, h, fun K' hk => by unfold bB; exact hk⟩)
 ·
  split at h
  ·rename_i t heq
   cases t with
   | true => exact ⟨_, h.1 rfl, fun K' hk => by unfold bB; simp only [heq]; exact ⟨fun _ => hk, fun h => by simp at h⟩⟩
   | false => exact ⟨_, h.2 rfl, fun K' hk => by unfold bB; simp only [heq]; exact ⟨fun h => by simp at h, fun _ => hk⟩⟩
  ·exact h.elim
 ·
  split at h
  ·rename_i p q e1 e2
   split at h
   ·exact ⟨_, h.2, fun K' hk => by unfold bB; simp only [e1, e2]; exact ⟨h.1, hk⟩⟩
   ·exact ⟨_, h.2, fun K' hk => by unfold bB; simp only [e1, e2]; exact ⟨h.1, hk⟩⟩
   ·exact h.elim
  ·rename_i p q hne e1 e2
   obtain ⟨x', h1, h2⟩ := za1 h
   refine ⟨_, h1, fun K' hk => ?_⟩
   have h3 := h2 (kv K') hk
   unfold bB
   simp only [e1, e2]
   exact h3
  ·exact h.elim
 ·
  split at h
  ·rename_i p e1
   obtain ⟨x', h1, h2⟩ := zla h
   exact ⟨_, h1, fun K' hk => by unfold bB; simp only [e1]; exact h2 (kv K') hk⟩
  ·exact h.elim
 ·
  split at h
  ·rename_i xs e1
   exact ⟨_, h.2, fun K' hk => by unfold bB; simp only [e1]; exact ⟨h.1, hk⟩⟩
  ·exact h.elim
 ·
  split at h
  ·rename_i e0 e1 e2
   exact ⟨_, h.2.2, fun K' hk => by unfold bB; simp only [e0, e1, e2]; exact ⟨h.1, h.2.1, hk⟩⟩
  ·rename_i e0 e1 e2
   obtain ⟨h0, h1, h⟩ := h
   split at h
   ·rename_i e3
    obtain ⟨x', h3, h4⟩ := zN h
    exact ⟨_, h3, fun K' hk => by unfold bB; simp only [e0, e1, e2, e3]; exact ⟨h0, h1, h4 K' hk⟩⟩
   ·exact h.elim
  ·exact h.elim
 ·
  split at h
  all_goals try (exact h.elim)
  all_goals
   rename_i e0 e1 e2
   obtain ⟨h0, h1, h⟩ := h
   split at h
   ·rename_i e3
    exact ⟨_, h, fun K' hk => by unfold bB; simp only [e0, e1, e2, e3]; exact ⟨h0, h1, hk⟩⟩
   ·exact h.elim
 ·
  split at h
  ·rename_i e0 e1
   obtain ⟨x', h3, h4⟩ := zN h
   exact ⟨_, h3, fun K' hk => by unfold bB; simp only [e0, e1]; exact h4 K' hk⟩
  ·rename_i e0 e1
   split at h
   all_goals try (exact h.elim)
   all_goals
    rename_i e3
    obtain ⟨x', h3, h4⟩ := zN h
    exact ⟨_, h3, fun K' hk => by unfold bB; simp only [e0, e1, e3]; exact h4 K' hk⟩
  ·exact h.elim
 ·
  split at h
  ·rename_i e0 e1
   obtain ⟨x', h3, h4⟩ := zN h
   exact ⟨_, h3, fun K' hk => by unfold bB; simp only [e0, e1]; exact h4 K' hk⟩
  ·exact h.elim
 ·
  split at h
  all_goals try (exact h.elim)
  all_goals
   rename_i e0 e1
   exact ⟨_, h.2, fun K' hk => by unfold bB; simp only [e0, e1]; exact ⟨h.1, hk⟩⟩
 ·
  split at h
  all_goals try (exact h.elim)
  all_goals
   rename_i e1
   exact ⟨_, h, fun K' hk => by unfold bB; simp only [e1]; exact hk⟩
 ·
  split at h
  all_goals try (exact h.elim)
  ·rename_i e0 e1 e2
   exact ⟨_, h, fun K' hk => by unfold bB; simp only [e0, e1, e2]; exact hk⟩
  ·rename_i e0 e1 e2
   exact ⟨_, h, fun K' hk => by unfold bB; simp only [e0, e1, e2]; exact hk⟩
  ·rename_i e0 e1 e2
   exact ⟨_, h, fun K' hk => by unfold bB; simp only [e0, e1, e2]; exact hk⟩
  ·rename_i e0 e1 e2
   exact ⟨_, h, fun K' hk => by unfold bB; simp only [e0, e1, e2]; exact hk⟩
  ·rename_i e0 e1 e2
   obtain ⟨x', h1, h2⟩ := zc7 h
   exact ⟨_, h1, fun K' hk => by unfold bB; simp only [e0, e1, e2]; exact h2 (kv K') hk⟩
  ·rename_i e0 e1
   obtain ⟨he, h⟩ := h
   split at h
   ·rename_i e3
    split at h
    ·rename_i e4
     exact ⟨_, h.2, fun K' hk => by unfold bB; simp only [e0, e1, e3, e4]; exact ⟨he, h.1, hk⟩⟩
    ·exact h.elim
   ·exact h.elim
 ·
  split at h
  all_goals try (exact h.elim)
  ·rename_i e0 e1
   split at h
   all_goals try (exact h.elim)
   ·rename_i e2 e3
    exact ⟨_, h, fun K' hk => by unfold bB; simp only [e0, e1, e2, e3]; exact hk⟩
   ·rename_i e2 e3
    exact ⟨_, h.2.2, fun K' hk => by unfold bB; simp only [e0, e1, e2, e3]; exact ⟨h.1, h.2.1, hk⟩⟩
   ·rename_i e2 e3
    exact ⟨_, h.2.2, fun K' hk => by unfold bB; simp only [e0, e1, e2, e3]; exact ⟨h.1, h.2.1, hk⟩⟩
   ·rename_i e2 e3
    exact ⟨_, h.2.2.2, fun K' hk => by unfold bB; simp only [e0, e1, e2, e3]; exact ⟨h.1, h.2.1, h.2.2.1, hk⟩⟩
  ·rename_i e0 e1
   split at h
   ·rename_i e4
    split at h
    all_goals try (exact h.elim)
    ·rename_i e2 e3
     exact ⟨_, h, fun K' hk => by unfold bB; simp only [e0, e1, e2, e3, e4]; exact hk⟩
    ·rename_i e2 e3
     exact ⟨_, h.2.2.2, fun K' hk => by unfold bB; simp only [e0, e1, e2, e3, e4]; exact ⟨h.1, h.2.1, h.2.2.1, hk⟩⟩
    ·rename_i e2 e3
     exact ⟨_, h.2.2.2, fun K' hk => by unfold bB; simp only [e0, e1, e2, e3, e4]; exact ⟨h.1, h.2.1, h.2.2.1, hk⟩⟩
    ·rename_i e2 e3
     exact ⟨_, h.2.2.2.2, fun K' hk => by unfold bB; simp only [e0, e1, e2, e3, e4]; exact ⟨h.1, h.2.1, h.2.2.1, h.2.2.2.1, hk⟩⟩
   ·exact h.elim
  ·rename_i e0 e1
   split at h
   ·rename_i e4
    split at h
    all_goals try (exact h.elim)
    ·rename_i e2 e3
     exact ⟨_, h, fun K' hk => by unfold bB; simp only [e0, e1, e2, e3, e4]; exact hk⟩
    ·rename_i e2 e3
     exact ⟨_, h.2.2.2, fun K' hk => by unfold bB; simp only [e0, e1, e2, e3, e4]; exact ⟨h.1, h.2.1, h.2.2.1, hk⟩⟩
    ·rename_i e2 e3
     exact ⟨_, h.2.2, fun K' hk => by unfold bB; simp only [e0, e1, e2, e3, e4]; exact ⟨h.1, h.2.1, hk⟩⟩
    ·rename_i e2 e3
     exact ⟨_, h.2.2.2.2, fun K' hk => by unfold bB; simp only [e0, e1, e2, e3, e4]; exact ⟨h.1, h.2.1, h.2.2.1, h.2.2.2.1, hk⟩⟩
   ·exact h.elim
 ·
  split at h
  ·rename_i e0 e1
   split at h
   ·rename_i e2
    obtain ⟨x', h3, h4⟩ := zfw h
    exact ⟨_, h3, fun K' hk => by unfold bB; simp only [e0, e1, e2]; exact h4 K' hk⟩
   ·exact h.elim
  ·exact h.elim
 ·split at h
  ·rename_i e0
   exact ⟨_, h.2, fun K' hk => by unfold bB; simp only [e0]; exact ⟨h.1, hk⟩⟩
  ·exact h.elim
 ·split at h
  ·rename_i e0
   exact ⟨_, h.2, fun K' hk => by unfold bB; simp only [e0]; exact ⟨h.1, hk⟩⟩
  ·exact h.elim
 ·split at h
  ·rename_i e0
   obtain ⟨x', h1, h2⟩ := zit h
   exact ⟨_, h1, fun K' hk => by unfold bB; simp only [e0]; exact h2 (kv K') hk⟩
  ·exact h.elim
 ·split at h
  ·rename_i e0
   obtain ⟨x', h1, h2⟩ := zeq h
   exact ⟨_, h1, fun K' hk => by unfold bB; simp only [e0]; exact h2 (kv K') hk⟩
  ·exact h.elim
 ·split at h
  ·rename_i e0
   obtain ⟨x', h1, h2⟩ := zb8 h
   exact ⟨_, h1, fun K' hk => by unfold bB; simp only [e0]; exact h2 (kv K') hk⟩
  ·exact h.elim
theorem RL {C : bI} {fs : List Field} : ∀ {l : List (Nat × AV)} {cs : List AV} {K : List AV → Prop}, kE C fs cs l K → ∃ x, K x ∧ ∀ K' : List AV → Prop, K' x → kE C fs cs l K'
 | [], cs, K, h => ⟨_, h, fun _ hk => hk⟩
 | (j, x) :: l, cs, K, h => by
  simp only [kE] at h
  split at h
  ·rename_i fd hfd
   split at h
   ·rename_i i hi
    obtain ⟨h1, h2, h3, h4⟩ := h
    obtain ⟨y, k1, k2⟩ := RL h4
    exact ⟨y, k1, fun K' hk => by simp only [kE, hfd, hi]; exact ⟨h1, h2, h3, k2 K' hk⟩⟩
   ·exact h.elim
  ·exact h.elim
theorem zad {i : Option TI} {ps : List (Nat × AV)} {K : AV → Prop} (h : nD C i ps K) : ∃ x, K x ∧ ∀ K' : AV → Prop, K' x → nD C i ps K' := by
 unfold nD at h
 split at h
 ·rename_i i
  split at h
  ·rename_i fs hfs
   obtain ⟨h1, h2⟩ := h
   obtain ⟨y, k1, k2⟩ := RL h2
   exact ⟨.ag y, k1, fun K' hk => by unfold nD; simp only [hfs]; exact ⟨h1, k2 (kag K') hk⟩⟩
  ·exact h.elim
 ·exact h.elim
theorem zg5 {d : Option TypeDesc} {es : Option (List (Value × AV))} {k : Option Value} {ok : Bool} {K : AV → Prop} (h : jN C d es k ok K) : ∃ x, K x ∧ ∀ K' : AV → Prop, K' x → jN C d es k ok K' := by
 unfold jN at h
 split at h
 ·rename_i kt e es key
  split at h
  ·rename_i ie hie
   obtain ⟨h1, h2, h3⟩ := h
   cases hg : mget key es with
   | none =>
    rw [hg] at h3
    exact ⟨_, h3, fun K' hk => by simp only [jN, hie, hg]; exact ⟨h1, h2, hk⟩⟩
   | some x =>
    rw [hg] at h3
    exact ⟨_, h3, fun K' hk => by simp only [jN, hie, hg]; exact ⟨h1, h2, hk⟩⟩
  ·exact h.elim
 ·exact h.elim
theorem WD {x : AV} {K : Bool → Prop} (h : jR x K) : ∃ b, K b ∧ ∀ K' : Bool → Prop, K' b → jR x K' := by
 unfold jR at h
 split at h
 ·exact ⟨_, h.2, fun K' hk => ⟨h.1, hk⟩⟩
 ·exact ⟨_, h.2, fun K' hk => ⟨h.1, hk⟩⟩
 ·exact ⟨_, h, fun K' hk => hk⟩
 ·exact ⟨_, h, fun K' hk => hk⟩
 ·exact h.elim
theorem z9z {op : BinOp} {t : Nat} {x y : AV} {K : AV → Prop} {D : (AV → Prop) → Prop} (h : cO C op t x y K (D K)) (hD : D K → ∃ x, K x ∧ ∀ K' : AV → Prop, K' x → D K') :
  ∃ z, K z ∧ ∀ K' : AV → Prop, K' z → cO C op t x y K' (D K') := by
 unfold cO at h
 split at h
 ·split at h
  ·rename_i e1 e2
   exact ⟨_, h.2.2, fun K' hk => by simp only [cO, e1, e2]; exact ⟨h.1, h.2.1, hk⟩⟩
  ·rename_i e1 e2
   exact ⟨_, h.2.2, fun K' hk => by simp only [cO, e1, e2]; exact ⟨h.1, h.2.1, hk⟩⟩
  ·exact h.elim
 ·split at h
  ·rename_i e1
   exact ⟨_, h, fun K' hk => by simp only [cO, e1]; exact hk⟩
  ·rename_i e1
   exact ⟨_, h, fun K' hk => by simp only [cO, e1]; exact hk⟩
  ·exact h.elim
 ·split at h
  ·rename_i e1
   exact ⟨_, h, fun K' hk => by simp only [cO, e1]; exact hk⟩
  ·rename_i e1
   exact ⟨_, h, fun K' hk => by simp only [cO, e1]; exact hk⟩
  ·exact h.elim
 ·split at h
  ·rename_i e1
   obtain ⟨z, k1, k2⟩ := WD h
   exact ⟨_, k1, fun K' hk => by unfold cO; simp only [e1]; exact k2 _ hk⟩
  ·rename_i e1
   obtain ⟨z, k1, k2⟩ := WD h
   exact ⟨_, k1, fun K' hk => by unfold cO; simp only [e1]; exact k2 _ hk⟩
  ·exact h.elim
 ·rename_i h4 h1 h2 h3
  obtain ⟨z, k1, k2⟩ := hD h
  refine ⟨z, k1, fun K' hk => ?_⟩
  unfold cO
  split
  ·rename_i cs ds; exact absurd rfl (h1 cs ds rfl)
  ·rename_i f fa fb; exact absurd rfl (h2 f fa fb rfl)
  ·exact absurd rfl (h3 rfl)
  ·exact absurd rfl h4
  ·exact k2 K' hk
theorem Y0 {op : Op} {K : AV → Prop} (h : jS C s op K) : ∃ x, K x ∧ ∀ K' : AV → Prop, K' x → jS C s op K' := by
 unfold jS at h
 split at h
 ·exact zad h
 ·exact zg5 h
 ·exact z9z (D := fun K => bB C s (.binOp _ _ _ _ _) K) h DT
 ·rename_i h1 h2 h3
  obtain ⟨z, k1, k2⟩ := DT h
  refine ⟨z, k1, fun K' hk => ?_⟩
  unfold jS
  split
  ·rename_i t ps; exact absurd rfl (h1 t ps)
  ·rename_i t x ix ok; exact absurd rfl (h2 t x ix ok)
  ·rename_i o t x y u; exact absurd rfl (h3 o t x y u)
  ·exact k2 K' hk
theorem V9 {sz : Nat} : ∀ {ps : List (Nat × AV)} {i : Nat} {K : List AV → Prop}, j3 sz i ps K → ∃ cs, K cs ∧ ∀ K' : List AV → Prop, K' cs → j3 sz i ps K'
 | [], i, K, h => ⟨[], h, fun _ hk => hk⟩
 | (j, x) :: l, i, K, h => by
  simp only [j3] at h
  obtain ⟨h1, h2, h3, h4⟩ := h
  obtain ⟨cs, k1, k2⟩ := V9 h4
  exact ⟨_, k1, fun K' hk => by simp only [j3]; exact ⟨h1, h2, h3, k2 (kapp K' (bV x)) hk⟩⟩
theorem zik {op : Op} {K : AV → Prop} (h : jT C s op K) : ∃ x, K x ∧ ∀ K' : AV → Prop, K' x → jT C s op K' := by
 unfold jT at h
 split at h
 ·rename_i t len parts
  unfold pQ at h
  split at h
  ·rename_i e ht
   split at h
   ·rename_i i hi
    obtain ⟨h1, h2, h3, h4⟩ := h
    obtain ⟨cs, k1, k2⟩ := V9 h4
    exact ⟨_, k1, fun K' hk => by simp only [jT, pQ, ht, hi]; exact ⟨h1, h2, h3, k2 _ hk⟩⟩
   ·exact h.elim
  ·exact h.elim
 ·rename_i hne
  obtain ⟨x, k1, k2⟩ := Y0 h
  refine ⟨x, k1, fun K' hk => ?_⟩
  unfold jT
  split
  ·rename_i t len ps; exact absurd rfl (hne t len ps)
  ·exact k2 K' hk
theorem EP {op : Op} {K : AV → Prop} (hs : gA op = true) (he : ∀ x ∈ op.operands, ev s x = ev s' x) (h : bB C s op K) : bB C s' op K := by
 cases op with
 | makeFunc fn first cap =>
  have h1 : first.toList.map (ev s) = first.toList.map (ev s') := List.map_congr_left fun x hx => he x (by simp [Op.operands]; exact .inl (by simpa using hx))
  have h2 : cap.toList.map (ev s) = cap.toList.map (ev s') := List.map_congr_left fun x hx => he x (by simp [Op.operands]; exact .inr (by simpa using hx))
  cases fn with
  | func f => unfold bB at h ⊢; simp only at h ⊢; rw [← h1, ← h2]; exact h
  | _ => unfold bB at h; exact h.elim
 | slice t x lo hi mx =>
  have hx := he x (by simp [Op.operands])
  have hl : lo.map (ev s) = lo.map (ev s') := by cases lo with | none => rfl | some l => simp [he l (by simp [Op.operands])]
  have hh : hi.map (ev s) = hi.map (ev s') := by cases hi with | none => rfl | some l => simp [he l (by simp [Op.operands])]
  cases mx with
  | none => unfold bB at h ⊢; simp only at h ⊢; rw [← hx, ← hl, ← hh]; exact h
  | some m => unfold bB at h; exact h.elim
 | move x =>
  have hx := he x (by simp [Op.operands])
  have h : K (ev s x) := h
  rw [hx] at h; exact h
 | assign x =>
  have hx := he x (by simp [Op.operands])
  have h : K (ev s x) := h
  rw [hx] at h; exact h
 | pick c x y => unfold bB at h ⊢; simp only at h ⊢; rw [← he c (by simp [Op.operands]), ← he x (by simp [Op.operands]), ← he y (by simp [Op.operands])]; exact h
 | binOp op t x y ty => unfold bB at h ⊢; simp only at h ⊢; rw [← he x (by simp [Op.operands]), ← he y (by simp [Op.operands])]; exact h
 | unOp op t x => unfold bB at h ⊢; simp only at h ⊢; rw [← he x (by simp [Op.operands])]; exact h
 | extract x i => unfold bB at h ⊢; simp only at h ⊢; rw [← he x (by simp [Op.operands])]; exact h
 | index t x y => unfold bB at h ⊢; simp only at h ⊢; rw [← he x (by simp [Op.operands]), ← he y (by simp [Op.operands])]; exact h
 | indexAddr t x y => unfold bB at h ⊢; simp only at h ⊢; rw [← he x (by simp [Op.operands]), ← he y (by simp [Op.operands])]; exact h
 | field t x f => unfold bB at h ⊢; simp only at h ⊢; rw [← he x (by simp [Op.operands])]; exact h
 | fieldAddr t x f => unfold bB at h ⊢; simp only at h ⊢; rw [← he x (by simp [Op.operands])]; exact h
 | nilCheck x => unfold bB at h ⊢; simp only at h ⊢; rw [← he x (by simp [Op.operands])]; exact h
 | build t ps => unfold bB at h; exact h.elim
 | buildSlice t n ps => unfold bB at h; exact h.elim
 | _ => simp [gA] at hs
theorem zif {op : Op} {K : AV → Prop} (hs : gA op = true) (he : ∀ x ∈ op.operands, ev s x = ev s' x) (h : jS C s op K) : jS C s' op K := by
 unfold jS at h
 split at h
 ·rename_i t parts
  have h1 : parts.toList.map (fun p => (p.1, ev s p.2)) = parts.toList.map fun p => (p.1, ev s' p.2) := List.map_congr_left fun p hp => by
   rw [he p.2 (by simp [Op.operands]; exact ⟨p.1, by simpa using hp⟩)]
  rw [h1] at h
  exact h
 ·simp [gA] at hs
 ·rename_i o t x y u
  have h0 := he x (by simp [Op.operands])
  have h1 := he y (by simp [Op.operands])
  rw [h0, h1] at h
  show cO C o t (ev s' x) (ev s' y) K (bB C s' (.binOp o t x y u) K)
  have e : bB C s (.binOp o t x y u) K = bB C s' (.binOp o t x y u) K := by
   unfold bB; simp only [h0, h1]
  rw [← e]; exact h
 ·rename_i h1 h2 h3
  have := EP hs he h
  unfold jS
  split
  ·rename_i t ps; exact absurd rfl (h1 t ps)
  ·rename_i t x ix ok; exact absurd rfl (h2 t x ix ok)
  ·rename_i o t x y u; exact absurd rfl (h3 o t x y u)
  ·exact this
theorem ZC {op : Op} {K : AV → Prop} (hs : gA op = true) (he : ∀ x ∈ op.operands, ev s x = ev s' x) (h : jT C s op K) : jT C s' op K := by
 unfold jT at h
 split at h
 ·rename_i t len parts
  have h1 : parts.toList.map (fun p => (p.1, ev s p.2)) = parts.toList.map fun p => (p.1, ev s' p.2) := List.map_congr_left fun p hp => by
   rw [he p.2 (by simp [Op.operands]; exact ⟨p.1, by simpa using hp⟩)]
  rw [h1] at h
  exact h
 ·rename_i hne
  have := zif hs he h
  unfold jT
  split
  ·rename_i t len ps; exact absurd rfl (hne t len ps)
  ·exact this
def m3 (m m' : List Ob) : Prop := ∀ id, (∀ _ : obj m id = .dead, False) → obj m' id = obj m id
theorem m3.refl (m : List Ob) : m3 m m := fun _ _ => rfl
theorem zak (hm : m3 s.m s'.m) {sz : Nat} {x : AV} {r : Nat × List AV} (h : iG s sz x = some r) : iG s' sz x = some r := by
 unfold iG at h ⊢
 split
 ·exact h
 ·exact h
 ·exact h
 ·rename_i id off len
  simp only at h
  rw [hm id (fun e => by rw [e] at h; simp at h)]
  exact h
 ·rename_i h1 h2 h4 h3
  split at h
  ·rename_i n cs; exact absurd rfl (h1 n cs)
  ·exact absurd rfl h2
  ·rename_i a b c; exact absurd rfl (h4 a b c)
  ·rename_i a b c; exact absurd rfl (h3 a b c)
  ·exact h
theorem zgp (hm : m3 s.m s'.m) {x : AV} {r : List (Value × AV)} (h : iV s x = some r) : iV s' x = some r := by
 unfold iV at h ⊢
 split
 ·exact h
 ·rename_i id
  simp only at h
  rw [hm id (fun e => by rw [e] at h; simp at h)]
  exact h
 ·exact h
 ·rename_i h1 h2 h3
  split at h
  ·rename_i es; exact absurd rfl (h1 es)
  ·rename_i id; exact absurd rfl (h2 id)
  ·exact absurd rfl h3
  ·exact h
theorem zg4 {t : Nat} {x : Operand} {K : AV → Prop} (hm : m3 s.m s'.m) (hx : ev s x = ev s' x) (h : bB C s (.load t x) K) : bB C s' (.load t x) K := by
 unfold bB at h ⊢
 simp only at h ⊢
 rw [← hx]
 split
 ·rename_i e1 e2; rw [e1, e2] at h; exact h
 ·rename_i i id off e1 e2
  rw [e1, e2] at h
  simp only at h
  rw [hm id (fun e => by rw [e] at h; exact h)]
  exact h
 ·rename_i h1 h2
  split at h
  ·rename_i i cs e1 e2; exact absurd e2 (h1 i cs e1)
  ·rename_i i id off e1 e2; exact absurd e2 (h2 i id off e1)
  ·exact h
theorem zig {op : Op} {K : AV → Prop} (hm : m3 s.m s'.m) (he : ∀ x ∈ op.operands, ev s x = ev s' x) (h : bB C s op K) : bB C s' op K := by
 by_cases hs : gA op = true
 ·exact EP hs he h
 ·cases op with
  | load t x => exact zg4 hm (he x (by simp [Op.operands])) h
  | convert src dst x =>
   unfold bB at h ⊢; simp only at h ⊢; rw [← he x (by simp [Op.operands])]
   split
   ·rename_i e1 e2 e3; rw [e1, e2, e3] at h; exact h
   ·rename_i e1 e2 e3; rw [e1, e2, e3] at h; exact h
   ·rename_i e1 e2 e3; rw [e1, e2, e3] at h; exact h
   ·rename_i e1 e2 e3; rw [e1, e2, e3] at h; exact h
   ·rename_i e1 e2 e3; rw [e1, e2, e3] at h; exact h
   ·rename_i e e1 e2
    rw [e1, e2] at h
    simp only at h
    refine ⟨h.1, ?_⟩
    have h := h.2
    split at h
    ·rename_i n cs ec
     rw [zak hm ec]
     exact h
    ·exact h.elim
   ·split at h
    all_goals first | exact h.elim | (exfalso; simp_all; done) | (exfalso; rename_i hn _ _ _; exact hn _ _ _ _ rfl rfl rfl rfl) | (exfalso; simp_all; rename_i hn _ _ _; exact hn _ _ _ _ rfl rfl rfl rfl)
  | call c =>
   obtain ⟨callee, args, ats⟩ := c
   have ha : args.toList.map (ev s) = args.toList.map (ev s') := List.map_congr_left fun x hx => he x (by simp [Op.operands, Call.operands]; exact .inr (by simpa using hx))
   cases callee with
   | builtin b =>
    cases b
    case len =>
     obtain ⟨args⟩ := args
     obtain ⟨ats⟩ := ats
     rcases args with _ | ⟨x, _ | ⟨y, args⟩⟩
     ·unfold bB at h; exact h.elim
     ·rcases ats with _ | ⟨t, _ | ⟨u, ats⟩⟩
      ·unfold bB at h; exact h.elim
      ·have hx := he x (by simp [Op.operands, Call.operands])
       unfold bB at h ⊢
       simp only at h ⊢
       rw [← hx]; exact h
      ·unfold bB at h; exact h.elim
     ·unfold bB at h; exact h.elim
    case min => unfold bB at h ⊢; simp only at h ⊢; rw [← ha]; exact h
    case max => unfold bB at h ⊢; simp only at h ⊢; rw [← ha]; exact h
    case real => unfold bB at h ⊢; simp only at h ⊢; rw [← ha]; exact h
    case imag => unfold bB at h ⊢; simp only at h ⊢; rw [← ha]; exact h
    case complex => unfold bB at h ⊢; simp only at h ⊢; rw [← ha]; exact h
    all_goals (unfold bB at h; exact h.elim)
   | value f => unfold bB at h; exact h.elim
   | invoke r m => unfold bB at h; exact h.elim
  | _ => first | (exfalso; exact hs rfl) | (unfold bB at h; exact h.elim)
theorem ZB {op : Op} {K : AV → Prop} (hm : m3 s.m s'.m) (he : ∀ x ∈ op.operands, ev s x = ev s' x) (h : jT C s op K) : jT C s' op K := by
 by_cases hs : gA op = true
 ·exact ZC hs he h
 ·cases op with
  | lookup t x ix ok =>
   have h0 : jN C (C.td t) (iV s (ev s x)) (gQ (ev s ix)) ok K := h
   show jN C (C.td t) (iV s' (ev s' x)) (gQ (ev s' ix)) ok K
   rw [← he x (by simp [Op.operands]), ← he ix (by simp [Op.operands])]
   unfold jN at h0 ⊢
   split at h0
   ·rename_i kt e es key e1 e2 e3
    rw [zgp hm e2, e1, e3]
    exact h0
   ·exact h0.elim
  | _ => first | (exfalso; exact hs rfl) | exact zig (C := C) (K := K) hm he h
end Go.AE
