/- A part of the abstract evaluator: no condition. -/
import Derived.Test.YtoppecphhiiiiaaGreatDoorAERegS
set_option linter.unusedVariables false
set_option linter.unusedSimpArgs false
namespace Go.AE
variable {C : Ctx} {s s' : St}
theorem z9l {i : TI} {cs : List AV} {off : Nat} {K : AV → Prop} (h : z3e i cs off K) : ∃ x, K x ∧ ∀ K' : AV → Prop, K' x → z3e i cs off K' := by
 unfold z3e at h ⊢
 cases ha : i.agg <;> rw [ha] at h <;> exact ⟨_, h.2, fun K' hk => ⟨h.1, hk⟩⟩
theorem y07j {d : TypeDesc} {x : AV} {K : AV → Prop} (h : zd7 d x K) : ∃ x', K x' ∧ ∀ K' : AV → Prop, K' x' → zd7 d x K' := by
 unfold zd7 at h ⊢
 split at h <;> first | exact h.elim | exact ⟨_, h, fun K' hk => hk⟩
theorem y0b2 {o : Option Nat} {K : Value → Prop} (h : fout o K) : ∃ x', K x' ∧ ∀ K' : Value → Prop, K' x' → fout o K' := by
 cases o with
 | none => exact h.elim
 | some r => exact ⟨_, h, fun K' hk => hk⟩
theorem y0ao {o p : Option Nat} {K : Value → Prop} (h : cout o p K) : ∃ x', K x' ∧ ∀ K' : Value → Prop, K' x' → cout o p K' := by
 cases o with
 | none => exact h.elim
 | some r =>
   cases p with
   | none => exact h.elim
   | some q => exact ⟨_, h, fun K' hk => hk⟩
theorem y0ay {op : BinOp} {a b : Nat} {K : Value → Prop} (h : fbin op a b K) : ∃ x', K x' ∧ ∀ K' : Value → Prop, K' x' → fbin op a b K' := by
 unfold fbin at h ⊢
 split at h
 all_goals first
   | exact h.elim
   | exact y0b2 h
   | exact ⟨_, h, fun K' hk => hk⟩
theorem y0al {op : BinOp} {a b c d : Nat} {K : Value → Prop} (h : cbin op a b c d K) : ∃ x', K x' ∧ ∀ K' : Value → Prop, K' x' → cbin op a b c d K' := by
 unfold cbin at h ⊢
 split at h
 all_goals first
   | exact h.elim
   | exact y0ao h
   | exact ⟨_, h, fun K' hk => hk⟩
theorem y0gy {k : IntKind} {b : Nat} {K : Value → Prop} (h : f2i k b K) : ∃ x', K x' ∧ ∀ K' : Value → Prop, K' x' → f2i k b K' := by
 unfold f2i at h ⊢
 cases e : (FloatKind.f64.decode b).toInt .zero with
 | none => rw [e] at h; exact h.elim
 | some n => rw [e] at h; exact ⟨_, h.2.2, fun K' hk => ⟨h.1, h.2.1, hk⟩⟩
theorem y08v {x : AV} {K : Value → Prop} (h : y08u x K) : ∃ x', K x' ∧ ∀ K' : Value → Prop, K' x' → y08u x K' := by
 unfold y08u at h ⊢
 split at h
 · exact ⟨_, h, fun K' hk => hk⟩
 · exact h.elim
theorem y06y {x : AV} {K : Value → Prop} (h : y06x x K) : ∃ x', K x' ∧ ∀ K' : Value → Prop, K' x' → y06x x K' := by
 unfold y06x at h ⊢
 split at h
 · exact ⟨_, h, fun K' hk => hk⟩
 · exact h.elim
theorem y05l {x y : AV} {K : Value → Prop} (h : y05k x y K) : ∃ x', K x' ∧ ∀ K' : Value → Prop, K' x' → y05k x y K' := by
 unfold y05k at h ⊢
 split at h
 · exact ⟨_, h, fun K' hk => hk⟩
 · exact h.elim
theorem y0gc {op : BinOp} {a b : Value} {K : Value → Prop} (h : bin op a b K) : ∃ x', K x' ∧ ∀ K' : Value → Prop, K' x' → bin op a b K' := by
 unfold bin at h ⊢
 split at h <;> first
   | exact h.elim
   | exact y0ay h
   | exact y0al h
   | exact ⟨_, h, fun K' hk => hk⟩
   | exact ⟨_, h.2, fun K' hk => ⟨h.1, hk⟩⟩
   | exact ⟨_, h.2.2, fun K' hk => ⟨h.1, h.2.1, hk⟩⟩
theorem y0na {op : UnOp} {a : Value} {K : Value → Prop} (h : un op a K) : ∃ x', K x' ∧ ∀ K' : Value → Prop, K' x' → un op a K' := by
 unfold un at h ⊢
 split at h <;> first | exact h.elim | exact ⟨_, h, fun K' hk => hk⟩
theorem zde {op : Op} {K : AV → Prop} (h : z06 C s op K) : ∃ x, K x ∧ ∀ K' : AV → Prop, K' x → z06 C s op K' := by
 unfold z06 at h
 split at h
 all_goals try (exact h.elim)
 all_goals try (exact ⟨_, h, fun K' hk => by unfold z06; exact hk⟩)
 ·
   split at h
   · rename_i t heq
     cases t with
     | true => exact ⟨_, h.1 rfl, fun K' hk => by unfold z06; simp only [heq]; exact ⟨fun _ => hk, fun h => by simp at h⟩⟩
     | false => exact ⟨_, h.2 rfl, fun K' hk => by unfold z06; simp only [heq]; exact ⟨fun h => by simp at h, fun _ => hk⟩⟩
   · exact h.elim
 ·
   split at h
   · rename_i p q e1 e2
     split at h
     · exact ⟨_, h.2, fun K' hk => by unfold z06; simp only [e1, e2]; exact ⟨h.1, hk⟩⟩
     · exact ⟨_, h.2, fun K' hk => by unfold z06; simp only [e1, e2]; exact ⟨h.1, hk⟩⟩
     · exact h.elim
   · rename_i p q hne e1 e2
     obtain ⟨x', h1, h2⟩ := y0gc h
     refine ⟨_, h1, fun K' hk => ?_⟩
     have h3 := h2 (kv K') hk
     unfold z06
     simp only [e1, e2]
     exact h3
   · exact h.elim
 ·
   split at h
   · rename_i p e1
     obtain ⟨x', h1, h2⟩ := y0na h
     exact ⟨_, h1, fun K' hk => by unfold z06; simp only [e1]; exact h2 (kv K') hk⟩
   · exact h.elim
 ·
   split at h
   · rename_i xs e1
     exact ⟨_, h.2, fun K' hk => by unfold z06; simp only [e1]; exact ⟨h.1, hk⟩⟩
   · exact h.elim
 ·
   split at h
   · rename_i e0 e1 e2
     exact ⟨_, h.2.2, fun K' hk => by unfold z06; simp only [e0, e1, e2]; exact ⟨h.1, h.2.1, hk⟩⟩
   · rename_i e0 e1 e2
     obtain ⟨h0, h1, h⟩ := h
     split at h
     · rename_i e3
       obtain ⟨x', h3, h4⟩ := z9l h
       exact ⟨_, h3, fun K' hk => by unfold z06; simp only [e0, e1, e2, e3]; exact ⟨h0, h1, h4 K' hk⟩⟩
     · exact h.elim
   · exact h.elim
 ·
   split at h
   all_goals try (exact h.elim)
   all_goals
     rename_i e0 e1 e2
     obtain ⟨h0, h1, h⟩ := h
     split at h
     · rename_i e3
       exact ⟨_, h, fun K' hk => by unfold z06; simp only [e0, e1, e2, e3]; exact ⟨h0, h1, hk⟩⟩
     · exact h.elim
 ·
   split at h
   · rename_i e0 e1
     obtain ⟨x', h3, h4⟩ := z9l h
     exact ⟨_, h3, fun K' hk => by unfold z06; simp only [e0, e1]; exact h4 K' hk⟩
   · rename_i e0 e1
     split at h
     all_goals try (exact h.elim)
     all_goals
       rename_i e3
       obtain ⟨x', h3, h4⟩ := z9l h
       exact ⟨_, h3, fun K' hk => by unfold z06; simp only [e0, e1, e3]; exact h4 K' hk⟩
   · exact h.elim
 ·
   split at h
   · rename_i e0 e1
     obtain ⟨x', h3, h4⟩ := z9l h
     exact ⟨_, h3, fun K' hk => by unfold z06; simp only [e0, e1]; exact h4 K' hk⟩
   · exact h.elim
 ·
   split at h
   all_goals try (exact h.elim)
   all_goals
     rename_i e0 e1
     exact ⟨_, h.2, fun K' hk => by unfold z06; simp only [e0, e1]; exact ⟨h.1, hk⟩⟩
 ·
   split at h
   all_goals try (exact h.elim)
   all_goals
     rename_i e1
     exact ⟨_, h, fun K' hk => by unfold z06; simp only [e1]; exact hk⟩
 ·
   split at h
   all_goals try (exact h.elim)
   · rename_i e0 e1 e2
     exact ⟨_, h, fun K' hk => by unfold z06; simp only [e0, e1, e2]; exact hk⟩
   · rename_i e0 e1 e2
     exact ⟨_, h, fun K' hk => by unfold z06; simp only [e0, e1, e2]; exact hk⟩
   · rename_i e0 e1 e2
     exact ⟨_, h, fun K' hk => by unfold z06; simp only [e0, e1, e2]; exact hk⟩
   · rename_i e0 e1 e2
     exact ⟨_, h, fun K' hk => by unfold z06; simp only [e0, e1, e2]; exact hk⟩
   · rename_i e0 e1 e2
     obtain ⟨x', h1, h2⟩ := y0gy h
     exact ⟨_, h1, fun K' hk => by unfold z06; simp only [e0, e1, e2]; exact h2 (kv K') hk⟩
   · rename_i e0 e1
     obtain ⟨he, h⟩ := h
     split at h
     · rename_i e3
       split at h
       · rename_i e4
         exact ⟨_, h.2, fun K' hk => by unfold z06; simp only [e0, e1, e3, e4]; exact ⟨he, h.1, hk⟩⟩
       · exact h.elim
     · exact h.elim
 ·
   split at h
   all_goals try (exact h.elim)
   · rename_i e0 e1
     split at h
     all_goals try (exact h.elim)
     · rename_i e2 e3
       exact ⟨_, h, fun K' hk => by unfold z06; simp only [e0, e1, e2, e3]; exact hk⟩
     · rename_i e2 e3
       exact ⟨_, h.2.2, fun K' hk => by unfold z06; simp only [e0, e1, e2, e3]; exact ⟨h.1, h.2.1, hk⟩⟩
     · rename_i e2 e3
       exact ⟨_, h.2.2, fun K' hk => by unfold z06; simp only [e0, e1, e2, e3]; exact ⟨h.1, h.2.1, hk⟩⟩
     · rename_i e2 e3
       exact ⟨_, h.2.2.2, fun K' hk => by unfold z06; simp only [e0, e1, e2, e3]; exact ⟨h.1, h.2.1, h.2.2.1, hk⟩⟩
   · rename_i e0 e1
     split at h
     · rename_i e4
       split at h
       all_goals try (exact h.elim)
       · rename_i e2 e3
         exact ⟨_, h, fun K' hk => by unfold z06; simp only [e0, e1, e2, e3, e4]; exact hk⟩
       · rename_i e2 e3
         exact ⟨_, h.2.2.2, fun K' hk => by unfold z06; simp only [e0, e1, e2, e3, e4]; exact ⟨h.1, h.2.1, h.2.2.1, hk⟩⟩
       · rename_i e2 e3
         exact ⟨_, h.2.2.2, fun K' hk => by unfold z06; simp only [e0, e1, e2, e3, e4]; exact ⟨h.1, h.2.1, h.2.2.1, hk⟩⟩
       · rename_i e2 e3
         exact ⟨_, h.2.2.2.2, fun K' hk => by unfold z06; simp only [e0, e1, e2, e3, e4]; exact ⟨h.1, h.2.1, h.2.2.1, h.2.2.2.1, hk⟩⟩
     · exact h.elim
   · rename_i e0 e1
     split at h
     · rename_i e4
       split at h
       all_goals try (exact h.elim)
       · rename_i e2 e3
         exact ⟨_, h, fun K' hk => by unfold z06; simp only [e0, e1, e2, e3, e4]; exact hk⟩
       · rename_i e2 e3
         exact ⟨_, h.2.2.2, fun K' hk => by unfold z06; simp only [e0, e1, e2, e3, e4]; exact ⟨h.1, h.2.1, h.2.2.1, hk⟩⟩
       · rename_i e2 e3
         exact ⟨_, h.2.2, fun K' hk => by unfold z06; simp only [e0, e1, e2, e3, e4]; exact ⟨h.1, h.2.1, hk⟩⟩
       · rename_i e2 e3
         exact ⟨_, h.2.2.2.2, fun K' hk => by unfold z06; simp only [e0, e1, e2, e3, e4]; exact ⟨h.1, h.2.1, h.2.2.1, h.2.2.2.1, hk⟩⟩
     · exact h.elim
 ·
   split at h
   · rename_i e0 e1
     split at h
     · rename_i e2
       obtain ⟨x', h3, h4⟩ := y07j h
       exact ⟨_, h3, fun K' hk => by unfold z06; simp only [e0, e1, e2]; exact h4 K' hk⟩
     · exact h.elim
   · exact h.elim
 · split at h
   · rename_i e0
     exact ⟨_, h.2, fun K' hk => by unfold z06; simp only [e0]; exact ⟨h.1, hk⟩⟩
   · exact h.elim
 · split at h
   · rename_i e0
     exact ⟨_, h.2, fun K' hk => by unfold z06; simp only [e0]; exact ⟨h.1, hk⟩⟩
   · exact h.elim
 · split at h
   · rename_i e0
     obtain ⟨x', h1, h2⟩ := y08v h
     exact ⟨_, h1, fun K' hk => by unfold z06; simp only [e0]; exact h2 (kv K') hk⟩
   · exact h.elim
 · split at h
   · rename_i e0
     obtain ⟨x', h1, h2⟩ := y06y h
     exact ⟨_, h1, fun K' hk => by unfold z06; simp only [e0]; exact h2 (kv K') hk⟩
   · exact h.elim
 · split at h
   · rename_i e0
     obtain ⟨x', h1, h2⟩ := y05l h
     exact ⟨_, h1, fun K' hk => by unfold z06; simp only [e0]; exact h2 (kv K') hk⟩
   · exact h.elim
theorem zx3 {C : Ctx} {fs : List Field} : ∀ {l : List (Nat × AV)} {cs : List AV} {K : List AV → Prop}, z1y C fs cs l K → ∃ x, K x ∧ ∀ K' : List AV → Prop, K' x → z1y C fs cs l K'
 | [], cs, K, h => ⟨_, h, fun _ hk => hk⟩
 | (j, x) :: l, cs, K, h => by
   simp only [z1y] at h
   split at h
   · rename_i fd hfd
     split at h
     · rename_i i hi
       obtain ⟨h1, h2, h3, h4⟩ := h
       obtain ⟨y, k1, k2⟩ := zx3 h4
       exact ⟨y, k1, fun K' hk => by simp only [z1y, hfd, hi]; exact ⟨h1, h2, h3, k2 K' hk⟩⟩
     · exact h.elim
   · exact h.elim
theorem y05d {i : Option TI} {ps : List (Nat × AV)} {K : AV → Prop} (h : z66 C i ps K) : ∃ x, K x ∧ ∀ K' : AV → Prop, K' x → z66 C i ps K' := by
 unfold z66 at h
 split at h
 · rename_i i
   split at h
   · rename_i fs hfs
     obtain ⟨h1, h2⟩ := h
     obtain ⟨y, k1, k2⟩ := zx3 h2
     exact ⟨.ag y, k1, fun K' hk => by unfold z66; simp only [hfs]; exact ⟨h1, k2 (kag K') hk⟩⟩
   · exact h.elim
 · exact h.elim
theorem y0bg {d : Option TypeDesc} {es : Option (List (Value × AV))} {k : Option Value} {ok : Bool} {K : AV → Prop} (h : z5h C d es k ok K) : ∃ x, K x ∧ ∀ K' : AV → Prop, K' x → z5h C d es k ok K' := by
 unfold z5h at h
 split at h
 · rename_i kt e es key
   split at h
   · rename_i ie hie
     obtain ⟨h1, h2, h3⟩ := h
     cases hg : mget key es with
     | none =>
       rw [hg] at h3
       exact ⟨_, h3, fun K' hk => by simp only [z5h, hie, hg]; exact ⟨h1, h2, hk⟩⟩
     | some x =>
       rw [hg] at h3
       exact ⟨_, h3, fun K' hk => by simp only [z5h, hie, hg]; exact ⟨h1, h2, hk⟩⟩
   · exact h.elim
 · exact h.elim
theorem zxw {x : AV} {K : Bool → Prop} (h : zt7 x K) : ∃ b, K b ∧ ∀ K' : Bool → Prop, K' b → zt7 x K' := by
 unfold zt7 at h
 split at h
 · exact ⟨_, h.2, fun K' hk => ⟨h.1, hk⟩⟩
 · exact ⟨_, h.2, fun K' hk => ⟨h.1, hk⟩⟩
 · exact ⟨_, h, fun K' hk => hk⟩
 · exact ⟨_, h, fun K' hk => hk⟩
 · exact h.elim
theorem y0ai {op : BinOp} {t : Nat} {x y : AV} {K : AV → Prop} {D : (AV → Prop) → Prop} (h : z58 C op t x y K (D K)) (hD : D K → ∃ x, K x ∧ ∀ K' : AV → Prop, K' x → D K') :
   ∃ z, K z ∧ ∀ K' : AV → Prop, K' z → z58 C op t x y K' (D K') := by
 unfold z58 at h
 split at h
 · split at h
   · rename_i e1 e2
     exact ⟨_, h.2.2, fun K' hk => by simp only [z58, e1, e2]; exact ⟨h.1, h.2.1, hk⟩⟩
   · rename_i e1 e2
     exact ⟨_, h.2.2, fun K' hk => by simp only [z58, e1, e2]; exact ⟨h.1, h.2.1, hk⟩⟩
   · exact h.elim
 · split at h
   · rename_i e1
     exact ⟨_, h, fun K' hk => by simp only [z58, e1]; exact hk⟩
   · rename_i e1
     exact ⟨_, h, fun K' hk => by simp only [z58, e1]; exact hk⟩
   · exact h.elim
 · split at h
   · rename_i e1
     exact ⟨_, h, fun K' hk => by simp only [z58, e1]; exact hk⟩
   · rename_i e1
     exact ⟨_, h, fun K' hk => by simp only [z58, e1]; exact hk⟩
   · exact h.elim
 · split at h
   · rename_i e1
     obtain ⟨z, k1, k2⟩ := zxw h
     exact ⟨_, k1, fun K' hk => by unfold z58; simp only [e1]; exact k2 _ hk⟩
   · rename_i e1
     obtain ⟨z, k1, k2⟩ := zxw h
     exact ⟨_, k1, fun K' hk => by unfold z58; simp only [e1]; exact k2 _ hk⟩
   · exact h.elim
 · rename_i h4 h1 h2 h3
   obtain ⟨z, k1, k2⟩ := hD h
   refine ⟨z, k1, fun K' hk => ?_⟩
   unfold z58
   split
   · rename_i cs ds; exact absurd rfl (h1 cs ds rfl)
   · rename_i f fa fb; exact absurd rfl (h2 f fa fb rfl)
   · exact absurd rfl (h3 rfl)
   · exact absurd rfl h4
   · exact k2 K' hk
theorem zqf {op : Op} {K : AV → Prop} (h : zay C s op K) : ∃ x, K x ∧ ∀ K' : AV → Prop, K' x → zay C s op K' := by
 unfold zay at h
 split at h
 · exact y05d h
 · exact y0bg h
 · exact y0ai (D := fun K => z06 C s (.binOp _ _ _ _ _) K) h zde
 · rename_i h1 h2 h3
   obtain ⟨z, k1, k2⟩ := zde h
   refine ⟨z, k1, fun K' hk => ?_⟩
   unfold zay
   split
   · rename_i t ps; exact absurd rfl (h1 t ps)
   · rename_i t x ix ok; exact absurd rfl (h2 t x ix ok)
   · rename_i o t x y u; exact absurd rfl (h3 o t x y u)
   · exact k2 K' hk
theorem y07m {sz : Nat} : ∀ {ps : List (Nat × AV)} {i : Nat} {K : List AV → Prop}, z29 sz i ps K → ∃ cs, K cs ∧ ∀ K' : List AV → Prop, K' cs → z29 sz i ps K'
 | [], i, K, h => ⟨[], h, fun _ hk => hk⟩
 | (j, x) :: l, i, K, h => by
   simp only [z29] at h
   obtain ⟨h1, h2, h3, h4⟩ := h
   obtain ⟨cs, k1, k2⟩ := y07m h4
   exact ⟨_, k1, fun K' hk => by simp only [z29]; exact ⟨h1, h2, h3, k2 (kapp K' (z0i x)) hk⟩⟩
theorem y08t {op : Op} {K : AV → Prop} (h : z3p C s op K) : ∃ x, K x ∧ ∀ K' : AV → Prop, K' x → z3p C s op K' := by
 unfold z3p at h
 split at h
 · rename_i t len parts
   unfold y0f4 at h
   split at h
   · rename_i e ht
     split at h
     · rename_i i hi
       obtain ⟨h1, h2, h3, h4⟩ := h
       obtain ⟨cs, k1, k2⟩ := y07m h4
       exact ⟨_, k1, fun K' hk => by simp only [z3p, y0f4, ht, hi]; exact ⟨h1, h2, h3, k2 _ hk⟩⟩
     · exact h.elim
   · exact h.elim
 · rename_i hne
   obtain ⟨x, k1, k2⟩ := zqf h
   refine ⟨x, k1, fun K' hk => ?_⟩
   unfold z3p
   split
   · rename_i t len ps; exact absurd rfl (hne t len ps)
   · exact k2 K' hk
theorem zb2 {op : Op} {K : AV → Prop} (hs : z1g op = true) (he : ∀ x ∈ op.operands, ev s x = ev s' x) (h : z06 C s op K) : z06 C s' op K := by
 cases op with
 | makeFunc fn first cap =>
   have h1 : first.toList.map (ev s) = first.toList.map (ev s') := List.map_congr_left fun x hx => he x (by simp [Op.operands]; exact .inl (by simpa using hx))
   have h2 : cap.toList.map (ev s) = cap.toList.map (ev s') := List.map_congr_left fun x hx => he x (by simp [Op.operands]; exact .inr (by simpa using hx))
   cases fn with
   | func f => unfold z06 at h ⊢; simp only at h ⊢; rw [← h1, ← h2]; exact h
   | _ => unfold z06 at h; exact h.elim
 | slice t x lo hi mx =>
   have hx := he x (by simp [Op.operands])
   have hl : lo.map (ev s) = lo.map (ev s') := by cases lo with | none => rfl | some l => simp [he l (by simp [Op.operands])]
   have hh : hi.map (ev s) = hi.map (ev s') := by cases hi with | none => rfl | some l => simp [he l (by simp [Op.operands])]
   cases mx with
   | none => unfold z06 at h ⊢; simp only at h ⊢; rw [← hx, ← hl, ← hh]; exact h
   | some m => unfold z06 at h; exact h.elim
 | move x =>
   have hx := he x (by simp [Op.operands])
   have h : K (ev s x) := h
   rw [hx] at h; exact h
 | assign x =>
   have hx := he x (by simp [Op.operands])
   have h : K (ev s x) := h
   rw [hx] at h; exact h
 | pick c x y => unfold z06 at h ⊢; simp only at h ⊢; rw [← he c (by simp [Op.operands]), ← he x (by simp [Op.operands]), ← he y (by simp [Op.operands])]; exact h
 | binOp op t x y ty => unfold z06 at h ⊢; simp only at h ⊢; rw [← he x (by simp [Op.operands]), ← he y (by simp [Op.operands])]; exact h
 | unOp op t x => unfold z06 at h ⊢; simp only at h ⊢; rw [← he x (by simp [Op.operands])]; exact h
 | extract x i => unfold z06 at h ⊢; simp only at h ⊢; rw [← he x (by simp [Op.operands])]; exact h
 | index t x y => unfold z06 at h ⊢; simp only at h ⊢; rw [← he x (by simp [Op.operands]), ← he y (by simp [Op.operands])]; exact h
 | indexAddr t x y => unfold z06 at h ⊢; simp only at h ⊢; rw [← he x (by simp [Op.operands]), ← he y (by simp [Op.operands])]; exact h
 | field t x f => unfold z06 at h ⊢; simp only at h ⊢; rw [← he x (by simp [Op.operands])]; exact h
 | fieldAddr t x f => unfold z06 at h ⊢; simp only at h ⊢; rw [← he x (by simp [Op.operands])]; exact h
 | nilCheck x => unfold z06 at h ⊢; simp only at h ⊢; rw [← he x (by simp [Op.operands])]; exact h
 | build t ps => unfold z06 at h; exact h.elim
 | buildSlice t n ps => unfold z06 at h; exact h.elim
 | _ => simp [z1g] at hs
theorem ztg {op : Op} {K : AV → Prop} (hs : z1g op = true) (he : ∀ x ∈ op.operands, ev s x = ev s' x) (h : zay C s op K) : zay C s' op K := by
 unfold zay at h
 split at h
 · rename_i t parts
   have h1 : parts.toList.map (fun p => (p.1, ev s p.2)) = parts.toList.map fun p => (p.1, ev s' p.2) := List.map_congr_left fun p hp => by
     rw [he p.2 (by simp [Op.operands]; exact ⟨p.1, by simpa using hp⟩)]
   rw [h1] at h
   exact h
 · simp [z1g] at hs
 · rename_i o t x y u
   have h0 := he x (by simp [Op.operands])
   have h1 := he y (by simp [Op.operands])
   rw [h0, h1] at h
   show z58 C o t (ev s' x) (ev s' y) K (z06 C s' (.binOp o t x y u) K)
   have e : z06 C s (.binOp o t x y u) K = z06 C s' (.binOp o t x y u) K := by
     unfold z06; simp only [h0, h1]
   rw [← e]; exact h
 · rename_i h1 h2 h3
   have := zb2 hs he h
   unfold zay
   split
   · rename_i t ps; exact absurd rfl (h1 t ps)
   · rename_i t x ix ok; exact absurd rfl (h2 t x ix ok)
   · rename_i o t x y u; exact absurd rfl (h3 o t x y u)
   · exact this
theorem zhk {op : Op} {K : AV → Prop} (hs : z1g op = true) (he : ∀ x ∈ op.operands, ev s x = ev s' x) (h : z3p C s op K) : z3p C s' op K := by
 unfold z3p at h
 split at h
 · rename_i t len parts
   have h1 : parts.toList.map (fun p => (p.1, ev s p.2)) = parts.toList.map fun p => (p.1, ev s' p.2) := List.map_congr_left fun p hp => by
     rw [he p.2 (by simp [Op.operands]; exact ⟨p.1, by simpa using hp⟩)]
   rw [h1] at h
   exact h
 · rename_i hne
   have := ztg hs he h
   unfold z3p
   split
   · rename_i t len ps; exact absurd rfl (hne t len ps)
   · exact this
def y049 (m m' : List Ob) : Prop := ∀ id, (∀ _ : obj m id = .dead, False) → obj m' id = obj m id
theorem y049.refl (m : List Ob) : y049 m m := fun _ _ => rfl
theorem zs0 (hm : y049 s.m s'.m) {sz : Nat} {x : AV} {r : Nat × List AV} (h : z2q s sz x = some r) : z2q s' sz x = some r := by
 unfold z2q at h ⊢
 split
 · exact h
 · exact h
 · exact h
 · rename_i id off len
   simp only at h
   rw [hm id (fun e => by rw [e] at h; simp at h)]
   exact h
 · rename_i h1 h2 h4 h3
   split at h
   · rename_i n cs; exact absurd rfl (h1 n cs)
   · exact absurd rfl h2
   · rename_i a b c; exact absurd rfl (h4 a b c)
   · rename_i a b c; exact absurd rfl (h3 a b c)
   · exact h
theorem y07t (hm : y049 s.m s'.m) {x : AV} {r : List (Value × AV)} (h : z8k s x = some r) : z8k s' x = some r := by
 unfold z8k at h ⊢
 split
 · exact h
 · rename_i id
   simp only at h
   rw [hm id (fun e => by rw [e] at h; simp at h)]
   exact h
 · exact h
 · rename_i h1 h2 h3
   split at h
   · rename_i es; exact absurd rfl (h1 es)
   · rename_i id; exact absurd rfl (h2 id)
   · exact absurd rfl h3
   · exact h
theorem y0bf {t : Nat} {x : Operand} {K : AV → Prop} (hm : y049 s.m s'.m) (hx : ev s x = ev s' x) (h : z06 C s (.load t x) K) : z06 C s' (.load t x) K := by
 unfold z06 at h ⊢
 simp only at h ⊢
 rw [← hx]
 split
 · rename_i e1 e2; rw [e1, e2] at h; exact h
 · rename_i i id off e1 e2
   rw [e1, e2] at h
   simp only at h
   rw [hm id (fun e => by rw [e] at h; exact h)]
   exact h
 · rename_i h1 h2
   split at h
   · rename_i i cs e1 e2; exact absurd e2 (h1 i cs e1)
   · rename_i i id off e1 e2; exact absurd e2 (h2 i id off e1)
   · exact h
theorem y00x {op : Op} {K : AV → Prop} (hm : y049 s.m s'.m) (he : ∀ x ∈ op.operands, ev s x = ev s' x) (h : z06 C s op K) : z06 C s' op K := by
 by_cases hs : z1g op = true
 · exact zb2 hs he h
 · cases op with
   | load t x => exact y0bf hm (he x (by simp [Op.operands])) h
   | convert src dst x =>
     unfold z06 at h ⊢; simp only at h ⊢; rw [← he x (by simp [Op.operands])]
     split
     · rename_i e1 e2 e3; rw [e1, e2, e3] at h; exact h
     · rename_i e1 e2 e3; rw [e1, e2, e3] at h; exact h
     · rename_i e1 e2 e3; rw [e1, e2, e3] at h; exact h
     · rename_i e1 e2 e3; rw [e1, e2, e3] at h; exact h
     · rename_i e1 e2 e3; rw [e1, e2, e3] at h; exact h
     · rename_i e e1 e2
       rw [e1, e2] at h
       simp only at h
       refine ⟨h.1, ?_⟩
       have h := h.2
       split at h
       · rename_i n cs ec
         rw [zs0 hm ec]
         exact h
       · exact h.elim
     · split at h
       all_goals first | exact h.elim | (exfalso; simp_all; done) | (exfalso; rename_i hn _ _ _; exact hn _ _ _ _ rfl rfl rfl rfl) | (exfalso; simp_all; rename_i hn _ _ _; exact hn _ _ _ _ rfl rfl rfl rfl)
   | call c =>
     obtain ⟨callee, args, ats⟩ := c
     have ha : args.toList.map (ev s) = args.toList.map (ev s') := List.map_congr_left fun x hx => he x (by simp [Op.operands, Call.operands]; exact .inr (by simpa using hx))
     cases callee with
     | builtin b =>
       cases b
       case len =>
         obtain ⟨args⟩ := args
         obtain ⟨ats⟩ := ats
         rcases args with _ | ⟨x, _ | ⟨y, args⟩⟩
         · unfold z06 at h; exact h.elim
         · rcases ats with _ | ⟨t, _ | ⟨u, ats⟩⟩
           · unfold z06 at h; exact h.elim
           · have hx := he x (by simp [Op.operands, Call.operands])
             unfold z06 at h ⊢
             simp only at h ⊢
             rw [← hx]; exact h
           · unfold z06 at h; exact h.elim
         · unfold z06 at h; exact h.elim
       case min => unfold z06 at h ⊢; simp only at h ⊢; rw [← ha]; exact h
       case max => unfold z06 at h ⊢; simp only at h ⊢; rw [← ha]; exact h
       case real => unfold z06 at h ⊢; simp only at h ⊢; rw [← ha]; exact h
       case imag => unfold z06 at h ⊢; simp only at h ⊢; rw [← ha]; exact h
       case complex => unfold z06 at h ⊢; simp only at h ⊢; rw [← ha]; exact h
       all_goals (unfold z06 at h; exact h.elim)
     | value f => unfold z06 at h; exact h.elim
     | invoke r m => unfold z06 at h; exact h.elim
   | _ => first | (exfalso; exact hs rfl) | (unfold z06 at h; exact h.elim)
theorem zql {op : Op} {K : AV → Prop} (hm : y049 s.m s'.m) (he : ∀ x ∈ op.operands, ev s x = ev s' x) (h : z3p C s op K) : z3p C s' op K := by
 by_cases hs : z1g op = true
 · exact zhk hs he h
 · cases op with
   | lookup t x ix ok =>
     have h0 : z5h C (C.td t) (z8k s (ev s x)) (z3g (ev s ix)) ok K := h
     show z5h C (C.td t) (z8k s' (ev s' x)) (z3g (ev s' ix)) ok K
     rw [← he x (by simp [Op.operands]), ← he ix (by simp [Op.operands])]
     unfold z5h at h0 ⊢
     split at h0
     · rename_i kt e es key e1 e2 e3
       rw [y07t hm e2, e1, e3]
       exact h0
     · exact h0.elim
   | _ => first | (exfalso; exact hs rfl) | exact y00x (C := C) (K := K) hm he h
end Go.AE
