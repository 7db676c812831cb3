/- A part of the abstract evaluator: no condition. -/
import Derived.Test.YtoppecphhiiiiaaGreatDoorAELend
set_option linter.unusedVariables false
set_option linter.unusedSimpArgs false
namespace Go.AE
section
variable {N : Nat} {C : Ctx} {P : Program} {V : z2e} {w0 w w' : World} {s : St} {G : Gh} {F : Nat → Prop} {a : Act}
theorem y0g9 {Gc : Gh} {x : Option Loc} {e sz sz' : Nat} {cs : List AV} (hpos : 0 < cs.length) (h : z1w w F G x (.arr e sz cs)) : z1w w F Gc x (.row false sz' cs) := by
 obtain ⟨n, vs, hown, hr, h1, hsz, hL⟩ := h
 have hl := hr.length
 cases x with
 | none =>
   rcases hown.2 with ⟨_, hn⟩ | ⟨_, _, _, h5, _⟩
   · have := hown.1; rw [hn, Nat.zero_mul] at this; omega
   · simp [slv] at h5
 | some L =>
   refine ⟨L, vs, rfl, ?_, hr⟩
   rcases hown.2 with ⟨h5, _⟩ | ⟨g, cap, cur, h5, _, hh, hn, hm, hs, ht⟩
   · simp [slv] at h5
   · simp [slv] at h5
     obtain ⟨rfl, rfl⟩ := h5
     have hL0 := hL L rfl
     have hle : vs.length ≤ cur.size := by rw [← ht]; simp; omega
     refine ⟨cur, e, (0, 0), hh, by omega, fun i hi => ?_, fun i hi => by simp, h1⟩
     rw [hL0, Nat.zero_add, ← ht, List.getElem?_take_of_lt (by rw [← hown.1]; exact hi)]
     simp
theorem zil (m0 : List Ob) (i : Nat) (h : i < m0.length) (o : Ob) : obj (m0 ++ [o]) i = obj m0 i := z2n _ _ _ h
theorem z4y {k : Nat} {ρ : Nat → Nat} {o p : Ob} (h : z0a k ρ o p) : o ≠ .dead ∧ o ≠ .fence := by
 cases o <;> cases p <;> simp_all [z0a]
theorem z4k {k : Nat} {ρ : Nat → Nat} {o p : Ob} (h : z0a k ρ o p) (hp : z8g p = false) : ∃ e sz cs, o = .arr e sz cs ∧ p = .arr e sz cs := by
 cases o with
 | arr e sz cs => cases p with
   | arr e' sz' cs' => simp only [z0a] at h; obtain ⟨rfl, rfl, rfl⟩ := h; exact ⟨_, _, _, rfl, rfl⟩
   | row k' sz' cs' => simp [z8g] at hp
   | _ => cases h
 | row k' sz cs => cases p with
   | row k' sz' cs' => simp [z8g] at hp
   | _ => cases k' <;> cases h
 | _ => cases p <;> cases h
def ghL (G : Gh) (σ : List Nat) : Gh := σ.map fun j => (G[j]?).getD none
theorem zn4 (h : Rel P N V w0 s G F a w) {σ : List Nat} {m0 : List Ob} {k : Nat} {ρ : Nat → Nat} (hl : z04 k ρ s.m σ m0) (i : Nat) (hi : i < σ.length) : (ghL G σ)[i]? = G[σ[i]]? := by
 have h2 := (z7c hl).2 i hi
 have hlt : σ[i] < G.length := by rw [h.len]; exact zy1 (z4y h2).1
 simp [ghL, hi, hlt]
theorem z9e (h : Rel P N V w0 s G F a w) {σ : List Nat} {m0 : List Ob} {n : Nat} (hn : z3d σ = true) (hl : z04 σ.length (z6c σ n) s.m σ m0) :
   Rel P 0 (VL F m0 (ghL G σ)) w ⟨[], m0 ++ [.fence]⟩ (ghL G σ ++ [none]) F { tmps := #[], defers := [] } w := by
 obtain ⟨hlen, hob⟩ := z7c hl
 have hgl : (ghL G σ).length = σ.length := by simp [ghL]
 have hget := zn4 h hl
 have hG : ∀ i x, (ghL G σ)[i]? = some x → ∃ hi : i < σ.length, G[σ[i]]? = some x := by
   intro i x hx
   have hi : i < σ.length := by rw [← hgl]; exact (List.getElem?_eq_some_iff.1 hx).1
   exact ⟨hi, by rw [← hget i hi]; exact hx⟩
 have hsplit : ∀ (id : Nat) (x : Option Loc), (ghL G σ ++ [none])[id]? = some x → ((ghL G σ)[id]? = some x ∧ id < σ.length) ∨ (id = m0.length ∧ x = none) := by
   intro id x hx
   by_cases hid : id < (ghL G σ).length
   · rw [List.getElem?_append_left hid] at hx; exact .inl ⟨hx, by omega⟩
   · rw [List.getElem?_append_right (by omega)] at hx
     have h0 : id - (ghL G σ).length = 0 := by have := (List.getElem?_eq_some_iff.1 hx).1; simpa using this
     rw [h0] at hx; simp at hx
     exact .inr ⟨by omega, hx.symm⟩
 have hinj : ∀ (i j : Nat) (L M : Loc), (ghL G σ)[i]? = some (some L) → (ghL G σ)[j]? = some (some M) → L.b = M.b → i = j := by
   intro i j L M hi hj hb
   obtain ⟨h1, h2⟩ := hG i _ hi
   obtain ⟨h3, h4⟩ := hG j _ hj
   exact zda hn i j h1 h3 (h.inj _ _ L M h2 h4 hb)
 have hX : ∀ b, (VL F m0 (ghL G σ)).X b → ∃ (i : Nat) (L : Loc), (ghL G σ)[i]? = some (some L) ∧ L.b = b := by
   rintro b (hb | ⟨r, hr, hb⟩)
   · obtain ⟨i, L, h1, _, _, h4⟩ := (z6u _ _ _).1 hb
     exact ⟨i, L, h1, h4⟩
   · obtain ⟨i, L, k, sz, cs, h1, h2, h3⟩ := (z2l _ _ _).1 hr
     exact ⟨i, L, h1, by rw [← hb, h3]⟩
 have hmem : ∀ i, i < σ.length → obj (m0 ++ [Ob.fence]) i = obj m0 i := fun i hi => z2n _ _ _ (by omega)
 have hobc : ∀ (id : Nat) (x : Option Loc), (ghL G σ)[id]? = some x → z1w w F (ghL G σ ++ [none]) x (obj m0 id) := by
   intro id x hx
   obtain ⟨hi, hx'⟩ := hG id x hx
   have h1 := h.ob _ x hx'
   have h2 := hob id hi
   cases ho : obj s.m σ[id] with
   | row k sz cs =>
     rw [ho] at h1 h2
     cases k with
     | true =>
       cases hp : obj m0 id with
       | row k' sz' cs' =>
         rw [hp] at h2
         cases k' with
         | true =>
           obtain ⟨L, vs, q1, q2, q3⟩ := h1
           obtain ⟨rfl, rfl, hb⟩ := h2
           refine ⟨L, vs, q1, q2, z0l.unren (k := σ.length) (ρ := z6c σ n) (fun j hj g hg => ?_) cs' hb q3⟩
           rw [zdg σ n j hj] at hg
           rw [List.getElem?_append_left (by omega), hget j hj]
           exact hg
         | false => cases h2
       | _ => rw [hp] at h2; cases h2
     | false =>
       cases hp : obj m0 id with
       | row k' sz' cs' =>
         rw [hp] at h2
         cases k' with
         | true => cases h2
         | false =>
           obtain ⟨L, vs, q1, q2, q3⟩ := h1
           obtain ⟨rfl, rfl⟩ := h2
           exact ⟨L, vs, q1, q2, q3⟩
       | _ => rw [hp] at h2; cases h2
   | arr e sz cs =>
     rw [ho] at h1 h2
     cases hp : obj m0 id with
     | row k' sz' cs' =>
       rw [hp] at h2
       cases k' with
       | true => cases h2
       | false =>
         obtain ⟨rfl, rfl, hpos⟩ := h2
         exact y0g9 hpos h1
     | arr e' sz' cs' =>
       rw [hp] at h2
       obtain ⟨rfl, rfl, rfl⟩ := h2
       exact h1
     | _ => rw [hp] at h2; cases h2
   | dead => exact absurd ho (z4y h2).1
   | fence => exact absurd ho (z4y h2).2
   | it t p => rw [ho] at h2; cases hp : obj m0 id <;> rw [hp] at h2 <;> cases h2
   | mp es => rw [ho] at h2; cases hp : obj m0 id <;> rw [hp] at h2 <;> cases h2
 exact {
   defers := rfl
   tsize := rfl
   tm := fun k => .junk _
   len := by simp [hgl, hlen]
   ob := fun id x hx => by
     rcases hsplit id x hx with ⟨hx, hid⟩ | ⟨rfl, rfl⟩
     · show z1w w F _ x (obj (m0 ++ [Ob.fence]) id)
       rw [hmem id hid]
       exact hobc id x hx
     · show z1w w F _ none (obj (m0 ++ [Ob.fence]) m0.length)
       rw [z4r]; rfl
   live := fun id L hL => by
     rcases hsplit id _ hL with ⟨hx, hid⟩ | ⟨_, hx⟩
     · obtain ⟨hi, hx'⟩ := hG id _ hx
       obtain ⟨h1, h2, _⟩ := h.live _ L hx'
       refine ⟨h1, h2, ?_⟩
       show zal _ w L (obj (m0 ++ [Ob.fence]) id)
       rw [hmem id hid]
       have hk := hob id hi
       cases hp : obj m0 id with
       | row k sz cs => exact .inr ((z2l _ _ _).2 ⟨id, L, k, sz, cs, hx, hp, rfl⟩)
       | arr e sz cs =>
         refine .inr ⟨(z6u _ _ _).2 ⟨id, L, hx, by omega, by rw [hp]; rfl, rfl⟩, fun r hr e => ?_⟩
         obtain ⟨i, M, k, sz', cs', q1, q2, q3⟩ := (z2l _ _ _).1 hr
         have : i = id := hinj i id M L q1 hx (by rw [← e, q3])
         rw [this, hp] at q2; cases q2
       | _ =>
         obtain ⟨_, _, _, _, hq⟩ := z4k hk (by rw [hp]; rfl)
         rw [hp] at hq; cases hq
     · cases hx
   inj := fun i j L M hi hj hb => by
     rcases hsplit i _ hi with ⟨hi, _⟩ | ⟨_, hi⟩
     · rcases hsplit j _ hj with ⟨hj, _⟩ | ⟨_, hj⟩
       · exact hinj i j L M hi hj hb
       · cases hj
     · cases hi
   fb := fun b hb => ⟨(h.fb b hb).1, .inr fun hx => by
     obtain ⟨i, L, h1, rfl⟩ := hX b hx
     obtain ⟨hi, h2⟩ := hG i _ h1
     exact (h.live _ L h2).1 hb⟩
   keep := ⟨rfl, rfl, rfl, Nat.le_refl _, fun _ _ _ => rfl⟩
   f0 := ⟨fun _ h => h, fun _ h => .inl h⟩
   nd := fun r hr r' hr' e => by
     obtain ⟨i, L, k, sz, cs, h1, h2, h3⟩ := (z2l _ _ _).1 hr
     obtain ⟨i', L', k', sz', cs', h1', h2', h3'⟩ := (z2l _ _ _).1 hr'
     have : i = i' := hinj i i' L L' h1 h1' (by rw [h3, h3'] at e; exact e)
     subst this
     rw [h1] at h1'; simp at h1'; subst h1'
     rw [h2] at h2'; simp at h2'; obtain ⟨_, _, rfl⟩ := h2'
     rw [h3, h3']
   rows := fun r hr => by
     obtain ⟨i, L, k, sz, cs, h1, h2, h3⟩ := (z2l _ _ _).1 hr
     have := hobc i _ h1
     rw [h2] at this
     obtain ⟨L', vs, q1, ⟨c, e, fz, q2, _⟩, _⟩ := this
     simp at q1; subst q1
     subst h3
     exact ⟨c, c, e, fz, q2, q2, rfl, fun _ _ => rfl⟩
   fence := fun k hk => by
     have : k = m0.length := by simpa [VL] using hk.symm
     subst this
     exact z4r _ _
   tabs := h.tb
   pin := fun id x hp => by
     obtain ⟨h1, h2⟩ := (z8o _ _ _ _).1 hp
     obtain ⟨hi, _⟩ := hG id x h1
     refine ⟨⟨m0.length, rfl, by omega⟩, by rw [List.getElem?_append_left (by omega)]; exact h1, ?_⟩
     show rowish (obj (m0 ++ [Ob.fence]) id) = true
     rw [hmem id hi]
     cases ho : obj m0 id <;> rw [ho] at h2 <;> simp_all [z8g, rowish] }
end
end Go.AE
