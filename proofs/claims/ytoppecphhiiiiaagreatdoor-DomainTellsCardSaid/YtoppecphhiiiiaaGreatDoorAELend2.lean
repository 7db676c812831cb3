/- A part of the abstract evaluator: no condition. -/
import Derived.Test.YtoppecphhiiiiaaGreatDoorAELend
set_option linter.unusedVariables false
set_option linter.unusedSimpArgs false
namespace Go.AE
section
variable {N : Nat} {C : bI} {P : Program} {V : dJ} {w0 w w' : World} {s : St} {G : Gh} {F : Nat → Prop} {a : Act}
theorem z9j {Gc : Gh} {x : Option bU} {e sz sz' : Nat} {cs : List AV} (hpos : 0 < cs.length) (h : d6 w F G x (.arr e sz cs)) : d6 w F Gc x (.row false sz' cs) := by
 obtain ⟨n, vs, hown, hr, h1, hsz, hL⟩ := h
 have hl := hr.length
 cases x with
 | none =>
  rcases hown.2 with ⟨_, hn⟩ | ⟨_, _, _, h5, _⟩
  ·have := hown.1; rw [hn, Nat.zero_mul] at this; omega
  ·simp [slv] at h5
 | some L =>
  refine ⟨L, vs, rfl, ?_, hr⟩
  rcases hown.2 with ⟨h5, _⟩ | ⟨g, cap, cur, h5, _, hh, hn, hm, hs, ht⟩
  ·simp [slv] at h5
  ·simp [slv] at h5
   obtain ⟨rfl, rfl⟩ := h5
   have hL0 := hL L rfl
   have hle : vs.length ≤ cur.size := by rw [← ht]; simp; omega
   refine ⟨cur, e, (0, 0), hh, by omega, fun i hi => ?_, fun i hi => by simp, h1⟩
   rw [hL0, Nat.zero_add, ← ht, List.getElem?_take_of_lt (by rw [← hown.1]; exact hi)]
   simp
theorem zhh (m0 : List Ob) (i : Nat) (h : i < m0.length) (o : Ob) : obj (m0 ++ [o]) i = obj m0 i := tK _ _ _ h
theorem pP {k : Nat} {ρ : Nat → Nat} {o p : Ob} (h : aU k ρ o p) : o ≠ .dead ∧ o ≠ .fence := by
 cases o <;> cases p <;> simp_all [aU]
theorem qZ {k : Nat} {ρ : Nat → Nat} {o p : Ob} (h : aU k ρ o p) (hp : iU p = false) : ∃ e sz cs, o = .arr e sz cs ∧ p = .arr e sz cs := by
 cases o with
 | arr e sz cs => cases p with
  | arr e' sz' cs' => simp only [aU] at h; obtain ⟨rfl, rfl, rfl⟩ := h; exact ⟨_, _, _, rfl, rfl⟩
  | row k' sz' cs' => simp [iU] at hp
  | _ => cases h
 | row k' sz cs => cases p with
  | row k' sz' cs' => simp [iU] at hp
  | _ => cases k' <;> cases h
 | _ => cases p <;> cases h
def cI (G : Gh) (σ : List Nat) : Gh := σ.map fun j => (G[j]?).getD none
theorem yD (h : aE P N V w0 s G F a w) {σ : List Nat} {m0 : List Ob} {k : Nat} {ρ : Nat → Nat} (hl : aT k ρ s.m σ m0) (i : Nat) (hi : i < σ.length) : (cI G σ)[i]? = G[σ[i]]? := by
 have h2 := (yS hl).2 i hi
 have hlt : σ[i] < G.length := by rw [h.len]; exact zC (pP h2).1
 simp [cI, hi, hlt]
theorem yT (h : aE P N V w0 s G F a w) {σ : List Nat} {m0 : List Ob} {n : Nat} (hn : fZ σ = true) (hl : aT σ.length (cY σ n) s.m σ m0) :
  aE P 0 (VL F m0 (cI G σ)) w ⟨[], m0 ++ [.fence]⟩ (cI G σ ++ [none]) F { tmps := #[], defers := [] } w := by
 obtain ⟨hlen, hob⟩ := yS hl
 have hgl : (cI G σ).length = σ.length := by simp [cI]
 have hget := yD h hl
 have hG : ∀ i x, (cI G σ)[i]? = some x → ∃ hi : i < σ.length, G[σ[i]]? = some x := by
  intro i x hx
  have hi : i < σ.length := by rw [← hgl]; exact (List.getElem?_eq_some_iff.1 hx).1
  exact ⟨hi, by rw [← hget i hi]; exact hx⟩
 have hsplit : ∀ (id : Nat) (x : Option bU), (cI G σ ++ [none])[id]? = some x → ((cI G σ)[id]? = some x ∧ id < σ.length) ∨ (id = m0.length ∧ x = none) := by
  intro id x hx
  by_cases hid : id < (cI G σ).length
  ·rw [List.getElem?_append_left hid] at hx; exact .inl ⟨hx, by omega⟩
  ·rw [List.getElem?_append_right (by omega)] at hx
   have h0 : id - (cI G σ).length = 0 := by have := (List.getElem?_eq_some_iff.1 hx).1; simpa using this
   rw [h0] at hx; simp at hx
   exact .inr ⟨by omega, hx.symm⟩
 have hinj : ∀ (i j : Nat) (L M : bU), (cI G σ)[i]? = some (some L) → (cI G σ)[j]? = some (some M) → L.b = M.b → i = j := by
  intro i j L M hi hj hb
  obtain ⟨h1, h2⟩ := hG i _ hi
  obtain ⟨h3, h4⟩ := hG j _ hj
  exact DB hn i j h1 h3 (h.inj _ _ L M h2 h4 hb)
 have hX : ∀ b, (VL F m0 (cI G σ)).X b → ∃ (i : Nat) (L : bU), (cI G σ)[i]? = some (some L) ∧ L.b = b := by
  rintro b (hb | ⟨r, hr, hb⟩)
  ·obtain ⟨i, L, h1, _, _, h4⟩ := (tL _ _ _).1 hb
   exact ⟨i, L, h1, h4⟩
  ·obtain ⟨i, L, k, sz, cs, h1, h2, h3⟩ := (lS _ _ _).1 hr
   exact ⟨i, L, h1, by rw [← hb, h3]⟩
 have hmem : ∀ i, i < σ.length → obj (m0 ++ [Ob.fence]) i = obj m0 i := fun i hi => tK _ _ _ (by omega)
 have hobc : ∀ (id : Nat) (x : Option bU), (cI G σ)[id]? = some x → d6 w F (cI G σ ++ [none]) x (obj m0 id) := by
  intro id x hx
  obtain ⟨hi, hx'⟩ := hG id x hx
  have h1 := h.ob _ x hx'
  have h2 := hob id hi
  cases ho : obj s.m σ[id] with
  | row k sz cs =>
   rw [ho] at h1 h2
   cases k with
   | true =>
    cases hp : obj m0 id with
    | row k' sz' cs' =>
     rw [hp] at h2
     cases k' with
     | true =>
      obtain ⟨L, vs, q1, q2, q3⟩ := h1
      obtain ⟨rfl, rfl, hb⟩ := h2
      refine ⟨L, vs, q1, q2, aF.unren (k := σ.length) (ρ := cY σ n) (fun j hj g hg => ?_) cs' hb q3⟩
      rw [tO σ n j hj] at hg
      rw [List.getElem?_append_left (by omega), hget j hj]
      exact hg
     | false => cases h2
    | _ => rw [hp] at h2; cases h2
   | false =>
    cases hp : obj m0 id with
    | row k' sz' cs' =>
     rw [hp] at h2
     cases k' with
     | true => cases h2
     | false =>
      obtain ⟨L, vs, q1, q2, q3⟩ := h1
      obtain ⟨rfl, rfl⟩ := h2
      exact ⟨L, vs, q1, q2, q3⟩
    | _ => rw [hp] at h2; cases h2
  | arr e sz cs =>
   rw [ho] at h1 h2
   cases hp : obj m0 id with
   | row k' sz' cs' =>
    rw [hp] at h2
    cases k' with
    | true => cases h2
    | false =>
     obtain ⟨rfl, rfl, hpos⟩ := h2
     exact z9j hpos h1
   | arr e' sz' cs' =>
    rw [hp] at h2
    obtain ⟨rfl, rfl, rfl⟩ := h2
    exact h1
   | _ => rw [hp] at h2; cases h2
  | dead => exact absurd ho (pP h2).1
  | fence => exact absurd ho (pP h2).2
  | it t p => rw [ho] at h2; cases hp : obj m0 id <;> rw [hp] at h2 <;> cases h2
  | mp es => rw [ho] at h2; cases hp : obj m0 id <;> rw [hp] at h2 <;> cases h2
 exact {
  defers := rfl
  tsize := rfl
  tm := fun k => .junk _
  len := by simp [hgl, hlen]
  ob := fun id x hx => by
   rcases hsplit id x hx with ⟨hx, hid⟩ | ⟨rfl, rfl⟩
   ·show d6 w F _ x (obj (m0 ++ [Ob.fence]) id)
    rw [hmem id hid]
    exact hobc id x hx
   ·show d6 w F _ none (obj (m0 ++ [Ob.fence]) m0.length)
    rw [zB]; rfl
  live := fun id L hL => by
   rcases hsplit id _ hL with ⟨hx, hid⟩ | ⟨_, hx⟩
   ·obtain ⟨hi, hx'⟩ := hG id _ hx
    obtain ⟨h1, h2, _⟩ := h.live _ L hx'
    refine ⟨h1, h2, ?_⟩
    show eE _ w L (obj (m0 ++ [Ob.fence]) id)
    rw [hmem id hid]
    have hk := hob id hi
    cases hp : obj m0 id with
    | row k sz cs => exact .inr ((lS _ _ _).2 ⟨id, L, k, sz, cs, hx, hp, rfl⟩)
    | arr e sz cs =>
     refine .inr ⟨(tL _ _ _).2 ⟨id, L, hx, by omega, by rw [hp]; rfl, rfl⟩, fun r hr e => ?_⟩
     obtain ⟨i, M, k, sz', cs', q1, q2, q3⟩ := (lS _ _ _).1 hr
     have : i = id := hinj i id M L q1 hx (by rw [← e, q3])
     rw [this, hp] at q2; cases q2
    | _ =>
     obtain ⟨_, _, _, _, hq⟩ := qZ hk (by rw [hp]; rfl)
     rw [hp] at hq; cases hq
   ·cases hx
  inj := fun i j L M hi hj hb => by
   rcases hsplit i _ hi with ⟨hi, _⟩ | ⟨_, hi⟩
   ·rcases hsplit j _ hj with ⟨hj, _⟩ | ⟨_, hj⟩
    ·exact hinj i j L M hi hj hb
    ·cases hj
   ·cases hi
  fb := fun b hb => ⟨(h.fb b hb).1, .inr fun hx => by
   obtain ⟨i, L, h1, rfl⟩ := hX b hx
   obtain ⟨hi, h2⟩ := hG i _ h1
   exact (h.live _ L h2).1 hb⟩
  keep := ⟨rfl, rfl, rfl, Nat.le_refl _, fun _ _ _ => rfl⟩
  f0 := ⟨fun _ h => h, fun _ h => .inl h⟩
  nd := fun r hr r' hr' e => by
   obtain ⟨i, L, k, sz, cs, h1, h2, h3⟩ := (lS _ _ _).1 hr
   obtain ⟨i', L', k', sz', cs', h1', h2', h3'⟩ := (lS _ _ _).1 hr'
   have : i = i' := hinj i i' L L' h1 h1' (by rw [h3, h3'] at e; exact e)
   subst this
   rw [h1] at h1'; simp at h1'; subst h1'
   rw [h2] at h2'; simp at h2'; obtain ⟨_, _, rfl⟩ := h2'
   rw [h3, h3']
  rows := fun r hr => by
   obtain ⟨i, L, k, sz, cs, h1, h2, h3⟩ := (lS _ _ _).1 hr
   have := hobc i _ h1
   rw [h2] at this
   obtain ⟨L', vs, q1, ⟨c, e, fz, q2, _⟩, _⟩ := this
   simp at q1; subst q1
   subst h3
   exact ⟨c, c, e, fz, q2, q2, rfl, fun _ _ => rfl⟩
  fence := fun k hk => by
   have : k = m0.length := by simpa [VL] using hk.symm
   subst this
   exact zB _ _
  tabs := h.tb
  pin := fun id x hp => by
   obtain ⟨h1, h2⟩ := (vZ _ _ _ _).1 hp
   obtain ⟨hi, _⟩ := hG id x h1
   refine ⟨⟨m0.length, rfl, by omega⟩, by rw [List.getElem?_append_left (by omega)]; exact h1, ?_⟩
   show rowish (obj (m0 ++ [Ob.fence]) id) = true
   rw [hmem id hi]
   cases ho : obj m0 id <;> rw [ho] at h2 <;> simp_all [iU, rowish] }
end
end Go.AE
