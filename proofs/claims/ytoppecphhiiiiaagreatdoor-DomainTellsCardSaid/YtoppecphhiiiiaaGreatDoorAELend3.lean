/- A part of the abstract evaluator: no condition. -/
import Derived.Test.YtoppecphhiiiiaaGreatDoorAELend2
set_option linter.unusedVariables false
set_option linter.unusedSimpArgs false
namespace Go.AE
section
variable {N : Nat} {C : bI} {P : Program} {V : dJ} {w0 w w1 : World} {s : St} {G : Gh} {F F1 : Nat → Prop} {a : Act}
def l9 (G : Gh) : List Nat → Gh → Gh
 | j :: σ, x :: G1 => l9 (G.set j x) σ G1
 | _, _ => G
theorem u6 : ∀ (σ : List Nat) (G G1 : Gh), (l9 G σ G1).length = G.length
 | [], G, G1 => by cases G1 <;> rfl
 | _ :: _, G, [] => rfl
 | j :: σ, G, o :: G1 => by rw [l9, u6 σ, List.length_set]
theorem FS : ∀ (σ : List Nat) (G G1 : Gh) (j : Nat), j ∉ σ → (l9 G σ G1)[j]? = G[j]?
 | [], G, G1, j, _ => by cases G1 <;> rfl
 | _ :: _, G, [], j, _ => rfl
 | x :: σ, G, o :: G1, j, h => by
  simp at h
  rw [l9, FS σ _ G1 j h.2, kQ h.1]
theorem z39 : ∀ (σ : List Nat) (G G1 : Gh) (i : Nat) (h : i < σ.length), fZ σ = true → (∀ j ∈ σ, j < G.length) → i < G1.length → (l9 G σ G1)[σ[i]]? = G1[i]?
 | [], G, G1, i, h, _, _, _ => by simp at h
 | _ :: _, G, [], i, h, _, _, h1 => by simp at h1
 | x :: σ, G, o :: G1, 0, h, hn, hlt, h1 => by
  simp [fZ] at hn
  rw [l9, List.getElem_cons_zero, FS σ _ G1 x hn.1]
  have := hlt x (by simp)
  simp [this]
 | x :: σ, G, o :: G1, i + 1, h, hn, hlt, h1 => by
  simp [fZ] at hn
  rw [l9]
  simp only [List.getElem_cons_succ]
  rw [z39 σ _ G1 i (by simpa using h) hn.2 (fun j hj => by rw [List.length_set]; exact hlt j (by simp [hj])) (by simpa using h1)]
  simp
theorem ED : ∀ (l : List Nat) (o : Ob), rowish o = true → rowish (pO l o) = true
 | [], o, h => h
 | x :: l, o, h => ED l _ (by rw [EC]; exact h)
theorem wJ (ρ : Nat → Nat) : ∀ cs : List AV, (rens ρ cs).length = cs.length
 | [] => rfl
 | x :: l => by simp [rens, wJ ρ l]
theorem zhi (m : List Ob) : ∀ (k t : Nat), obj (m.drop k) t = obj m (k + t) := by
 induction m with
 | nil => intro k t; simp [obj]
 | cons o m ih =>
  intro k t
  cases k with
  | zero => simp
  | succ k => rw [List.drop_succ_cons, ih, show k + 1 + t = (k + t) + 1 by omega]; rfl
theorem d6.renO {G1 G' : Gh} {x : Option bU} {o : Ob} {ρ : Nat → Nat} (hg : ∀ id g, G1[id]? = some g → G'[ρ id]? = some g) (h : d6 w F G1 x o) : d6 w F G' x (AE.renO ρ o) := by
 cases o with
 | dead => trivial
 | fence => trivial
 | arr e sz cs => exact h
 | row k sz cs =>
  cases k with
  | true =>
   obtain ⟨L, vs, h1, h2, h3⟩ := h
   exact ⟨L, vs, h1, h2, h3.ren hg⟩
  | false => exact h
 | it t p => exact h
 | mp es => exact h
theorem d6.move {F' : Nat → Prop} {l : List Nat} {G G' : Gh} {g : Option bU} {o : Ob} {w w' : World} (hs : fQ F F' w w') (hg : ∀ id g, id ∉ l → G[id]? = some g → G'[id]? = some g) (hb : ∀ L, g = some L → w'.heap[L.b]? = w.heap[L.b]?)
  (hl : ∀ sz cs, o = .row true sz cs → ∀ j ∈ l, fF j cs = false) (h : d6 w F G g o) : d6 w' F' G' g o := by
 cases o with
 | row k sz cs =>
  obtain ⟨L, vs, h1, h2, h3⟩ := h
  refine ⟨L, vs, h1, h2.block (hb L h1), ?_⟩
  cases k with
  | true => exact h3.move hs hg (hl sz cs rfl)
  | false => exact aF.mono hs (bS.refl _) h3
 | dead => trivial
 | fence => exact h
 | arr e sz cs => exact (d6.keep (G' := G) h hs (bS.refl _) hb)
 | it t p => exact (d6.keep (G' := G) h hs (bS.refl _) hb)
 | mp es => exact (d6.keep (G' := G) h hs (bS.refl _) hb)
theorem UX (h : aE P N V w0 s G F a w) {σ : List Nat} {m0 m1 : List Ob} {G1 : Gh} (hn : fZ σ = true) (hl : aT σ.length (cY σ s.m.length) s.m σ m0) (hk : j2 m0 m1 = true)
  (hR : aE P 0 (VL F m0 (cI G σ)) w ⟨[], m1⟩ G1 F1 { tmps := #[], defers := [] } w1) :
  ∃ G', (∀ {x : AV} {v : Value}, aH w1 F1 G1 x v → aH w1 F1 G' (ren (cY σ s.m.length) x) v) ∧
   aE P N V w0 ⟨kR (aN σ m0) s.t, aP (cY σ s.m.length) (eZ (aN σ m0) s.m) σ m1 ++ (m1.drop σ.length).map (renO (cY σ s.m.length))⟩ G' F1 a w1 := by
 obtain ⟨hlen, hob⟩ := yS hl
 obtain ⟨hle1, hkind⟩ := UE hk
 have hsk := aE.forgets (aN σ m0) h
 have hgl : (cI G σ).length = σ.length := by simp [cI]
 have hget := yD h hl
 generalize hnn : s.m.length = n at *
 generalize hll : aN σ m0 = l at *
 generalize hrr : cY σ n = ρ at *
 have hG1len : G1.length = m1.length := hR.len
 have hGlen : G.length = n := by rw [h.len]; exact hnn
 have hk1 : m0.length < m1.length := sZ (hR.fence _ rfl)
 have hσlt : ∀ i (hi : i < σ.length), σ[i] < n := fun i hi => by rw [← hnn]; exact zC (pP (hob i hi)).1
 have hσlt' : ∀ j ∈ σ, j < n := fun j hj => by obtain ⟨i, hi, rfl⟩ := List.getElem_of_mem hj; exact hσlt i hi
 have hgetG : ∀ i x (hi : i < σ.length), (cI G σ)[i]? = some x → G[σ[i]]? = some x := fun i x hi hx => by rw [← hget i hi]; exact hx

 let G' : Gh := l9 G σ G1 ++ G1.drop σ.length
 have hρlt : ∀ i (hi : i < σ.length), ρ i = σ[i] := fun i hi => by rw [← hrr]; exact tO σ n i hi
 have hρge : ∀ i, σ.length ≤ i → ρ i = n + (i - σ.length) := fun i hi => by
  have := ZN σ n (i - σ.length)
  rw [show σ.length + (i - σ.length) = i by omega] at this
  rw [← hrr]; exact this
 have hG'in : ∀ i (hi : i < σ.length), G'[σ[i]]? = G1[i]? := fun i hi => by
  show (l9 G σ G1 ++ _)[σ[i]]? = _
  rw [List.getElem?_append_left (by rw [u6, hGlen]; exact hσlt i hi)]
  exact z39 σ G G1 i hi hn (fun j hj => by rw [hGlen]; exact hσlt' j hj) (by omega)
 have hG'out : ∀ j, j ∉ σ → j < n → G'[j]? = G[j]? := fun j hj hlt => by
  show (l9 G σ G1 ++ _)[j]? = _
  rw [List.getElem?_append_left (by rw [u6, hGlen]; exact hlt)]
  exact FS σ G G1 j hj
 have hG'new : ∀ t, G'[n + t]? = G1[σ.length + t]? := fun t => by
  show (l9 G σ G1 ++ _)[n + t]? = _
  rw [List.getElem?_append_right (by rw [u6, hGlen]; omega), u6, hGlen, show n + t - n = t by omega, List.getElem?_drop]
 have hG'ρ : ∀ id x, G1[id]? = some x → G'[ρ id]? = some x := fun id x hx => by
  by_cases hi : id < σ.length
  ·rw [hρlt id hi, hG'in id hi]; exact hx
  ·rw [hρge id (by omega), hG'new, show σ.length + (id - σ.length) = id by omega]; exact hx

 let m' : List Ob := aP ρ (eZ l s.m) σ m1 ++ (m1.drop σ.length).map (renO ρ)
 have hmlen : (aP ρ (eZ l s.m) σ m1).length = n := by rw [FT, yN]; exact hnn
 have hm'in : ∀ i (hi : i < σ.length), obj m' σ[i] = aX (obj (eZ l s.m) σ[i]) (renO ρ (obj m1 i)) := fun i hi => by
  show obj (aP ρ (eZ l s.m) σ m1 ++ _) σ[i] = _
  rw [rA _ _ _ (by rw [hmlen]; exact hσlt i hi)]
  exact z3a ρ σ _ m1 i hi hn (fun j hj => by rw [yN, hnn]; exact hσlt' j hj) (by omega)
 have hm'out : ∀ j, j ∉ σ → j < n → obj m' j = obj (eZ l s.m) j := fun j hj hlt => by
  show obj (aP ρ (eZ l s.m) σ m1 ++ _) j = _
  rw [rA _ _ _ (by rw [hmlen]; exact hlt)]
  exact FU ρ σ _ m1 j hj
 have hm'new : ∀ t, obj m' (n + t) = renO ρ (obj m1 (σ.length + t)) := fun t => by
  show obj (aP ρ (eZ l s.m) σ m1 ++ _) (n + t) = _
  rw [DC _ _ _ (by rw [hmlen]; omega), hmlen, show n + t - n = t by omega, WN _ rfl, zhi]

 have hcase : ∀ j x, G'[j]? = some x → (∃ id, G1[id]? = some x ∧ ρ id = j) ∨ (j ∉ σ ∧ j < n ∧ G[j]? = some x) := by
  intro j x hx
  by_cases hj : j < n
  ·by_cases hm : j ∈ σ
   ·obtain ⟨i, hi, rfl⟩ := List.getElem_of_mem hm
    exact .inl ⟨i, by rw [← hG'in i hi]; exact hx, hρlt i hi⟩
   ·exact .inr ⟨hm, hj, by rw [← hG'out j hm hj]; exact hx⟩
  ·have e : j = n + (j - n) := by omega
   rw [e, hG'new] at hx
   exact .inl ⟨_, hx, by rw [hρge _ (by omega)]; omega⟩
 have hgsub : ∀ id g, id ∉ l → G[id]? = some g → G'[id]? = some g := by
  intro id g hid hg
  have hlt : id < n := by rw [← hGlen]; exact (List.getElem?_eq_some_iff.1 hg).1
  by_cases hm : id ∈ σ
  ·obtain ⟨i, hi, rfl⟩ := List.getElem_of_mem hm
   have hrow : iU (obj m0 i) = true := by
    cases hr : iU (obj m0 i) with
    | true => rfl
    | false =>
     obtain ⟨e, sz, cs, _, hp⟩ := qZ (hob i hi) hr
     exact absurd (by rw [← hll]; exact SR σ m0 i hi hp) hid
   have hp : (VL F m0 (cI G σ)).pin i = some g := (vZ _ _ _ _).2 ⟨by rw [hget i hi]; exact hg, hrow⟩
   rw [hG'in i hi]
   exact (hR.pin i g hp).2.1
  ·rw [hG'out id hm hlt]; exact hg

 have hXof : ∀ b, (VL F m0 (cI G σ)).X b → ∃ (i : Nat) (L : bU), ∃ hi : i < σ.length, G[σ[i]]? = some (some L) ∧ (cI G σ)[i]? = some (some L) ∧ L.b = b := by
  rintro b (hb | ⟨r, hr, hb⟩)
  ·obtain ⟨i, L, h1, _, _, h4⟩ := (tL _ _ _).1 hb
   have hi : i < σ.length := by rw [← hgl]; exact (List.getElem?_eq_some_iff.1 h1).1
   exact ⟨i, L, hi, hgetG i _ hi h1, h1, h4⟩
  ·obtain ⟨i, L, k, sz, cs, h1, h2, h3⟩ := (lS _ _ _).1 hr
   have hi : i < σ.length := by rw [← hgl]; exact (List.getElem?_eq_some_iff.1 h1).1
   exact ⟨i, L, hi, hgetG i _ hi h1, h1, by rw [← hb, h3]⟩
 have hpermX : ∀ {L : bU} {o : Ob}, eE V w0 L o → w0.heap.size ≤ L.b ∨ V.X L.b := by
  intro L o hp
  unfold eE at hp
  split at hp
  ·rcases hp with hp | hp
   ·exact .inl hp
   ·exact .inr (.inr ⟨_, hp, rfl⟩)
  ·exact hp
  ·rcases hp with hp | hp
   ·exact .inl hp
   ·exact .inr (.inl hp.1)
 have hsz := h.keep.size
 have hsz1 := hR.keep.size
 have hFX : ∀ b, F b → ¬ (VL F m0 (cI G σ)).X b := fun b hb hx => by
  obtain ⟨i, L, hi, h1, _, rfl⟩ := hXof b hx
  exact (h.live _ L h1).1 hb
 have hsame : fQ F F1 w w1 := ⟨fun b hb => hR.f0.1 b hb, fun b hb => hR.keep.block b (h.fb b hb).1 (hFX b hb)⟩
 have hF1 : ∀ b, F1 b → F b ∨ w.heap.size ≤ b := fun b hb => hR.f0.2 b hb
 have hother : ∀ j L, j ∉ σ → G[j]? = some (some L) → ¬ (VL F m0 (cI G σ)).X L.b := by
  intro j L hj hL hx
  obtain ⟨i, M, hi, h1, _, h3⟩ := hXof _ hx
  have := h.inj _ _ M L h1 hL h3
  exact hj (this ▸ List.getElem_mem hi)
 have hpinned : ∀ i x (hi : i < σ.length), iU (obj m0 i) = true → G1[i]? = some x → G[σ[i]]? = some x := by
  intro i x hi hrow hx
  have hsome : ∃ y, (cI G σ)[i]? = some y := by rw [List.getElem?_eq_getElem (by rw [hgl]; exact hi)]; exact ⟨_, rfl⟩
  obtain ⟨y, hy⟩ := hsome
  have hp : (VL F m0 (cI G σ)).pin i = some y := (vZ _ _ _ _).2 ⟨hy, hrow⟩
  have := (hR.pin i y hp).2.1
  rw [hx] at this; simp at this; subst this
  exact hgetG i _ hi hy
 have hown : ∀ {b : Nat}, b ∈ (VL F m0 (cI G σ)).own → w0.heap.size ≤ b ∨ (b ∈ V.own ∧ ∀ r ∈ V.regs, r.b ≠ b) := by
  intro b hb
  obtain ⟨i, L, h1, h2, h3, h4⟩ := (tL _ _ _).1 hb
  have hi : i < σ.length := by rw [← hgl]; exact (List.getElem?_eq_some_iff.1 h1).1
  obtain ⟨e, sz, cs, ho, _⟩ := qZ (hob i hi) h3
  have hp := (h.live _ L (hgetG i _ hi h1)).2.2
  rw [ho] at hp
  subst h4
  exact hp
 have hregrow : ∀ {id : Nat} {L : bU} {k : Bool} {sz : Nat} {cs : List AV}, G1[id]? = some (some L) → obj m1 id = .row k sz cs → w.heap.size ≤ L.b ∨ ∃ hi : id < σ.length, ∃ k' sz' cs', obj m0 id = .row k' sz' cs' ∧ cs'.length = cs.length := by
  intro id L k sz cs hL ho
  have hp := (hR.live id L hL).2.2
  rw [show (St.mk [] m1).m = m1 from rfl, ho] at hp
  rcases hp with hp | hp
  ·exact .inl hp
  ·right
   obtain ⟨i, M, k', sz', cs', q1, q2, q3⟩ := (lS _ _ _).1 hp
   have hi : i < σ.length := by rw [← hgl]; exact (List.getElem?_eq_some_iff.1 q1).1
   have hp1 : (VL F m0 (cI G σ)).pin i = some (some M) := (vZ _ _ _ _).2 ⟨q1, by rw [q2]; rfl⟩
   have hM := (hR.pin i _ hp1).2.1
   simp at q3
   have e := hR.inj id i L M hL hM q3.1
   subst e
   refine ⟨hi, k', sz', cs', q2, ?_⟩
   have e2 : L = M := by rw [hL] at hM; simpa using hM
   subst e2
   omega

 have main : ∀ id x, G1[id]? = some x → d6 w1 F1 G' x (obj m' (ρ id)) ∧ ∀ L, x = some L → eE V w0 L (obj m' (ρ id)) ∧ (∀ k, V.fen = some k → ρ id ≠ k) := by
  intro id x hx
  have hbase : d6 w1 F1 G' x (renO ρ (obj m1 id)) := (hR.ob id x hx).renO hG'ρ
  by_cases hi : id < σ.length
  ·have e1 : obj m' (ρ id) = aX (obj (eZ l s.m) σ[id]) (renO ρ (obj m1 id)) := by rw [hρlt id hi]; exact hm'in id hi
   have hlo := hob id hi
   have hki := hkind id (by omega)
   have hnf : ∀ k, V.fen = some k → ρ id ≠ k := fun k hk e => by
    have := h.fence k hk
    rw [hρlt id hi] at e
    rw [← e] at this
    exact (pP hlo).2 this
   have hdeadP : ∀ L, x = some L → w0.heap.size ≤ L.b ∨ V.X L.b := by
    intro L hL
    subst hL
    by_cases hrow : iU (obj m0 id) = true
    ·exact hpermX (h.live _ L (hpinned id _ hi hrow hx)).2.2
    ·have hp := (hR.live id L hx).2.2
     have : w.heap.size ≤ L.b ∨ (VL F m0 (cI G σ)).X L.b := by
      unfold eE at hp
      split at hp
      ·rcases hp with hp | hp
       ·exact .inl hp
       ·exact .inr (.inr ⟨_, hp, rfl⟩)
      ·exact hp
      ·rcases hp with hp | hp
       ·exact .inl hp
       ·exact .inr (.inl hp.1)
     rcases this with hp | hp
     ·left; omega
     ·obtain ⟨i, M, hi', h1, _, h3⟩ := hXof _ hp
      have := hpermX (h.live _ M h1).2.2
      rw [h3] at this; exact this
   cases hp0 : obj m0 id with
   | row k sz cs =>
    rw [hp0] at hlo hki
    cases hp1 : obj m1 id with
    | row k1 sz1 cs1 =>
     rw [hp1] at hki
     have hkk : k1 = k := by cases k <;> cases k1 <;> simp_all [aS]
     subst hkk
     cases ho : obj s.m σ[id] with
     | row k2 sz2 cs2 =>
      rw [ho] at hlo
      have hback : obj m' (ρ id) = renO ρ (obj m1 id) := by
       rw [e1, pN, ho]
       cases k2 with
       | true => obtain ⟨cs', q, _⟩ := CZ l sz2 cs2; rw [q]; rfl
       | false => rw [qY (by intro sz cs e; cases e)]; rfl
      rw [hback]
      refine ⟨hbase, fun L hL => ⟨?_, hnf⟩⟩
      subst hL
      have hLG := hpinned id _ hi (by rw [hp0]; rfl) hx
      have hpm := (h.live _ L hLG).2.2
      rw [ho] at hpm
      rcases hregrow hx hp1 with hq | ⟨_, k', sz', cs', q1, q2⟩
      ·have := (h.live _ L hLG).2.1; omega
      ·rw [hp0] at q1; simp at q1; obtain ⟨_, _, rfl⟩ := q1
       have hlen2 : cs2.length = cs1.length := by
        cases k2 <;> cases k1 <;> simp only [aU] at hlo
        ·rw [hlo.2]; exact q2
        ·rw [hlo.2.1, wJ]; exact q2
       rw [hp1]
       cases k1 with
       | true =>
        simp only [renO]
        show w0.heap.size ≤ L.b ∨ _
        rw [wJ, ← hlen2]; exact hpm
       | false =>
        show w0.heap.size ≤ L.b ∨ _
        rw [← hlen2]; exact hpm
     | arr e2 sz2 cs2 =>
      rw [ho] at hlo
      cases k1 with
      | true => cases hlo
      | false =>
       obtain ⟨rfl, rfl, hpos⟩ := hlo
       have hback : obj m' (ρ id) = .arr e2 sz2 cs1 := by
        rw [e1, pN, ho, qY (by intro sz cs e; cases e), hp1]; rfl
       rw [hback]
       have hxG := hpinned id _ hi (by rw [hp0]; rfl) hx
       have hold := h.ob _ _ hxG
       rw [ho] at hold
       obtain ⟨nn, vs, hown', hr, h1c, hszp, hL0⟩ := hold
       have hnew := hR.ob id x hx
       rw [show (St.mk [] m1).m = m1 from rfl, hp1] at hnew
       obtain ⟨L, us, rfl, hrowat, hrus⟩ := hnew
       have hL00 := hL0 L rfl
       refine ⟨?_, fun L' hL' => ⟨?_, hnf⟩⟩
       ·rcases hregrow hx hp1 with hq | ⟨_, k', sz', cs', q1, q2⟩
        ·have := (h.live _ L hxG).2.1; omega
        ·rw [hp0] at q1; simp at q1; obtain ⟨_, _, rfl⟩ := q1
         rcases hown'.2 with ⟨h5, _⟩ | ⟨gg, cap, cur, h5, _, hh, hnc, hm, hs, ht⟩
         ·simp [slv] at h5
         ·simp [slv] at h5
          obtain ⟨rfl, rfl⟩ := h5
          have hreg : (⟨L.b, L.o, L.o + cs2.length⟩ : lD) ∈ (VL F m0 (cI G σ)).regs := (lS _ _ _).2 ⟨id, L, false, sz2, cs2, by rw [hget id hi]; exact hxG, hp0, rfl⟩
          obtain ⟨c0, c, e3, fz3, r1, r2, r3, r4⟩ := hR.rows _ hreg
          simp only at r1 r2
          rw [hh] at r1; simp at r1; obtain ⟨rfl, rfl, rfl⟩ := r1
          obtain ⟨c', e4, fz4, t1, t2, t3, t4, t5⟩ := hrowat
          rw [r2] at t1; simp at t1; obtain ⟨rfl, rfl, rfl⟩ := t1
          have hul : us.length = nn * sz2 := by rw [← hrus.length, ← q2, hr.length, hown'.1]
          refine ⟨nn, us, ⟨hul, .inr ⟨L.b, L.cap, c, rfl, Nat.zero_le _, r2, hnc, hm, by omega, ?_⟩⟩, hrus, t5, hszp, by simpa using hL00⟩
          rw [hL00, Nat.zero_add] at t2
          apply List.ext_getElem?
          intro i
          by_cases hi2 : i < us.length
          ·have := t3 i hi2
           rw [hL00, Nat.zero_add] at this
           rw [List.getElem?_take_of_lt (by omega), ← this]
           simp
          ·rw [List.getElem?_eq_none (by simp; omega), List.getElem?_eq_none (by omega)]
       ·simp at hL'; subst hL'
        have hpm := (h.live _ L hxG).2.2
        rw [ho] at hpm
        exact hpm
     | _ => rw [ho] at hlo; cases k1 <;> cases hlo
    | dead =>
     have hback : obj m' (ρ id) = .dead := by
      rw [e1, hp1]
      cases obj (eZ l s.m) σ[id] <;> rfl
     rw [hback]
     exact ⟨trivial, fun L hL => ⟨hdeadP L hL, hnf⟩⟩
    | _ => rw [hp1] at hki; cases k <;> simp [aS] at hki
   | arr e sz cs =>
    rw [hp0] at hlo hki
    obtain ⟨e', sz', cs', ho, hq⟩ := qZ hlo rfl
    have hback : obj m' (ρ id) = obj m1 id := by
     rw [e1, pN, ho, qY (by intro sz cs e; cases e)]
     cases hp1 : obj m1 id with
     | row k1 sz1 cs1 => rw [hp1] at hki; simp [aS] at hki
     | fence => rw [hp1] at hki; simp [aS] at hki
     | _ => rfl
    have hren : renO ρ (obj m1 id) = obj m1 id := by
     cases hp1 : obj m1 id with
     | row k1 sz1 cs1 => rw [hp1] at hki; simp [aS] at hki
     | fence => rw [hp1] at hki; simp [aS] at hki
     | _ => rfl
    rw [hback]
    rw [hren] at hbase
    refine ⟨hbase, fun L hL => ⟨?_, hnf⟩⟩
    cases hp1 : obj m1 id with
    | dead => exact hdeadP L hL
    | arr e1 sz1 cs1 =>
     subst hL
     have hp := (hR.live id L hx).2.2
     rw [show (St.mk [] m1).m = m1 from rfl, hp1] at hp
     rcases hp with hp | hp
     ·left; omega
     ·exact hown hp.1
    | _ => rw [hp1] at hki; simp [aS] at hki
   | _ => obtain ⟨_, _, _, _, hq⟩ := qZ hlo (by rw [hp0]; rfl); rw [hp0] at hq; cases hq
  ·have e1 : obj m' (ρ id) = renO ρ (obj m1 id) := by
    rw [hρge id (by omega), hm'new, show σ.length + (id - σ.length) = id by omega]
   rw [e1]
   refine ⟨hbase, fun L hL => ⟨?_, fun k hk e => ?_⟩⟩
   ·subst hL
    have hp := (hR.live id L hx).2.2
    rw [show (St.mk [] m1).m = m1 from rfl] at hp
    cases hp1 : obj m1 id with
    | row k sz cs =>
     have hge : w0.heap.size ≤ L.b := by
      rcases hregrow hx hp1 with hq | ⟨hi', _⟩
      ·omega
      ·exact absurd hi' hi
     cases k <;> exact .inl hge
    | dead =>
     rw [hp1] at hp
     rcases hp with hp | hp
     ·exact .inl (by omega)
     ·obtain ⟨i, M, hi', h1, _, h3⟩ := hXof _ hp
      have := hpermX (h.live _ M h1).2.2
      rw [h3] at this; exact this
    | fence => have := hR.ob id _ hx; rw [show (St.mk [] m1).m = m1 from rfl, hp1] at this; cases this
    | arr e1 sz1 cs1 => rw [hp1] at hp; rcases hp with hp | hp; exact .inl (by omega); exact hown hp.1
    | it t p => rw [hp1] at hp; rcases hp with hp | hp; exact .inl (by omega); exact hown hp.1
    | mp es => rw [hp1] at hp; rcases hp with hp | hp; exact .inl (by omega); exact hown hp.1
   ·have := sZ (h.fence k hk)
    rw [hρge id (by omega)] at e
    omega
 refine ⟨G', fun hr => hr.ren hG'ρ, ?_⟩
 have hobk := hsk.ob
 exact {
  defers := h.defers
  tsize := h.tsize
  tm := fun k => (hsk.tm k).move hsame hgsub (TM l s.t k).1
  len := by
   show (l9 G σ G1 ++ G1.drop σ.length).length = (aP ρ (eZ l s.m) σ m1 ++ (m1.drop σ.length).map (renO ρ)).length
   simp [u6, FT, yN, hGlen, hnn, hG1len]
  ob := fun j x hx => by
   show d6 w1 F1 G' x (obj m' j)
   rcases hcase j x hx with ⟨id, h1, rfl⟩ | ⟨h1, h2, h3⟩
   ·exact (main id x h1).1
   ·rw [hm'out j h1 h2]
    refine (hsk.ob j x h3).move hsame hgsub (fun L hL => ?_) (fun sz cs ho i hi => ?_)
    ·subst hL
     exact hR.keep.block _ (h.live j L h3).2.1 (hother j L h1 h3)
    ·rw [pN] at ho
     cases hor : obj s.m j with
     | row k sz' cs' =>
      cases k with
      | true =>
       rw [hor] at ho
       obtain ⟨cs'', q1, _, q3, _⟩ := CZ l sz' cs'
       rw [q1] at ho
       simp at ho
       rw [← ho.2]; exact q3 i hi
      | false => rw [hor, qY (by intro sz cs e; cases e)] at ho; cases ho
     | _ => rw [hor, qY (by intro sz cs e; cases e)] at ho; cases ho
  live := fun j L hL => by
   show _ ∧ _ ∧ eE V w0 L (obj m' j)
   rcases hcase j _ hL with ⟨id, h1, rfl⟩ | ⟨h1, h2, h3⟩
   ·exact ⟨(hR.live id L h1).1, (hR.live id L h1).2.1, ((main id _ h1).2 L rfl).1⟩
   ·obtain ⟨q1, q2, _⟩ := h.live j L h3
    refine ⟨fun hb => ?_, by omega, ?_⟩
    ·rcases hF1 _ hb with hb | hb
     ·exact q1 hb
     ·omega
    ·rw [hm'out j h1 h2]
     exact (hsk.live j L h3).2.2
  inj := fun i j L M hi hj hb => by
   rcases hcase i _ hi with ⟨id, h1, rfl⟩ | ⟨h1, h2, h3⟩ <;> rcases hcase j _ hj with ⟨jd, k1, rfl⟩ | ⟨k1, k2, k3⟩
   ·rw [hR.inj id jd L M h1 k1 hb]
   ·exfalso
    have hp := (hR.live id L h1).2.2
    have : w.heap.size ≤ L.b ∨ (VL F m0 (cI G σ)).X L.b := by
     unfold eE at hp
     split at hp
     ·rcases hp with hp | hp
      ·exact .inl hp
      ·exact .inr (.inr ⟨_, hp, rfl⟩)
     ·exact hp
     ·rcases hp with hp | hp
      ·exact .inl hp
      ·exact .inr (.inl hp.1)
    rcases this with hp | hp
    ·have := (h.live j M k3).2.1; omega
    ·rw [hb] at hp; exact hother j M k1 k3 hp
   ·exfalso
    have hp := (hR.live jd M k1).2.2
    have : w.heap.size ≤ M.b ∨ (VL F m0 (cI G σ)).X M.b := by
     unfold eE at hp
     split at hp
     ·rcases hp with hp | hp
      ·exact .inl hp
      ·exact .inr (.inr ⟨_, hp, rfl⟩)
     ·exact hp
     ·rcases hp with hp | hp
      ·exact .inl hp
      ·exact .inr (.inl hp.1)
    rcases this with hp | hp
    ·have := (h.live i L h3).2.1; omega
    ·rw [← hb] at hp; exact hother i L h1 h3 hp
   ·exact h.inj i j L M h3 k3 hb
  fb := fun b hb => ⟨(hR.fb b hb).1, by
   rcases hF1 b hb with hb | hb
   ·exact (h.fb b hb).2
   ·left; omega⟩
  keep := h.keep.trans' hR.keep.os hR.keep.tape hR.keep.output hR.keep.size fun k hk hx => by
   refine hR.keep.block k (by omega) fun hX => ?_
   obtain ⟨i, L, hi, h1, _, h3⟩ := hXof k hX
   subst h3
   rcases hpermX (h.live _ L h1).2.2 with q | q
   ·omega
   ·exact hx q
  f0 := ⟨fun b hb => hsame.sub b (h.f0.1 b hb), fun b hb => by
   rcases hF1 b hb with hb | hb
   ·exact h.f0.2 b hb
   ·right; omega⟩
  nd := h.nd
  rows := fun r hr => by
   have hrk := h.rows r hr
   by_cases hX : (VL F m0 (cI G σ)).X r.b
   ·obtain ⟨i, L, hi, h1, h2, h3⟩ := hXof _ hX
    have hpm := (h.live _ L h1).2.2
    have hlt0 : r.b < w0.heap.size := by obtain ⟨c0, c, e, fz, q1, _⟩ := hrk; exact kT q1
    have hlo := hob i hi
    cases ho : obj s.m σ[i] with
    | row k sz cs =>
     rw [ho] at hpm hlo
     rcases hpm with q | q
     ·omega
     ·have er := h.nd r hr _ q (by rw [h3])
      have hrow : ∃ k' sz' cs', obj m0 i = .row k' sz' cs' ∧ cs'.length = cs.length := by
       cases hp0 : obj m0 i with
       | row k' sz' cs' =>
        rw [hp0] at hlo
        refine ⟨_, _, _, rfl, ?_⟩
        cases k <;> cases k' <;> simp only [aU] at hlo
        ·rw [hlo.2]
        ·rw [hlo.2.1, wJ]
       | _ => rw [hp0] at hlo; cases k <;> cases hlo
      obtain ⟨k', sz', cs', hp0, hcl⟩ := hrow
      have hreg : (⟨L.b, L.o, L.o + cs'.length⟩ : lD) ∈ (VL F m0 (cI G σ)).regs := (lS _ _ _).2 ⟨i, L, k', sz', cs', h2, hp0, rfl⟩
      have := hR.rows _ hreg
      rw [hcl, ← er] at this
      obtain ⟨c0, c, e, fz, q1, q2, q3, q4⟩ := hrk
      obtain ⟨c0', c', e', fz', q1', q2', q3', q4'⟩ := this
      rw [q2] at q1'; simp at q1'; obtain ⟨rfl, rfl, rfl⟩ := q1'
      exact ⟨c0, c', e, fz, q1, q2', by omega, fun j hj => (q4' j hj).trans (q4 j hj)⟩
    | arr e sz cs =>
     rw [ho] at hpm
     rcases hpm with q | q
     ·omega
     ·exact absurd h3.symm (q.2 r hr)
    | dead => exact absurd ho (pP hlo).1
    | fence => exact absurd ho (pP hlo).2
    | it t p => rw [ho] at hlo; cases hp : obj m0 i <;> rw [hp] at hlo <;> cases hlo
    | mp es => rw [ho] at hlo; cases hp : obj m0 i <;> rw [hp] at hlo <;> cases hlo
   ·exact hrk.block (hR.keep.block _ hrk.lt hX)
  fence := fun k hk => by
   show obj m' k = .fence
   have hf := h.fence k hk
   have hlt := sZ hf
   have hnσ : k ∉ σ := fun hm => by
    obtain ⟨i, hi, rfl⟩ := List.getElem_of_mem hm
    exact (pP (hob i hi)).2 hf
   rw [hm'out k hnσ (by omega), pN, hf]
   exact qY (by intro sz cs e; cases e) l
  tabs := h.tabs
  pin := fun id g hp => by
   obtain ⟨h1, h2, h3⟩ := h.pin id g hp
   have hlt : id < n := by rw [← hGlen]; exact (List.getElem?_eq_some_iff.1 h2).1
   have hnl : id ∉ l := fun hm => by
    rw [← hll] at hm
    obtain ⟨i, hi, e1, e, sz, cs, e2⟩ := SS σ m0 id hm
    have := hob i hi
    rw [e2] at this
    have hq := qZ this rfl
    obtain ⟨e', sz', cs', ho, _⟩ := hq
    rw [e1] at ho; rw [ho] at h3; cases h3
   refine ⟨h1, hgsub id g hnl h2, ?_⟩
   show rowish (obj m' id) = true
   by_cases hm : id ∈ σ
   ·obtain ⟨i, hi, rfl⟩ := List.getElem_of_mem hm
    rw [hm'in i hi]
    have hlo := hob i hi
    have hki := hkind i (by omega)
    have hnarr : ∀ e sz cs, obj (eZ l s.m) σ[i] ≠ .arr e sz cs := fun e sz cs ho => by
     have : rowish (obj (eZ l s.m) σ[i]) = true := by
      rw [pN]; exact ED l _ h3
     rw [ho] at this; cases this
    have hb : aX (obj (eZ l s.m) σ[i]) (renO ρ (obj m1 i)) = renO ρ (obj m1 i) := by
     cases hq : obj (eZ l s.m) σ[i] with
     | arr e sz cs => exact absurd hq (hnarr e sz cs)
     | _ => rfl
    rw [hb]
    cases hp0 : obj m0 i with
    | row k sz cs =>
     rw [hp0] at hki
     cases hp1 : obj m1 i with
     | row k1 sz1 cs1 => cases k1 <;> rfl
     | dead => rfl
     | _ => rw [hp1] at hki; cases k <;> simp [aS] at hki
    | _ =>
     obtain ⟨_, _, _, ho, hq⟩ := qZ hlo (by rw [hp0]; rfl)
     rw [ho] at h3; cases h3
   ·rw [hm'out id hm hlt, pN]
    exact ED l _ h3 }
end
end Go.AE
