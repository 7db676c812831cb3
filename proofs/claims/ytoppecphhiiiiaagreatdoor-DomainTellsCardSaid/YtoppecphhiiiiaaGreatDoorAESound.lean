/- A part of the abstract evaluator: no condition. -/
import Derived.Test.YtoppecphhiiiiaaGreatDoorAEPure2
import Derived.Lib.LaidTab
import Derived.Lib.ItoaNum
set_option linter.unusedVariables false
set_option linter.unusedSimpArgs false
namespace Go.AE
def fK (P : Program) (w : World) (F : Nat → Prop) : Prop :=
 ∃ u : World, (0 < P.globals.size → u.ShapedOpen P ∧ ∀ g, P.globalNamed "internal/strconv.uint64pow10" = some g → Lib.TabIs P u "internal/strconv.uint64pow10" .u64 Lib.pow10Tab) ∧
  ∀ b, b < P.globals.size → F b ∧ b < w.heap.size ∧ w.heap[b]? = u.heap[b]?
structure x8 (X : Nat → Prop) (w0 w : World) : Prop where
 os : w.os = w0.os
 tape : w.tape = w0.tape
 output : w.output = w0.output
 size : w0.heap.size ≤ w.heap.size
 block : ∀ k, k < w0.heap.size → ¬ X k → w.heap[k]? = w0.heap[k]?
structure lD where
 b : Nat
 lo : Nat
 hi : Nat
def fD (w0 w : World) (r : lD) : Prop :=
 ∃ c0 c e fz, w0.heap[r.b]? = some (.cells c0 e fz) ∧ w.heap[r.b]? = some (.cells c e fz) ∧ c.size = c0.size ∧ ∀ j, (j < r.lo ∨ r.hi ≤ j) → c[j]? = c0[j]?
structure dJ where
 F0 : Nat → Prop
 own : List Nat
 regs : List lD
 ds : List Deferred
 fen : Option Nat
 pin : Nat → Option (Option bU)
def dJ.X (g : dJ) (b : Nat) : Prop := b ∈ g.own ∨ ∃ r ∈ g.regs, r.b = b
def eE (V : dJ) (w0 : World) (L : bU) : Ob → Prop
 | .row _ _ cs => w0.heap.size ≤ L.b ∨ (⟨L.b, L.o, L.o + cs.length⟩ : lD) ∈ V.regs
 | .dead => w0.heap.size ≤ L.b ∨ V.X L.b
 | _ => w0.heap.size ≤ L.b ∨ (L.b ∈ V.own ∧ ∀ r ∈ V.regs, r.b ≠ L.b)
def rowish : Ob → Bool
 | .row _ _ _ => true
 | .dead => true
 | _ => false
theorem fK.sub {P : Program} {w : World} {F F' : Nat → Prop} (h : fK P w F) (hs : ∀ b, F b → F' b) : fK P w F' := by
 obtain ⟨u, h1, h3⟩ := h
 exact ⟨u, h1, fun b k => ⟨hs b (h3 b k).1, (h3 b k).2⟩⟩
theorem fK.none (P : Program) (w : World) (F : Nat → Prop) : fK { P with globals := #[] } w F := ⟨w, fun h => absurd h (by simp), fun b h => absurd h (by simp)⟩
structure aE (P : Program) (N : Nat) (V : dJ) (w0 : World) (s : St) (G : Gh) (F : Nat → Prop) (a : Act) (w : World) : Prop where
 defers : a.defers = V.ds
 tsize : a.tmps.size = N
 tm : ∀ k, aH w F G (get s.t k) (a.tmps.getD k undef)
 len : G.length = s.m.length
 ob : ∀ (id : Nat) (g : Option bU), G[id]? = some g → d6 w F G g (obj s.m id)
 live : ∀ (id : Nat) (L : bU), G[id]? = some (some L) → ¬ F L.b ∧ L.b < w.heap.size ∧ eE V w0 L (obj s.m id)
 inj : ∀ (i j : Nat) (L M : bU), G[i]? = some (some L) → G[j]? = some (some M) → L.b = M.b → i = j
 fb : ∀ b, F b → b < w.heap.size ∧ (w0.heap.size ≤ b ∨ ¬ V.X b)
 keep : x8 V.X w0 w
 f0 : (∀ b, V.F0 b → F b) ∧ ∀ b, F b → V.F0 b ∨ w0.heap.size ≤ b
 nd : ∀ r ∈ V.regs, ∀ r' ∈ V.regs, r.b = r'.b → r = r'
 rows : ∀ r ∈ V.regs, fD w0 w r
 fence : ∀ k, V.fen = some k → obj s.m k = .fence
 pin : ∀ (id : Nat) (g : Option bU), V.pin id = some g → (∃ k, V.fen = some k ∧ id < k) ∧ G[id]? = some g ∧ rowish (obj s.m id) = true
 tabs : fK P w0 V.F0
section
variable {N : Nat} {C : bI} {P : Program} {V : dJ} {w0 w : World} {s : St} {G : Gh} {F : Nat → Prop} {a : Act}
theorem aE.tb (h : aE P N V w0 s G F a w) : fK P w F := by
 obtain ⟨u, hs, hb⟩ := h.tabs
 refine ⟨u, hs, fun b k => ?_⟩
 obtain ⟨h1, h2, h3⟩ := hb b k
 have h4 := h.f0.1 b h1
 have h5 := h.fb b h4
 refine ⟨h4, h5.1, ?_⟩
 rw [h.keep.block b h2 ?_, h3]
 rcases h5.2 with h6 | h6
 ·omega
 ·exact h6
theorem aE.ev (h : aE P N V w0 s G F a w) (x : Operand) : aH w F G (ev s x) (a.eval x) := by
 cases x with
 | tmp k => exact h.tm k
 | const v => exact .v v
 | global g => exact .junk _
 | func f => exact .fn .nil .nil
theorem bI.Ok.u (hC : C.Ok P) {t : Nat} {d : TypeDesc} (h : C.td t = some d) : P.underlying t = some d := by
 unfold bI.td at h
 cases hi : C.ti t with
 | none => simp [hi] at h
 | some i => simp [hi] at h; subst h; exact (hC.ty t i hi).1
theorem iM (hC : C.Ok P) {t : Nat} {i : TI} (h : C.ti t = some i) (w : World) : (sizeOf t).run P w = .ok i.size w := by
 obtain ⟨_, j, hj, hs, _⟩ := hC.ty t i h
 simp [sizeOf, typeInfo, hj, hs]
theorem wN (hC : C.Ok P) {t : Nat} {i : TI} (h : C.ti t = some i) (w : World) : (isAgg t).run P w = .ok i.agg w := by
 obtain ⟨hu, _⟩ := hC.ty t i h
 simp only [isAgg, Sem.run_bind, run_underlying hu, Result.andThen_ok, TI.agg]
 cases i.d <;> rfl
theorem XK (hC : C.Ok P) {t : Nat} {i : TI} (h : C.ti t = some i) {cs : List AV} {vs : List Value} {off : Nat} {K : AV → Prop}
  (hp : gP i cs off K) (hr : aF w F G cs vs) :
  ∃ x v, K x ∧ aH w F G x v ∧ (part t vs.toArray off).run P w = .ok v w := by
 have hl := hr.length
 unfold gP at hp
 cases ha : i.agg with
 | true =>
  rw [ha] at hp
  obtain ⟨h1, h2⟩ := hp
  refine ⟨_, _, h2, .ag ((hr.drop off).take i.size), ?_⟩
  simp only [part, Sem.run_bind, wN hC h, Result.andThen_ok, ha, if_true, iM hC h, Sem.run_pure]
  congr 1
  rw [List.extract_toArray]
  simp [List.extract_eq_take_drop, List.take_drop]
 | false =>
  rw [ha] at hp
  obtain ⟨h1, h2⟩ := hp
  have h3 : off < vs.length := hl ▸ h1
  have h4 : vs[off]? = some vs[off] := List.getElem?_eq_getElem h3
  refine ⟨_, _, h2, hr.nth off h4, ?_⟩
  simp [part, wN hC h, ha, h4]
theorem gD.add {b : Addr} {vs : List Value} (h : gD w b vs) (n : Nat) : gD w (b.add n) (vs.drop n) := by
 obtain ⟨h1, h2, h3⟩ := h
 refine ⟨?_, fun i hi => ?_, fun u hu => h3 u (List.mem_of_mem_drop hu)⟩
 ·unfold Addr.add; split <;> simp [h1]
 ·have h4 : n + i < vs.length := by simp at hi; omega
  have := h2 (n + i) h4
  unfold Addr.add
  split
  ·rename_i h0; subst h0; simpa using this
  ·simpa [Nat.add_assoc] using this
theorem BC {b : Addr} (h : b.spot = none) : b = ⟨b.block, b.off, none⟩ := by
 cases b; simp at h; subst h; rfl
theorem fW {b : Addr} (h : b.spot = none) (n : Nat) : b.add n = ⟨b.block, b.off + n, none⟩ := by
 unfold Addr.add
 split
 ·rename_i h0; subst h0; exact BC h
 ·simp
theorem VD (hC : C.Ok P) {t : Nat} {i : TI} (h : C.ti t = some i) {cs : List AV} {vs : List Value} {off : Nat} {K : AV → Prop} {b : Addr}
  (hp : gP i cs off K) (hr : aF w F G cs vs) (hb : gD w b vs) :
  ∃ x v, K x ∧ aH w F G x v ∧ (loadVar t (b.add off)).run P w = .ok v w := by
 have hl := hr.length
 unfold gP at hp
 obtain ⟨hb1, hb2, hb3⟩ := hb.add off
 cases ha : i.agg with
 | true =>
  rw [ha] at hp
  obtain ⟨h1, h2⟩ := hp
  refine ⟨_, _, h2, .ag ((hr.drop off).take i.size), ?_⟩
  simp only [loadVar, Sem.run_bind, wN hC h, Result.andThen_ok, ha, if_true, iM hC h]
  have hlen : ((vs.drop off).take i.size).length = i.size := by simp; omega
  have := run_loadCells_list (P := P) w (b.add off) ((vs.drop off).take i.size) (fun j v hv => by
   have hj : j < i.size := by have := (List.getElem?_eq_some_iff.1 hv).1; omega
   have hj' : j < (vs.drop off).length := by simp; omega
   have hq := hb2 j hj'
   rw [List.getElem?_take_of_lt hj] at hv
   rw [hv, fW hb.1] at hq
   rw [fW hb.1, fW (b := ⟨b.block, b.off + off, none⟩) rfl]
   exact hq)
  rw [hlen] at this
  simp only [this, Result.andThen_ok, Sem.run_pure]
 | false =>
  rw [ha] at hp
  obtain ⟨h1, h2⟩ := hp
  have h3 : off < vs.length := hl ▸ h1
  have h4 : vs[off]? = some vs[off] := List.getElem?_eq_getElem h3
  refine ⟨_, _, h2, hr.nth off h4, ?_⟩
  have hq := hb2 0 (by simp; omega)
  have h5 : w.cell? (b.add off) = some vs[off] := by
   rw [BC hb1]
   simpa [h4] using hq
  simp [loadVar, wN hC h, ha, h5]
theorem BE {e sz : Nat} {L : bU} {n : Nat} {vs : List Value} (h : w.ownsRow 0 e sz (slv (some L) n) n vs) (h1 : ∀ u ∈ vs, u.oneCell' = true) :
  gD w ⟨L.b, 0, none⟩ vs := by
 refine ⟨rfl, fun i hi => ?_, h1⟩
 obtain ⟨hl, h⟩ := h
 rcases h with ⟨h, _⟩ | ⟨g, cap, cur, hv, _, hh, hn, hm, hs, ht⟩
 ·simp [slv] at h
 ·simp [slv] at hv
  obtain ⟨rfl, rfl⟩ := hv
  simp only [World.cell?, hh, Nat.zero_add]
  have : i < cur.size := by
   have : (cur.toList.take (n * sz)).length = vs.length := by rw [ht]
   simp at this
   omega
  simp [← ht, List.getElem?_take]
  intro hle
  rw [hl] at hi
  omega
theorem wM {b o : Nat} {vs : List Value} (h : eI w b o vs) : gD w ⟨b, o, none⟩ vs := by
 obtain ⟨c, e, fz, h1, h2, h3, h4, h5⟩ := h
 exact ⟨rfl, fun i hi => by simp [World.cell?, h1, h3 i hi], h5⟩
end
end Go.AE
