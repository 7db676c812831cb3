/- A part of the abstract evaluator: no condition. -/
import Derived.Test.YtoppecphhiiiiaaGreatDoorAEEffU
import Derived.Laws.IdiomStrings
set_option linter.unusedVariables false
set_option linter.unusedSimpArgs false
namespace Go.AE
section
variable {N : Nat} {C : bI} {P : Program} {V : dJ} {w0 w w' : World} {s : St} {G : Gh} {F : Nat → Prop} {a : Act}
theorem dO.skip {o : Oper} {K : St → Prop} {s' : St} {G' : Gh} (hd : cV N o.dst = true) (hk : K ⟨putD s'.t o.dst .junk, s'.m⟩) (h : aE P N V w0 s' G' F a w')
  (hr : (execOp a.eval o).run P w = .ok .skip w') : dO N V w0 P o K a w F :=
 ⟨_, G', a.put o.dst undef, w', _, hk, h.putD hd (.junk undef), hr, .inr ⟨rfl, rfl⟩⟩
theorem EW (hC : C.Ok P) {t : Nat} {i : TI} (hi : C.ti t = some i) {b : Addr} {v : Value} (hv : v.cells.size = i.size) (w' : World) (hr : (storeCells b v.cells.toList 0).run P w = .ok () w') :
  (Instr.storeAt t (.pointer (some b)) v).run P w = .ok () w' := by
 simp [Instr.storeAt, Instr.sureAddr, storeVar, iM hC hi, hv, hr]
theorem zkp (hC : C.Ok P) (h : aE P N V w0 s G F a w) {o : Oper} (hd : cV N o.dst = true) {K : St → Prop} {t : Nat} {i : TI} {p x : Operand} (ho : o.op = .store t p x) (hi : C.ti t = some i)
  {id off : Nat} (hp : ev s p = .ptr id off) (hk : match obj s.m id with
   | .arr e sz cs => (bV (ev s x)).length = i.size ∧ off + i.size ≤ cs.length ∧ (bV (ev s x)).all (fun c => dI c && solid c) = true ∧
     K ⟨putD s.t o.dst .junk, cD s.m id (.arr e sz (setCells cs off (bV (ev s x))))⟩
   | .row true sz cs => (bV (ev s x)).length = i.size ∧ off + i.size ≤ cs.length ∧ (bV (ev s x)).all dI = true ∧
     K ⟨putD s.t o.dst .junk, cD s.m id (.row true sz (setCells cs off (bV (ev s x))))⟩
   | .row false sz cs => (bV (ev s x)).length = i.size ∧ off + i.size ≤ cs.length ∧ (bV (ev s x)).all (fun c => dI c && solid c) = true ∧
     K ⟨putD s.t o.dst .junk, cD s.m id (.row false sz (setCells cs off (bV (ev s x))))⟩
   | _ => False) : dO N V w0 P o K a w F := by
 have hpp := h.ev p
 rw [hp] at hpp
 obtain ⟨L, hg, hv⟩ := hpp.ptr_inv
 have hx := h.ev x
 have hlive := h.live id L hg
 have hob := h.obG hg
 have hexec : ∀ w2, (storeCells ⟨L.b, L.o + off, none⟩ (a.eval x).cells.toList 0).run P w = .ok () w2 → (a.eval x).cells.size = i.size → (execOp a.eval o).run P w = .ok .skip w2 := by
  intro w2 hr hsz
  have := EW hC hi hsz w2 hr
  simp [execOp, ho, hv, this]

 have rows : ∀ (k : Bool) (sz : Nat) (cs : List AV), obj s.m id = .row k sz cs → (bV (ev s x)).length = i.size → off + i.size ≤ cs.length →
   (∀ u ∈ (a.eval x).cells.toList, u.oneCell' = true) → aF w F (match k with | true => G | false => []) (bV (ev s x)) (a.eval x).cells.toList →
   K ⟨putD s.t o.dst .junk, cD s.m id (.row k sz (setCells cs off (bV (ev s x))))⟩ → dO N V w0 P o K a w F := by
  intro k sz cs hobj hl hoff h1 hrx hk
  rw [hobj] at hob hlive
  obtain ⟨L', vs, hL, hrow, hrs⟩ := hob
  simp at hL; subst hL
  have hul : (a.eval x).cells.toList.length = i.size := by rw [← hrx.length, hl]
  have hvl := hrs.length
  obtain ⟨w2, r0, r1, r2, r3, r4, r5, r6, r7⟩ := zZ (P := P) (w0 := w0) (off := off) hrow (by omega) h1
  have hsame : fQ F F w w2 := ⟨fun _ h => h, fun b hb => r5 b fun e => hlive.1 (e ▸ hb)⟩
  have hlen : (setCells cs off (bV (ev s x))).length = cs.length := by
   have := (A6 off hrs hrx (by omega)).length
   rw [wR (by omega)] at this
   omega
  refine dO.skip (s' := ⟨s.t, cD s.m id (.row k sz (setCells cs off (bV (ev s x))))⟩) hd hk (h.turn hg r1 r2 r3 r4 r5 ⟨L, _, rfl, r6, ?_⟩ ?_ ?_ fun _ => rfl) (hexec w2 r0 (by simpa using hul))
  ·have := A6 off hrs hrx (by omega)
   cases k with
   | true => exact aF.mono hsame (bS.refl _) this
   | false => exact aF.mono hsame (bS.refl _) this
  ·have := hlive.2.2
   unfold eE at this ⊢
   simp only at this ⊢
   rw [hlen]
   exact this
  ·intro r hr e
   rcases hlive.2.2 with h3 | h3
   ·have := (h.rows r hr)
    obtain ⟨c0, c, e1, fz, k1, _⟩ := this
    have := kT k1
    omega
   ·have hr' := h.nd r hr _ h3 e
    have hlo : r.lo = L.o := by rw [hr']
    have hhi : r.hi = L.o + vs.length := by rw [hr']; simp only; omega
    exact r7 r e hlo hhi (h.rows r hr)
 split at hk
 ·rename_i e sz cs hobj
  obtain ⟨hl, hoff, hall, hk⟩ := hk
  obtain ⟨hrx, h1⟩ := hx.cells' hall
  rw [hobj] at hob hlive
  obtain ⟨n, vs, hown, hrs, h1s, hsz, hL0⟩ := hob
  have hul : (a.eval x).cells.toList.length = i.size := by rw [← hrx.length, hl]
  have hvl := hrs.length
  obtain ⟨w2, r0, r1, r2, r3, r4, r5, r6⟩ := z9k (P := P) (off := off) hown (us := (a.eval x).cells.toList) (by omega) h1
  have hsame : fQ F F w w2 := ⟨fun _ h => h, fun b hb => r5 b fun e => hlive.1 (e ▸ hb)⟩
  refine dO.skip (s' := ⟨s.t, cD s.m id (.arr e sz (setCells cs off (bV (ev s x))))⟩) hd hk (h.turn hg r1 r2 r3 r4 r5 ⟨n, _, r6, ?_, ?_, hsz, hL0⟩ ?_ ?_ fun q => by rw [hobj] at q; cases q) (hexec w2 (by rw [hL0 L rfl, Nat.zero_add]; exact r0) (by simpa using hul))
  ·exact aF.mono hsame (bS.refl _) (A6 off hrs hrx (by omega))
  ·intro u hu
   rcases List.mem_append.1 hu with hu | hu
   ·rcases List.mem_append.1 hu with hu | hu
    ·exact h1s u (List.mem_of_mem_take hu)
    ·exact h1 u hu
   ·exact h1s u (List.mem_of_mem_drop hu)
  ·exact hlive.2.2
  ·intro r hr e
   rcases hlive.2.2 with h3 | ⟨_, h3⟩
   ·obtain ⟨c0, c, e1, fz, k1, _⟩ := h.rows r hr
    have := kT k1
    omega
   ·exact absurd e (h3 r hr)
 ·rename_i sz cs hobj
  obtain ⟨hl, hoff, hall, hk⟩ := hk
  have hrx := hx.cells hall
  exact rows true sz cs hobj hl hoff (hrx.ones hall) hrx hk
 ·rename_i sz cs hobj
  obtain ⟨hl, hoff, hall, hk⟩ := hk
  obtain ⟨hrx, h1⟩ := hx.cells' hall
  exact rows false sz cs hobj hl hoff h1 hrx hk
 ·exact hk.elim
theorem zin (hC : C.Ok P) (h : aE P N V w0 s G F a w) {o : Oper} (hd : cV N o.dst = true) {K : St → Prop} {t : Nat} {x : Operand} {b : ByteArray} (ho : o.op = .range t x) (ht : C.td t = some .string)
  (hx : ev s x = .v (.string b)) (hk : K (dS s o.dst (.ptr s.m.length 0) (.it b.data.toList 0))) : dO N V w0 P o K a w F := by
 have hv := h.ev x
 rw [hx] at hv
 have hv := hv.v_inv
 have hw : d7 w (w.alloc (.stringIter b 0)) := .alloc _ _
 refine lK (g := some ⟨w.heap.size, 0, 0⟩) (v := .pointer (some ⟨w.heap.size, 0, none⟩)) h hd hk hw ?_ ?_ ?_ ?_
 ·exact ⟨_, rfl, by rw [pL, AB], rfl⟩
 ·rintro L hL; simp at hL; subst hL; exact ⟨Nat.le_refl _, by simp⟩
 ·exact .ptr (off := 0) (gnew _ _ h)
 ·simp [execOp, ho, hv, Instr.range, run_underlying (hC.u ht)]
theorem zh4 (h : aE P N V w0 s G F a w) {o : Oper} (hd : cV N o.dst = true) {K : St → Prop} {it : Operand} {id pos : Nat} {t : List UInt8} (ho : o.op = .next it true) (hx : ev s it = .ptr id 0) (hob : obj s.m id = .it t pos)
  (hk : wg (decide (pos < t.length))
     (K ⟨putD s.t o.dst (.tup [.v (.bool true), .v (.int .i64 pos), .v (.int .i32 (Utf8.decode ⟨t.toArray⟩ pos).1)]), cD s.m id (.it t (pos + (Utf8.decode ⟨t.toArray⟩ pos).2))⟩)
     (K ⟨putD s.t o.dst (.tup [.v (.bool false)]), s.m⟩)) : dO N V w0 P o K a w F := by
 have hv := h.ev it
 rw [hx] at hv
 obtain ⟨L, hg, hv⟩ := hv.ptr_inv
 have hrel := h.obG hg
 rw [hob] at hrel
 obtain ⟨L', hL, hh, hL0⟩ := hrel
 simp at hL; subst hL
 have hlive := h.live id L hg
 rw [hob] at hlive
 have hsz : (⟨t.toArray⟩ : ByteArray).size = t.length := by simp [ByteArray.size]
 have hblk := kT hh
 rw [hL0] at hv
 by_cases hp : pos < t.length
 ·have hk := hk.1 (by simpa using hp)
  have hturn := h.turn (w' := { w with heap := w.heap.setIfInBounds L.b (.stringIter ⟨t.toArray⟩ (pos + (Utf8.decode ⟨t.toArray⟩ pos).2)) }) hg (o := .it t (pos + (Utf8.decode ⟨t.toArray⟩ pos).2)) rfl rfl rfl (by simp)
   (fun k hk => by
    show (w.heap.setIfInBounds _ _)[k]? = _
    rw [Array.getElem?_setIfInBounds, if_neg (fun e => hk e.symm)])
   ⟨L, rfl, by
    show (w.heap.setIfInBounds _ _)[L.b]? = _
    rw [Array.getElem?_setIfInBounds, if_pos rfl, if_pos hblk], hL0⟩ hlive.2.2 (fun r hr e => by
    rcases hlive.2.2 with h3 | ⟨_, h3⟩
    ·obtain ⟨c0, c, e1, fz, k1, _⟩ := h.rows r hr
     have := kT k1
     omega
    ·exact absurd e (h3 r hr)) (fun q => by rw [hob] at q; cases q)
  refine dO.val (s' := ⟨s.t, cD s.m id _⟩) (v := .tuple #[.bool true, .int .i64 pos, .int .i32 (Utf8.decode ⟨t.toArray⟩ pos).1]) hd rfl hk hturn (.tup (vs := [_, _, _]) (.cons (.v _) (.cons (.v _) (.cons (.v _) .nil)))) ?_
  have hp' : pos < (⟨t.toArray⟩ : ByteArray).size := by rw [hsz]; exact hp
  simp only [execOp, ho, hv, Instr.next, Nat.add_zero, Sem.run_bind]
  rw [show (getObj L.b).run P w = .ok (.stringIter ⟨t.toArray⟩ pos) w from by simp [getObj, Sem.run, hh]]
  simp only [Result.andThen_ok, hp', if_true, Sem.run_bind]
  rw [show ∀ ob, (setObj L.b ob).run P w = .ok () { w with heap := w.heap.setIfInBounds L.b ob } from fun ob => by simp [setObj, Sem.run, hh]]
  rfl
 ·have hk := hk.2 (by simpa using hp)
  refine dO.val (s' := s) (v := .tuple #[.bool false]) hd rfl hk h (.tup (vs := [_]) (.cons (.v _) .nil)) ?_
  have hp' : ¬ pos < (⟨t.toArray⟩ : ByteArray).size := by rw [hsz]; exact hp
  simp only [execOp, ho, hv, Instr.next, Nat.add_zero, Sem.run_bind]
  rw [show (getObj L.b).run P w = .ok (.stringIter ⟨t.toArray⟩ pos) w from by simp [getObj, Sem.run, hh]]
  simp only [Result.andThen_ok, hp', if_false, Sem.run_pure]
theorem zag (hC : C.Ok P) (h : aE P N V w0 s G F a w) {o : Oper} (hd : cV N o.dst = true) {K : St → Prop} {src dst e : Nat} {x : Operand} {b : ByteArray} (ho : o.op = .convert src dst x)
  (hs : C.td src = some .string) (ht : C.td dst = some (.slice e)) (he : C.td e = some (.int .u8)) (hx : ev s x = .v (.string b))
  (hk : K (dS s o.dst (.ref s.m.length 0 b.data.toList.length) (.row false 1 (b.data.toList.map fun c => .v (.int .u8 c.toNat))))) : dO N V w0 P o K a w F := by
 have hv := h.ev x
 rw [hx] at hv
 have hv := hv.v_inv
 have hbl : b.data.toList.length = b.size := by simp
 have hge := grownCap_ge w b.size 0 e
 have hw : d7 w (Go.Lib.bytesWorld w e b) := ⟨rfl, rfl, rfl, by rw [Go.Lib.bytesWorld_size]; omega, fun k hk => Go.Lib.bytesWorld_at_old w e b k hk⟩
 have hcs : ∀ l : List UInt8, aF (Go.Lib.bytesWorld w e b) F [] (l.map fun c => AV.v (.int .u8 c.toNat)) (l.map fun c => Value.int .u8 c.toNat) := fun l => by
  induction l with
  | nil => exact .nil
  | cons x l ih => exact .cons (.v _) ih
 refine lK (g := some ⟨w.heap.size, 0, grownCap w b.size 0 e⟩) (v := .slice (some ⟨w.heap.size, 0, none⟩) b.size (grownCap w b.size 0 e)) h hd hk hw ?_ ?_ ?_ ?_
 ·refine ⟨_, b.data.toList.map fun c => Value.int .u8 c.toNat, rfl, ⟨_, _, _, Go.Lib.bytesWorld_at_new w e b, ?_, ?_, ?_, ?_⟩, hcs _⟩
  ·simp [Go.Lib.bytesCells]
  ·intro i hi
   simp at hi
   simp [Go.Lib.bytesCells, Array.getElem?_append, hi]
  ·intro i hi hc
   simp [Go.Lib.bytesCells] at hi hc
   omega
  ·intro u hu
   simp at hu
   obtain ⟨c, _, rfl⟩ := hu
   rfl
 ·rintro L hL; simp at hL; subst hL; exact ⟨Nat.le_refl _, by rw [Go.Lib.bytesWorld_size]; simp⟩
 ·rw [hbl]
  exact .ref (off := 0) (gnew _ _ h) (fun _ => rfl) hge
 ·have := Go.Lib.run_convert_string_bytes (P := P) w src dst e b (hC.u hs) (hC.u ht) (hC.u he)
  simp [execOp, ho, hv, this]
theorem z0q (s : ByteArray) : ∀ (n i : Nat) (acc : Array Value), (∀ u ∈ acc, ∃ k, u = Value.int .i32 k) → ∀ u ∈ Conv.runesFrom s n i acc, ∃ k, u = Value.int .i32 k
 | 0, _, acc, h => by simpa [Conv.runesFrom] using h
 | n + 1, i, acc, h => by
  unfold Conv.runesFrom
  split
  ·refine z0q s n _ _ fun u hu => ?_
   rcases Array.mem_push.1 hu with hu | hu
   ·exact h u hu
   ·exact ⟨_, hu⟩
  ·exact h
theorem zk8 (hC : C.Ok P) (h : aE P N V w0 s G F a w) {o : Oper} (hd : cV N o.dst = true) {K : St → Prop} {src dst e : Nat} {x : Operand} {b : ByteArray} (ho : o.op = .convert src dst x)
  (hs : C.td src = some .string) (ht : C.td dst = some (.slice e)) (he : C.td e = some (.int .i32)) (hx : ev s x = .v (.string b)) (hlen : b.data.toList.length ≤ 70368744177664)
  (hk : K (dS s o.dst (.ref s.m.length 0 (kY b.data.toList).length) (.arr e 1 ((kY b.data.toList).map AV.v)))) : dO N V w0 P o K a w F := by
 have hv := h.ev x
 rw [hx] at hv
 have hv := hv.v_inv
 have hb : (⟨b.data.toList.toArray⟩ : ByteArray) = b := by simp
 have hbl : b.data.toList.length = b.size := by simp
 have hro : kY b.data.toList = (Conv.runesFrom b b.size 0 #[]).toList := by unfold kY; rw [hb, hbl]
 have hsz : (Conv.runesFrom b b.size 0 #[]).size ≤ b.size := by have := size_runesFrom b b.size 0 #[]; simpa using this
 have hrl : (kY b.data.toList).length = (Conv.runesFrom b b.size 0 #[]).size := by rw [hro]; simp
 have hge := grownCap_ge w (Conv.runesFrom b b.size 0 #[]).size 0 e
 have hle := grownCap_le_maxLen w (Conv.runesFrom b b.size 0 #[]).size 0 e (by unfold maxLen; omega)
 have hrun := run_runes_of_string (P := P) w src dst e b (hC.u hs) (hC.u ht) (hC.u he) (by omega)
 have hone : ∀ u ∈ kY b.data.toList, u.oneCell' = true := fun u hu => by
  rw [hro] at hu
  obtain ⟨k, rfl⟩ := z0q b b.size 0 #[] (by simp) u (by simpa using hu)
  rfl
 generalize hcells : Conv.runesFrom b b.size 0 #[] = cells at *
 generalize hcap : grownCap w cells.size 0 e = cap at *
 have hreps : ∀ (w' : World) (vs : List Value), aF w' F [] (vs.map AV.v) vs := fun w' vs => by
  induction vs with
  | nil => exact .nil
  | cons x l ih => exact .cons (.v _) ih
 refine lK (g := some ⟨w.heap.size, 0, cap⟩) (v := .slice (some ⟨w.heap.size, 0, none⟩) cells.size cap) h hd hk ((d7.drew w).trans (.alloc _ (.cells (cells ++ Array.replicate (cap - cells.size) (.int .i32 0)) e))) ?_ ?_ ?_ ?_
 ·refine ⟨cells.size, kY b.data.toList, ⟨by rw [hrl]; omega, .inr ⟨w.heap.size, cap, _, rfl, Nat.zero_le _, pL w.drew _, hge, hle, by simp; omega, ?_⟩⟩, hreps _ _, hone, by omega, by simp⟩
  rw [hro]
  simp
 ·rintro L hL; simp at hL; subst hL; exact ⟨Nat.le_refl _, by simp⟩
 ·rw [hrl]
  exact .ref (off := 0) (gnew _ _ h) (fun _ => rfl) hge
 ·simp [execOp, ho, hv, hrun]
theorem BT (hC : C.Ok P) (h : aE P N V w0 s G F a w) {o : Oper} (hd : cV N o.dst = true) {K : St → Prop} (hp : gH C s o K) : dO N V w0 P o K a w F := by
 unfold gH at hp
 split at hp
 ·rename_i ho
  split at hp
  ·rename_i e ht
   split at hp
   ·rename_i i hi
    exact zh6 h hd ho hp.1 hp.2
   ·exact hp.elim
  ·exact hp.elim
 ·rename_i t len parts ho
  split at hp
  ·rename_i e ht
   split at hp
   ·rename_i i hi
    obtain ⟨h1, h2, h3, h4⟩ := hp
    cases hb : loose (parts.toList.map fun p => (p.1, ev s p.2)) with
    | false => rw [hb] at h4; exact zac hC h hd ho ht hi h1 h2 h3 h4
    | true => rw [hb] at h4; exact zab hC h hd ho ht hi h1 h2 h3 h4
   ·exact hp.elim
  ·exact hp.elim
 ·rename_i t x ho
  split at hp
  ·exact zaa h hd ho hp.1 hp.2
  ·exact hp.elim
 ·rename_i t ho
  split at hp
  ·rename_i i hi
   exact z97 hC h hd ho hi hp.1 hp.2
  ·exact hp.elim
 ·rename_i args argTypes ho
  split at hp
  ·rename_i x y t u e1 e2
   split at hp
   ·rename_i e ht
    split at hp
    ·rename_i i hi
     obtain ⟨rfl, hp⟩ := hp
     split at hp
     ·rename_i n ncs hy
      obtain ⟨args⟩ := args
      obtain ⟨argTypes⟩ := argTypes
      rcases args with _ | ⟨x', _ | ⟨y', _ | ⟨z, args⟩⟩⟩ <;> simp at e1
      simp at e2
      obtain ⟨rfl, rfl⟩ := e1
      subst e2
      exact z9g hC h hd ho ht hi hy hp
     ·exact hp.elim
    ·exact hp.elim
   ·exact hp.elim
  ·exact hp.elim
 ·rename_i t p x ho
  split at hp
  ·rename_i i id off hi hpp
   exact zkp hC h hd ho hi hpp hp
  ·exact hp.elim
 ·rename_i t x ho
  split at hp
  ·rename_i b ht hx
   exact zin hC h hd ho ht hx hp
  ·exact hp.elim
 ·rename_i it ho
  split at hp
  ·rename_i id hx
   split at hp
   ·rename_i t pos hob
    exact zh4 h hd ho hx hob hp
   ·exact hp.elim
  ·exact hp.elim
 ·rename_i src dst x ho
  split at hp
  ·rename_i e b hs ht hx
   unfold u4 at hp
   split at hp
   ·rename_i he; exact zag hC h hd ho hs ht he hx hp.2
   ·rename_i he; exact zk8 hC h hd ho hs ht he hx hp.1 hp.2
   ·exact hp.elim
  ·exact zbv hC h hd hp
 ·rename_i ho
  exact zgo h hd ho hp
 ·rename_i ho
  exact W7 hC h hd (.inl ho) hp
 ·rename_i ho
  exact W7 hC h hd (.inr ho) hp
 ·exact Q2 hC h hd hp
end
end Go.AE
