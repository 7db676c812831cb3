/- A part of the abstract evaluator: no condition. -/
import Derived.Test.YtoppecphhiiiiaaGreatDoorAESound2
set_option linter.unusedVariables false
set_option linter.unusedSimpArgs false
namespace Go.AE
section
variable {N : Nat} {C : bI} {P P2 : Program} {V : dJ} {w0 w : World} {s : St} {G : Gh} {F : Nat → Prop} {a : Act}
theorem zco (ns : List Int) : ∀ (b : ByteArray), ns.foldl (fun r n => r.push (UInt8.ofNat n.toNat)) b = ⟨(b.data.toList ++ ns.map fun n => UInt8.ofNat n.toNat).toArray⟩ := by
 induction ns with
 | nil => intro b; simp
 | cons n ns ih => intro b; simp only [List.foldl_cons, ih]; simp [ByteArray.push]
theorem aE.obG (h : aE P2 N V w0 s G F a w) {id : Nat} {g : Option bU} (hg : G[id]? = some g) : d6 w F G g (obj s.m id) := h.ob id g hg
theorem z9i {α β : Type} (f : α → β) (l : Array α) : (l.toList.map f).toArray = l.map f := by cases l; simp
theorem AB (b : ByteArray) : (⟨b.data.toList.toArray⟩ : ByteArray) = b := by simp
theorem z2r {t : Nat} {i : TI} (h : C.ti t = some i) : C.td t = some i.d := by simp [bI.td, h]
theorem zfx (hC : C.Ok P) {t ty : Nat} {i : TI} (hi : C.ti t = some i) {x : AV} {v : Value} {K : AV → Prop} (hp : kS i.d x K) (hx : aH w F G x v) :
  ∃ y u, K y ∧ aH w F G y u ∧ (Builtin.len_ #[t] ty #[v]).run P w = .ok u w := by
 have hu := hC.u (z2r hi)
 unfold kS at hp
 split at hp
 ·rename_i b heq
  obtain rfl := hx.v_inv
  refine ⟨_, _, hp, .v _, ?_⟩
  simp [Builtin.len_, run_underlying hu, heq, goInt]
 ·rename_i e n cs heq
  rcases hx.sl_inv with ⟨rfl, rfl, rfl⟩ | ⟨b, cap, vs, rfl, _⟩
  ·exact ⟨_, _, hp, .v _, by simp [Builtin.len_, run_underlying hu, heq, goInt]⟩
  ·exact ⟨_, _, hp, .v _, by simp [Builtin.len_, run_underlying hu, heq, goInt]⟩
 ·rename_i e heq
  obtain rfl := hx.v_inv
  exact ⟨_, _, hp, .v _, by simp [Builtin.len_, run_underlying hu, heq, goInt]⟩
 ·rename_i e id off n heq
  rcases hx.ref_inv with ⟨_, rfl, rfl, rfl⟩ | ⟨L, off', cap, _, rfl, _⟩
  ·exact ⟨_, _, hp, .v _, by simp [Builtin.len_, run_underlying hu, heq, goInt]⟩
  ·exact ⟨_, _, hp, .v _, by simp [Builtin.len_, run_underlying hu, heq, goInt]⟩
 ·rename_i n e x' heq
  exact ⟨_, _, hp, .v _, by simp [Builtin.len_, run_underlying hu, heq, goInt]⟩
 ·exact hp.elim
theorem C8 (hC : C.Ok P) {t f o : Nat} {i : TI} (h : C.fld t f = some (o, i)) :
  ∃ fs fd, P.underlying t = some (.struct fs) ∧ fs[f]? = some fd ∧ fd.offset = o ∧ C.ti fd.type = some i := by
 unfold bI.fld at h
 split at h
 ·rename_i j hj
  split at h
  ·rename_i fs hfs
   split at h
   ·rename_i fd hfd
    split at h
    ·rename_i k hk
     simp at h
     obtain ⟨rfl, rfl⟩ := h
     exact ⟨fs, fd, by rw [hC.u (z2r hj), hfs], hfd, rfl, hk⟩
    ·simp at h
   ·simp at h
  ·simp at h
 ·simp at h
theorem DQ (h : aE P2 N V w0 s G F a w) {id : Nat} {L : bU} (hg : G[id]? = some (some L)) {cs : List AV} (ho : (∃ e sz, obj s.m id = .arr e sz cs) ∨ ∃ k sz, obj s.m id = .row k sz cs) :
  ∃ vs, aF w F G cs vs ∧ gD w ⟨L.b, L.o, none⟩ vs := by
 have := h.obG hg
 rcases ho with ⟨e, sz, ho⟩ | ⟨k, sz, ho⟩
 ·rw [ho] at this
  obtain ⟨n, vs, hown, hr, h1, _, h0⟩ := this
  rw [h0 L rfl]
  exact ⟨vs, aF.mono ⟨fun _ h => h, fun _ _ => rfl⟩ (bS.nil _) hr, BE hown h1⟩
 ·rw [ho] at this
  obtain ⟨L', vs, hL, hh, hr⟩ := this
  simp at hL
  subst hL
  refine ⟨_, ?_, wM hh⟩
  cases k with
  | true => exact hr
  | false => exact aF.mono ⟨fun _ h => h, fun _ _ => rfl⟩ (bS.nil _) hr
theorem VC (hC : C.Ok P) {t : Nat} {i : TI} (h : C.ti t = some i) {cs : List AV} {vs : List Value} {off : Nat} {K : AV → Prop} {b o : Nat}
  (hp : gP i cs off K) (hr : aF w F G cs vs) (hb : gD w ⟨b, o, none⟩ vs) :
  ∃ x v, K x ∧ aH w F G x v ∧ (Instr.loadAt t (.pointer (some ⟨b, o + off, none⟩))).run P w = .ok v w := by
 obtain ⟨x, v, h1, h2, h3⟩ := VD hC h hp hr hb
 refine ⟨x, v, h1, h2, ?_⟩
 rw [fW rfl] at h3
 simpa [Instr.loadAt, Instr.sureAddr] using h3
theorem aF.ev (h : aE P2 N V w0 s G F a w) (l : List Operand) : aF w F G (l.map (ev s)) (l.map a.eval) := by
 induction l with
 | nil => exact .nil
 | cons x l ih => exact .cons (h.ev x) ih
theorem z0m (hC : C.Ok P) {fd : Field} {i : TI} (hi : C.ti fd.type = some i) (hpos : 0 < i.size) (b : Addr) (w : World) : (fieldPlace b fd).run P w = .ok (b.add fd.offset) w := by
 have : i.size ≠ 0 := by omega
 simp [fieldPlace, iM hC hi, this]
theorem zg2 {b : Addr} {vs : List Value} (hb : gD w b vs) (off k : Nat) (hk : off + k ≤ vs.length) : (loadCells (b.add off) k).run P w = .ok ((vs.drop off).take k).toArray w := by
 obtain ⟨hb1, hb2, hb3⟩ := hb.add off
 have hlen : ((vs.drop off).take k).length = k := by simp; omega
 have := run_loadCells_list (P := P) w (b.add off) ((vs.drop off).take k) (fun j v hv => by
  have hj : j < k := by have := (List.getElem?_eq_some_iff.1 hv).1; omega
  have hj' : j < (vs.drop off).length := by simp; omega
  have hq := hb2 j hj'
  rw [List.getElem?_take_of_lt hj] at hv
  rw [hv, fW hb.1] at hq
  rw [fW hb.1, fW (b := ⟨b.block, b.off + off, none⟩) rfl]
  exact hq)
 rw [hlen] at this
 exact this
theorem yA (h : aE P2 N V w0 s G F a w) {id : Nat} {L : bU} (hg : G[id]? = some (some L)) {cs : List AV} (ho : (∃ e sz, obj s.m id = .arr e sz cs) ∨ ∃ sz, obj s.m id = .row false sz cs) :
  ∃ vs, aF w F [] cs vs ∧ gD w ⟨L.b, L.o, none⟩ vs := by
 have := h.obG hg
 rcases ho with ⟨e, sz, ho⟩ | ⟨sz, ho⟩
 ·rw [ho] at this
  obtain ⟨n, vs, hown, hr, h1, _, h0⟩ := this
  rw [h0 L rfl]
  exact ⟨vs, hr, BE hown h1⟩
 ·rw [ho] at this
  obtain ⟨L', vs, hL, hh, hr⟩ := this
  simp at hL
  subst hL
  exact ⟨_, hr, wM hh⟩
theorem BJ (h : aE P2 N V w0 s G F a w) {sz n : Nat} {x : AV} {cs : List AV} {v : Value} (hc : iG s sz x = some (n, cs)) (hx : aH w F G x v) (hl : cs.length = n * sz) :
  (v = .slice none 0 0 ∧ n = 0 ∧ cs = []) ∨ ∃ b cap vs, v = .slice (some b) n cap ∧ n ≤ cap ∧ gD w b vs ∧ aF w F [] cs vs := by
 have key : ∀ (id off len : Nat) (cs' : List AV), x = .ref id off len → ((∃ e sz, obj s.m id = .arr e sz cs') ∨ ∃ sz, obj s.m id = .row false sz cs') → len = n ∧ (cs'.drop off).take (len * sz) = cs →
   (v = .slice none 0 0 ∧ n = 0 ∧ cs = []) ∨ ∃ b cap vs, v = .slice (some b) n cap ∧ n ≤ cap ∧ gD w b vs ∧ aF w F [] cs vs := by
  rintro id off len cs' rfl ho ⟨rfl, rfl⟩
  rcases hx.ref_inv with ⟨h1, h2, rfl, rfl⟩ | ⟨L, off', cap, hg, hv, hn, h3, h4⟩
  ·exact .inl ⟨h2, rfl, by simp⟩
  ·refine .inr ⟨⟨L.b, off', none⟩, cap, ?_⟩
   obtain ⟨vs, hr, hb⟩ := yA h hg ho
   rcases h4 with ⟨rfl, _⟩ | rfl
   ·refine ⟨[], hv, hn, ⟨rfl, by simp, by simp⟩, ?_⟩
    simp
    exact .nil
   ·refine ⟨(vs.drop off).take (len * sz), hv, hn, ?_, (hr.drop off).take _⟩
    have := hb.add off
    rw [fW rfl] at this
    refine ⟨rfl, fun i hi => ?_, fun u hu => hb.2.2 u (List.mem_of_mem_drop (List.mem_of_mem_take hu))⟩
    have hi' : i < (vs.drop off).length := by simp at hi ⊢; omega
    rw [List.getElem?_take_of_lt (by simp at hi; omega)]
    exact this.2.1 i hi'
 unfold iG at hc
 split at hc
 ·simp at hc; obtain ⟨rfl, rfl⟩ := hc
  rcases hx.sl_inv with ⟨h1, h2, h3⟩ | ⟨b, cap, vs, h1, h2, h3, h4, h5⟩
  ·exact .inl ⟨h1, h2, h3⟩
  ·exact .inr ⟨b, cap, vs, h1, h3, h4, h5⟩
 ·simp at hc; obtain ⟨rfl, rfl⟩ := hc
  exact .inl ⟨hx.v_inv, rfl, rfl⟩
 ·simp at hc; obtain ⟨rfl, rfl⟩ := hc
  exact .inr ⟨_, _, [], hx.v_inv, Nat.zero_le _, ⟨rfl, by simp, by simp⟩, .nil⟩
 ·rename_i id off len
  split at hc
  ·rename_i e sz' cs' ho
   simp at hc
   exact key _ _ _ _ rfl (.inl ⟨_, _, ho⟩) hc
  ·rename_i sz' cs' ho
   simp at hc
   exact key _ _ _ _ rfl (.inr ⟨_, ho⟩) hc
  ·simp at hc
 ·simp at hc
theorem zaf (h : aE P2 N V w0 s G F a w) {x : AV} {cs : List AV} {l : List UInt8} {v : Value} (hc : iG s 1 x = some (l.length, cs)) (hl : jJ cs = some l) (hx : aH w F G x v) :
  ∃ (ns : List Int) (b : Option Addr) (len cap : Nat), l = ns.map (fun n => UInt8.ofNat n.toNat) ∧ v = .slice b len cap ∧ ((b = none ∧ ns = []) ∨ ∃ b', b = some b' ∧ (loadCells b' len).run P w = .ok (ns.map (Value.int .u8)).toArray w) := by
 have hlen : ∀ {cs : List AV} {l : List UInt8}, jJ cs = some l → cs.length = l.length := by
  intro cs
  induction cs with
  | nil => intro l h; simp [jJ] at h; subst h; rfl
  | cons x cs ih =>
   intro l h
   unfold jJ at h
   split at h
   ·rename_i heq; simp at heq
   ·rename_i heq; simp at heq; obtain ⟨rfl, rfl⟩ := heq
    simp only [Option.map_eq_some_iff] at h
    obtain ⟨l', h1, rfl⟩ := h
    simp [ih h1]
   ·simp at h
 rcases BJ h hc hx (by rw [hlen hl]; simp) with ⟨rfl, h2, rfl⟩ | ⟨b, cap, vs, rfl, h2, h3, h4⟩
 ·refine ⟨[], none, 0, 0, ?_, rfl, .inl ⟨rfl, rfl⟩⟩
  simpa using h2
 ·obtain ⟨ns, rfl, rfl⟩ := OD hl h4
  refine ⟨ns, some b, _, cap, rfl, rfl, .inr ⟨b, rfl, ?_⟩⟩
  have := zg2 (P := P) h3 0 ns.length (by simp)
  simpa [Addr.add, List.take_of_length_le] using this
theorem FP (h : aE P2 N V w0 s G F a w) {args : Array Operand} {p q : Value} (e : args.toList.map (ev s) = [.v p, .v q]) : ∃ x y, args = #[x, y] ∧ a.eval x = p ∧ a.eval y = q := by
 obtain ⟨l⟩ := args
 rcases l with _ | ⟨x, _ | ⟨y, _ | ⟨z, l⟩⟩⟩ <;> simp at e
 have hx := h.ev x
 have hy := h.ev y
 rw [e.1] at hx; rw [e.2] at hy
 exact ⟨x, y, rfl, hx.v_inv, hy.v_inv⟩
theorem zjz (w : World) (ts : Array TypeId) (ty : TypeId) (x y : Nat) : (Builtin.real_ ts ty #[.complex .f64 x y]).run P w = .ok (.float .f64 x) w := rfl
theorem zjy (w : World) (ts : Array TypeId) (ty : TypeId) (x y : Nat) : (Builtin.imag_ ts ty #[.complex .f64 x y]).run P w = .ok (.float .f64 y) w := rfl
theorem zjx (w : World) (ts : Array TypeId) (ty : TypeId) (x y : Nat) : (Builtin.complex_ ts ty #[.float .f64 x, .float .f64 y]).run P w = .ok (.complex .f64 x y) w := rfl
theorem XA (h : aE P2 N V w0 s G F a w) {args : Array Operand} {p : Value} (e : args.toList.map (ev s) = [.v p]) : ∃ x, args = #[x] ∧ a.eval x = p := by
 obtain ⟨l⟩ := args
 rcases l with _ | ⟨x, _ | ⟨y, l⟩⟩ <;> simp at e
 have hx := h.ev x
 rw [e] at hx
 exact ⟨x, rfl, hx.v_inv⟩
theorem C3 (b : ByteArray) (l n : Nat) : b.extract l n = ⟨((b.data.toList.take n).drop l).toArray⟩ := by
 apply ByteArray.ext
 apply Array.ext'
 simp [ByteArray.data_extract, List.extract_eq_take_drop, List.drop_take]
theorem zc5 (b : ByteArray) (n : Nat) : b.extract n b.size = ⟨(b.data.toList.drop n).toArray⟩ := by
 rw [C3, List.take_of_length_le]
 simp
theorem zc6 (b : ByteArray) (n : Nat) : b.extract 0 n = ⟨(b.data.toList.take n).toArray⟩ := by
 rw [C3, List.drop_zero]
theorem wC (hC : C.Ok P) (h : aE P2 N V w0 s G F a w) {o : Oper} {K : AV → Prop} (hp : bB C s o.op K) :
  ∃ x v, K x ∧ aH w F G x v ∧ (execOp a.eval o).run P w = .ok (.value v) w := by
 obtain ⟨dst, op, type, pos, after, guard⟩ := o
 simp only at hp
 unfold bB at hp
 split at hp
 ·exact ⟨_, _, hp, h.ev _, rfl⟩
 ·exact ⟨_, _, hp, h.ev _, rfl⟩
 ·
  rename_i c x y
  split at hp
  ·rename_i t heq
   have hc := h.ev c
   rw [heq] at hc
   have hc := hc.v_inv
   cases t with
   | true => exact ⟨_, _, hp.1 rfl, h.ev x, by simp [execOp, hc, asBool]⟩
   | false => exact ⟨_, _, hp.2 rfl, h.ev y, by simp [execOp, hc, asBool]⟩
  ·exact hp.elim
 ·
  rename_i op t x y ty
  have hx := h.ev x
  have hy := h.ev y
  split at hp
  ·rename_i p q e1 e2
   rw [e1] at hx; rw [e2] at hy
   have hx := hx.v_inv
   have hy := hy.v_inv
   split at hp
   ·obtain ⟨ht, hp⟩ := hp
    refine ⟨_, _, hp, .v _, ?_⟩
    have := run_eql_bool (P := P) w t p q (hC.u ht)
    simp [execOp, hx, hy, eqGuard, this]
   ·obtain ⟨ht, hp⟩ := hp
    refine ⟨_, _, hp, .v _, ?_⟩
    have := run_neq_bool (P := P) w t p q (hC.u ht)
    simp [execOp, hx, hy, eqGuard, this]
   ·exact hp.elim
  ·rename_i p q _ e1 e2
   rw [e1] at hx; rw [e2] at hy
   have hx := hx.v_inv
   have hy := hy.v_inv
   obtain ⟨r, hr, hrun⟩ := za2 (P := P) (t := t) hp x y w
   refine ⟨_, _, hr, .v _, ?_⟩
   simp only [execOp, hx, hy, Sem.run_bind] at hrun ⊢
   rw [hrun]; rfl
  ·exact hp.elim
 ·
  rename_i op t x
  have hx := h.ev x
  split at hp
  ·rename_i p e1
   rw [e1] at hx
   have hx := hx.v_inv
   obtain ⟨r, hr, hrun⟩ := zlb (P := P) hp w
   exact ⟨_, _, hr, .v _, by simp [execOp, hx, hrun]⟩
  ·exact hp.elim
 ·
  rename_i x i
  have hx := h.ev x
  split at hp
  ·rename_i xs e1
   rw [e1] at hx
   obtain ⟨vs, hv, hr⟩ := hx.tup_inv
   obtain ⟨hi, hp⟩ := hp
   have hi' : i < vs.length := hr.length ▸ hi
   have hq : vs[i]? = some vs[i] := List.getElem?_eq_getElem hi'
   exact ⟨_, _, hp, hr.nth i hq, by simp [execOp, hv, Instr.extract, hq]⟩
  ·exact hp.elim
 ·
  rename_i t x i
  have hx := h.ev x
  have hi := h.ev i
  split at hp
  ·rename_i b k j e0 e1 e2
   rw [e1] at hx; rw [e2] at hi
   have hx := hx.v_inv
   have hi := hi.v_inv
   obtain ⟨h0, h1, hp⟩ := hp
   refine ⟨_, _, hp, .v _, ?_⟩
   have hj : j.toNat < b.size := by
    have : b.data.toList.length = b.size := by simp
    omega
   have hq2 : b.data.toList.getD j.toNat 0 = b[j.toNat] := by
    have : j.toNat < b.data.size := hj
    rw [List.getD_eq_getElem?_getD, Array.getElem?_toList, Array.getElem?_eq_getElem this]
    rfl
   have hq : b[j.toNat]? = some b[j.toNat] := ByteArray.getElem?_lt' b _ hj
   simp only [execOp, hx, hi, Sem.run_bind, Instr.index, asIntOf, Sem.run_pure, Result.andThen_ok, run_underlying (hC.u e0)]
   simp only [h0, if_true, hq, hq2]
   rfl
  ·rename_i n e cs k j e0 e1 e2
   rw [e1] at hx; rw [e2] at hi
   obtain ⟨vs, hv, hr⟩ := hx.ag_inv
   have hi := hi.v_inv
   obtain ⟨h0, h1, hp⟩ := hp
   split at hp
   ·rename_i ie hie
    obtain ⟨y, u, k1, k2, k3⟩ := XK hC hie hp hr
    refine ⟨y, u, k1, k2, ?_⟩
    simp only [execOp, hv, hi, Sem.run_bind, Instr.index, asIntOf, Sem.run_pure, Result.andThen_ok, run_underlying (hC.u e0)]
    simp [h0, h1, iM hC hie, k3]
   ·exact hp.elim
  ·exact hp.elim
 ·
  rename_i t x i
  have hx := h.ev x
  have hi := h.ev i
  split at hp
  ·rename_i e n cs k j e0 e1 e2
   rw [e1] at hx; rw [e2] at hi
   have hi := hi.v_inv
   obtain ⟨h0, h1, hp⟩ := hp
   split at hp
   ·rename_i ie hie
    rcases hx.sl_inv with ⟨_, rfl, _⟩ | ⟨b, cap, vs, hv, hf, hn, hb, hr⟩
    ·omega
    ·refine ⟨_, _, hp, .cp (a := b.add (j.toNat * ie.size)) ?_ (hb.add _) (hr.drop _), ?_⟩
     ·rw [fW hb.1]; exact hf
     ·simp [execOp, hv, hi, Instr.indexAt, asIntOf, run_underlying (hC.u e0), h0, h1, iM hC hie]
   ·exact hp.elim
  ·rename_i e id off n k j e0 e1 e2
   rw [e1] at hx; rw [e2] at hi
   have hi := hi.v_inv
   obtain ⟨h0, h1, hp⟩ := hp
   split at hp
   ·rename_i ie hie
    rcases hx.ref_inv with ⟨_, _, _, rfl⟩ | ⟨L, off', cap, hg, hv, hn, _, ho⟩
    ·omega
    ·rcases ho with ⟨rfl, _⟩ | rfl
     ·omega
     refine ⟨_, _, hp, .ptr hg, ?_⟩
     simp [execOp, hv, hi, Instr.indexAt, asIntOf, run_underlying (hC.u e0), h0, h1, iM hC hie, fW, Nat.add_assoc]
   ·exact hp.elim
  ·rename_i n e id off k j e0 e1 e2
   rw [e1] at hx; rw [e2] at hi
   have hi := hi.v_inv
   obtain ⟨L, hg, hv⟩ := hx.ptr_inv
   obtain ⟨h0, h1, hp⟩ := hp
   split at hp
   ·rename_i ie hie
    refine ⟨_, _, hp, .ptr hg, ?_⟩
    simp [execOp, hv, hi, Instr.indexAt, Instr.sureAddr, asIntOf, run_underlying (hC.u e0), h0, h1, iM hC hie, fW, Nat.add_assoc]
   ·exact hp.elim
  ·rename_i n e cs k j e0 e1 e2
   rw [e1] at hx; rw [e2] at hi
   have hi := hi.v_inv
   obtain ⟨b, vs, hv, hf, hb, hr⟩ := hx.cp_inv
   obtain ⟨h0, h1, hp⟩ := hp
   split at hp
   ·rename_i ie hie
    refine ⟨_, _, hp, .cp (a := b.add (j.toNat * ie.size)) ?_ (hb.add _) (hr.drop _), ?_⟩
    ·rw [fW hb.1]; exact hf
    ·simp [execOp, hv, hi, Instr.indexAt, Instr.sureAddr, asIntOf, run_underlying (hC.u e0), h0, h1, iM hC hie]
   ·exact hp.elim
  ·exact hp.elim
 ·
  rename_i t x
  have hx := h.ev x
  split at hp
  ·rename_i i cs e0 e1
   rw [e1] at hx
   obtain ⟨b, vs, hv, hf, hb, hr⟩ := hx.cp_inv
   obtain ⟨y, u, k1, k2, k3⟩ := VD (F := F) (G := G) hC e0 hp (aF.mono ⟨fun _ h => h, fun _ _ => rfl⟩ (bS.nil _) hr) hb
   refine ⟨y, u, k1, k2, ?_⟩
   have : b.add 0 = b := by simp [Addr.add]
   rw [this] at k3
   simp [execOp, hv, Instr.loadAt, Instr.sureAddr, k3]
  ·rename_i i id off e0 e1
   rw [e1] at hx
   obtain ⟨L, hg, hv⟩ := hx.ptr_inv
   split at hp
   ·rename_i e sz cs ho
    obtain ⟨vs, hr, hb⟩ := DQ h hg (.inl ⟨_, _, ho⟩)
    obtain ⟨y, u, k1, k2, k3⟩ := VC (F := F) (G := G) hC e0 hp hr hb
    exact ⟨y, u, k1, k2, by simp [execOp, hv, k3]⟩
   ·rename_i k sz cs ho
    obtain ⟨vs, hr, hb⟩ := DQ h hg (.inr ⟨_, _, ho⟩)
    obtain ⟨y, u, k1, k2, k3⟩ := VC (F := F) (G := G) hC e0 hp hr hb
    exact ⟨y, u, k1, k2, by simp [execOp, hv, k3]⟩
   ·exact hp.elim
  ·exact hp.elim
 ·
  rename_i t x f
  have hx := h.ev x
  split at hp
  ·rename_i off i cs e0 e1
   rw [e1] at hx
   obtain ⟨vs, hv, hr⟩ := hx.ag_inv
   obtain ⟨fs, fd, hu, hfd, rfl, hti⟩ := C8 hC e0
   obtain ⟨y, u, k1, k2, k3⟩ := XK hC hti hp hr
   refine ⟨y, u, k1, k2, ?_⟩
   simp [execOp, hv, Instr.field, run_underlying hu, hfd, asAgg, k3]
  ·exact hp.elim
 ·
  rename_i t x f
  have hx := h.ev x
  split at hp
  ·rename_i off i cs e0 e1
   rw [e1] at hx
   obtain ⟨b, vs, hv, hf, hb, hr⟩ := hx.cp_inv
   obtain ⟨fs, fd, hu, hfd, rfl, hti⟩ := C8 hC e0
   obtain ⟨hpos, hp⟩ := hp
   refine ⟨_, _, hp, .cp (a := b.add fd.offset) ?_ (hb.add _) (hr.drop _), ?_⟩
   ·rw [fW hb.1]; exact hf
   ·simp [execOp, hv, Instr.fieldAt, Instr.sureAddr, run_underlying hu, hfd, z0m hC hti hpos]
  ·rename_i off i id o' e0 e1
   rw [e1] at hx
   obtain ⟨L, hg, hv⟩ := hx.ptr_inv
   obtain ⟨fs, fd, hu, hfd, rfl, hti⟩ := C8 hC e0
   obtain ⟨hpos, hp⟩ := hp
   refine ⟨_, _, hp, .ptr hg, ?_⟩
   simp [execOp, hv, Instr.fieldAt, Instr.sureAddr, run_underlying hu, hfd, z0m hC hti hpos, fW, Nat.add_assoc]
  ·exact hp.elim
 ·
  rename_i x
  have hx := h.ev x
  split at hp
  ·rename_i cs e1
   rw [e1] at hx
   obtain ⟨b, vs, hv, hf, hb, hr⟩ := hx.cp_inv
   exact ⟨_, _, hp, hx, by simp [execOp, hv]⟩
  ·rename_i id off e1
   rw [e1] at hx
   obtain ⟨L, hg, hv⟩ := hx.ptr_inv
   exact ⟨_, _, hp, hx, by simp [execOp, hv]⟩
  ·exact hp.elim
 ·
  rename_i f first cap
  refine ⟨_, _, hp, .fn (aF.ev h _) (aF.ev h _), ?_⟩
  simp only [execOp, Instr.makeFunc, Sem.run_bind, Sem.run_pure, Result.andThen_ok, z9i]
 ·
  rename_i src dst x
  have hx := h.ev x
  split at hp
  ·rename_i d k k' n e1 e2 e3
   rw [e3] at hx
   have hx := hx.v_inv
   refine ⟨_, _, hp, .v _, ?_⟩
   simp only [execOp, hx, convert, Sem.run_bind, run_underlying (hC.u e1), run_underlying (hC.u e2), Result.andThen_ok, Conv.intToInt, Sem.run_pure]
  ·rename_i b e1 e2 e3
   rw [e3] at hx
   have hx := hx.v_inv
   refine ⟨_, _, hp, .v _, ?_⟩
   simp only [execOp, hx, convert, Sem.run_bind, run_underlying (hC.u e1), run_underlying (hC.u e2), Result.andThen_ok, Sem.run_pure]
  ·rename_i k0 k' n e1 e2 e3
   rw [e3] at hx
   have hx := hx.v_inv
   refine ⟨_, _, hp, .v _, ?_⟩
   simp only [execOp, hx, convert, Sem.run_bind, run_underlying (hC.u e1), run_underlying (hC.u e2), Result.andThen_ok, Conv.intToString, Sem.run_pure, AB]
  ·rename_i d k' n e1 e2 e3
   rw [e3] at hx
   have hx := hx.v_inv
   refine ⟨_, _, hp, .v _, ?_⟩
   simp only [execOp, hx, convert, Sem.run_bind, run_underlying (hC.u e1), run_underlying (hC.u e2), Result.andThen_ok, Conv.intToFloat, Sem.run_pure]
  ·rename_i d k b e1 e2 e3
   rw [e3] at hx
   have hx := hx.v_inv
   unfold sY at hp
   split at hp
   ·rename_i n en
    obtain ⟨h0, h1, hp⟩ := hp
    refine ⟨_, _, hp, .v _, ?_⟩
    simp only [execOp, hx, convert, Sem.run_bind, run_underlying (hC.u e1), run_underlying (hC.u e2), Result.andThen_ok, Conv.floatToInt, en]
    rw [if_pos ⟨h0, h1⟩]
    rfl
   ·exact hp.elim
  ·rename_i e e1 e2
   obtain ⟨he, hp⟩ := hp
   split at hp
   ·rename_i n cs ec
    split at hp
    ·rename_i l el
     obtain ⟨rfl, hp⟩ := hp
     obtain ⟨v, hv⟩ : ∃ v, v = a.eval x := ⟨_, rfl⟩
     rw [← hv] at hx
     obtain ⟨ns, b, len, cap, hns, hv2, hload⟩ := zaf h ec el hx
     refine ⟨_, _, hp, .v _, ?_⟩
     simp only [execOp, ← hv, Sem.run_bind]
     rcases hload with ⟨rfl, hl⟩ | ⟨a', rfl, hl⟩
     ·rw [hv2, run_convert_bytes_string w src dst e none len cap (hC.u e1) (hC.u he) (hC.u e2)]
      subst hl
      simp at hns
      subst hns
      rfl
     ·rw [hv2, run_convert_bytes_string w src dst e (some a') len cap (hC.u e1) (hC.u he) (hC.u e2), run_bytesToString w a' len cap ns hl, zco]
      simp [hns]
    ·exact hp.elim
   ·exact hp.elim
  ·exact hp.elim
 ·
  rename_i t x lo hi
  have hx := h.ev x
  have hlo : ∀ {l : Operand} {k : IntKind} {n : Int}, ev s l = .v (.int k n) → a.eval l = .int k n := fun {l k n} e => by have := h.ev l; rw [e] at this; exact this.v_inv
  split at hp
  ·rename_i b e1 e2
   rw [e2] at hx
   have hx := hx.v_inv
   have hu := hC.u e1
   have hb : b.data.toList.length = b.size := by simp
   split at hp
   ·rename_i e3 e4
    have e3 : lo = none := by simpa using e3
    have e4 : hi = none := by simpa using e4
    subst e3; subst e4
    refine ⟨_, _, hp, .v _, ?_⟩
    simp [execOp, hx, Instr.sliceAt, run_underlying hu, Instr.slice, Instr.sliceBounds, ByteArray.extract_zero_size]
   ·rename_i k l e3 e4
    simp only [Option.map_eq_some_iff] at e3
    obtain ⟨lo, rfl, e3⟩ := e3
    have e4 : hi = none := by simpa using e4
    subst e4
    obtain ⟨h0, h1, hp⟩ := hp
    refine ⟨_, _, hp, .v _, ?_⟩
    simp [execOp, hx, hlo e3, Instr.sliceAt, run_underlying hu, Instr.slice, Instr.sliceBounds, Instr.sliceBound, asIntOf, h0, hb ▸ h1, zc5]
   ·rename_i k l e3 e4
    simp only [Option.map_eq_some_iff] at e4
    obtain ⟨hi, rfl, e4⟩ := e4
    have e3 : lo = none := by simpa using e3
    subst e3
    obtain ⟨h0, h1, hp⟩ := hp
    refine ⟨_, _, hp, .v _, ?_⟩
    simp [execOp, hx, hlo e4, Instr.sliceAt, run_underlying hu, Instr.slice, Instr.sliceBounds, Instr.sliceBound, asIntOf, h0, hb ▸ h1, zc6]
   ·rename_i k l k' m e3 e4
    simp only [Option.map_eq_some_iff] at e3 e4
    obtain ⟨hi, rfl, e4⟩ := e4
    obtain ⟨lo, rfl, e3⟩ := e3
    obtain ⟨h0, h1, h2, hp⟩ := hp
    refine ⟨_, _, hp, .v _, ?_⟩
    have h3 : 0 ≤ m := by omega
    have h4 : l ≤ max m 0 := by omega
    simp [execOp, hx, hlo e3, hlo e4, Instr.sliceAt, run_underlying hu, Instr.slice, Instr.sliceBounds, Instr.sliceBound, asIntOf, h0, h3, hb ▸ h2, h4, C3]
   ·exact hp.elim
  ·rename_i e n cs e1 e2
   rw [e2] at hx
   have hu := hC.u e1
   split at hp
   ·rename_i ie hie
    have hz := iM hC hie w

    have main : ∀ (l m : Nat) (y : AV), l ≤ m → m ≤ n → cs.length = n * ie.size → K y → y = .sl (m - l) ((cs.take (m * ie.size)).drop (l * ie.size)) →
      (∀ b cap, a.eval x = .slice b n cap → n ≤ cap → (execOp a.eval { dst, op := .slice t x lo hi none, type, pos, after, guard }).run P w = .ok (.value (.slice (if cap = l then b else b.map (·.add (l * ie.size))) (m - l) (cap - l))) w) →
      ∃ x' v, K x' ∧ aH w F G x' v ∧ (execOp a.eval { dst, op := .slice t x lo hi none, type, pos, after, guard }).run P w = .ok (.value v) w := by
     intro l m y h1 h2 h3 hK hy hrun
     subst hy
     rcases hx.sl_inv with ⟨hv, rfl, rfl⟩ | ⟨b, cap, vs, hv, hf, hn, hb, hr⟩
     ·have : l = 0 := by omega
      have : m = 0 := by omega
      subst l; subst m
      refine ⟨_, _, hK, ?_, hrun _ _ hv (Nat.le_refl _)⟩
      simp
      exact .sl0
     ·refine ⟨_, _, hK, ?_, hrun _ _ hv hn⟩
      have hlen := hr.length
      by_cases hc : cap = l
      ·have hm : m = l := by omega
       have e0 : (cs.take (m * ie.size)).drop (l * ie.size) = [] := by rw [hm]; simp
       have e1 : m - l = 0 := by omega
       have e2 : cap - l = 0 := by omega
       rw [e0, e1, e2, if_pos hc]
       exact .sl hf (Nat.le_refl _) ⟨hb.1, by simp, by simp⟩ (vs := []) .nil
      ·simp only [if_neg hc, Option.map_some]
       refine .sl (vs := (vs.take (m * ie.size)).drop (l * ie.size)) ?_ (by omega) ?_ ((hr.take _).drop _)
       ·rw [fW hb.1]; exact hf
       ·refine gD.add ⟨hb.1, fun i hi => ?_, fun u hu => hb.2.2 u (List.mem_of_mem_take hu)⟩ _
        rw [List.getElem?_take_of_lt (by simp at hi; omega)]
        exact hb.2.1 i (by simp at hi; omega)
    split at hp
    ·rename_i e3 e4
     have e3 : lo = none := by simpa using e3
     have e4 : hi = none := by simpa using e4
     subst e3; subst e4
     have hw : ∀ b cap, a.eval x = .slice b n cap → n ≤ cap → (execOp a.eval { dst, op := .slice t x none none none, type, pos, after, guard }).run P w = .ok (.value (.slice (if cap = 0 then b else b.map (·.add (0 * ie.size))) (n - 0) (cap - 0))) w := by
      intro b cap hv hn
      simp [execOp, hv, Instr.sliceAt, run_underlying hu, Instr.slice, Instr.sliceBounds, hz]
     rcases hx.sl_inv with ⟨hv, rfl, rfl⟩ | ⟨b, cap, vs, hv, hf, hn, hb, hr⟩
     ·exact ⟨_, _, hp, .sl0, by simpa using hw _ _ hv (Nat.le_refl _)⟩
     ·exact ⟨_, _, hp, .sl hf hn hb hr, by simpa [Addr.add] using hw _ _ hv hn⟩
    ·rename_i k l e3 e4
     simp only [Option.map_eq_some_iff] at e3
     obtain ⟨lo, rfl, e3⟩ := e3
     have e4 : hi = none := by simpa using e4
     subst e4
     obtain ⟨h0, h1, h2, hp⟩ := hp
     refine main l.toNat n _ (by omega) (Nat.le_refl _) h2 hp (by rw [List.take_of_length_le (by omega)]) ?_
     intro b cap hv hn
     have h4 : l ≤ (n : Int) := h1
     simp [execOp, hv, hlo e3, Instr.sliceAt, run_underlying hu, Instr.slice, Instr.sliceBounds, Instr.sliceBound, asIntOf, h0, h4, hz]
    ·rename_i k m e3 e4
     simp only [Option.map_eq_some_iff] at e4
     obtain ⟨hi, rfl, e4⟩ := e4
     have e3 : lo = none := by simpa using e3
     subst e3
     obtain ⟨h0, h1, h2, hp⟩ := hp
     refine main 0 m.toNat _ (by omega) (by omega) h2 hp (by simp) ?_
     intro b cap hv hn
     have h4 : m ≤ (cap : Int) := by omega
     simp [execOp, hv, hlo e4, Instr.sliceAt, run_underlying hu, Instr.slice, Instr.sliceBounds, Instr.sliceBound, asIntOf, h0, h4, hz]
    ·rename_i k l k' m e3 e4
     simp only [Option.map_eq_some_iff] at e3 e4
     obtain ⟨hi, rfl, e4⟩ := e4
     obtain ⟨lo, rfl, e3⟩ := e3
     obtain ⟨h0, h1, h2, h3, hp⟩ := hp
     refine main l.toNat m.toNat _ (by omega) (by omega) h3 hp rfl ?_
     intro b cap hv hn
     have h4 : m ≤ (cap : Int) := by omega
     have h5 : 0 ≤ m := by omega
     have h6 : l ≤ max m 0 := by omega
     simp [execOp, hv, hlo e3, hlo e4, Instr.sliceAt, run_underlying hu, Instr.slice, Instr.sliceBounds, Instr.sliceBound, asIntOf, h0, h4, h5, h6, hz]
    ·exact hp.elim
   ·exact hp.elim
  ·rename_i e id off n e1 e2
   rw [e2] at hx
   have hu := hC.u e1
   split at hp
   ·rename_i ie hie
    have hz := iM hC hie w
    have main : ∀ (l m : Nat) (y : AV), l ≤ m → m ≤ n → (0 < l → 0 < ie.size) → K y → y = .ref id (off + l * ie.size) (m - l) →
      (∀ b cap, a.eval x = .slice b n cap → n ≤ cap → (execOp a.eval { dst, op := .slice t x lo hi none, type, pos, after, guard }).run P w = .ok (.value (.slice (if cap = l then b else b.map (·.add (l * ie.size))) (m - l) (cap - l))) w) →
      ∃ x' v, K x' ∧ aH w F G x' v ∧ (execOp a.eval { dst, op := .slice t x lo hi none, type, pos, after, guard }).run P w = .ok (.value v) w := by
     intro l m y h1 h2 h3 hK hy hrun
     subst hy
     rcases hx.ref_inv with ⟨hg, hv, rfl, rfl⟩ | ⟨L, off', cap, hg, hv, hn, hcap, ho⟩
     ·have : l = 0 := by omega
      have : m = 0 := by omega
      subst l; subst m
      refine ⟨_, _, hK, ?_, hrun _ _ hv (Nat.le_refl _)⟩
      simp
      exact .ref0 hg
     ·refine ⟨_, _, hK, ?_, hrun _ _ hv hn⟩
      rcases ho with ⟨rfl, ho⟩ | rfl
      ·have : l = 0 := by omega
       have : m = 0 := by omega
       subst l; subst m
       simp only [Nat.zero_mul, Nat.add_zero, Nat.sub_self, Option.map_some]
       split
       ·exact .refe hg ho
       ·rw [fW rfl]; exact .refe hg ho
      ·by_cases hl : l = 0
       ·subst hl
        have : (if cap = 0 then some (⟨L.b, L.o + off, none⟩ : Addr) else (some (⟨L.b, L.o + off, none⟩ : Addr)).map (·.add (0 * ie.size))) = some ⟨L.b, L.o + off, none⟩ := by
         split <;> simp [Addr.add]
        rw [this]
        simp only [Nat.zero_mul, Nat.add_zero, Nat.sub_zero]
        exact .ref hg hcap (by omega)
       ·have hpos := h3 (by omega)
        have hne : off + l * ie.size ≠ 0 := by
         have := Nat.mul_pos (Nat.pos_of_ne_zero hl) hpos
         omega
        by_cases hc : cap = l
        ·have e1 : m - l = 0 := by omega
         rw [if_pos hc, e1]
         exact .refe hg hne
        ·simp only [if_neg hc, Option.map_some]
         rw [fW rfl, Nat.add_assoc]
         exact .ref hg (fun e => absurd e hne) (by omega)
    split at hp
    ·rename_i e3 e4
     have e3 : lo = none := by simpa using e3
     have e4 : hi = none := by simpa using e4
     subst e3; subst e4
     refine main 0 n _ (by omega) (by omega) (by omega) hp (by simp) ?_
     intro b cap hv hn
     simp [execOp, hv, Instr.sliceAt, run_underlying hu, Instr.slice, Instr.sliceBounds, hz]
    ·rename_i k l e3 e4
     simp only [Option.map_eq_some_iff] at e3
     obtain ⟨lo, rfl, e3⟩ := e3
     have e4 : hi = none := by simpa using e4
     subst e4
     obtain ⟨h0, h1, h2, hp⟩ := hp
     refine main l.toNat n _ (by omega) (Nat.le_refl _) (fun _ => h2) hp rfl ?_
     intro b cap hv hn
     simp [execOp, hv, hlo e3, Instr.sliceAt, run_underlying hu, Instr.slice, Instr.sliceBounds, Instr.sliceBound, asIntOf, h0, h1, hz]
    ·rename_i k m e3 e4
     simp only [Option.map_eq_some_iff] at e4
     obtain ⟨hi, rfl, e4⟩ := e4
     have e3 : lo = none := by simpa using e3
     subst e3
     obtain ⟨h0, h1, hp⟩ := hp
     refine main 0 m.toNat _ (by omega) (by omega) (by omega) hp (by simp) ?_
     intro b cap hv hn
     have h4 : m ≤ (cap : Int) := by omega
     simp [execOp, hv, hlo e4, Instr.sliceAt, run_underlying hu, Instr.slice, Instr.sliceBounds, Instr.sliceBound, asIntOf, h0, h4, hz]
    ·rename_i k l k' m e3 e4
     simp only [Option.map_eq_some_iff] at e3 e4
     obtain ⟨hi, rfl, e4⟩ := e4
     obtain ⟨lo, rfl, e3⟩ := e3
     obtain ⟨h0, h1, h2, h3, hp⟩ := hp
     refine main l.toNat m.toNat _ (by omega) (by omega) (fun _ => h3) hp rfl ?_
     intro b cap hv hn
     have h4 : m ≤ (cap : Int) := by omega
     have h5 : 0 ≤ m := by omega
     have h6 : l ≤ max m 0 := by omega
     simp [execOp, hv, hlo e3, hlo e4, Instr.sliceAt, run_underlying hu, Instr.slice, Instr.sliceBounds, Instr.sliceBound, asIntOf, h0, h4, h5, h6, hz]
    ·exact hp.elim
   ·exact hp.elim
  ·exact hp.elim
 ·
  rename_i args argTypes
  split at hp
  ·rename_i x t e1 e2
   split at hp
   ·rename_i i hi
    obtain ⟨y, u, k1, k2, k3⟩ := zfx (ty := type) hC hi hp (h.ev x)
    refine ⟨y, u, k1, k2, ?_⟩
    have ha : args = #[x] := by cases args; simp at e1; simp [e1]
    have ht : argTypes = #[t] := by cases argTypes; simp at e2; simp [e2]
    subst ha; subst ht
    simp [execOp, resolve, invoke, builtin, k3]
   ·exact hp.elim
  ·exact hp.elim
 ·
  rename_i args argTypes
  split at hp
  ·rename_i k p k' q e1
   obtain ⟨rfl, hp⟩ := hp
   obtain ⟨x, y, rfl, hx, hy⟩ := FP h e1
   refine ⟨_, _, hp, .v _, ?_⟩
   simp [execOp, resolve, invoke, builtin, hx, hy, run_min_int2]
  ·exact hp.elim
 ·rename_i args argTypes
  split at hp
  ·rename_i k p k' q e1
   obtain ⟨rfl, hp⟩ := hp
   obtain ⟨x, y, rfl, hx, hy⟩ := FP h e1
   refine ⟨_, _, hp, .v _, ?_⟩
   simp [execOp, resolve, invoke, builtin, hx, hy, run_max_int2]
  ·exact hp.elim
 ·
  rename_i args argTypes
  split at hp
  ·rename_i y e1
   unfold wG at hp
   split at hp
   ·obtain ⟨x, rfl, hx⟩ := XA h e1
    refine ⟨_, _, hp, .v _, ?_⟩
    simp [execOp, resolve, invoke, builtin, hx, zjz]
   ·exact hp.elim
  ·exact hp.elim
 ·
  rename_i args argTypes
  split at hp
  ·rename_i y e1
   unfold vF at hp
   split at hp
   ·obtain ⟨x, rfl, hx⟩ := XA h e1
    refine ⟨_, _, hp, .v _, ?_⟩
    simp [execOp, resolve, invoke, builtin, hx, zjy]
   ·exact hp.elim
  ·exact hp.elim
 ·
  rename_i args argTypes
  split at hp
  ·rename_i y z e1
   unfold uR at hp
   split at hp
   ·obtain ⟨x, y, rfl, hx, hy⟩ := FP h e1
    refine ⟨_, _, hp, .v _, ?_⟩
    simp [execOp, resolve, invoke, builtin, hx, hy, zjx]
   ·exact hp.elim
  ·exact hp.elim
 ·exact hp.elim
end
end Go.AE
