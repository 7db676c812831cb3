/- A part of the abstract evaluator: no condition. -/
import Derived.Test.YteidmpcdcfoncaaDoorAERow
import Derived.Handed
import Derived.SizedLaws
import Derived.LaidLaws
import Derived.LaidHandle
import Derived.LaidMore
import Derived.Lib.LaidTab
import Derived.Stop.LaidErr
import Derived.SliceStrings
set_option linter.unusedVariables false
set_option linter.unusedSimpArgs false
/- Rows whose package-level variables are listed: the shape of the world and what is listed, both for the walk; and what the evaluator wants of the variables. -/
namespace Go.AE
open Go.ChangeShapes Go.WideShapes
theorem returnsInHanded_of_change_door {H : Type} {enc : TypeId × Value → H} {a : Assume} {C : Checked} {os : Os} {f : FuncId} {fn : Func} {s : ChangeSpec} {conds : List PathCond} {apart fresh handsOn again : Bool} {X : World → Array Value → Prop}
    (hX : ∀ (w w' : World) (args : Array Value), w.heap = w'.heap → X w args → X w' args)
    (own : ownKnob C.prog.godebug = none) (started : os.Started) (noInit : C.prog.inits.idxOf? f = none) (hfn : C.prog.funcs[f]? = some fn)
    (witness : ∃ (w : World) (tape : Tape) (i : Input), w.os = os ∧ (w.forCall tape i).Shaped C.prog ∧ i.vars = [] ∧ Input.okWide C.prog (w.forCall tape i) .any w.heap.size f i ∧
      ((s.pre enc C.prog fn conds apart (w.forCall tape i).memory i.args ∧ X (w.forCall tape i).memory i.args) ∧ sizedMet enc C.prog fn (OpenSpec.ofChange s) apart (w.forCall tape i).memory i.args) ∧ a.holds C.prog (lone (Frame.enter C.prog f i.args .normal) [] (w.forCall tape i)))
    (contract : ∀ (W : World) (base : Nat) (args : Array Value) (ds gs : List (DataW H)) (before : List MemPlace),
      (∀ (j : Nat) t v, fn.params[j]? = some t → args[j]? = some v → Value.okWide C.prog W .any base t v) →
      DataW.Whole enc C.prog fn.params.toList s.vars apart W args.toList ds gs before →
      X W args → W.ShapedOpen C.prog →
      Calls C.prog f args W fun e W' => ∃ v, e = .returned v ∧ s.post enc C.prog fn apart fresh handsOn again W args v W') :
    ReturnsInHanded a C os f .any (fun w args => (s.pre enc C.prog fn conds apart w args ∧ X w args) ∧ sizedMet enc C.prog fn (OpenSpec.ofChange s) apart w args) (s.post enc C.prog fn apart fresh handsOn again) := by
  refine returnsInHanded_of_calls own started noInit witness ?_
  intro w tape i _ hsh _ hok hpre hholds
  obtain ⟨_, _, _, fn', hfn', _, _, _, _, hval⟩ := hok
  have e : fn' = fn := Option.some.inj (hfn'.symm.trans hfn)
  subst e
  obtain ⟨⟨⟨ds, gs, before, hw, hc⟩, hx⟩, hz⟩ := hpre
  have hw' := DataW.Whole.of_heap (w' := w.forCall tape i) (by rfl) hw
  refine (contract (w.forCall tape i) w.heap.size i.args ds gs before hval hw' (hX _ _ _ (by rfl) hx) hsh).mono fun e W' ⟨v, he, hp⟩ => ?_
  subst he
  exact ChangeSpec.post_blind hp
/-- The variables that the evaluator asks for, out of the world's shape and the table listed. -/
theorem tabs_of_shaped {P : Program} {W : World} (hs : W.ShapedOpen P) (hb : ((List.range P.globals.size).all fun g => (((begin P (fun _ _ => 0) default).world.heap[g]?).bind Obj.row?).isSome) = true)
    (ht : ∀ g, P.globalNamed "internal/strconv.uint64pow10" = some g → Lib.TabIs P W "internal/strconv.uint64pow10" .u64 Lib.pow10Tab) : Tabs P W (fun b => b < W.heap.size) := by
  refine ⟨W, fun _ => ⟨hs, ht⟩, fun b hlt => ?_⟩
  have h1 := List.all_eq_true.1 hb b (List.mem_range.2 hlt)
  obtain ⟨⟨z, t⟩, h2⟩ := Option.isSome_iff_exists.1 h1
  obtain ⟨cs, h3, _⟩ := hs.1 b z t hlt h2
  have h4 : b < W.heap.size := (Array.getElem?_eq_some_iff.1 h3).1
  exact ⟨h4, h4, rfl⟩
theorem reps_strs (w : World) (F : Nat → Prop) : ∀ l : List ByteArray, Reps w F [] ((l.map fun s => s.data.toList).map fun s => .v (.string ⟨s.toArray⟩)) (l.map fun s => .string s)
  | [] => .nil
  | _ :: l => .cons (rep_str w F _) (reps_strs w F l)
/-- A slice of strings, as an argument. -/
theorem open_strl {H : Type} {enc : TypeId × Value → H} {P : Program} {W : World} {base b0 : Nat} {sp : Nat → Bool} {held : Bool} {t e : TypeId} {v : Value} {fuel : Nat} {x : DataW H × List MemPlace} (ht : P.underlying t = some (.slice e)) (he : P.underlying e = some .string) (hc : P.cellsOf e = 1)
    (hv : Value.okWide P W .any base t v) (h : DataW.trod enc P W b0 sp held fuel t v.cells.toList = some x) :
    ∃ L : List (List UInt8), Rep W (fun b => b < W.heap.size) [] (.sl L.length (L.map fun s => .v (.string ⟨s.toArray⟩))) v ∧ L.length ≤ maxLen ∧ ∀ s ∈ L, s.length ≤ maxLen := by
  obtain ⟨a, len, cap, rfl⟩ := okWide_slice ht hv
  rcases open_strings ht he hc h with ⟨hcs, _⟩ | ⟨x, l, c, zs, hcs, hx0, hl, hm, hz, hx, hcell, hwz⟩
  · obtain ⟨rfl, rfl, rfl⟩ : a = none ∧ len = 0 ∧ cap = 0 := by simpa [Value.cells] using hcs
    exact ⟨[], .sl0, Nat.zero_le _, by simp⟩
  · obtain ⟨rfl, rfl, rfl⟩ : a = some x ∧ len = l ∧ cap = c := by simpa [Value.cells] using hcs
    have hx2 := okWide_at ht hv
    have hzl : len ≤ zs.length := by rw [hz]; split <;> omega
    have hlen : (zs.take len).length = len := by simp; omega
    refine ⟨(zs.take len).map fun s => s.data.toList, ?_, by simp; omega, fun s hs => ?_⟩
    · rw [List.length_map, hlen]
      refine .sl hx2.2 hl (vs := (zs.take len).map fun s => .string s) ⟨hx2.1, ?_, ?_⟩ (reps_strs _ _ _)
      · intro i hi
        simp only [List.length_map, hlen] at hi
        have h1 := hcell i (by omega)
        have e : x.add i = ⟨x.block, x.off + i, none⟩ := by
          unfold Addr.add
          split
          · rename_i h0; subst h0; cases x; simp_all
          · rfl
        rw [← e, h1]
        simp [hi, List.getD, show i < zs.length by omega]
      · intro u hu
        obtain ⟨n, _, rfl⟩ := List.mem_map.1 hu
        rfl
    · obtain ⟨b, hb, rfl⟩ := List.mem_map.1 hs
      have := hwz b (List.mem_of_mem_take hb)
      simpa using this
/-- A struct of a number and a slice of strings, as an argument. -/
theorem open_rep {H : Type} {enc : TypeId × Value → H} {P : Program} {W : World} {base b0 : Nat} {sp : Nat → Bool} {held : Bool} {t tc tl e : TypeId} {v : Value} {fuel : Nat} {x : DataW H × List MemPlace} {f0 f1 : Field}
    (ht : P.underlying t = some (.struct #[f0, f1])) (h0 : f0.type = tc ∧ f0.offset = 0) (h1 : f1.type = tl ∧ f1.offset = 1) (htc : P.underlying tc = some (.int .i64)) (htl : P.underlying tl = some (.slice e)) (he : P.underlying e = some .string)
    (hc : P.cellsOf e = 1) (hcc : P.cellsOf tc = 1) (hcl : P.cellsOf tl = 1) (hct : P.cellsOf t = 2) (hts : P.cellTypes P.depth t = some [tc, tl])
    (hv : Value.okWide P W .any base t v) (h : DataW.trod enc P W b0 sp held fuel t v.cells.toList = some x) :
    ∃ (c : Int) (L : List (List UInt8)), Rep W (fun b => b < W.heap.size) [] (.ag [.v (.int .i64 c), .sl L.length (L.map fun s => .v (.string ⟨s.toArray⟩))]) v ∧ (Lit.int .i64 c).wf = true ∧ L.length ≤ maxLen ∧ ∀ s ∈ L, s.length ≤ maxLen := by
  have hv2 := hv
  simp only [Value.okWide, ht] at hv2
  obtain ⟨cs, rfl, hsz, ts, hts2, _, hcell⟩ := hv2
  obtain rfl := Option.some.inj (hts.symm.trans hts2)
  rw [hct] at hsz
  obtain ⟨u, w, rfl⟩ : ∃ u w, cs = #[u, w] := by
    refine ⟨cs[0], cs[1], ?_⟩
    apply Array.ext (by simpa using hsz)
    intro i hi _
    have : i = 0 ∨ i = 1 := by omega
    rcases this with rfl | rfl <;> rfl
  obtain ⟨xs, n, rfl, rfl, _, hxs, hel⟩ := DataW.trod_struct ht h
  have e0 := hel 0 f0 rfl
  have e1 := hel 1 f1 rfl
  rw [h0.1, h0.2, hcc] at e0
  rw [h1.1, h1.2, hcl] at e1
  have hx2 : xs.length = 2 := hxs
  have e0' : DataW.trod enc P W b0 sp held n tc [u] = xs[0]? := e0
  have e1' : DataW.trod enc P W b0 sp held n tl [w] = xs[1]? := e1
  rw [List.getElem?_eq_getElem (by omega)] at e0' e1'
  obtain ⟨c, hc0, _, hwf⟩ := DataW.trod_int htc e0'
  obtain ⟨u2, hu2, hok⟩ := hcell 1 w rfl
  have hu3 : u2 = tl := by
    have : ([tc, tl] : List TypeId)[1 % 2]? = some u2 := hu2
    simpa using this.symm
  subst hu3
  have hokw : Value.okWide P W .any base u2 w := by
    simp only [Value.okWide, htl]; exact hok
  obtain ⟨a, len, cap, rfl⟩ := okWide_slice htl hokw
  obtain ⟨L, hL, hl1, hl2⟩ := open_strl htl he hc hokw (b0 := b0) (sp := sp) (held := held) (fuel := n) (by simpa [Value.cells] using e1')
  refine ⟨c, L, ?_, hwf, hl1, hl2⟩
  have : u = .int .i64 c := by simpa using hc0
  subst this
  exact .ag (.cons (.v _) (.cons hL .nil))
end Go.AE
