/- Contracts of functions that the laws of this seat reach, and plain laws of what they compute. No condition beyond each statement's own. -/
import Derived.Shelf.Utf8.RuneCount
import Derived.Shelf.Strconv.Itoa0
import Derived.Shelf.Strconv.Itoa1
import Derived.Shelf.LaysM
import Derived.Shelf.Strconv.Itoa2
import Derived.Shelf.Strconv.Itoa3
import Derived.Shelf.Strings.Search1
import Derived.Shelf.Strings.Search2
import Derived.Shelf.Strings.Search3
import Derived.Shelf.Strings.Cut
import Derived.Shelf.Strings.Count
import Derived.Shelf.Strings.Shaped
import Derived.Shelf.Strings.Split
import Derived.Shelf.Strings.RuneCount
import Derived.Test.YteidmpcdcfoncaaDoorProg
import Derived.Test.YteidmpcdcfoncaaDoorK1
import Derived.Test.YteidmpcdcfoncaaDoorAENum
import Derived.Test.YteidmpcdcfoncaaDoorAEBun
set_option linter.unusedVariables false
set_option linter.unusedSimpArgs false
namespace Go.Proofs
open Go.Shelf
def Tryd.laysM171_ren : Go.Shelf.Ren := ⟨fun | 171 => 23 | 243 => 30 | 246 => 32 | 283 => 37 | 284 => 38 | 285 => 39 | 286 => 40 | 129 => 44 | 317 => 43 | 318 => 45 | 319 => 46 | 320 => 47 | 337 => 48 | 338 => 49 | n => n, fun | 3 => 3 | 9 => 9 | 2 => 2 | 4 => 4 | 171 => 47 | 0 => 0 | 53 => 48 | 37 => 51 | 5 => 5 | 173 => 52 | 212 => 58 | 51 => 54 | 20 => 20 | 213 => 59 | 46 => 46 | 232 => 63 | 233 => 64 | n => n, fun | 17 => 1 | 18 => 2 | 19 => 3 | n => n⟩
theorem Tryd.laysM171 : Go.Proofs.LaysM.n171 Tryd.prog Tryd.laysM171_ren := {
  mixed := by kernel_rfl
  f129 := Tryd.func44.trans (congrArg some (by kernel_rfl))
  f171 := Tryd.func23.trans (congrArg some (by kernel_rfl))
  f243 := Tryd.func30.trans (congrArg some (by kernel_rfl))
  f246 := Tryd.func32.trans (congrArg some (by kernel_rfl))
  f283 := Tryd.func37.trans (congrArg some (by kernel_rfl))
  f284 := Tryd.func38.trans (congrArg some (by kernel_rfl))
  f285 := Tryd.func39.trans (congrArg some (by kernel_rfl))
  f286 := Tryd.func40.trans (congrArg some (by kernel_rfl))
  f317 := Tryd.func43.trans (congrArg some (by kernel_rfl))
  f318 := Tryd.func45.trans (congrArg some (by kernel_rfl))
  f319 := Tryd.func46.trans (congrArg some (by kernel_rfl))
  f320 := Tryd.func47.trans (congrArg some (by kernel_rfl))
  f337 := Tryd.func48.trans (congrArg some (by kernel_rfl))
  f338 := Tryd.func49.trans (congrArg some (by kernel_rfl))
  t0 := Tryd.underlying0
  a0 := Tryd.isAgg0
  z0 := Tryd.sizeOf0
  v0 := Tryd.zeroValue0
  t2 := Tryd.underlying2
  a2 := Tryd.isAgg2
  z2 := Tryd.sizeOf2
  v2 := Tryd.zeroValue2
  t3 := Tryd.underlying3
  a3 := Tryd.isAgg3
  z3 := Tryd.sizeOf3
  v3 := Tryd.zeroValue3
  t4 := Tryd.underlying4
  a4 := Tryd.isAgg4
  z4 := Tryd.sizeOf4
  v4 := Tryd.zeroValue4
  t5 := Tryd.underlying5
  a5 := Tryd.isAgg5
  z5 := Tryd.sizeOf5
  v5 := Tryd.zeroValue5
  t9 := Tryd.underlying9
  a9 := Tryd.isAgg9
  z9 := Tryd.sizeOf9
  v9 := Tryd.zeroValue9
  t20 := Tryd.underlying20
  a20 := Tryd.isAgg20
  z20 := Tryd.sizeOf20
  v20 := Tryd.zeroValue20
  t37 := Tryd.underlying51
  a37 := Tryd.isAgg51
  z37 := Tryd.sizeOf51
  v37 := Tryd.zeroValue51
  t46 := Tryd.underlying46
  a46 := Tryd.isAgg46
  z46 := Tryd.sizeOf46
  v46 := Tryd.zeroValue46
  t51 := Tryd.underlying54
  a51 := Tryd.isAgg54
  z51 := Tryd.sizeOf54
  v51 := Tryd.zeroValue54
  t53 := Tryd.underlying48
  a53 := Tryd.isAgg48
  z53 := Tryd.sizeOf48
  v53 := Tryd.zeroValue48
  t171 := Tryd.underlying47
  a171 := Tryd.isAgg47
  z171 := Tryd.sizeOf47
  v171 := Tryd.zeroValue47
  t173 := Tryd.underlying52
  a173 := Tryd.isAgg52
  z173 := Tryd.sizeOf52
  v173 := Tryd.zeroValue52
  t212 := Tryd.underlying58
  a212 := Tryd.isAgg58
  z212 := Tryd.sizeOf58
  v212 := Tryd.zeroValue58
  t213 := Tryd.underlying59
  a213 := Tryd.isAgg59
  z213 := Tryd.sizeOf59
  t232 := Tryd.underlying63
  a232 := Tryd.isAgg63
  z232 := Tryd.sizeOf63
  v232 := Tryd.zeroValue63
  t233 := Tryd.underlying64
  a233 := Tryd.isAgg64
  z233 := Tryd.sizeOf64
  v233 := Tryd.zeroValue64
  g17 := by kernel_rfl
  g18 := by kernel_rfl
  g19 := by kernel_rfl
  i0 := by kernel_rfl
  i2 := by kernel_rfl
  i3 := by kernel_rfl
  i4 := by kernel_rfl
  i5 := by kernel_rfl
  i9 := by kernel_rfl
  i20 := by kernel_rfl
  i37 := by kernel_rfl
  i46 := by kernel_rfl
  i51 := by kernel_rfl
  i53 := by kernel_rfl
  i171 := by kernel_rfl
  i173 := by kernel_rfl
  i212 := by kernel_rfl
  i232 := by kernel_rfl
  i233 := by kernel_rfl
  m17 := by kernel_rfl
  m18 := by kernel_rfl
  m19 := by kernel_rfl }
open Go.RowKit Go.Sort Go.Lib in
theorem Tryd.strconv_Itoa (n : Int) (h0 : -9223372036854775808 ≤ n) (h1 : n ≤ 9223372036854775807) (w : World) (htab : Lib.TabIs Tryd.prog w "internal/strconv.uint64pow10" .u64 Lib.pow10Tab) :
    Calls Tryd.prog 23 #[.int .i64 n] w fun e w' => e = .returned (.string ⟨(Lib.itoa n).toArray⟩) ∧ ∃ k os, w' = grow (w.drewN k) os := Any.strconv_Itoa Tryd.laysM171 n h0 h1 w htab
def Tryd.lays145_ren : Go.Shelf.Ren := ⟨fun | 145 => 20 | 220 => 26 | 219 => 31 | 217 => 33 | 225 => 34 | 224 => 35 | 267 => 36 | 266 => 41 | 314 => 42 | n => n, fun | 9 => 9 | 4 => 4 | 59 => 37 | 3 => 3 | 5 => 5 | 46 => 46 | 146 => 55 | 51 => 54 | n => n, fun | 1 => 0 | n => n⟩
theorem Tryd.lays145 : Go.Proofs.Lays.n145 Tryd.prog Tryd.lays145_ren := {
  mixed := by kernel_rfl
  f145 := Tryd.func20.trans (congrArg some (by kernel_rfl))
  f217 := Tryd.func33.trans (congrArg some (by kernel_rfl))
  f219 := Tryd.func31.trans (congrArg some (by kernel_rfl))
  f220 := Tryd.func26.trans (congrArg some (by kernel_rfl))
  f224 := Tryd.func35.trans (congrArg some (by kernel_rfl))
  f225 := Tryd.func34.trans (congrArg some (by kernel_rfl))
  f266 := Tryd.func41.trans (congrArg some (by kernel_rfl))
  f267 := Tryd.func36.trans (congrArg some (by kernel_rfl))
  f314 := Tryd.func42.trans (congrArg some (by kernel_rfl))
  t3 := Tryd.underlying3
  a3 := Tryd.isAgg3
  z3 := Tryd.sizeOf3
  v3 := Tryd.zeroValue3
  t4 := Tryd.underlying4
  a4 := Tryd.isAgg4
  z4 := Tryd.sizeOf4
  v4 := Tryd.zeroValue4
  t5 := Tryd.underlying5
  a5 := Tryd.isAgg5
  z5 := Tryd.sizeOf5
  v5 := Tryd.zeroValue5
  t9 := Tryd.underlying9
  a9 := Tryd.isAgg9
  z9 := Tryd.sizeOf9
  v9 := Tryd.zeroValue9
  t46 := Tryd.underlying46
  a46 := Tryd.isAgg46
  z46 := Tryd.sizeOf46
  v46 := Tryd.zeroValue46
  t51 := Tryd.underlying54
  a51 := Tryd.isAgg54
  z51 := Tryd.sizeOf54
  v51 := Tryd.zeroValue54
  t59 := Tryd.underlying37
  a59 := Tryd.isAgg37
  z59 := Tryd.sizeOf37
  v59 := Tryd.zeroValue37
  t146 := Tryd.underlying55
  a146 := Tryd.isAgg55
  z146 := Tryd.sizeOf55
  v146 := Tryd.zeroValue55
  g1 := by kernel_rfl }
open Go.RowKit Go.Lib in
theorem Tryd.strings_Cut (s sep : ByteArray) (m : Int) (w : World) (hs : s.size < 4294967281) (hm : w.cell? ⟨0, 0, none⟩ = some (.int .i64 m)) :
    Calls Tryd.prog 20 #[.string s, .string sep] w fun e w' => e = .returned (.tuple #[.string ⟨(Lib.cut s.data.toList sep.data.toList).1.toArray⟩, .string ⟨(Lib.cut s.data.toList sep.data.toList).2.1.toArray⟩, .bool (Lib.cut s.data.toList sep.data.toList).2.2]) ∧ ∃ n, w' = w.drewN n := Any.strings_Cut Tryd.lays145 s sep m w hs hm
def Tryd.lays138_ren : Go.Shelf.Ren := ⟨fun | 138 => 22 | 195 => 27 | 218 => 28 | 143 => 29 | 219 => 31 | 217 => 33 | 225 => 34 | 224 => 35 | 267 => 36 | 266 => 41 | 314 => 42 | n => n, fun | 9 => 9 | 3 => 3 | 4 => 4 | 5 => 5 | 0 => 0 | 46 => 46 | 146 => 55 | 51 => 54 | n => n, fun | 1 => 0 | n => n⟩
theorem Tryd.lays138 : Go.Proofs.Lays.n138 Tryd.prog Tryd.lays138_ren := {
  mixed := by kernel_rfl
  f138 := Tryd.func22.trans (congrArg some (by kernel_rfl))
  f143 := Tryd.func29.trans (congrArg some (by kernel_rfl))
  f195 := Tryd.func27.trans (congrArg some (by kernel_rfl))
  f217 := Tryd.func33.trans (congrArg some (by kernel_rfl))
  f218 := Tryd.func28.trans (congrArg some (by kernel_rfl))
  f219 := Tryd.func31.trans (congrArg some (by kernel_rfl))
  f224 := Tryd.func35.trans (congrArg some (by kernel_rfl))
  f225 := Tryd.func34.trans (congrArg some (by kernel_rfl))
  f266 := Tryd.func41.trans (congrArg some (by kernel_rfl))
  f267 := Tryd.func36.trans (congrArg some (by kernel_rfl))
  f314 := Tryd.func42.trans (congrArg some (by kernel_rfl))
  t0 := Tryd.underlying0
  a0 := Tryd.isAgg0
  z0 := Tryd.sizeOf0
  v0 := Tryd.zeroValue0
  t3 := Tryd.underlying3
  a3 := Tryd.isAgg3
  z3 := Tryd.sizeOf3
  v3 := Tryd.zeroValue3
  t4 := Tryd.underlying4
  a4 := Tryd.isAgg4
  z4 := Tryd.sizeOf4
  v4 := Tryd.zeroValue4
  t5 := Tryd.underlying5
  a5 := Tryd.isAgg5
  z5 := Tryd.sizeOf5
  v5 := Tryd.zeroValue5
  t9 := Tryd.underlying9
  a9 := Tryd.isAgg9
  z9 := Tryd.sizeOf9
  v9 := Tryd.zeroValue9
  t46 := Tryd.underlying46
  a46 := Tryd.isAgg46
  z46 := Tryd.sizeOf46
  v46 := Tryd.zeroValue46
  t51 := Tryd.underlying54
  a51 := Tryd.isAgg54
  z51 := Tryd.sizeOf54
  v51 := Tryd.zeroValue54
  t146 := Tryd.underlying55
  a146 := Tryd.isAgg55
  z146 := Tryd.sizeOf55
  v146 := Tryd.zeroValue55
  g1 := by kernel_rfl }
open Go.RowKit Go.Lib in
theorem Tryd.strings_Count (s sub : ByteArray) (m : Int) (w : World) (hs : s.size < 4294967281) (hm : w.cell? ⟨0, 0, none⟩ = some (.int .i64 m)) (h2 : 2 ≤ sub.size) :
    Calls Tryd.prog 22 #[.string s, .string sub] w fun e w' => e = .returned (.int .i64 (Lib.countB s sub)) ∧ w' = w := Any.strings_Count Tryd.lays138 s sub m w hs hm h2
def Tryd.laysM145_ren : Go.Shelf.Ren := ⟨fun | 145 => 20 | 220 => 26 | 219 => 31 | 217 => 33 | 225 => 34 | 224 => 35 | 267 => 36 | 266 => 41 | 314 => 42 | n => n, fun | 9 => 9 | 4 => 4 | 59 => 37 | 3 => 3 | 5 => 5 | 46 => 46 | 146 => 55 | 51 => 54 | n => n, fun | 1 => 0 | n => n⟩
theorem Tryd.laysM145 : Go.Proofs.LaysM.n145 Tryd.prog Tryd.laysM145_ren := {
  mixed := by kernel_rfl
  f145 := Tryd.func20.trans (congrArg some (by kernel_rfl))
  f217 := Tryd.func33.trans (congrArg some (by kernel_rfl))
  f219 := Tryd.func31.trans (congrArg some (by kernel_rfl))
  f220 := Tryd.func26.trans (congrArg some (by kernel_rfl))
  f224 := Tryd.func35.trans (congrArg some (by kernel_rfl))
  f225 := Tryd.func34.trans (congrArg some (by kernel_rfl))
  f266 := Tryd.func41.trans (congrArg some (by kernel_rfl))
  f267 := Tryd.func36.trans (congrArg some (by kernel_rfl))
  f314 := Tryd.func42.trans (congrArg some (by kernel_rfl))
  t3 := Tryd.underlying3
  a3 := Tryd.isAgg3
  z3 := Tryd.sizeOf3
  v3 := Tryd.zeroValue3
  t4 := Tryd.underlying4
  a4 := Tryd.isAgg4
  z4 := Tryd.sizeOf4
  v4 := Tryd.zeroValue4
  t5 := Tryd.underlying5
  a5 := Tryd.isAgg5
  z5 := Tryd.sizeOf5
  v5 := Tryd.zeroValue5
  t9 := Tryd.underlying9
  a9 := Tryd.isAgg9
  z9 := Tryd.sizeOf9
  v9 := Tryd.zeroValue9
  t46 := Tryd.underlying46
  a46 := Tryd.isAgg46
  z46 := Tryd.sizeOf46
  v46 := Tryd.zeroValue46
  t51 := Tryd.underlying54
  a51 := Tryd.isAgg54
  z51 := Tryd.sizeOf54
  v51 := Tryd.zeroValue54
  t59 := Tryd.underlying37
  a59 := Tryd.isAgg37
  z59 := Tryd.sizeOf37
  v59 := Tryd.zeroValue37
  t146 := Tryd.underlying55
  a146 := Tryd.isAgg55
  z146 := Tryd.sizeOf55
  v146 := Tryd.zeroValue55
  g1 := by kernel_rfl
  i3 := by kernel_rfl
  i4 := by kernel_rfl
  i5 := by kernel_rfl
  i9 := by kernel_rfl
  i46 := by kernel_rfl
  i51 := by kernel_rfl
  i59 := by kernel_rfl
  i146 := by kernel_rfl
  m1 := by kernel_rfl
  s1_3 := fun w h => Go.Proofs.cell_of_shapedOpen_int (zero := #[.int .i64 0]) (t := 3) h (of_decide_eq_true (by kernel_rfl)) (by kernel_rfl) rfl (by kernel_rfl) (by kernel_rfl) Tryd.underlying3 }
end Go.Proofs
section
/- The library's own contracts, as the evaluator's. -/
namespace Go.AE
open Go.Proofs
set_option maxRecDepth 20000
theorem reps_v : ∀ {w : World} {F : Nat → Prop} {xs : List Value} {vs : List Value}, Reps w F [] (xs.map AV.v) vs → vs = xs
  | _, _, [], _, h => by cases h; rfl
  | _, _, x :: xs, _, h => by
    cases h with
    | cons h1 h2 => rw [h1.v_inv, reps_v h2]
theorem spec_v {P : Program} {f : FuncId} {xs : List Value} {r : AV} {v : Value} (hf : ∃ fn, P.funcs[f]? = some fn ∧ fn.body.isSome = true ∧ (fn.name == "runtime.NumGoroutine") = false)
    (hr : ∀ w F, Rep w F [] r v) (hi : imp 0 r = (r, []))
    (h : ∀ (w : World) (F : Nat → Prop), Tabs P w F → Calls P f xs.toArray w fun e w' => e = .returned v ∧ Grow w w') : Spec P f (xs.map AV.v) r := by
  refine ⟨hf, fun w F vs hF hT hvs => ?_⟩
  rw [reps_v hvs]
  refine (h w F hT).mono ?_
  rintro e w' ⟨rfl, hg⟩
  refine ⟨v, F, [], rfl, hg, fun _ h => h, fun b hb => ⟨.inl hb, Nat.lt_of_lt_of_le (hF b hb) hg.size⟩, by rw [hi]; exact hr _ _, by rw [hi]; exact ⟨rfl, by simp, by simp, by simp⟩, by simp⟩
theorem grow_drewN (w : World) (n : Nat) : Grow w (w.drewN n) := ⟨rfl, rfl, rfl, Nat.le_refl _, fun _ _ => rfl⟩
theorem grow_grow' (w : World) (os : Array Obj) : Grow w (Sort.grow w os) := ⟨rfl, rfl, rfl, by simp [Sort.grow], fun k hk => by simp [Sort.grow, Array.getElem?_append, hk]⟩
/-- The table of powers of ten. -/
theorem tabs_pow10 {P : Program} {w : World} {F : Nat → Prop} (h : Tabs P w F) {g : Nat} (hg : P.globalNamed "internal/strconv.uint64pow10" = some g) (hlt : g < P.globals.size) : Lib.TabIs P w "internal/strconv.uint64pow10" .u64 Lib.pow10Tab := by
  obtain ⟨u, h1, h2⟩ := h
  have h3 := (h1 (by omega)).2 g hg
  unfold Lib.TabIs World.var? at *
  rw [hg] at h3 ⊢
  simp only [Option.bind_some] at h3 ⊢
  rw [(h2 g hlt).2.2]
  exact h3
/-- The length up to which the machine searches. -/
theorem tabs_cell {P : Program} {w : World} {F : Nat → Prop} (h : Tabs P w F) {g : Nat} (hlt : g < P.globals.size) (hs : ∀ u : World, u.ShapedOpen P → ∃ m, u.cell? ⟨g, 0, none⟩ = some (.int .i64 m)) : ∃ m, w.cell? ⟨g, 0, none⟩ = some (.int .i64 m) := by
  obtain ⟨u, h1, h2⟩ := h
  obtain ⟨m, hm⟩ := hs u (h1 (by omega)).1
  exact ⟨m, (World.cell?_of_block (a := ⟨g, 0, none⟩) (h2 g hlt).2.2).trans hm⟩
theorem itoa_spec (n : Int) (h0 : -9223372036854775808 ≤ n) (h1 : n ≤ 9223372036854775807) : Spec Tryd.prog 23 [I64 n] (Sv (Lib.itoa n)) := by
  refine spec_v (xs := [.int .i64 n]) ⟨_, Tryd.func23, rfl, by decide +kernel⟩ (fun w F => .v _) rfl fun w F hT => ?_
  refine (Tryd.strconv_Itoa n h0 h1 w (tabs_pow10 hT (by kernel_rfl : _ = some 1) (by decide +kernel))).mono ?_
  rintro e w' ⟨rfl, k, os, rfl⟩
  exact ⟨rfl, (grow_drewN w k).trans (grow_grow' _ os)⟩
theorem cut_spec (s t : List UInt8) (hs : s.length < 4294967281) : Spec Tryd.prog 20 [Sv s, Sv t] (.tup [Sv (Lib.cut s t).1, Sv (Lib.cut s t).2.1, Bv (Lib.cut s t).2.2]) := by
  refine spec_v (xs := [.string ⟨s.toArray⟩, .string ⟨t.toArray⟩]) ⟨_, Tryd.func20, rfl, by decide +kernel⟩ (fun w F => .tup (.cons (.v _) (.cons (.v _) (.cons (.v _) .nil)))) rfl fun w F hT => ?_
  obtain ⟨m, hm⟩ := tabs_cell hT (g := 0) (by decide +kernel) fun u hu => Tryd.laysM145.s1_3 u hu
  refine (Tryd.strings_Cut ⟨s.toArray⟩ ⟨t.toArray⟩ m w (by show s.toArray.size < _; simpa using hs) hm).mono ?_
  rintro e w' ⟨rfl, k, rfl⟩
  exact ⟨rfl, grow_drewN w k⟩
end Go.AE
end
