/- The law ReplyLast returns true for every input, and each argument reads behind the call as before: the row, and its card by the given tie. Conditions: none beyond the given row's own (what the listed package-level variables hold). -/
import Derived.Test.YtpooocpgpjimgaaDoorRows
import Derived.Test.YtpooocpgpjimgaaDoorTie
import Derived.Test.YtpooocpgpjimgaaDoorCards
import Derived.Test.YtpooocpgpjimgaaDoorLaws
import Derived.WalkKit
import Derived.ProofKit
import Derived.OpenShut
import Derived.ShutString
import Derived.ChangeOld
import Derived.Below
import Derived.SizedLaws
import Derived.SevenTiedAt
import Derived.ChangeSlices
namespace Go.Proofs.YtpooocpgpjimgaaDoor.replyLast
open Go.ChangeShapes Go.WideShapes Go.ChangeAt Go.RowKit Go.AE
open Go.ChangeMaps (open_string shut_string)
set_option linter.unusedVariables false
set_option linter.unusedSimpArgs false
theorem own : ownKnob Tryd.prog.godebug = none := by kernel_rfl
theorem laidOut : laidOutB Tryd.prog = true := by kernel_rfl
theorem laid_met (os : Os) (args : Array Value) : laidMetH Tryd.prog Rows.replyLastRow.laid ((World.doorLaid Tryd.prog 24 os).forCall (fun _ _ => 0) ⟨#[], args, []⟩).memory :=
  laidMetH_of_parts3 (fuel := 8) (laidMet_of_run' 8 (by kernel_rfl) (by kernel_rfl)) (by kernel_rfl) (by kernel_rfl)
theorem tabs {W : World} (hs : W.ShapedOpen Tryd.prog) (h : laidMetH Tryd.prog Rows.replyLastRow.laid W) : Tabs Tryd.prog W (fun b => b < W.heap.size) :=
  tabs_of_shaped hs (by kernel_rfl) fun g hg => by
    have h2 : laidMet Tryd.prog Rows.replyLastRow.laid W := h
    exact Lib.tabIs_of_head (rest := Rows.replyLastRow.laid.drop 3) (g := 1) (t := 71) (e := 63) (n := 20) (by kernel_rfl) (by kernel_rfl) Tryd.underlying71 Tryd.underlying63 (by kernel_rfl) (by kernel_rfl) h2.tail.tail
set_option maxRecDepth 100000 in
theorem lifted (os : Os) (started : os.Started) (H : Type) (enc : TypeId × Value → H) :
    ReturnsInHanded {} Tryd.checked os 4 .any (fun w args => (Rows.replyLastSpec.pre enc Tryd.prog Tryd.f4 [] false w args ∧ laidMetH Tryd.prog Rows.replyLastRow.laid w) ∧ sizedMet enc Tryd.prog Tryd.f4 (OpenSpec.ofChange Rows.replyLastSpec) false w args) (Rows.replyLastSpec.post enc Tryd.prog Tryd.f4 false true false false) := by
  refine returnsInHanded_of_change_door (C := Tryd.checked) (X := fun w _ => laidMetH Tryd.prog Rows.replyLastRow.laid w) (fun _ _ _ hh h => h.of_heap hh) own started (by kernel_rfl) Tryd.func4
    (ChangeSpec.witness_shaped (enc := enc) (C := Tryd.checked) (os := os) (X := fun w _ => laidMetH Tryd.prog Rows.replyLastRow.laid w) false (World.doorLaid Tryd.prog 24 os) #[.slice none 0 0, .agg #[.int .i64 0, .slice none 0 0]] 8 rfl (World.shaped_of_RefB (by kernel_rfl) (by kernel_rfl)) (by kernel_rfl) (by kernel_rfl) (by kernel_rfl) (laid_met os _)) ?_
  intro W base args ds gs before hval0 hW hL hS
  have hval : ∀ (j : Nat) t v, Tryd.f4.params[j]? = some t → args[j]? = some v → Value.okWide Tryd.prog W .any base t v := hval0
  have hW' := hW
  obtain ⟨p, q, hA0, hV, rfl, hfz, hnd⟩ := hW
  have hA : DataW.TrodAll enc Tryd.prog W 0 (fun _ => true) true Tryd.f4.params.toList args.toList ds p := hA0
  rw [Tryd.params4] at hA hval
  obtain ⟨v0, vs0, d0, ds0, p0, q0, hargs, rfl, rfl, h0, r0⟩ := trodAll_cons hA
  obtain ⟨v1, vs1, d1, ds1, p1, q1, rfl, rfl, rfl, h1, r1⟩ := trodAll_cons r0
  obtain ⟨rfl, rfl, rfl⟩ := trodAll_nil r1
  obtain rfl : args = #[v0, v1] := by cases args; simp_all
  obtain ⟨rfl, rfl⟩ := trodVars_none hV
  have k0 := h0
  have lt0 : ∀ x ∈ p0, x.block < W.heap.size := by obtain ⟨m, hm⟩ := k0; exact DataW.trod_lt m _ _ _ hm
  obtain ⟨l0, w0, m0, n0⟩ : ∃ L : List (List UInt8), Rep W (fun b => b < W.heap.size) [] (.sl L.length (L.map fun s => .v (.string ⟨s.toArray⟩))) v0 ∧ L.length ≤ maxLen ∧ ∀ s ∈ L, s.length ≤ maxLen := by
    obtain ⟨fuel, hf⟩ := h0
    exact open_strl Tryd.underlying22 Tryd.underlying9 (by kernel_rfl) (hval 0 22 v0 rfl rfl) hf
  have k1 := h1
  have lt1 : ∀ x ∈ p1, x.block < W.heap.size := by obtain ⟨m, hm⟩ := k1; exact DataW.trod_lt m _ _ _ hm
  obtain ⟨c1, l1, w1, b1, m1, n1⟩ : ∃ (c : Int) (L : List (List UInt8)), Rep W (fun b => b < W.heap.size) [] (.ag [.v (.int .i64 c), .sl L.length (L.map fun s => .v (.string ⟨s.toArray⟩))]) v1 ∧ (Lit.int .i64 c).wf = true ∧ L.length ≤ maxLen ∧ ∀ s ∈ L, s.length ≤ maxLen := by
    obtain ⟨fuel, hf⟩ := h1
    exact open_rep Tryd.underlying24 ⟨rfl, rfl⟩ ⟨rfl, rfl⟩ Tryd.underlying3 Tryd.underlying22 Tryd.underlying9 (by kernel_rfl) (by kernel_rfl) (by kernel_rfl) (by kernel_rfl) (by kernel_rfl) (hval 1 24 v1 rfl rfl) hf
  have b1 := wf_i64 b1
  clear hA0 hval0
  refine (law_walk (last_spec l0 c1 l1 n0 m0 n1 m1) W [_, _] (tabs hS hL) (.cons w0 (.cons w1 Reps.nil))).mono fun e W' ⟨he, bel⟩ => ?_
  subst he
  exact ⟨_, rfl, _, _, _, [], _, [], hW', trodAll_mk1 (shut_bool Tryd.underlying4 _), (trodAll_cons_mk (Below.trod laidOut (by kernel_rfl) (of_decide_eq_true (by kernel_rfl)) k0 bel lt0) (trodAll_cons_mk (Below.trod laidOut (by kernel_rfl) (of_decide_eq_true (by kernel_rfl)) k1 bel lt1) trodAll_mk0)), rfl, bel.frame _, fun h => by cases h⟩
theorem over : Rows.replyLastRow.holds Tryd.pinned (OpenSpec.ofChange Rows.replyLastSpec) :=
  OpenClaim.holds_of_wide 4 Tryd.f4 rfl rfl rfl rfl rfl rfl rfl ⟨rfl, rfl, rfl, rfl, rfl⟩ rfl rfl rfl rfl rfl (by kernel_rfl) Tryd.func4 (by kernel_rfl)
    (of_decide_eq_true (by kernel_rfl)) (by unfold Func.isWrapper; first | (rw [if_pos (by decide +kernel)]; kernel_rfl) | (rw [if_neg (by decide +kernel)]; exact ⟨rfl, rfl⟩))
    (fun os started H enc _ => lifted os started H enc)
theorem proved : Rows.ReplyLastCardSaid :=
  Claim7.holds_tied_plain_at .later [] [.data, .data, .data] true (true, "64a08372eff540086f9993c774eceb873b2fa59320e61679b961dfddafeff19f") false
    over (fun _ h => by cases h) (by kernel_rfl) (fun _ h => by cases h) replyLast_row_tie rfl ⟨rfl, rfl⟩ (by kernel_rfl) rfl
    (fun f fn hf hfn => by
      obtain rfl : f = 4 := Option.some.inj ((show Tryd.prog.funcNamed "pillarbox/pillarboxlaw18.ReplyLast" = some 4 by kernel_rfl).symm.trans hf) |>.symm
      obtain rfl : fn = Tryd.f4 := (Option.some.inj (Tryd.func4.symm.trans hfn)).symm
      exact ⟨by kernel_rfl, fun j t ht => by
        rw [Tryd.params4] at ht
        have hm : t ∈ [22, 24] := by simpa using Array.mem_of_getElem? ht
        have hall : ([22, 24].all fun u => !Tryd.prog.wantsStandIn u) = true := by kernel_rfl
        exact (show Tryd.prog.wantsStandIn t = false by simpa using List.all_eq_true.1 hall t hm)⟩)
    (by kernel_rfl)
#print axioms proved
end Go.Proofs.YtpooocpgpjimgaaDoor.replyLast
namespace Go.Proofs.YtpooocpgpjimgaaDoor
/-- The card, under a short name, for the claim. -/
theorem replyLast_holds : Rows.ReplyLastCardSaid := replyLast.proved
end Go.Proofs.YtpooocpgpjimgaaDoor

