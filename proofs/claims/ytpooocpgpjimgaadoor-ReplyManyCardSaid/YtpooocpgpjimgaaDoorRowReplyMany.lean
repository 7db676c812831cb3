/- The law ReplyMany returns true for every input, and each argument reads behind the call as before: the row, and its card by the given tie. Conditions: none beyond the given row's own (what the listed package-level variables hold). -/
import Derived.Test.YtpooocpgpjimgaaDoorRows
import Derived.Test.YtpooocpgpjimgaaDoorTie
import Derived.Test.YtpooocpgpjimgaaDoorCards
import Derived.Test.YtpooocpgpjimgaaDoorLaws
import Derived.WalkKit
import Derived.ProofKit
import Derived.OpenShut
import Derived.ShutString
import Derived.ChangeOld
import Derived.Below
import Derived.SizedLaws
import Derived.SevenTiedAt
namespace Go.Proofs.YtpooocpgpjimgaaDoor.replyMany
open Go.ChangeShapes Go.WideShapes Go.ChangeAt Go.RowKit Go.AE
open Go.ChangeMaps (open_string shut_string)
set_option linter.unusedVariables false
set_option linter.unusedSimpArgs false
theorem own : ownKnob Tryd.prog.godebug = none := by kernel_rfl
theorem laid_met (os : Os) (args : Array Value) : laidMetH Tryd.prog Rows.replyManyRow.laid ((World.doorLaid Tryd.prog 24 os).forCall (fun _ _ => 0) ⟨#[], args, []⟩).memory :=
  laidMetH_of_parts3 (fuel := 8) (laidMet_of_run' 8 (by kernel_rfl) (by kernel_rfl)) (by kernel_rfl) (by kernel_rfl)
theorem tabs {W : World} (hs : W.ShapedOpen Tryd.prog) (h : laidMetH Tryd.prog Rows.replyManyRow.laid W) : Tabs Tryd.prog W (fun b => b < W.heap.size) :=
  tabs_of_shaped hs (by kernel_rfl) fun g hg => by
    have h2 : laidMet Tryd.prog Rows.replyManyRow.laid W := h
    exact Lib.tabIs_of_head (rest := Rows.replyManyRow.laid.drop 3) (g := 1) (t := 71) (e := 63) (n := 20) (by kernel_rfl) (by kernel_rfl) Tryd.underlying71 Tryd.underlying63 (by kernel_rfl) (by kernel_rfl) h2.tail.tail
set_option maxRecDepth 100000 in
theorem lifted (os : Os) (started : os.Started) (H : Type) (enc : TypeId × Value → H) :
    ReturnsInHanded {} Tryd.checked os 5 .any (fun w args => (Rows.replyManySpec.pre enc Tryd.prog Tryd.f5 [] false w args ∧ laidMetH Tryd.prog Rows.replyManyRow.laid w) ∧ sizedMet enc Tryd.prog Tryd.f5 (OpenSpec.ofChange Rows.replyManySpec) false w args) (Rows.replyManySpec.post enc Tryd.prog Tryd.f5 false true false false) := by
  refine returnsInHanded_of_change_door (C := Tryd.checked) (X := fun w _ => laidMetH Tryd.prog Rows.replyManyRow.laid w) (fun _ _ _ hh h => h.of_heap hh) own started (by kernel_rfl) Tryd.func5
    (ChangeSpec.witness_shaped (enc := enc) (C := Tryd.checked) (os := os) (X := fun w _ => laidMetH Tryd.prog Rows.replyManyRow.laid w) false (World.doorLaid Tryd.prog 24 os) #[.int .i64 0] 8 rfl (World.shaped_of_RefB (by kernel_rfl) (by kernel_rfl)) (by kernel_rfl) (by kernel_rfl) (by kernel_rfl) (laid_met os _)) ?_
  intro W base args ds gs before hval0 hW hL hS
  have hval : ∀ (j : Nat) t v, Tryd.f5.params[j]? = some t → args[j]? = some v → Value.okWide Tryd.prog W .any base t v := hval0
  have hW' := hW
  obtain ⟨p, q, hA0, hV, rfl, hfz, hnd⟩ := hW
  have hA : DataW.TrodAll enc Tryd.prog W 0 (fun _ => true) true Tryd.f5.params.toList args.toList ds p := hA0
  rw [Tryd.params5] at hA hval
  obtain ⟨v0, vs0, d0, ds0, p0, q0, hargs, rfl, rfl, h0, r0⟩ := trodAll_cons hA
  obtain ⟨rfl, rfl, rfl⟩ := trodAll_nil r0
  obtain rfl : args = #[v0] := by cases args; simp_all
  obtain ⟨rfl, rfl⟩ := trodVars_none hV
  obtain ⟨a0, rfl, rfl, rfl, w0⟩ := open_int Tryd.underlying3 (hval 0 3 v0 rfl rfl) h0
  have b0 := wf_i64 w0
  clear hA0 hval0
  refine (law_walk (many_spec a0 b0.1 b0.2) W [_] (tabs hS hL) (.cons (.v _) Reps.nil)).mono fun e W' ⟨he, bel⟩ => ?_
  subst he
  exact ⟨_, rfl, _, _, _, [], _, [], hW', trodAll_mk1 (shut_bool Tryd.underlying4 _), (trodAll_cons_mk (shut_int Tryd.underlying3 w0) trodAll_mk0), rfl, bel.frame _, fun h => by cases h⟩
theorem over : Rows.replyManyRow.holds Tryd.pinned (OpenSpec.ofChange Rows.replyManySpec) :=
  OpenClaim.holds_of_wide 5 Tryd.f5 rfl rfl rfl rfl rfl rfl rfl ⟨rfl, rfl, rfl, rfl, rfl⟩ rfl rfl rfl rfl rfl (by kernel_rfl) Tryd.func5 (by kernel_rfl)
    (of_decide_eq_true (by kernel_rfl)) (by unfold Func.isWrapper; first | (rw [if_pos (by decide +kernel)]; kernel_rfl) | (rw [if_neg (by decide +kernel)]; exact ⟨rfl, rfl⟩))
    (fun os started H enc _ => lifted os started H enc)
theorem proved : Rows.ReplyManyCardSaid :=
  Claim7.holds_tied_plain_at .later [] [.data, .data, .data] true (true, "64a08372eff540086f9993c774eceb873b2fa59320e61679b961dfddafeff19f") false
    over (fun _ h => by cases h) (by kernel_rfl) (fun _ h => by cases h) replyMany_row_tie rfl ⟨rfl, rfl⟩ (by kernel_rfl) rfl
    (fun f fn hf hfn => by
      obtain rfl : f = 5 := Option.some.inj ((show Tryd.prog.funcNamed "pillarbox/pillarboxlaw18.ReplyMany" = some 5 by kernel_rfl).symm.trans hf) |>.symm
      obtain rfl : fn = Tryd.f5 := (Option.some.inj (Tryd.func5.symm.trans hfn)).symm
      exact ⟨by kernel_rfl, fun j t ht => by
        rw [Tryd.params5] at ht
        have hm : t ∈ [3] := by simpa using Array.mem_of_getElem? ht
        have hall : ([3].all fun u => !Tryd.prog.wantsStandIn u) = true := by kernel_rfl
        exact (show Tryd.prog.wantsStandIn t = false by simpa using List.all_eq_true.1 hall t hm)⟩)
    (by kernel_rfl)
#print axioms proved
end Go.Proofs.YtpooocpgpjimgaaDoor.replyMany
namespace Go.Proofs.YtpooocpgpjimgaaDoor
/-- The card, under a short name, for the claim. -/
theorem replyMany_holds : Rows.ReplyManyCardSaid := replyMany.proved
end Go.Proofs.YtpooocpgpjimgaaDoor

