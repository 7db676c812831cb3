/-
  No cell of these rows narrows 'for every input' (looked for: loops, veiled, ifaces, maps, wideKeys, modest, calm, conditions, laid).
  DERIVED. THE GIVEN ROWS OF THIS SEAT. 6 by the template 'for every input the law returns true; each argument reads behind the call as it read before'; 0 by the template 'total and deterministic' (their statements: YtpdnmlkilinjpaaTotals.lean).
  GIVEN WITH THE SEED: the statements are not yours to turn. If you find one false, say at which input.
  Laid BY PROGRAM, IN A SANDBOX (cutbox-rows.mjs): the forced cells as the released guide's own fill.sh prints them over the translation 4a044eeea01b1f9a… (all of the seat's roots in one cut). By AI agents, Wed Nov 11 2026. No macro, syntax, notation, axiom, sorry.
-/
import Derived.Test.YtpdnmlkilinjpaaChecked
import GoSem.Claim
import GoSem.ClaimJoined
import GoSem.ClaimMapViews
import Derived.JoinedTies
import Derived.KernelRfl
namespace Go.Proofs.Ytpdnmlkilinjpaa
/- THE CELL 'sum', in the pinned program and in every row, IS THE sha256 OF THE DUMP (.gsa) THAT YtpdnmlkilinjpaaProg.lean LOADS. Nothing in Lean hashes anything: it is a label: what it is worth is what the hold of that sum in a sandbox is worth. -/
noncomputable def Try.pinned : Pinned := { name := "ytpdnmlkilinjpaa", sum := "4a044eeea01b1f9a2064bc007836c071e96d8a3c1c689ae7fc7eb3528a0099b0", checked := Try.checked }
namespace Rows
def none {H : Type} : Left H := { results := [], args := [] }

/-- 'pillarboxlaw03.NormSteps': WHATEVER THE INPUT: true; the input reads as it did. -/
def normStepsSpec : ChangeSpec := { name := "normSteps", fn := fun _ => fun
  | [d1, d2] => { results := [.lit (.bool true)], args := [d1, d2] }
  | _ => none }
def normStepsRow : OpenClaim := { program := "ytpdnmlkilinjpaa", sum := "4a044eeea01b1f9a2064bc007836c071e96d8a3c1c689ae7fc7eb3528a0099b0", func := "pillarbox/pillarboxlaw03.NormSteps", spec := "normSteps", unfollowed := true, recurses := true, plainKeys := false, apart := false }
def NormStepsSaid : Prop := normStepsRow.holds Try.pinned (OpenSpec.ofChange normStepsSpec)

/-- ITS FALSE NEIGHBOUR: 'it returns false'. Refute it at one input. -/
def normStepsWrong : ChangeSpec := { name := "normSteps", fn := fun _ => fun
  | [d1, d2] => { results := [.lit (.bool false)], args := [d1, d2] }
  | _ => none }
def NormStepsWrongFalsely : Prop := normStepsRow.holds Try.pinned (OpenSpec.ofChange normStepsWrong)

/-- 'pillarboxlaw03.NormHangul': WHATEVER THE INPUT: true; the input reads as it did. -/
def normHangulSpec : ChangeSpec := { name := "normHangul", fn := fun _ => fun
  | [d1, d2, d3] => { results := [.lit (.bool true)], args := [d1, d2, d3] }
  | _ => none }
def normHangulRow : OpenClaim := { program := "ytpdnmlkilinjpaa", sum := "4a044eeea01b1f9a2064bc007836c071e96d8a3c1c689ae7fc7eb3528a0099b0", func := "pillarbox/pillarboxlaw03.NormHangul", spec := "normHangul", unfollowed := true, recurses := true, plainKeys := false, apart := false }
def NormHangulSaid : Prop := normHangulRow.holds Try.pinned (OpenSpec.ofChange normHangulSpec)

/-- ITS FALSE NEIGHBOUR: 'it returns false'. Refute it at one input. -/
def normHangulWrong : ChangeSpec := { name := "normHangul", fn := fun _ => fun
  | [d1, d2, d3] => { results := [.lit (.bool false)], args := [d1, d2, d3] }
  | _ => none }
def NormHangulWrongFalsely : Prop := normHangulRow.holds Try.pinned (OpenSpec.ofChange normHangulWrong)

/-- 'pillarboxlaw03.NormForms': WHATEVER THE INPUT: true; the input reads as it did. -/
def normFormsSpec : ChangeSpec := { name := "normForms", fn := fun _ => fun
  | [d] => { results := [.lit (.bool true)], args := [d] }
  | _ => none }
def normFormsRow : OpenClaim := { program := "ytpdnmlkilinjpaa", sum := "4a044eeea01b1f9a2064bc007836c071e96d8a3c1c689ae7fc7eb3528a0099b0", func := "pillarbox/pillarboxlaw03.NormForms", spec := "normForms", unfollowed := true, recurses := true, plainKeys := false, apart := false }
def NormFormsSaid : Prop := normFormsRow.holds Try.pinned (OpenSpec.ofChange normFormsSpec)

/-- ITS FALSE NEIGHBOUR: 'it returns false'. Refute it at one input. -/
def normFormsWrong : ChangeSpec := { name := "normForms", fn := fun _ => fun
  | [d] => { results := [.lit (.bool false)], args := [d] }
  | _ => none }
def NormFormsWrongFalsely : Prop := normFormsRow.holds Try.pinned (OpenSpec.ofChange normFormsWrong)

/-- 'pillarboxlaw03.NormSame': WHATEVER THE INPUT: true; the input reads as it did. -/
def normSameSpec : ChangeSpec := { name := "normSame", fn := fun _ => fun
  | [d] => { results := [.lit (.bool true)], args := [d] }
  | _ => none }
def normSameRow : OpenClaim := { program := "ytpdnmlkilinjpaa", sum := "4a044eeea01b1f9a2064bc007836c071e96d8a3c1c689ae7fc7eb3528a0099b0", func := "pillarbox/pillarboxlaw03.NormSame", spec := "normSame", unfollowed := true, recurses := true, plainKeys := false, apart := false }
def NormSameSaid : Prop := normSameRow.holds Try.pinned (OpenSpec.ofChange normSameSpec)

/-- ITS FALSE NEIGHBOUR: 'it returns false'. Refute it at one input. -/
def normSameWrong : ChangeSpec := { name := "normSame", fn := fun _ => fun
  | [d] => { results := [.lit (.bool false)], args := [d] }
  | _ => none }
def NormSameWrongFalsely : Prop := normSameRow.holds Try.pinned (OpenSpec.ofChange normSameWrong)

/-- 'pillarboxlaw03.NormOrder': WHATEVER THE INPUT: true; the input reads as it did. -/
def normOrderSpec : ChangeSpec := { name := "normOrder", fn := fun _ => fun
  | [d1, d2] => { results := [.lit (.bool true)], args := [d1, d2] }
  | _ => none }
def normOrderRow : OpenClaim := { program := "ytpdnmlkilinjpaa", sum := "4a044eeea01b1f9a2064bc007836c071e96d8a3c1c689ae7fc7eb3528a0099b0", func := "pillarbox/pillarboxlaw03.NormOrder", spec := "normOrder", unfollowed := true, recurses := true, plainKeys := false, apart := false }
def NormOrderSaid : Prop := normOrderRow.holds Try.pinned (OpenSpec.ofChange normOrderSpec)

/-- ITS FALSE NEIGHBOUR: 'it returns false'. Refute it at one input. -/
def normOrderWrong : ChangeSpec := { name := "normOrder", fn := fun _ => fun
  | [d1, d2] => { results := [.lit (.bool false)], args := [d1, d2] }
  | _ => none }
def NormOrderWrongFalsely : Prop := normOrderRow.holds Try.pinned (OpenSpec.ofChange normOrderWrong)

/-- 'pillarboxlaw03.NormPlain': WHATEVER THE INPUT: true; the input reads as it did. -/
def normPlainSpec : ChangeSpec := { name := "normPlain", fn := fun _ => fun
  | [d] => { results := [.lit (.bool true)], args := [d] }
  | _ => none }
def normPlainRow : OpenClaim := { program := "ytpdnmlkilinjpaa", sum := "4a044eeea01b1f9a2064bc007836c071e96d8a3c1c689ae7fc7eb3528a0099b0", func := "pillarbox/pillarboxlaw03.NormPlain", spec := "normPlain", unfollowed := true, recurses := true, plainKeys := false, apart := false }
def NormPlainSaid : Prop := normPlainRow.holds Try.pinned (OpenSpec.ofChange normPlainSpec)

/-- ITS FALSE NEIGHBOUR: 'it returns false'. Refute it at one input. -/
def normPlainWrong : ChangeSpec := { name := "normPlain", fn := fun _ => fun
  | [d] => { results := [.lit (.bool false)], args := [d] }
  | _ => none }
def NormPlainWrongFalsely : Prop := normPlainRow.holds Try.pinned (OpenSpec.ofChange normPlainWrong)

/- THE SECOND FORM. 'bulk': how many values and letters a reading holds, each counted each time it is reached (what is shared counts as often as it is met; a slice's spare places count too). A statement '..UptoSaid' is the law's where the arguments, and the package variables that the reading takes, are together of bulk at most 1048576: NARROWER than '..Said'. Prove '..Said' where nothing that the law and all that it calls make is longer than what came in: it says more and counts as full. Else prove '..UptoSaid'. A law counts once. -/
mutual
def uptoBulk {H : Type} : DataW H → Nat
  | .lit (.string bytes) => bytes.length + 1
  | .lit _ => 1
  | .nil => 1
  | .ptr d => uptoBulk d + 1
  | .slice elems spare => uptoBulkAll elems + uptoBulkAll spare + 1
  | .agg parts => uptoBulkAll parts + 1
  | .iface _ d => uptoBulk d + 1
  | .map entries => uptoBulkEntries entries + 1
  | .held _ => 1
def uptoBulkAll {H : Type} : List (DataW H) → Nat
  | [] => 0
  | d :: r => uptoBulk d + uptoBulkAll r
def uptoBulkEntries {H : Type} : List (Lit × DataW H) → Nat
  | [] => 0
  | x :: r => uptoBulkEntry x + uptoBulkEntries r
def uptoBulkEntry {H : Type} : Lit × DataW H → Nat
  | (.string bytes, d) => bytes.length + uptoBulk d + 1
  | (_, d) => uptoBulk d + 1
 end
def uptoSmall : (H : Type) → List (DataW H) → Bool := fun _ ds => decide (uptoBulkAll ds ≤ 1048576)
def OpenSpec.upto (s : _root_.Go.ChangeSpec) : _root_.Go.OpenSpec := { _root_.Go.OpenSpec.ofChange s with cond := some uptoSmall }

/-- 'pillarboxlaw03.NormSteps', WHERE WHAT IT READS IS OF BULK AT MOST 1048576: true; the input reads as it did. -/
def normStepsUptoRow : OpenClaim := { program := "ytpdnmlkilinjpaa", sum := "4a044eeea01b1f9a2064bc007836c071e96d8a3c1c689ae7fc7eb3528a0099b0", func := "pillarbox/pillarboxlaw03.NormSteps", spec := "normSteps", unfollowed := true, recurses := true, plainKeys := false, apart := false, narrowed := true }
def NormStepsUptoSaid : Prop := normStepsUptoRow.holds Try.pinned (OpenSpec.upto normStepsSpec)

/-- 'pillarboxlaw03.NormHangul', WHERE WHAT IT READS IS OF BULK AT MOST 1048576: true; the input reads as it did. -/
def normHangulUptoRow : OpenClaim := { program := "ytpdnmlkilinjpaa", sum := "4a044eeea01b1f9a2064bc007836c071e96d8a3c1c689ae7fc7eb3528a0099b0", func := "pillarbox/pillarboxlaw03.NormHangul", spec := "normHangul", unfollowed := true, recurses := true, plainKeys := false, apart := false, narrowed := true }
def NormHangulUptoSaid : Prop := normHangulUptoRow.holds Try.pinned (OpenSpec.upto normHangulSpec)

/-- 'pillarboxlaw03.NormForms', WHERE WHAT IT READS IS OF BULK AT MOST 1048576: true; the input reads as it did. -/
def normFormsUptoRow : OpenClaim := { program := "ytpdnmlkilinjpaa", sum := "4a044eeea01b1f9a2064bc007836c071e96d8a3c1c689ae7fc7eb3528a0099b0", func := "pillarbox/pillarboxlaw03.NormForms", spec := "normForms", unfollowed := true, recurses := true, plainKeys := false, apart := false, narrowed := true }
def NormFormsUptoSaid : Prop := normFormsUptoRow.holds Try.pinned (OpenSpec.upto normFormsSpec)

/-- 'pillarboxlaw03.NormSame', WHERE WHAT IT READS IS OF BULK AT MOST 1048576: true; the input reads as it did. -/
def normSameUptoRow : OpenClaim := { program := "ytpdnmlkilinjpaa", sum := "4a044eeea01b1f9a2064bc007836c071e96d8a3c1c689ae7fc7eb3528a0099b0", func := "pillarbox/pillarboxlaw03.NormSame", spec := "normSame", unfollowed := true, recurses := true, plainKeys := false, apart := false, narrowed := true }
def NormSameUptoSaid : Prop := normSameUptoRow.holds Try.pinned (OpenSpec.upto normSameSpec)

/-- 'pillarboxlaw03.NormOrder', WHERE WHAT IT READS IS OF BULK AT MOST 1048576: true; the input reads as it did. -/
def normOrderUptoRow : OpenClaim := { program := "ytpdnmlkilinjpaa", sum := "4a044eeea01b1f9a2064bc007836c071e96d8a3c1c689ae7fc7eb3528a0099b0", func := "pillarbox/pillarboxlaw03.NormOrder", spec := "normOrder", unfollowed := true, recurses := true, plainKeys := false, apart := false, narrowed := true }
def NormOrderUptoSaid : Prop := normOrderUptoRow.holds Try.pinned (OpenSpec.upto normOrderSpec)

/-- 'pillarboxlaw03.NormPlain', WHERE WHAT IT READS IS OF BULK AT MOST 1048576: true; the input reads as it did. -/
def normPlainUptoRow : OpenClaim := { program := "ytpdnmlkilinjpaa", sum := "4a044eeea01b1f9a2064bc007836c071e96d8a3c1c689ae7fc7eb3528a0099b0", func := "pillarbox/pillarboxlaw03.NormPlain", spec := "normPlain", unfollowed := true, recurses := true, plainKeys := false, apart := false, narrowed := true }
def NormPlainUptoSaid : Prop := normPlainUptoRow.holds Try.pinned (OpenSpec.upto normPlainSpec)

end Rows
end Go.Proofs.Ytpdnmlkilinjpaa
