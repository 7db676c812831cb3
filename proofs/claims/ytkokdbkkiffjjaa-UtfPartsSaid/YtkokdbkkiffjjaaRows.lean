/-
  No cell of these rows narrows 'for every input' (looked for: loops, veiled, ifaces, maps, wideKeys, modest, calm, conditions, laid).
  DERIVED. THE GIVEN ROWS OF THIS SEAT. 5 by the template 'for every input the law returns true; each argument reads behind the call as it read before'; 0 by the template 'total and deterministic' (their statements: YtkokdbkkiffjjaaTotals.lean).
  GIVEN WITH THE SEED: the statements are not yours to turn. If you find one false, say at which input.
  Laid BY PROGRAM, IN A SANDBOX (cutbox-rows.mjs): the forced cells as the released guide's own fill.sh prints them over the translation 2d7076895d3df346… (all of the seat's roots in one cut). By AI agents, Wed Nov 11 2026. No macro, syntax, notation, axiom, sorry.
-/
import Derived.Test.YtkokdbkkiffjjaaChecked
import GoSem.Claim
import GoSem.ClaimJoined
import GoSem.ClaimMapViews
import Derived.JoinedTies
import Derived.KernelRfl
namespace Go.Proofs.Ytkokdbkkiffjjaa
/- THE CELL 'sum', in the pinned program and in every row, IS THE sha256 OF THE DUMP (.gsa) THAT YtkokdbkkiffjjaaProg.lean LOADS. Nothing in Lean hashes anything: it is a label: what it is worth is what the hold of that sum in a sandbox is worth. -/
noncomputable def Try.pinned : Pinned := { name := "ytkokdbkkiffjjaa", sum := "2d7076895d3df346134d2df7b6a9c82744083a2b0817b4451a24e696b54512d1", checked := Try.checked }
namespace Rows
def none {H : Type} : Left H := { results := [], args := [] }

/-- 'pillarboxlaw02.UtfReads': WHATEVER THE INPUT: true; the input reads as it did. -/
def utfReadsSpec : ChangeSpec := { name := "utfReads", fn := fun _ => fun
  | [d] => { results := [.lit (.bool true)], args := [d] }
  | _ => none }
def utfReadsRow : OpenClaim := { program := "ytkokdbkkiffjjaa", sum := "2d7076895d3df346134d2df7b6a9c82744083a2b0817b4451a24e696b54512d1", func := "pillarbox/pillarboxlaw02.UtfReads", spec := "utfReads", apart := false }
def UtfReadsSaid : Prop := utfReadsRow.holds Try.pinned (OpenSpec.ofChange utfReadsSpec)

/-- ITS FALSE NEIGHBOUR: 'it returns false'. Refute it at one input. -/
def utfReadsWrong : ChangeSpec := { name := "utfReads", fn := fun _ => fun
  | [d] => { results := [.lit (.bool false)], args := [d] }
  | _ => none }
def UtfReadsWrongFalsely : Prop := utfReadsRow.holds Try.pinned (OpenSpec.ofChange utfReadsWrong)

/-- 'pillarboxlaw02.UtfWrites': WHATEVER THE INPUT: true; the input reads as it did. -/
def utfWritesSpec : ChangeSpec := { name := "utfWrites", fn := fun _ => fun
  | [d1, d2] => { results := [.lit (.bool true)], args := [d1, d2] }
  | _ => none }
def utfWritesRow : OpenClaim := { program := "ytkokdbkkiffjjaa", sum := "2d7076895d3df346134d2df7b6a9c82744083a2b0817b4451a24e696b54512d1", func := "pillarbox/pillarboxlaw02.UtfWrites", spec := "utfWrites", apart := false }
def UtfWritesSaid : Prop := utfWritesRow.holds Try.pinned (OpenSpec.ofChange utfWritesSpec)

/-- ITS FALSE NEIGHBOUR: 'it returns false'. Refute it at one input. -/
def utfWritesWrong : ChangeSpec := { name := "utfWrites", fn := fun _ => fun
  | [d1, d2] => { results := [.lit (.bool false)], args := [d1, d2] }
  | _ => none }
def UtfWritesWrongFalsely : Prop := utfWritesRow.holds Try.pinned (OpenSpec.ofChange utfWritesWrong)

/-- 'pillarboxlaw02.UtfBack': WHATEVER THE INPUT: true; the input reads as it did. -/
def utfBackSpec : ChangeSpec := { name := "utfBack", fn := fun _ => fun
  | [d1, d2] => { results := [.lit (.bool true)], args := [d1, d2] }
  | _ => none }
def utfBackRow : OpenClaim := { program := "ytkokdbkkiffjjaa", sum := "2d7076895d3df346134d2df7b6a9c82744083a2b0817b4451a24e696b54512d1", func := "pillarbox/pillarboxlaw02.UtfBack", spec := "utfBack", apart := false }
def UtfBackSaid : Prop := utfBackRow.holds Try.pinned (OpenSpec.ofChange utfBackSpec)

/-- ITS FALSE NEIGHBOUR: 'it returns false'. Refute it at one input. -/
def utfBackWrong : ChangeSpec := { name := "utfBack", fn := fun _ => fun
  | [d1, d2] => { results := [.lit (.bool false)], args := [d1, d2] }
  | _ => none }
def UtfBackWrongFalsely : Prop := utfBackRow.holds Try.pinned (OpenSpec.ofChange utfBackWrong)

/-- 'pillarboxlaw02.UtfParts': WHATEVER THE INPUT: true; the input reads as it did. -/
def utfPartsSpec : ChangeSpec := { name := "utfParts", fn := fun _ => fun
  | [d1, d2] => { results := [.lit (.bool true)], args := [d1, d2] }
  | _ => none }
def utfPartsRow : OpenClaim := { program := "ytkokdbkkiffjjaa", sum := "2d7076895d3df346134d2df7b6a9c82744083a2b0817b4451a24e696b54512d1", func := "pillarbox/pillarboxlaw02.UtfParts", spec := "utfParts", apart := false }
def UtfPartsSaid : Prop := utfPartsRow.holds Try.pinned (OpenSpec.ofChange utfPartsSpec)

/-- ITS FALSE NEIGHBOUR: 'it returns false'. Refute it at one input. -/
def utfPartsWrong : ChangeSpec := { name := "utfParts", fn := fun _ => fun
  | [d1, d2] => { results := [.lit (.bool false)], args := [d1, d2] }
  | _ => none }
def UtfPartsWrongFalsely : Prop := utfPartsRow.holds Try.pinned (OpenSpec.ofChange utfPartsWrong)

/-- 'pillarboxlaw02.UtfOrder': WHATEVER THE INPUT: true; the input reads as it did. -/
def utfOrderSpec : ChangeSpec := { name := "utfOrder", fn := fun _ => fun
  | [d1, d2] => { results := [.lit (.bool true)], args := [d1, d2] }
  | _ => none }
def utfOrderRow : OpenClaim := { program := "ytkokdbkkiffjjaa", sum := "2d7076895d3df346134d2df7b6a9c82744083a2b0817b4451a24e696b54512d1", func := "pillarbox/pillarboxlaw02.UtfOrder", spec := "utfOrder", apart := false }
def UtfOrderSaid : Prop := utfOrderRow.holds Try.pinned (OpenSpec.ofChange utfOrderSpec)

/-- ITS FALSE NEIGHBOUR: 'it returns false'. Refute it at one input. -/
def utfOrderWrong : ChangeSpec := { name := "utfOrder", fn := fun _ => fun
  | [d1, d2] => { results := [.lit (.bool false)], args := [d1, d2] }
  | _ => none }
def UtfOrderWrongFalsely : Prop := utfOrderRow.holds Try.pinned (OpenSpec.ofChange utfOrderWrong)

/- THE SECOND FORM. 'bulk': how many values and letters a reading holds, each counted each time it is reached (what is shared counts as often as it is met; a slice's spare places count too). A statement '..UptoSaid' is the law's where the arguments, and the package variables that the reading takes, are together of bulk at most 1048576: NARROWER than '..Said'. Prove '..Said' where nothing that the law and all that it calls make is longer than what came in: it says more and counts as full. Else prove '..UptoSaid'. A law counts once. -/
mutual
def uptoBulk {H : Type} : DataW H → Nat
  | .lit (.string bytes) => bytes.length + 1
  | .lit _ => 1
  | .nil => 1
  | .ptr d => uptoBulk d + 1
  | .slice elems spare => uptoBulkAll elems + uptoBulkAll spare + 1
  | .agg parts => uptoBulkAll parts + 1
  | .iface _ d => uptoBulk d + 1
  | .map entries => uptoBulkEntries entries + 1
  | .held _ => 1
def uptoBulkAll {H : Type} : List (DataW H) → Nat
  | [] => 0
  | d :: r => uptoBulk d + uptoBulkAll r
def uptoBulkEntries {H : Type} : List (Lit × DataW H) → Nat
  | [] => 0
  | x :: r => uptoBulkEntry x + uptoBulkEntries r
def uptoBulkEntry {H : Type} : Lit × DataW H → Nat
  | (.string bytes, d) => bytes.length + uptoBulk d + 1
  | (_, d) => uptoBulk d + 1
 end
def uptoSmall : (H : Type) → List (DataW H) → Bool := fun _ ds => decide (uptoBulkAll ds ≤ 1048576)
def OpenSpec.upto (s : _root_.Go.ChangeSpec) : _root_.Go.OpenSpec := { _root_.Go.OpenSpec.ofChange s with cond := some uptoSmall }

/-- 'pillarboxlaw02.UtfReads', WHERE WHAT IT READS IS OF BULK AT MOST 1048576: true; the input reads as it did. -/
def utfReadsUptoRow : OpenClaim := { program := "ytkokdbkkiffjjaa", sum := "2d7076895d3df346134d2df7b6a9c82744083a2b0817b4451a24e696b54512d1", func := "pillarbox/pillarboxlaw02.UtfReads", spec := "utfReads", apart := false, narrowed := true }
def UtfReadsUptoSaid : Prop := utfReadsUptoRow.holds Try.pinned (OpenSpec.upto utfReadsSpec)

/-- 'pillarboxlaw02.UtfWrites', WHERE WHAT IT READS IS OF BULK AT MOST 1048576: true; the input reads as it did. -/
def utfWritesUptoRow : OpenClaim := { program := "ytkokdbkkiffjjaa", sum := "2d7076895d3df346134d2df7b6a9c82744083a2b0817b4451a24e696b54512d1", func := "pillarbox/pillarboxlaw02.UtfWrites", spec := "utfWrites", apart := false, narrowed := true }
def UtfWritesUptoSaid : Prop := utfWritesUptoRow.holds Try.pinned (OpenSpec.upto utfWritesSpec)

/-- 'pillarboxlaw02.UtfBack', WHERE WHAT IT READS IS OF BULK AT MOST 1048576: true; the input reads as it did. -/
def utfBackUptoRow : OpenClaim := { program := "ytkokdbkkiffjjaa", sum := "2d7076895d3df346134d2df7b6a9c82744083a2b0817b4451a24e696b54512d1", func := "pillarbox/pillarboxlaw02.UtfBack", spec := "utfBack", apart := false, narrowed := true }
def UtfBackUptoSaid : Prop := utfBackUptoRow.holds Try.pinned (OpenSpec.upto utfBackSpec)

/-- 'pillarboxlaw02.UtfParts', WHERE WHAT IT READS IS OF BULK AT MOST 1048576: true; the input reads as it did. -/
def utfPartsUptoRow : OpenClaim := { program := "ytkokdbkkiffjjaa", sum := "2d7076895d3df346134d2df7b6a9c82744083a2b0817b4451a24e696b54512d1", func := "pillarbox/pillarboxlaw02.UtfParts", spec := "utfParts", apart := false, narrowed := true }
def UtfPartsUptoSaid : Prop := utfPartsUptoRow.holds Try.pinned (OpenSpec.upto utfPartsSpec)

/-- 'pillarboxlaw02.UtfOrder', WHERE WHAT IT READS IS OF BULK AT MOST 1048576: true; the input reads as it did. -/
def utfOrderUptoRow : OpenClaim := { program := "ytkokdbkkiffjjaa", sum := "2d7076895d3df346134d2df7b6a9c82744083a2b0817b4451a24e696b54512d1", func := "pillarbox/pillarboxlaw02.UtfOrder", spec := "utfOrder", apart := false, narrowed := true }
def UtfOrderUptoSaid : Prop := utfOrderUptoRow.holds Try.pinned (OpenSpec.upto utfOrderSpec)

end Rows
end Go.Proofs.Ytkokdbkkiffjjaa
