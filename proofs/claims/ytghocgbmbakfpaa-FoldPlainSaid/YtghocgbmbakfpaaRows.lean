/-
  No cell of these rows narrows 'for every input' (looked for: loops, veiled, ifaces, maps, wideKeys, modest, calm, conditions, laid).
  DERIVED. THE GIVEN ROWS OF THIS SEAT. 5 by the template 'for every input the law returns true; each argument reads behind the call as it read before'; 0 by the template 'total and deterministic' (their statements: YtghocgbmbakfpaaTotals.lean).
  GIVEN WITH THE SEED: the statements are not yours to turn. If you find one false, say at which input.
  Laid BY PROGRAM, IN A SANDBOX (cutbox-rows.mjs): the forced cells as the released guide's own fill.sh prints them over the translation c3af77d09fcc4f12… (all of the seat's roots in one cut). By AI agents, Wed Nov 11 2026. No macro, syntax, notation, axiom, sorry.
-/
import Derived.Test.YtghocgbmbakfpaaChecked
import GoSem.Claim
import GoSem.ClaimJoined
import GoSem.ClaimMapViews
import Derived.JoinedTies
import Derived.KernelRfl
namespace Go.Proofs.Ytghocgbmbakfpaa
/- THE CELL 'sum', in the pinned program and in every row, IS THE sha256 OF THE DUMP (.gsa) THAT YtghocgbmbakfpaaProg.lean LOADS. Nothing in Lean hashes anything: it is a label: what it is worth is what the hold of that sum in a sandbox is worth. -/
noncomputable def Try.pinned : Pinned := { name := "ytghocgbmbakfpaa", sum := "c3af77d09fcc4f126aff86e94c7a9d7172830cb078ad6ddf6cf601dd6823aeaa", checked := Try.checked }
namespace Rows
def none {H : Type} : Left H := { results := [], args := [] }

/-- 'pillarboxlaw04.FoldTells': WHATEVER THE INPUT: true; the input reads as it did. -/
def foldTellsSpec : ChangeSpec := { name := "foldTells", fn := fun _ => fun
  | [d1, d2, d3] => { results := [.lit (.bool true)], args := [d1, d2, d3] }
  | _ => none }
def foldTellsRow : OpenClaim := { program := "ytghocgbmbakfpaa", sum := "c3af77d09fcc4f126aff86e94c7a9d7172830cb078ad6ddf6cf601dd6823aeaa", func := "pillarbox/pillarboxlaw04.FoldTells", spec := "foldTells", unfollowed := true, recurses := true, plainKeys := false, apart := false }
def FoldTellsSaid : Prop := foldTellsRow.holds Try.pinned (OpenSpec.ofChange foldTellsSpec)

/-- ITS FALSE NEIGHBOUR: 'it returns false'. Refute it at one input. -/
def foldTellsWrong : ChangeSpec := { name := "foldTells", fn := fun _ => fun
  | [d1, d2, d3] => { results := [.lit (.bool false)], args := [d1, d2, d3] }
  | _ => none }
def FoldTellsWrongFalsely : Prop := foldTellsRow.holds Try.pinned (OpenSpec.ofChange foldTellsWrong)

/-- 'pillarboxlaw04.FoldParts': WHATEVER THE INPUT: true; the input reads as it did. -/
def foldPartsSpec : ChangeSpec := { name := "foldParts", fn := fun _ => fun
  | [d1, d2] => { results := [.lit (.bool true)], args := [d1, d2] }
  | _ => none }
def foldPartsRow : OpenClaim := { program := "ytghocgbmbakfpaa", sum := "c3af77d09fcc4f126aff86e94c7a9d7172830cb078ad6ddf6cf601dd6823aeaa", func := "pillarbox/pillarboxlaw04.FoldParts", spec := "foldParts", unfollowed := true, recurses := true, plainKeys := false, apart := false }
def FoldPartsSaid : Prop := foldPartsRow.holds Try.pinned (OpenSpec.ofChange foldPartsSpec)

/-- ITS FALSE NEIGHBOUR: 'it returns false'. Refute it at one input. -/
def foldPartsWrong : ChangeSpec := { name := "foldParts", fn := fun _ => fun
  | [d1, d2] => { results := [.lit (.bool false)], args := [d1, d2] }
  | _ => none }
def FoldPartsWrongFalsely : Prop := foldPartsRow.holds Try.pinned (OpenSpec.ofChange foldPartsWrong)

/-- 'pillarboxlaw04.FoldSame': WHATEVER THE INPUT: true; the input reads as it did. -/
def foldSameSpec : ChangeSpec := { name := "foldSame", fn := fun _ => fun
  | [d] => { results := [.lit (.bool true)], args := [d] }
  | _ => none }
def foldSameRow : OpenClaim := { program := "ytghocgbmbakfpaa", sum := "c3af77d09fcc4f126aff86e94c7a9d7172830cb078ad6ddf6cf601dd6823aeaa", func := "pillarbox/pillarboxlaw04.FoldSame", spec := "foldSame", unfollowed := true, recurses := true, plainKeys := false, apart := false }
def FoldSameSaid : Prop := foldSameRow.holds Try.pinned (OpenSpec.ofChange foldSameSpec)

/-- ITS FALSE NEIGHBOUR: 'it returns false'. Refute it at one input. -/
def foldSameWrong : ChangeSpec := { name := "foldSame", fn := fun _ => fun
  | [d] => { results := [.lit (.bool false)], args := [d] }
  | _ => none }
def FoldSameWrongFalsely : Prop := foldSameRow.holds Try.pinned (OpenSpec.ofChange foldSameWrong)

/-- 'pillarboxlaw04.FoldPlain': WHATEVER THE INPUT: true; the input reads as it did. -/
def foldPlainSpec : ChangeSpec := { name := "foldPlain", fn := fun _ => fun
  | [d] => { results := [.lit (.bool true)], args := [d] }
  | _ => none }
def foldPlainRow : OpenClaim := { program := "ytghocgbmbakfpaa", sum := "c3af77d09fcc4f126aff86e94c7a9d7172830cb078ad6ddf6cf601dd6823aeaa", func := "pillarbox/pillarboxlaw04.FoldPlain", spec := "foldPlain", unfollowed := true, recurses := true, plainKeys := false, apart := false }
def FoldPlainSaid : Prop := foldPlainRow.holds Try.pinned (OpenSpec.ofChange foldPlainSpec)

/-- ITS FALSE NEIGHBOUR: 'it returns false'. Refute it at one input. -/
def foldPlainWrong : ChangeSpec := { name := "foldPlain", fn := fun _ => fun
  | [d] => { results := [.lit (.bool false)], args := [d] }
  | _ => none }
def FoldPlainWrongFalsely : Prop := foldPlainRow.holds Try.pinned (OpenSpec.ofChange foldPlainWrong)

/-- 'pillarboxlaw04.FoldSmall': WHATEVER THE INPUT: true; the input reads as it did. -/
def foldSmallSpec : ChangeSpec := { name := "foldSmall", fn := fun _ => fun
  | [d] => { results := [.lit (.bool true)], args := [d] }
  | _ => none }
def foldSmallRow : OpenClaim := { program := "ytghocgbmbakfpaa", sum := "c3af77d09fcc4f126aff86e94c7a9d7172830cb078ad6ddf6cf601dd6823aeaa", func := "pillarbox/pillarboxlaw04.FoldSmall", spec := "foldSmall", unfollowed := true, recurses := true, plainKeys := false, apart := false }
def FoldSmallSaid : Prop := foldSmallRow.holds Try.pinned (OpenSpec.ofChange foldSmallSpec)

/-- ITS FALSE NEIGHBOUR: 'it returns false'. Refute it at one input. -/
def foldSmallWrong : ChangeSpec := { name := "foldSmall", fn := fun _ => fun
  | [d] => { results := [.lit (.bool false)], args := [d] }
  | _ => none }
def FoldSmallWrongFalsely : Prop := foldSmallRow.holds Try.pinned (OpenSpec.ofChange foldSmallWrong)

/- THE SECOND FORM. 'bulk': how many values and letters a reading holds, each counted each time it is reached (what is shared counts as often as it is met; a slice's spare places count too). A statement '..UptoSaid' is the law's where the arguments, and the package variables that the reading takes, are together of bulk at most 1048576: NARROWER than '..Said'. Prove '..Said' where nothing that the law and all that it calls make is longer than what came in: it says more and counts as full. Else prove '..UptoSaid'. A law counts once. -/
mutual
def uptoBulk {H : Type} : DataW H → Nat
  | .lit (.string bytes) => bytes.length + 1
  | .lit _ => 1
  | .nil => 1
  | .ptr d => uptoBulk d + 1
  | .slice elems spare => uptoBulkAll elems + uptoBulkAll spare + 1
  | .agg parts => uptoBulkAll parts + 1
  | .iface _ d => uptoBulk d + 1
  | .map entries => uptoBulkEntries entries + 1
  | .held _ => 1
def uptoBulkAll {H : Type} : List (DataW H) → Nat
  | [] => 0
  | d :: r => uptoBulk d + uptoBulkAll r
def uptoBulkEntries {H : Type} : List (Lit × DataW H) → Nat
  | [] => 0
  | x :: r => uptoBulkEntry x + uptoBulkEntries r
def uptoBulkEntry {H : Type} : Lit × DataW H → Nat
  | (.string bytes, d) => bytes.length + uptoBulk d + 1
  | (_, d) => uptoBulk d + 1
 end
def uptoSmall : (H : Type) → List (DataW H) → Bool := fun _ ds => decide (uptoBulkAll ds ≤ 1048576)
def OpenSpec.upto (s : _root_.Go.ChangeSpec) : _root_.Go.OpenSpec := { _root_.Go.OpenSpec.ofChange s with cond := some uptoSmall }

/-- 'pillarboxlaw04.FoldTells', WHERE WHAT IT READS IS OF BULK AT MOST 1048576: true; the input reads as it did. -/
def foldTellsUptoRow : OpenClaim := { program := "ytghocgbmbakfpaa", sum := "c3af77d09fcc4f126aff86e94c7a9d7172830cb078ad6ddf6cf601dd6823aeaa", func := "pillarbox/pillarboxlaw04.FoldTells", spec := "foldTells", unfollowed := true, recurses := true, plainKeys := false, apart := false, narrowed := true }
def FoldTellsUptoSaid : Prop := foldTellsUptoRow.holds Try.pinned (OpenSpec.upto foldTellsSpec)

/-- 'pillarboxlaw04.FoldParts', WHERE WHAT IT READS IS OF BULK AT MOST 1048576: true; the input reads as it did. -/
def foldPartsUptoRow : OpenClaim := { program := "ytghocgbmbakfpaa", sum := "c3af77d09fcc4f126aff86e94c7a9d7172830cb078ad6ddf6cf601dd6823aeaa", func := "pillarbox/pillarboxlaw04.FoldParts", spec := "foldParts", unfollowed := true, recurses := true, plainKeys := false, apart := false, narrowed := true }
def FoldPartsUptoSaid : Prop := foldPartsUptoRow.holds Try.pinned (OpenSpec.upto foldPartsSpec)

/-- 'pillarboxlaw04.FoldSame', WHERE WHAT IT READS IS OF BULK AT MOST 1048576: true; the input reads as it did. -/
def foldSameUptoRow : OpenClaim := { program := "ytghocgbmbakfpaa", sum := "c3af77d09fcc4f126aff86e94c7a9d7172830cb078ad6ddf6cf601dd6823aeaa", func := "pillarbox/pillarboxlaw04.FoldSame", spec := "foldSame", unfollowed := true, recurses := true, plainKeys := false, apart := false, narrowed := true }
def FoldSameUptoSaid : Prop := foldSameUptoRow.holds Try.pinned (OpenSpec.upto foldSameSpec)

/-- 'pillarboxlaw04.FoldPlain', WHERE WHAT IT READS IS OF BULK AT MOST 1048576: true; the input reads as it did. -/
def foldPlainUptoRow : OpenClaim := { program := "ytghocgbmbakfpaa", sum := "c3af77d09fcc4f126aff86e94c7a9d7172830cb078ad6ddf6cf601dd6823aeaa", func := "pillarbox/pillarboxlaw04.FoldPlain", spec := "foldPlain", unfollowed := true, recurses := true, plainKeys := false, apart := false, narrowed := true }
def FoldPlainUptoSaid : Prop := foldPlainUptoRow.holds Try.pinned (OpenSpec.upto foldPlainSpec)

/-- 'pillarboxlaw04.FoldSmall', WHERE WHAT IT READS IS OF BULK AT MOST 1048576: true; the input reads as it did. -/
def foldSmallUptoRow : OpenClaim := { program := "ytghocgbmbakfpaa", sum := "c3af77d09fcc4f126aff86e94c7a9d7172830cb078ad6ddf6cf601dd6823aeaa", func := "pillarbox/pillarboxlaw04.FoldSmall", spec := "foldSmall", unfollowed := true, recurses := true, plainKeys := false, apart := false, narrowed := true }
def FoldSmallUptoSaid : Prop := foldSmallUptoRow.holds Try.pinned (OpenSpec.upto foldSmallSpec)

end Rows
end Go.Proofs.Ytghocgbmbakfpaa
