/-
  No cell of these rows narrows 'for every input' (looked for: loops, veiled, ifaces, maps, wideKeys, modest, calm, conditions, laid).
  DERIVED. THE GIVEN ROWS OF THIS SEAT. 6 by the template 'for every input the law returns true; each argument reads behind the call as it read before'; 0 by the template 'total and deterministic' (their statements: YtheknccdihbgjaaTotals.lean).
  GIVEN WITH THE SEED: the statements are not yours to turn. If you find one false, say at which input.
  Laid BY PROGRAM, IN A SANDBOX (cutbox-rows.mjs): the forced cells as the released guide's own fill.sh prints them over the translation 416761498efcdc22… (all of the seat's roots in one cut). By AI agents, Wed Nov 11 2026. No macro, syntax, notation, axiom, sorry.
-/
import Derived.Test.YtheknccdihbgjaaChecked
import GoSem.Claim
import GoSem.ClaimJoined
import GoSem.ClaimMapViews
import Derived.JoinedTies
import Derived.KernelRfl
namespace Go.Proofs.Ytheknccdihbgjaa
/- THE CELL 'sum', in the pinned program and in every row, IS THE sha256 OF THE DUMP (.gsa) THAT YtheknccdihbgjaaProg.lean LOADS. Nothing in Lean hashes anything: it is a label: what it is worth is what the hold of that sum in a sandbox is worth. -/
noncomputable def Try.pinned : Pinned := { name := "ytheknccdihbgjaa", sum := "416761498efcdc22addffa924ea545baadd680e3332733415405dd6f1b189c2a", checked := Try.checked }
namespace Rows
def none {H : Type} : Left H := { results := [], args := [] }

/-- 'pillarboxlaw01.UcdTells': WHATEVER THE INPUT: true; the input reads as it did. -/
def ucdTellsSpec : ChangeSpec := { name := "ucdTells", fn := fun _ => fun
  | [d] => { results := [.lit (.bool true)], args := [d] }
  | _ => none }
def ucdTellsRow : OpenClaim := { program := "ytheknccdihbgjaa", sum := "416761498efcdc22addffa924ea545baadd680e3332733415405dd6f1b189c2a", func := "pillarbox/pillarboxlaw01.UcdTells", spec := "ucdTells", unfollowed := true, recurses := true, plainKeys := false, apart := false }
def UcdTellsSaid : Prop := ucdTellsRow.holds Try.pinned (OpenSpec.ofChange ucdTellsSpec)

/-- ITS FALSE NEIGHBOUR: 'it returns false'. Refute it at one input. -/
def ucdTellsWrong : ChangeSpec := { name := "ucdTells", fn := fun _ => fun
  | [d] => { results := [.lit (.bool false)], args := [d] }
  | _ => none }
def UcdTellsWrongFalsely : Prop := ucdTellsRow.holds Try.pinned (OpenSpec.ofChange ucdTellsWrong)

/-- 'pillarboxlaw01.UcdSplits': WHATEVER THE INPUT: true; the input reads as it did. -/
def ucdSplitsSpec : ChangeSpec := { name := "ucdSplits", fn := fun _ => fun
  | [d1, d2, d3] => { results := [.lit (.bool true)], args := [d1, d2, d3] }
  | _ => none }
def ucdSplitsRow : OpenClaim := { program := "ytheknccdihbgjaa", sum := "416761498efcdc22addffa924ea545baadd680e3332733415405dd6f1b189c2a", func := "pillarbox/pillarboxlaw01.UcdSplits", spec := "ucdSplits", unfollowed := true, recurses := true, plainKeys := false, apart := false }
def UcdSplitsSaid : Prop := ucdSplitsRow.holds Try.pinned (OpenSpec.ofChange ucdSplitsSpec)

/-- ITS FALSE NEIGHBOUR: 'it returns false'. Refute it at one input. -/
def ucdSplitsWrong : ChangeSpec := { name := "ucdSplits", fn := fun _ => fun
  | [d1, d2, d3] => { results := [.lit (.bool false)], args := [d1, d2, d3] }
  | _ => none }
def UcdSplitsWrongFalsely : Prop := ucdSplitsRow.holds Try.pinned (OpenSpec.ofChange ucdSplitsWrong)

/-- 'pillarboxlaw01.UcdPairs': WHATEVER THE INPUT: true; the input reads as it did. -/
def ucdPairsSpec : ChangeSpec := { name := "ucdPairs", fn := fun _ => fun
  | [d1, d2, d3] => { results := [.lit (.bool true)], args := [d1, d2, d3] }
  | _ => none }
def ucdPairsRow : OpenClaim := { program := "ytheknccdihbgjaa", sum := "416761498efcdc22addffa924ea545baadd680e3332733415405dd6f1b189c2a", func := "pillarbox/pillarboxlaw01.UcdPairs", spec := "ucdPairs", unfollowed := true, recurses := true, plainKeys := false, apart := false }
def UcdPairsSaid : Prop := ucdPairsRow.holds Try.pinned (OpenSpec.ofChange ucdPairsSpec)

/-- ITS FALSE NEIGHBOUR: 'it returns false'. Refute it at one input. -/
def ucdPairsWrong : ChangeSpec := { name := "ucdPairs", fn := fun _ => fun
  | [d1, d2, d3] => { results := [.lit (.bool false)], args := [d1, d2, d3] }
  | _ => none }
def UcdPairsWrongFalsely : Prop := ucdPairsRow.holds Try.pinned (OpenSpec.ofChange ucdPairsWrong)

/-- 'pillarboxlaw01.UcdLower': WHATEVER THE INPUT: true; the input reads as it did. -/
def ucdLowerSpec : ChangeSpec := { name := "ucdLower", fn := fun _ => fun
  | [d] => { results := [.lit (.bool true)], args := [d] }
  | _ => none }
def ucdLowerRow : OpenClaim := { program := "ytheknccdihbgjaa", sum := "416761498efcdc22addffa924ea545baadd680e3332733415405dd6f1b189c2a", func := "pillarbox/pillarboxlaw01.UcdLower", spec := "ucdLower", unfollowed := true, recurses := true, plainKeys := false, apart := false }
def UcdLowerSaid : Prop := ucdLowerRow.holds Try.pinned (OpenSpec.ofChange ucdLowerSpec)

/-- ITS FALSE NEIGHBOUR: 'it returns false'. Refute it at one input. -/
def ucdLowerWrong : ChangeSpec := { name := "ucdLower", fn := fun _ => fun
  | [d] => { results := [.lit (.bool false)], args := [d] }
  | _ => none }
def UcdLowerWrongFalsely : Prop := ucdLowerRow.holds Try.pinned (OpenSpec.ofChange ucdLowerWrong)

/-- 'pillarboxlaw01.UcdMarks': WHATEVER THE INPUT: true; the input reads as it did. -/
def ucdMarksSpec : ChangeSpec := { name := "ucdMarks", fn := fun _ => fun
  | [d] => { results := [.lit (.bool true)], args := [d] }
  | _ => none }
def ucdMarksRow : OpenClaim := { program := "ytheknccdihbgjaa", sum := "416761498efcdc22addffa924ea545baadd680e3332733415405dd6f1b189c2a", func := "pillarbox/pillarboxlaw01.UcdMarks", spec := "ucdMarks", unfollowed := true, recurses := true, plainKeys := false, apart := false }
def UcdMarksSaid : Prop := ucdMarksRow.holds Try.pinned (OpenSpec.ofChange ucdMarksSpec)

/-- ITS FALSE NEIGHBOUR: 'it returns false'. Refute it at one input. -/
def ucdMarksWrong : ChangeSpec := { name := "ucdMarks", fn := fun _ => fun
  | [d] => { results := [.lit (.bool false)], args := [d] }
  | _ => none }
def UcdMarksWrongFalsely : Prop := ucdMarksRow.holds Try.pinned (OpenSpec.ofChange ucdMarksWrong)

/-- 'pillarboxlaw01.UcdWide': WHATEVER THE INPUT: true; the input reads as it did. -/
def ucdWideSpec : ChangeSpec := { name := "ucdWide", fn := fun _ => fun
  | [d] => { results := [.lit (.bool true)], args := [d] }
  | _ => none }
def ucdWideRow : OpenClaim := { program := "ytheknccdihbgjaa", sum := "416761498efcdc22addffa924ea545baadd680e3332733415405dd6f1b189c2a", func := "pillarbox/pillarboxlaw01.UcdWide", spec := "ucdWide", unfollowed := true, recurses := true, plainKeys := false, apart := false }
def UcdWideSaid : Prop := ucdWideRow.holds Try.pinned (OpenSpec.ofChange ucdWideSpec)

/-- ITS FALSE NEIGHBOUR: 'it returns false'. Refute it at one input. -/
def ucdWideWrong : ChangeSpec := { name := "ucdWide", fn := fun _ => fun
  | [d] => { results := [.lit (.bool false)], args := [d] }
  | _ => none }
def UcdWideWrongFalsely : Prop := ucdWideRow.holds Try.pinned (OpenSpec.ofChange ucdWideWrong)

/- THE SECOND FORM. 'bulk': how many values and letters a reading holds, each counted each time it is reached (what is shared counts as often as it is met; a slice's spare places count too). A statement '..UptoSaid' is the law's where the arguments, and the package variables that the reading takes, are together of bulk at most 1048576: NARROWER than '..Said'. Prove '..Said' where nothing that the law and all that it calls make is longer than what came in: it says more and counts as full. Else prove '..UptoSaid'. A law counts once. -/
mutual
def uptoBulk {H : Type} : DataW H → Nat
  | .lit (.string bytes) => bytes.length + 1
  | .lit _ => 1
  | .nil => 1
  | .ptr d => uptoBulk d + 1
  | .slice elems spare => uptoBulkAll elems + uptoBulkAll spare + 1
  | .agg parts => uptoBulkAll parts + 1
  | .iface _ d => uptoBulk d + 1
  | .map entries => uptoBulkEntries entries + 1
  | .held _ => 1
def uptoBulkAll {H : Type} : List (DataW H) → Nat
  | [] => 0
  | d :: r => uptoBulk d + uptoBulkAll r
def uptoBulkEntries {H : Type} : List (Lit × DataW H) → Nat
  | [] => 0
  | x :: r => uptoBulkEntry x + uptoBulkEntries r
def uptoBulkEntry {H : Type} : Lit × DataW H → Nat
  | (.string bytes, d) => bytes.length + uptoBulk d + 1
  | (_, d) => uptoBulk d + 1
 end
def uptoSmall : (H : Type) → List (DataW H) → Bool := fun _ ds => decide (uptoBulkAll ds ≤ 1048576)
def OpenSpec.upto (s : _root_.Go.ChangeSpec) : _root_.Go.OpenSpec := { _root_.Go.OpenSpec.ofChange s with cond := some uptoSmall }

/-- 'pillarboxlaw01.UcdTells', WHERE WHAT IT READS IS OF BULK AT MOST 1048576: true; the input reads as it did. -/
def ucdTellsUptoRow : OpenClaim := { program := "ytheknccdihbgjaa", sum := "416761498efcdc22addffa924ea545baadd680e3332733415405dd6f1b189c2a", func := "pillarbox/pillarboxlaw01.UcdTells", spec := "ucdTells", unfollowed := true, recurses := true, plainKeys := false, apart := false, narrowed := true }
def UcdTellsUptoSaid : Prop := ucdTellsUptoRow.holds Try.pinned (OpenSpec.upto ucdTellsSpec)

/-- 'pillarboxlaw01.UcdSplits', WHERE WHAT IT READS IS OF BULK AT MOST 1048576: true; the input reads as it did. -/
def ucdSplitsUptoRow : OpenClaim := { program := "ytheknccdihbgjaa", sum := "416761498efcdc22addffa924ea545baadd680e3332733415405dd6f1b189c2a", func := "pillarbox/pillarboxlaw01.UcdSplits", spec := "ucdSplits", unfollowed := true, recurses := true, plainKeys := false, apart := false, narrowed := true }
def UcdSplitsUptoSaid : Prop := ucdSplitsUptoRow.holds Try.pinned (OpenSpec.upto ucdSplitsSpec)

/-- 'pillarboxlaw01.UcdPairs', WHERE WHAT IT READS IS OF BULK AT MOST 1048576: true; the input reads as it did. -/
def ucdPairsUptoRow : OpenClaim := { program := "ytheknccdihbgjaa", sum := "416761498efcdc22addffa924ea545baadd680e3332733415405dd6f1b189c2a", func := "pillarbox/pillarboxlaw01.UcdPairs", spec := "ucdPairs", unfollowed := true, recurses := true, plainKeys := false, apart := false, narrowed := true }
def UcdPairsUptoSaid : Prop := ucdPairsUptoRow.holds Try.pinned (OpenSpec.upto ucdPairsSpec)

/-- 'pillarboxlaw01.UcdLower', WHERE WHAT IT READS IS OF BULK AT MOST 1048576: true; the input reads as it did. -/
def ucdLowerUptoRow : OpenClaim := { program := "ytheknccdihbgjaa", sum := "416761498efcdc22addffa924ea545baadd680e3332733415405dd6f1b189c2a", func := "pillarbox/pillarboxlaw01.UcdLower", spec := "ucdLower", unfollowed := true, recurses := true, plainKeys := false, apart := false, narrowed := true }
def UcdLowerUptoSaid : Prop := ucdLowerUptoRow.holds Try.pinned (OpenSpec.upto ucdLowerSpec)

/-- 'pillarboxlaw01.UcdMarks', WHERE WHAT IT READS IS OF BULK AT MOST 1048576: true; the input reads as it did. -/
def ucdMarksUptoRow : OpenClaim := { program := "ytheknccdihbgjaa", sum := "416761498efcdc22addffa924ea545baadd680e3332733415405dd6f1b189c2a", func := "pillarbox/pillarboxlaw01.UcdMarks", spec := "ucdMarks", unfollowed := true, recurses := true, plainKeys := false, apart := false, narrowed := true }
def UcdMarksUptoSaid : Prop := ucdMarksUptoRow.holds Try.pinned (OpenSpec.upto ucdMarksSpec)

/-- 'pillarboxlaw01.UcdWide', WHERE WHAT IT READS IS OF BULK AT MOST 1048576: true; the input reads as it did. -/
def ucdWideUptoRow : OpenClaim := { program := "ytheknccdihbgjaa", sum := "416761498efcdc22addffa924ea545baadd680e3332733415405dd6f1b189c2a", func := "pillarbox/pillarboxlaw01.UcdWide", spec := "ucdWide", unfollowed := true, recurses := true, plainKeys := false, apart := false, narrowed := true }
def UcdWideUptoSaid : Prop := ucdWideUptoRow.holds Try.pinned (OpenSpec.upto ucdWideSpec)

end Rows
end Go.Proofs.Ytheknccdihbgjaa
