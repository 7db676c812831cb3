/-
  NARROWER THAN 'FOR EVERY INPUT', by the rows' own cells (each row's printed sentence says how): DomainTells: laid · DomainBack: laid · DomainParts: laid · DomainOne: laid · DomainTree: laid.
  DERIVED. THE GIVEN ROWS OF THIS SEAT. 5 by the template 'for every input the law returns true; each argument reads behind the call as it read before'; 0 by the template 'total and deterministic' (their statements: YtoppecphhiiiiaaGreatDoorTotals.lean).
  GIVEN WITH THE SEED: the statements are not yours to turn. If you find one false, say at which input.
  Laid BY PROGRAM, IN A SANDBOX (cutbox-rows.mjs): the forced cells as the released guide's own fill.sh prints them over the translation a8ecfc05bb609bba… (all of the seat's roots in one cut). By AI agents, Wed Nov 11 2026. No macro, syntax, notation, axiom, sorry.
-/
import Derived.Test.YtoppecphhiiiiaaGreatDoorChecked
import GoSem.PinnedTables
import GoSem.Claim
import GoSem.ClaimJoined
import GoSem.ClaimMapViews
import Derived.JoinedTies
import Derived.KernelRfl
namespace Go.Proofs.YtoppecphhiiiiaaGreatDoor
/- THE CELL 'sum', in the pinned program and in every row, IS THE sha256 OF THE DUMP (.gsa) THAT YtoppecphhiiiiaaGreatDoorProg.lean LOADS. Nothing in Lean hashes anything: it is a label: what it is worth is what the hold of that sum in a sandbox is worth. -/
noncomputable def Tryz.pinned : Pinned := { name := "ytoppecphhiiiiaagreatdoor", sum := "a8ecfc05bb609bba78dd231378b365ef3b293df756456c2efe02acf4cdd1ab63", checked := Tryz.checked }
namespace Rows
def none {H : Type} : Left H := { results := [], args := [] }

/- WHAT THE LISTED PACKAGE-LEVEL VARIABLES READ AS WHEN THE CALL BEGINS. Each datum BY PROGRAM (the guide's laid-datum.mjs) off the statement by which the dump's own 'gosem.cut.vars' lays the variable. In a bare row this is a premise. The card (YtoppecphhiiiiaaGreatDoorCards.lean) ties it to the program's text. -/
def laid_unicode_utf8_acceptRanges {H : Type} : DataW H := .agg [.agg [.lit (.int .u8 128), .lit (.int .u8 191)], .agg [.lit (.int .u8 160), .lit (.int .u8 191)], .agg [.lit (.int .u8 128), .lit (.int .u8 159)], .agg [.lit (.int .u8 144), .lit (.int .u8 191)], .agg [.lit (.int .u8 128), .lit (.int .u8 143)], .agg [.lit (.int .u8 0), .lit (.int .u8 0)], .agg [.lit (.int .u8 0), .lit (.int .u8 0)], .agg [.lit (.int .u8 0), .lit (.int .u8 0)], .agg [.lit (.int .u8 0), .lit (.int .u8 0)], .agg [.lit (.int .u8 0), .lit (.int .u8 0)], .agg [.lit (.int .u8 0), .lit (.int .u8 0)], .agg [.lit (.int .u8 0), .lit (.int .u8 0)], .agg [.lit (.int .u8 0), .lit (.int .u8 0)], .agg [.lit (.int .u8 0), .lit (.int .u8 0)], .agg [.lit (.int .u8 0), .lit (.int .u8 0)], .agg [.lit (.int .u8 0), .lit (.int .u8 0)]]
/-- One of Go's own tables, pinned by name: the form's constant. -/
def laid_unicode_utf8_first : DataW Unit := Go.Pinned.utf8First

/-- 'pillarboxlaw09.DomainTells': WHATEVER THE INPUT: true; the input reads as it did. -/
def domainTellsSpec : ChangeSpec := { name := "domainTells", fn := fun _ => fun
  | [d1, d2] => { results := [.lit (.bool true)], args := [d1, d2] }
  | _ => none }
def domainTellsRow : OpenClaim := { program := "ytoppecphhiiiiaagreatdoor", sum := "a8ecfc05bb609bba78dd231378b365ef3b293df756456c2efe02acf4cdd1ab63", func := "pillarbox/pillarboxlaw09.DomainTells", spec := "domainTells", inPlace := ["internal/bytealg.CountString", "internal/bytealg.IndexByteString", "internal/bytealg.IndexString", "internal/abi.NoEscape", "internal/bytealg.MakeNoZero", "slices.overlaps[rune]"], unfollowed := true, recurses := true, named := ["internal/bytealg.MaxLen", "unicode/utf8.first", "unicode/utf8.acceptRanges"], plainKeys := false, apart := false, laid := [("unicode/utf8.acceptRanges", laid_unicode_utf8_acceptRanges), ("unicode/utf8.first", laid_unicode_utf8_first)] }
def DomainTellsSaid : Prop := domainTellsRow.holds Tryz.pinned (OpenSpec.ofChange domainTellsSpec)

/-- ITS FALSE NEIGHBOUR: 'it returns false'. Refute it at one input. -/
def domainTellsWrong : ChangeSpec := { name := "domainTells", fn := fun _ => fun
  | [d1, d2] => { results := [.lit (.bool false)], args := [d1, d2] }
  | _ => none }
def DomainTellsWrongFalsely : Prop := domainTellsRow.holds Tryz.pinned (OpenSpec.ofChange domainTellsWrong)

/-- 'pillarboxlaw09.DomainBack': WHATEVER THE INPUT: true; the input reads as it did. -/
def domainBackSpec : ChangeSpec := { name := "domainBack", fn := fun _ => fun
  | [d] => { results := [.lit (.bool true)], args := [d] }
  | _ => none }
def domainBackRow : OpenClaim := { program := "ytoppecphhiiiiaagreatdoor", sum := "a8ecfc05bb609bba78dd231378b365ef3b293df756456c2efe02acf4cdd1ab63", func := "pillarbox/pillarboxlaw09.DomainBack", spec := "domainBack", inPlace := ["internal/bytealg.CountString", "internal/bytealg.IndexByteString", "internal/bytealg.IndexString", "internal/abi.NoEscape", "internal/bytealg.MakeNoZero", "slices.overlaps[rune]"], unfollowed := true, recurses := true, named := ["internal/bytealg.MaxLen", "unicode/utf8.first", "unicode/utf8.acceptRanges"], plainKeys := false, apart := false, laid := [("unicode/utf8.acceptRanges", laid_unicode_utf8_acceptRanges), ("unicode/utf8.first", laid_unicode_utf8_first)] }
def DomainBackSaid : Prop := domainBackRow.holds Tryz.pinned (OpenSpec.ofChange domainBackSpec)

/-- ITS FALSE NEIGHBOUR: 'it returns false'. Refute it at one input. -/
def domainBackWrong : ChangeSpec := { name := "domainBack", fn := fun _ => fun
  | [d] => { results := [.lit (.bool false)], args := [d] }
  | _ => none }
def DomainBackWrongFalsely : Prop := domainBackRow.holds Tryz.pinned (OpenSpec.ofChange domainBackWrong)

/-- 'pillarboxlaw09.DomainParts': WHATEVER THE INPUT: true; the input reads as it did. -/
def domainPartsSpec : ChangeSpec := { name := "domainParts", fn := fun _ => fun
  | [d1, d2] => { results := [.lit (.bool true)], args := [d1, d2] }
  | _ => none }
def domainPartsRow : OpenClaim := { program := "ytoppecphhiiiiaagreatdoor", sum := "a8ecfc05bb609bba78dd231378b365ef3b293df756456c2efe02acf4cdd1ab63", func := "pillarbox/pillarboxlaw09.DomainParts", spec := "domainParts", inPlace := ["internal/bytealg.CountString", "internal/bytealg.IndexByteString", "internal/bytealg.IndexString", "internal/abi.NoEscape", "internal/bytealg.MakeNoZero", "slices.overlaps[rune]"], unfollowed := true, recurses := true, named := ["internal/bytealg.MaxLen", "unicode/utf8.first", "unicode/utf8.acceptRanges"], plainKeys := false, apart := false, laid := [("unicode/utf8.acceptRanges", laid_unicode_utf8_acceptRanges), ("unicode/utf8.first", laid_unicode_utf8_first)] }
def DomainPartsSaid : Prop := domainPartsRow.holds Tryz.pinned (OpenSpec.ofChange domainPartsSpec)

/-- ITS FALSE NEIGHBOUR: 'it returns false'. Refute it at one input. -/
def domainPartsWrong : ChangeSpec := { name := "domainParts", fn := fun _ => fun
  | [d1, d2] => { results := [.lit (.bool false)], args := [d1, d2] }
  | _ => none }
def DomainPartsWrongFalsely : Prop := domainPartsRow.holds Tryz.pinned (OpenSpec.ofChange domainPartsWrong)

/-- 'pillarboxlaw09.DomainOne': WHATEVER THE INPUT: true; the input reads as it did. -/
def domainOneSpec : ChangeSpec := { name := "domainOne", fn := fun _ => fun
  | [d] => { results := [.lit (.bool true)], args := [d] }
  | _ => none }
def domainOneRow : OpenClaim := { program := "ytoppecphhiiiiaagreatdoor", sum := "a8ecfc05bb609bba78dd231378b365ef3b293df756456c2efe02acf4cdd1ab63", func := "pillarbox/pillarboxlaw09.DomainOne", spec := "domainOne", inPlace := ["internal/bytealg.CountString", "internal/bytealg.IndexByteString", "internal/bytealg.IndexString", "internal/abi.NoEscape", "internal/bytealg.MakeNoZero", "slices.overlaps[rune]"], unfollowed := true, recurses := true, named := ["internal/bytealg.MaxLen", "unicode/utf8.first", "unicode/utf8.acceptRanges"], plainKeys := false, apart := false, laid := [("unicode/utf8.acceptRanges", laid_unicode_utf8_acceptRanges), ("unicode/utf8.first", laid_unicode_utf8_first)] }
def DomainOneSaid : Prop := domainOneRow.holds Tryz.pinned (OpenSpec.ofChange domainOneSpec)

/-- ITS FALSE NEIGHBOUR: 'it returns false'. Refute it at one input. -/
def domainOneWrong : ChangeSpec := { name := "domainOne", fn := fun _ => fun
  | [d] => { results := [.lit (.bool false)], args := [d] }
  | _ => none }
def DomainOneWrongFalsely : Prop := domainOneRow.holds Tryz.pinned (OpenSpec.ofChange domainOneWrong)

/-- 'pillarboxlaw09.DomainTree': WHATEVER THE INPUT: true; the input reads as it did. -/
def domainTreeSpec : ChangeSpec := { name := "domainTree", fn := fun _ => fun
  | [d1, d2, d3] => { results := [.lit (.bool true)], args := [d1, d2, d3] }
  | _ => none }
def domainTreeRow : OpenClaim := { program := "ytoppecphhiiiiaagreatdoor", sum := "a8ecfc05bb609bba78dd231378b365ef3b293df756456c2efe02acf4cdd1ab63", func := "pillarbox/pillarboxlaw09.DomainTree", spec := "domainTree", inPlace := ["internal/bytealg.CountString", "internal/bytealg.IndexByteString", "internal/bytealg.IndexString", "internal/abi.NoEscape", "internal/bytealg.MakeNoZero", "slices.overlaps[rune]"], unfollowed := true, recurses := true, named := ["internal/bytealg.MaxLen", "unicode/utf8.first", "unicode/utf8.acceptRanges"], plainKeys := false, apart := false, laid := [("unicode/utf8.acceptRanges", laid_unicode_utf8_acceptRanges), ("unicode/utf8.first", laid_unicode_utf8_first)] }
def DomainTreeSaid : Prop := domainTreeRow.holds Tryz.pinned (OpenSpec.ofChange domainTreeSpec)

/-- ITS FALSE NEIGHBOUR: 'it returns false'. Refute it at one input. -/
def domainTreeWrong : ChangeSpec := { name := "domainTree", fn := fun _ => fun
  | [d1, d2, d3] => { results := [.lit (.bool false)], args := [d1, d2, d3] }
  | _ => none }
def DomainTreeWrongFalsely : Prop := domainTreeRow.holds Tryz.pinned (OpenSpec.ofChange domainTreeWrong)

/- THE SECOND FORM. 'bulk': how many values and letters a reading holds, each counted each time it is reached (what is shared counts as often as it is met; a slice's spare places count too). A statement '..UptoSaid' is the law's where the arguments, and the package variables that the reading takes, are together of bulk at most 1048576: NARROWER than '..Said'. Prove '..Said' where nothing that the law and all that it calls make is longer than what came in: it says more and counts as full. Else prove '..UptoSaid'. A law counts once. -/
mutual
def uptoBulk {H : Type} : DataW H → Nat
  | .lit (.string bytes) => bytes.length + 1
  | .lit _ => 1
  | .nil => 1
  | .ptr d => uptoBulk d + 1
  | .slice elems spare => uptoBulkAll elems + uptoBulkAll spare + 1
  | .agg parts => uptoBulkAll parts + 1
  | .iface _ d => uptoBulk d + 1
  | .map entries => uptoBulkEntries entries + 1
  | .held _ => 1
def uptoBulkAll {H : Type} : List (DataW H) → Nat
  | [] => 0
  | d :: r => uptoBulk d + uptoBulkAll r
def uptoBulkEntries {H : Type} : List (Lit × DataW H) → Nat
  | [] => 0
  | x :: r => uptoBulkEntry x + uptoBulkEntries r
def uptoBulkEntry {H : Type} : Lit × DataW H → Nat
  | (.string bytes, d) => bytes.length + uptoBulk d + 1
  | (_, d) => uptoBulk d + 1
 end
def uptoSmall : (H : Type) → List (DataW H) → Bool := fun _ ds => decide (uptoBulkAll ds ≤ 1048576)
def OpenSpec.upto (s : _root_.Go.ChangeSpec) : _root_.Go.OpenSpec := { _root_.Go.OpenSpec.ofChange s with cond := some uptoSmall }

/-- 'pillarboxlaw09.DomainTells', WHERE WHAT IT READS IS OF BULK AT MOST 1048576: true; the input reads as it did. -/
def domainTellsUptoRow : OpenClaim := { program := "ytoppecphhiiiiaagreatdoor", sum := "a8ecfc05bb609bba78dd231378b365ef3b293df756456c2efe02acf4cdd1ab63", func := "pillarbox/pillarboxlaw09.DomainTells", spec := "domainTells", inPlace := ["internal/bytealg.CountString", "internal/bytealg.IndexByteString", "internal/bytealg.IndexString", "internal/abi.NoEscape", "internal/bytealg.MakeNoZero", "slices.overlaps[rune]"], unfollowed := true, recurses := true, named := ["internal/bytealg.MaxLen", "unicode/utf8.first", "unicode/utf8.acceptRanges"], plainKeys := false, apart := false, laid := [("unicode/utf8.acceptRanges", laid_unicode_utf8_acceptRanges), ("unicode/utf8.first", laid_unicode_utf8_first)], narrowed := true }
def DomainTellsUptoSaid : Prop := domainTellsUptoRow.holds Tryz.pinned (OpenSpec.upto domainTellsSpec)

/-- 'pillarboxlaw09.DomainBack', WHERE WHAT IT READS IS OF BULK AT MOST 1048576: true; the input reads as it did. -/
def domainBackUptoRow : OpenClaim := { program := "ytoppecphhiiiiaagreatdoor", sum := "a8ecfc05bb609bba78dd231378b365ef3b293df756456c2efe02acf4cdd1ab63", func := "pillarbox/pillarboxlaw09.DomainBack", spec := "domainBack", inPlace := ["internal/bytealg.CountString", "internal/bytealg.IndexByteString", "internal/bytealg.IndexString", "internal/abi.NoEscape", "internal/bytealg.MakeNoZero", "slices.overlaps[rune]"], unfollowed := true, recurses := true, named := ["internal/bytealg.MaxLen", "unicode/utf8.first", "unicode/utf8.acceptRanges"], plainKeys := false, apart := false, laid := [("unicode/utf8.acceptRanges", laid_unicode_utf8_acceptRanges), ("unicode/utf8.first", laid_unicode_utf8_first)], narrowed := true }
def DomainBackUptoSaid : Prop := domainBackUptoRow.holds Tryz.pinned (OpenSpec.upto domainBackSpec)

/-- 'pillarboxlaw09.DomainParts', WHERE WHAT IT READS IS OF BULK AT MOST 1048576: true; the input reads as it did. -/
def domainPartsUptoRow : OpenClaim := { program := "ytoppecphhiiiiaagreatdoor", sum := "a8ecfc05bb609bba78dd231378b365ef3b293df756456c2efe02acf4cdd1ab63", func := "pillarbox/pillarboxlaw09.DomainParts", spec := "domainParts", inPlace := ["internal/bytealg.CountString", "internal/bytealg.IndexByteString", "internal/bytealg.IndexString", "internal/abi.NoEscape", "internal/bytealg.MakeNoZero", "slices.overlaps[rune]"], unfollowed := true, recurses := true, named := ["internal/bytealg.MaxLen", "unicode/utf8.first", "unicode/utf8.acceptRanges"], plainKeys := false, apart := false, laid := [("unicode/utf8.acceptRanges", laid_unicode_utf8_acceptRanges), ("unicode/utf8.first", laid_unicode_utf8_first)], narrowed := true }
def DomainPartsUptoSaid : Prop := domainPartsUptoRow.holds Tryz.pinned (OpenSpec.upto domainPartsSpec)

/-- 'pillarboxlaw09.DomainOne', WHERE WHAT IT READS IS OF BULK AT MOST 1048576: true; the input reads as it did. -/
def domainOneUptoRow : OpenClaim := { program := "ytoppecphhiiiiaagreatdoor", sum := "a8ecfc05bb609bba78dd231378b365ef3b293df756456c2efe02acf4cdd1ab63", func := "pillarbox/pillarboxlaw09.DomainOne", spec := "domainOne", inPlace := ["internal/bytealg.CountString", "internal/bytealg.IndexByteString", "internal/bytealg.IndexString", "internal/abi.NoEscape", "internal/bytealg.MakeNoZero", "slices.overlaps[rune]"], unfollowed := true, recurses := true, named := ["internal/bytealg.MaxLen", "unicode/utf8.first", "unicode/utf8.acceptRanges"], plainKeys := false, apart := false, laid := [("unicode/utf8.acceptRanges", laid_unicode_utf8_acceptRanges), ("unicode/utf8.first", laid_unicode_utf8_first)], narrowed := true }
def DomainOneUptoSaid : Prop := domainOneUptoRow.holds Tryz.pinned (OpenSpec.upto domainOneSpec)

/-- 'pillarboxlaw09.DomainTree', WHERE WHAT IT READS IS OF BULK AT MOST 1048576: true; the input reads as it did. -/
def domainTreeUptoRow : OpenClaim := { program := "ytoppecphhiiiiaagreatdoor", sum := "a8ecfc05bb609bba78dd231378b365ef3b293df756456c2efe02acf4cdd1ab63", func := "pillarbox/pillarboxlaw09.DomainTree", spec := "domainTree", inPlace := ["internal/bytealg.CountString", "internal/bytealg.IndexByteString", "internal/bytealg.IndexString", "internal/abi.NoEscape", "internal/bytealg.MakeNoZero", "slices.overlaps[rune]"], unfollowed := true, recurses := true, named := ["internal/bytealg.MaxLen", "unicode/utf8.first", "unicode/utf8.acceptRanges"], plainKeys := false, apart := false, laid := [("unicode/utf8.acceptRanges", laid_unicode_utf8_acceptRanges), ("unicode/utf8.first", laid_unicode_utf8_first)], narrowed := true }
def DomainTreeUptoSaid : Prop := domainTreeUptoRow.holds Tryz.pinned (OpenSpec.upto domainTreeSpec)

end Rows
end Go.Proofs.YtoppecphhiiiiaaGreatDoor
