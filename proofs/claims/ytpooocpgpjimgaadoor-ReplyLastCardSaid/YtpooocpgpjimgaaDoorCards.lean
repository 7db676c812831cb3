/-
  DERIVED. GIVEN WITH THE SEED: THE CARDS: each row of YtpooocpgpjimgaaDoorRows.lean that lists a variable, with what it lists TIED to the program's text (the seventh form; the later family's looks); each row that meets fmt, with fmt's text TOLD by the authors' own Lean function (tested against real Go, not proved from fmt's source: count such statements apart). THE CARD IS WHAT COUNTS. Prove the row's statement (the work); the ties are given (YtpooocpgpjimgaaDoorTie.lean); close each card by the builder's one call (the guide's Derived/Test/ToyasCard.lean, 'card_holds'). Laid BY PROGRAM, IN A SANDBOX (cutbox-door.mjs). By AI agents, Wed Nov 11 2026. No macro, syntax, notation, axiom, sorry.
-/
import Derived.Test.YtpooocpgpjimgaaDoorRows
import GoSem.ClaimSeven
namespace Go.Proofs.YtpooocpgpjimgaaDoor
namespace Rows

/-- THE TIED CARD OF 'pillarboxlaw18.ReplyBack'. -/
def replyBackCard : Claim7 := { stood := { row := replyBackRow, standIns := [], harness := (true, "64a08372eff540086f9993c774eceb873b2fa59320e61679b961dfddafeff19f"), looks := false }, kinds := [], alts := [], laidByText := true, laidKinds := [.data, .data, .data], laidTests := true, laidLooks := .later }
def ReplyBackCardSaid : Prop := Claim7.holds Tryd.pinned (.plain (OpenSpec.ofChange replyBackSpec)) replyBackCard

/-- THE TIED CARD OF 'pillarboxlaw18.ReplyLast'. -/
def replyLastCard : Claim7 := { stood := { row := replyLastRow, standIns := [], harness := (true, "64a08372eff540086f9993c774eceb873b2fa59320e61679b961dfddafeff19f"), looks := false }, kinds := [], alts := [], laidByText := true, laidKinds := [.data, .data, .data], laidTests := true, laidLooks := .later }
def ReplyLastCardSaid : Prop := Claim7.holds Tryd.pinned (.plain (OpenSpec.ofChange replyLastSpec)) replyLastCard

/-- THE TIED CARD OF 'pillarboxlaw18.ReplyMany'. -/
def replyManyCard : Claim7 := { stood := { row := replyManyRow, standIns := [], harness := (true, "64a08372eff540086f9993c774eceb873b2fa59320e61679b961dfddafeff19f"), looks := false }, kinds := [], alts := [], laidByText := true, laidKinds := [.data, .data, .data], laidTests := true, laidLooks := .later }
def ReplyManyCardSaid : Prop := Claim7.holds Tryd.pinned (.plain (OpenSpec.ofChange replyManySpec)) replyManyCard

/-- THE SECOND FORM's CARD OF 'pillarboxlaw18.ReplyBack'. -/
def replyBackUptoCard : Claim7 := { stood := { row := replyBackUptoRow, standIns := [], harness := (true, "64a08372eff540086f9993c774eceb873b2fa59320e61679b961dfddafeff19f"), looks := false }, kinds := [], alts := [], laidByText := true, laidKinds := [.data, .data, .data], laidTests := true, laidLooks := .later }
def ReplyBackUptoCardSaid : Prop := Claim7.holds Tryd.pinned (.plain (OpenSpec.upto replyBackSpec)) replyBackUptoCard

/-- THE SECOND FORM's CARD OF 'pillarboxlaw18.ReplyLast'. -/
def replyLastUptoCard : Claim7 := { stood := { row := replyLastUptoRow, standIns := [], harness := (true, "64a08372eff540086f9993c774eceb873b2fa59320e61679b961dfddafeff19f"), looks := false }, kinds := [], alts := [], laidByText := true, laidKinds := [.data, .data, .data], laidTests := true, laidLooks := .later }
def ReplyLastUptoCardSaid : Prop := Claim7.holds Tryd.pinned (.plain (OpenSpec.upto replyLastSpec)) replyLastUptoCard

/-- THE SECOND FORM's CARD OF 'pillarboxlaw18.ReplyMany'. -/
def replyManyUptoCard : Claim7 := { stood := { row := replyManyUptoRow, standIns := [], harness := (true, "64a08372eff540086f9993c774eceb873b2fa59320e61679b961dfddafeff19f"), looks := false }, kinds := [], alts := [], laidByText := true, laidKinds := [.data, .data, .data], laidTests := true, laidLooks := .later }
def ReplyManyUptoCardSaid : Prop := Claim7.holds Tryd.pinned (.plain (OpenSpec.upto replyManySpec)) replyManyUptoCard
end Rows
end Go.Proofs.YtpooocpgpjimgaaDoor
