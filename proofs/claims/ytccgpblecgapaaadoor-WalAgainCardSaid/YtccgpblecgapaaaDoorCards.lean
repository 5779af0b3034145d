/-
  DERIVED. GIVEN WITH THE SEED: THE CARDS: each row of YtccgpblecgapaaaDoorRows.lean that lists a variable, with what it lists TIED to the program's text (the seventh form; the later family's looks); each row that meets fmt, with fmt's text TOLD by the authors' own Lean function (tested against real Go, not proved from fmt's source: count such statements apart). THE CARD IS WHAT COUNTS. Prove the row's statement (the work); the ties are given (YtccgpblecgapaaaDoorTie.lean); close each card by the builder's one call (the guide's Derived/Test/ToyasCard.lean, 'card_holds'). Laid BY PROGRAM, IN A SANDBOX (cutbox-door.mjs). By AI agents, Wed Nov 11 2026. No macro, syntax, notation, axiom, sorry.
-/
import Derived.Test.YtccgpblecgapaaaDoorRows
import GoSem.ClaimSeven
namespace Go.Proofs.YtccgpblecgapaaaDoor
namespace Rows

/-- THE TIED CARD OF 'garderobelaw16.WalRoom'. -/
def walRoomCard : Claim7 := { stood := { row := walRoomRow, standIns := [], harness := (true, "6e142b4e8abbc94e43bb8327b3daf3106779033f5996f99f18f7cfe085c460ac"), looks := false }, kinds := [], alts := [], laidByText := true, laidKinds := [.sentinel], laidTests := true, laidLooks := .later }
def WalRoomCardSaid : Prop := Claim7.holds Tryd.pinned (.plain (OpenSpec.ofChange walRoomSpec)) walRoomCard

/-- THE TIED CARD OF 'garderobelaw16.WalNobody'. -/
def walNobodyCard : Claim7 := { stood := { row := walNobodyRow, standIns := [], harness := (true, "6e142b4e8abbc94e43bb8327b3daf3106779033f5996f99f18f7cfe085c460ac"), looks := false }, kinds := [], alts := [], laidByText := true, laidKinds := [.sentinel], laidTests := true, laidLooks := .later }
def WalNobodyCardSaid : Prop := Claim7.holds Tryd.pinned (.plain (OpenSpec.ofChange walNobodySpec)) walNobodyCard

/-- THE TIED CARD OF 'garderobelaw16.WalKeeps'. -/
def walKeepsCard : Claim7 := { stood := { row := walKeepsRow, standIns := [], harness := (true, "6e142b4e8abbc94e43bb8327b3daf3106779033f5996f99f18f7cfe085c460ac"), looks := false }, kinds := [], alts := [], laidByText := true, laidKinds := [.sentinel], laidTests := true, laidLooks := .later }
def WalKeepsCardSaid : Prop := Claim7.holds Tryd.pinned (.plain (OpenSpec.ofChange walKeepsSpec)) walKeepsCard

/-- THE TIED CARD OF 'garderobelaw16.WalAgain'. -/
def walAgainCard : Claim7 := { stood := { row := walAgainRow, standIns := [], harness := (true, "6e142b4e8abbc94e43bb8327b3daf3106779033f5996f99f18f7cfe085c460ac"), looks := false }, kinds := [], alts := [], laidByText := true, laidKinds := [.sentinel], laidTests := true, laidLooks := .later }
def WalAgainCardSaid : Prop := Claim7.holds Tryd.pinned (.plain (OpenSpec.ofChange walAgainSpec)) walAgainCard

/-- THE SECOND FORM's CARD OF 'garderobelaw16.WalRoom'. -/
def walRoomUptoCard : Claim7 := { stood := { row := walRoomUptoRow, standIns := [], harness := (true, "6e142b4e8abbc94e43bb8327b3daf3106779033f5996f99f18f7cfe085c460ac"), looks := false }, kinds := [], alts := [], laidByText := true, laidKinds := [.sentinel], laidTests := true, laidLooks := .later }
def WalRoomUptoCardSaid : Prop := Claim7.holds Tryd.pinned (.plain (OpenSpec.upto walRoomSpec)) walRoomUptoCard

/-- THE SECOND FORM's CARD OF 'garderobelaw16.WalNobody'. -/
def walNobodyUptoCard : Claim7 := { stood := { row := walNobodyUptoRow, standIns := [], harness := (true, "6e142b4e8abbc94e43bb8327b3daf3106779033f5996f99f18f7cfe085c460ac"), looks := false }, kinds := [], alts := [], laidByText := true, laidKinds := [.sentinel], laidTests := true, laidLooks := .later }
def WalNobodyUptoCardSaid : Prop := Claim7.holds Tryd.pinned (.plain (OpenSpec.upto walNobodySpec)) walNobodyUptoCard

/-- THE SECOND FORM's CARD OF 'garderobelaw16.WalKeeps'. -/
def walKeepsUptoCard : Claim7 := { stood := { row := walKeepsUptoRow, standIns := [], harness := (true, "6e142b4e8abbc94e43bb8327b3daf3106779033f5996f99f18f7cfe085c460ac"), looks := false }, kinds := [], alts := [], laidByText := true, laidKinds := [.sentinel], laidTests := true, laidLooks := .later }
def WalKeepsUptoCardSaid : Prop := Claim7.holds Tryd.pinned (.plain (OpenSpec.upto walKeepsSpec)) walKeepsUptoCard

/-- THE SECOND FORM's CARD OF 'garderobelaw16.WalAgain'. -/
def walAgainUptoCard : Claim7 := { stood := { row := walAgainUptoRow, standIns := [], harness := (true, "6e142b4e8abbc94e43bb8327b3daf3106779033f5996f99f18f7cfe085c460ac"), looks := false }, kinds := [], alts := [], laidByText := true, laidKinds := [.sentinel], laidTests := true, laidLooks := .later }
def WalAgainUptoCardSaid : Prop := Claim7.holds Tryd.pinned (.plain (OpenSpec.upto walAgainSpec)) walAgainUptoCard
end Rows
end Go.Proofs.YtccgpblecgapaaaDoor
