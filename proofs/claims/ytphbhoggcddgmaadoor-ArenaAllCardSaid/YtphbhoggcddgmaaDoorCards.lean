/-
  DERIVED. GIVEN WITH THE SEED: THE CARDS: each row of YtphbhoggcddgmaaDoorRows.lean that lists a variable, with what it lists TIED to the program's text (the seventh form; the later family's looks); each row that meets fmt, with fmt's text TOLD by the authors' own Lean function (tested against real Go, not proved from fmt's source: count such statements apart). THE CARD IS WHAT COUNTS. Prove the row's statement (the work); the ties are given (YtphbhoggcddgmaaDoorTie.lean); close each card by the builder's one call (the guide's Derived/Test/ToyasCard.lean, 'card_holds'). Laid BY PROGRAM, IN A SANDBOX (cutbox-door.mjs). By AI agents, Wed Nov 11 2026. No macro, syntax, notation, axiom, sorry.
-/
import Derived.Test.YtphbhoggcddgmaaDoorRows
import GoSem.ClaimSeven
namespace Go.Proofs.YtphbhoggcddgmaaDoor
namespace Rows

/-- THE TIED CARD OF 'linhaylaw11.ArenaBack'. -/
def arenaBackCard : Claim7 := { stood := { row := arenaBackRow, standIns := [], harness := (true, "89e1882a575d7a5daa339bb1b3ea73910952d47422028d82df269bd4f5741b59"), looks := false }, kinds := [], alts := [], laidByText := true, laidKinds := [.data], laidTests := true, laidLooks := .later }
def ArenaBackCardSaid : Prop := Claim7.holds Tryd.pinned (.plain (OpenSpec.ofChange arenaBackSpec)) arenaBackCard

/-- THE TIED CARD OF 'linhaylaw11.ArenaAll'. -/
def arenaAllCard : Claim7 := { stood := { row := arenaAllRow, standIns := [], harness := (true, "89e1882a575d7a5daa339bb1b3ea73910952d47422028d82df269bd4f5741b59"), looks := false }, kinds := [], alts := [], laidByText := true, laidKinds := [.data], laidTests := true, laidLooks := .later }
def ArenaAllCardSaid : Prop := Claim7.holds Tryd.pinned (.plain (OpenSpec.ofChange arenaAllSpec)) arenaAllCard

/-- THE TIED CARD OF 'linhaylaw11.ArenaRoom'. -/
def arenaRoomCard : Claim7 := { stood := { row := arenaRoomRow, standIns := [], harness := (true, "89e1882a575d7a5daa339bb1b3ea73910952d47422028d82df269bd4f5741b59"), looks := false }, kinds := [], alts := [], laidByText := true, laidKinds := [.data], laidTests := true, laidLooks := .later }
def ArenaRoomCardSaid : Prop := Claim7.holds Tryd.pinned (.plain (OpenSpec.ofChange arenaRoomSpec)) arenaRoomCard

/-- THE TIED CARD OF 'linhaylaw11.ArenaFirst'. -/
def arenaFirstCard : Claim7 := { stood := { row := arenaFirstRow, standIns := [], harness := (true, "89e1882a575d7a5daa339bb1b3ea73910952d47422028d82df269bd4f5741b59"), looks := false }, kinds := [], alts := [], laidByText := true, laidKinds := [.data], laidTests := true, laidLooks := .later }
def ArenaFirstCardSaid : Prop := Claim7.holds Tryd.pinned (.plain (OpenSpec.ofChange arenaFirstSpec)) arenaFirstCard

/-- THE TIED CARD OF 'linhaylaw11.ArenaTurns'. -/
def arenaTurnsCard : Claim7 := { stood := { row := arenaTurnsRow, standIns := [], harness := (true, "89e1882a575d7a5daa339bb1b3ea73910952d47422028d82df269bd4f5741b59"), looks := false }, kinds := [], alts := [], laidByText := true, laidKinds := [.data], laidTests := true, laidLooks := .later }
def ArenaTurnsCardSaid : Prop := Claim7.holds Tryd.pinned (.plain (OpenSpec.ofChange arenaTurnsSpec)) arenaTurnsCard

/-- THE SECOND FORM's CARD OF 'linhaylaw11.ArenaBack'. -/
def arenaBackUptoCard : Claim7 := { stood := { row := arenaBackUptoRow, standIns := [], harness := (true, "89e1882a575d7a5daa339bb1b3ea73910952d47422028d82df269bd4f5741b59"), looks := false }, kinds := [], alts := [], laidByText := true, laidKinds := [.data], laidTests := true, laidLooks := .later }
def ArenaBackUptoCardSaid : Prop := Claim7.holds Tryd.pinned (.plain (OpenSpec.upto arenaBackSpec)) arenaBackUptoCard

/-- THE SECOND FORM's CARD OF 'linhaylaw11.ArenaAll'. -/
def arenaAllUptoCard : Claim7 := { stood := { row := arenaAllUptoRow, standIns := [], harness := (true, "89e1882a575d7a5daa339bb1b3ea73910952d47422028d82df269bd4f5741b59"), looks := false }, kinds := [], alts := [], laidByText := true, laidKinds := [.data], laidTests := true, laidLooks := .later }
def ArenaAllUptoCardSaid : Prop := Claim7.holds Tryd.pinned (.plain (OpenSpec.upto arenaAllSpec)) arenaAllUptoCard

/-- THE SECOND FORM's CARD OF 'linhaylaw11.ArenaRoom'. -/
def arenaRoomUptoCard : Claim7 := { stood := { row := arenaRoomUptoRow, standIns := [], harness := (true, "89e1882a575d7a5daa339bb1b3ea73910952d47422028d82df269bd4f5741b59"), looks := false }, kinds := [], alts := [], laidByText := true, laidKinds := [.data], laidTests := true, laidLooks := .later }
def ArenaRoomUptoCardSaid : Prop := Claim7.holds Tryd.pinned (.plain (OpenSpec.upto arenaRoomSpec)) arenaRoomUptoCard

/-- THE SECOND FORM's CARD OF 'linhaylaw11.ArenaFirst'. -/
def arenaFirstUptoCard : Claim7 := { stood := { row := arenaFirstUptoRow, standIns := [], harness := (true, "89e1882a575d7a5daa339bb1b3ea73910952d47422028d82df269bd4f5741b59"), looks := false }, kinds := [], alts := [], laidByText := true, laidKinds := [.data], laidTests := true, laidLooks := .later }
def ArenaFirstUptoCardSaid : Prop := Claim7.holds Tryd.pinned (.plain (OpenSpec.upto arenaFirstSpec)) arenaFirstUptoCard

/-- THE SECOND FORM's CARD OF 'linhaylaw11.ArenaTurns'. -/
def arenaTurnsUptoCard : Claim7 := { stood := { row := arenaTurnsUptoRow, standIns := [], harness := (true, "89e1882a575d7a5daa339bb1b3ea73910952d47422028d82df269bd4f5741b59"), looks := false }, kinds := [], alts := [], laidByText := true, laidKinds := [.data], laidTests := true, laidLooks := .later }
def ArenaTurnsUptoCardSaid : Prop := Claim7.holds Tryd.pinned (.plain (OpenSpec.upto arenaTurnsSpec)) arenaTurnsUptoCard
end Rows
end Go.Proofs.YtphbhoggcddgmaaDoor
