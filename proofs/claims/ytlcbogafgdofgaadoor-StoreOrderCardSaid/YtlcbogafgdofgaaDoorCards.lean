/-
  DERIVED. GIVEN WITH THE SEED: THE CARDS: each row of YtlcbogafgdofgaaDoorRows.lean that lists a variable, with what it lists TIED to the program's text (the seventh form; the later family's looks); each row that meets fmt, with fmt's text TOLD by the authors' own Lean function (tested against real Go, not proved from fmt's source: count such statements apart). THE CARD IS WHAT COUNTS. Prove the row's statement (the work); the ties are given (YtlcbogafgdofgaaDoorTie.lean); close each card by the builder's one call (the guide's Derived/Test/ToyasCard.lean, 'card_holds'). Laid BY PROGRAM, IN A SANDBOX (cutbox-door.mjs). By AI agents, Wed Nov 11 2026. No macro, syntax, notation, axiom, sorry.
-/
import Derived.Test.YtlcbogafgdofgaaDoorRows
import GoSem.ClaimSeven
namespace Go.Proofs.YtlcbogafgdofgaaDoor
namespace Rows

/-- THE TIED CARD OF 'linhaylaw12.StoreBack'. -/
def storeBackCard : Claim7 := { stood := { row := storeBackRow, standIns := [], harness := (true, "27df8ddfcb08e7ff90d744abe177b30463be7d05bb4e2e99c5608227897d05eb"), looks := false }, kinds := [], alts := [], laidByText := true, laidKinds := [.data], laidTests := true, laidLooks := .later }
def StoreBackCardSaid : Prop := Claim7.holds Tryd.pinned (.plain (OpenSpec.ofChange storeBackSpec)) storeBackCard

/-- THE TIED CARD OF 'linhaylaw12.StoreNone'. -/
def storeNoneCard : Claim7 := { stood := { row := storeNoneRow, standIns := [], harness := (true, "27df8ddfcb08e7ff90d744abe177b30463be7d05bb4e2e99c5608227897d05eb"), looks := false }, kinds := [], alts := [], laidByText := true, laidKinds := [.data], laidTests := true, laidLooks := .later }
def StoreNoneCardSaid : Prop := Claim7.holds Tryd.pinned (.plain (OpenSpec.ofChange storeNoneSpec)) storeNoneCard

/-- THE TIED CARD OF 'linhaylaw12.StoreOrder'. -/
def storeOrderCard : Claim7 := { stood := { row := storeOrderRow, standIns := [], harness := (true, "27df8ddfcb08e7ff90d744abe177b30463be7d05bb4e2e99c5608227897d05eb"), looks := false }, kinds := [], alts := [], laidByText := true, laidKinds := [.data], laidTests := true, laidLooks := .later }
def StoreOrderCardSaid : Prop := Claim7.holds Tryd.pinned (.plain (OpenSpec.ofChange storeOrderSpec)) storeOrderCard

/-- THE TIED CARD OF 'linhaylaw12.StoreAll'. -/
def storeAllCard : Claim7 := { stood := { row := storeAllRow, standIns := [], harness := (true, "27df8ddfcb08e7ff90d744abe177b30463be7d05bb4e2e99c5608227897d05eb"), looks := false }, kinds := [], alts := [], laidByText := true, laidKinds := [.data], laidTests := true, laidLooks := .later }
def StoreAllCardSaid : Prop := Claim7.holds Tryd.pinned (.plain (OpenSpec.ofChange storeAllSpec)) storeAllCard

/-- THE TIED CARD OF 'linhaylaw12.StorePacks'. -/
def storePacksCard : Claim7 := { stood := { row := storePacksRow, standIns := [], harness := (true, "27df8ddfcb08e7ff90d744abe177b30463be7d05bb4e2e99c5608227897d05eb"), looks := false }, kinds := [], alts := [], laidByText := true, laidKinds := [.data], laidTests := true, laidLooks := .later }
def StorePacksCardSaid : Prop := Claim7.holds Tryd.pinned (.plain (OpenSpec.ofChange storePacksSpec)) storePacksCard

/-- THE SECOND FORM's CARD OF 'linhaylaw12.StoreBack'. -/
def storeBackUptoCard : Claim7 := { stood := { row := storeBackUptoRow, standIns := [], harness := (true, "27df8ddfcb08e7ff90d744abe177b30463be7d05bb4e2e99c5608227897d05eb"), looks := false }, kinds := [], alts := [], laidByText := true, laidKinds := [.data], laidTests := true, laidLooks := .later }
def StoreBackUptoCardSaid : Prop := Claim7.holds Tryd.pinned (.plain (OpenSpec.upto storeBackSpec)) storeBackUptoCard

/-- THE SECOND FORM's CARD OF 'linhaylaw12.StoreNone'. -/
def storeNoneUptoCard : Claim7 := { stood := { row := storeNoneUptoRow, standIns := [], harness := (true, "27df8ddfcb08e7ff90d744abe177b30463be7d05bb4e2e99c5608227897d05eb"), looks := false }, kinds := [], alts := [], laidByText := true, laidKinds := [.data], laidTests := true, laidLooks := .later }
def StoreNoneUptoCardSaid : Prop := Claim7.holds Tryd.pinned (.plain (OpenSpec.upto storeNoneSpec)) storeNoneUptoCard

/-- THE SECOND FORM's CARD OF 'linhaylaw12.StoreOrder'. -/
def storeOrderUptoCard : Claim7 := { stood := { row := storeOrderUptoRow, standIns := [], harness := (true, "27df8ddfcb08e7ff90d744abe177b30463be7d05bb4e2e99c5608227897d05eb"), looks := false }, kinds := [], alts := [], laidByText := true, laidKinds := [.data], laidTests := true, laidLooks := .later }
def StoreOrderUptoCardSaid : Prop := Claim7.holds Tryd.pinned (.plain (OpenSpec.upto storeOrderSpec)) storeOrderUptoCard

/-- THE SECOND FORM's CARD OF 'linhaylaw12.StoreAll'. -/
def storeAllUptoCard : Claim7 := { stood := { row := storeAllUptoRow, standIns := [], harness := (true, "27df8ddfcb08e7ff90d744abe177b30463be7d05bb4e2e99c5608227897d05eb"), looks := false }, kinds := [], alts := [], laidByText := true, laidKinds := [.data], laidTests := true, laidLooks := .later }
def StoreAllUptoCardSaid : Prop := Claim7.holds Tryd.pinned (.plain (OpenSpec.upto storeAllSpec)) storeAllUptoCard

/-- THE SECOND FORM's CARD OF 'linhaylaw12.StorePacks'. -/
def storePacksUptoCard : Claim7 := { stood := { row := storePacksUptoRow, standIns := [], harness := (true, "27df8ddfcb08e7ff90d744abe177b30463be7d05bb4e2e99c5608227897d05eb"), looks := false }, kinds := [], alts := [], laidByText := true, laidKinds := [.data], laidTests := true, laidLooks := .later }
def StorePacksUptoCardSaid : Prop := Claim7.holds Tryd.pinned (.plain (OpenSpec.upto storePacksSpec)) storePacksUptoCard
end Rows
end Go.Proofs.YtlcbogafgdofgaaDoor
