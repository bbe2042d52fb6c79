/-
  DERIVED. GIVEN WITH THE SEED: THE CARDS: each row of YtoooflagkhpnkaaDoorRows.lean that lists a variable, with what it lists TIED to the program's text (the seventh form; the later family's looks); each row that meets fmt, with fmt's text TOLD by the authors' own Lean function (tested against real Go, not proved from fmt's source: count such statements apart). THE CARD IS WHAT COUNTS. Prove the row's statement (the work); the ties are given (YtoooflagkhpnkaaDoorTie.lean); close each card by the builder's one call (the guide's Derived/Test/ToyasCard.lean, 'card_holds'). Laid BY PROGRAM, IN A SANDBOX (cutbox-door.mjs). By AI agents, Wed Nov 11 2026. No macro, syntax, notation, axiom, sorry.
-/
import Derived.Test.YtoooflagkhpnkaaDoorRows
import GoSem.ClaimSeven
namespace Go.Proofs.YtoooflagkhpnkaaDoor
namespace Rows

/-- THE TIED CARD OF 'jotterlaw01.OctetSums'. -/
def octetSumsCard : Claim7 := { stood := { row := octetSumsRow, standIns := [], harness := (true, "b49986f59bda251ba1d9008877debff81f2fbe4b7bb078ed92395a674620b10d"), looks := true }, kinds := [], alts := [], laidByText := true, laidKinds := [.data], laidTests := true, laidLooks := .later }
def OctetSumsCardSaid : Prop := Claim7.holds Tryd.pinned (.plain (OpenSpec.ofChange octetSumsSpec)) octetSumsCard

/-- THE TIED CARD OF 'jotterlaw01.OctetAdds'. -/
def octetAddsCard : Claim7 := { stood := { row := octetAddsRow, standIns := [], harness := (true, "b49986f59bda251ba1d9008877debff81f2fbe4b7bb078ed92395a674620b10d"), looks := true }, kinds := [], alts := [], laidByText := true, laidKinds := [.data], laidTests := true, laidLooks := .later }
def OctetAddsCardSaid : Prop := Claim7.holds Tryd.pinned (.plain (OpenSpec.ofChange octetAddsSpec)) octetAddsCard

/-- THE TIED CARD OF 'jotterlaw01.OctetLong'. -/
def octetLongCard : Claim7 := { stood := { row := octetLongRow, standIns := [], harness := (true, "b49986f59bda251ba1d9008877debff81f2fbe4b7bb078ed92395a674620b10d"), looks := true }, kinds := [], alts := [], laidByText := true, laidKinds := [.data], laidTests := true, laidLooks := .later }
def OctetLongCardSaid : Prop := Claim7.holds Tryd.pinned (.plain (OpenSpec.ofChange octetLongSpec)) octetLongCard

/-- THE TIED CARD OF 'jotterlaw01.OctetFresh'. -/
def octetFreshCard : Claim7 := { stood := { row := octetFreshRow, standIns := [], harness := (true, "b49986f59bda251ba1d9008877debff81f2fbe4b7bb078ed92395a674620b10d"), looks := true }, kinds := [], alts := [], laidByText := true, laidKinds := [.data], laidTests := true, laidLooks := .later }
def OctetFreshCardSaid : Prop := Claim7.holds Tryd.pinned (.plain (OpenSpec.ofChange octetFreshSpec)) octetFreshCard

/-- THE TIED CARD OF 'jotterlaw01.OctetSeals'. -/
def octetSealsCard : Claim7 := { stood := { row := octetSealsRow, standIns := [], harness := (true, "b49986f59bda251ba1d9008877debff81f2fbe4b7bb078ed92395a674620b10d"), looks := true }, kinds := [], alts := [], laidByText := true, laidKinds := [.handle, .data], laidTests := true, laidLooks := .later }
def OctetSealsCardSaid : Prop := Claim7.holds Tryd.pinned (.plain (OpenSpec.ofChange octetSealsSpec)) octetSealsCard

/-- THE TIED CARD OF 'jotterlaw01.OctetTold'. -/
def octetToldCard : Claim7 := { stood := { row := octetToldRow, standIns := [], harness := (true, "b49986f59bda251ba1d9008877debff81f2fbe4b7bb078ed92395a674620b10d"), looks := true }, kinds := [], alts := [], laidByText := true, laidKinds := [.handle, .data], laidTests := true, laidLooks := .later }
def OctetToldCardSaid : Prop := Claim7.holds Tryd.pinned (.plain (OpenSpec.ofChange octetToldSpec)) octetToldCard

/-- THE TIED CARD OF 'jotterlaw01.OctetOne'. -/
def octetOneCard : Claim7 := { stood := { row := octetOneRow, standIns := [], harness := (true, "b49986f59bda251ba1d9008877debff81f2fbe4b7bb078ed92395a674620b10d"), looks := true }, kinds := [], alts := [], laidByText := true, laidKinds := [.handle, .data], laidTests := true, laidLooks := .later }
def OctetOneCardSaid : Prop := Claim7.holds Tryd.pinned (.plain (OpenSpec.ofChange octetOneSpec)) octetOneCard

/-- THE TIED CARD OF 'jotterlaw01.OctetReads'. -/
def octetReadsCard : Claim7 := { stood := { row := octetReadsRow, standIns := [], harness := (true, "b49986f59bda251ba1d9008877debff81f2fbe4b7bb078ed92395a674620b10d"), looks := true }, kinds := [], alts := [], laidByText := true, laidKinds := [.handle], laidTests := true, laidLooks := .later }
def OctetReadsCardSaid : Prop := Claim7.holds Tryd.pinned (.plain (OpenSpec.ofChange octetReadsSpec)) octetReadsCard

/-- THE TIED CARD OF 'jotterlaw01.OctetStays'. -/
def octetStaysCard : Claim7 := { stood := { row := octetStaysRow, standIns := [], harness := (true, "b49986f59bda251ba1d9008877debff81f2fbe4b7bb078ed92395a674620b10d"), looks := true }, kinds := [], alts := [], laidByText := true, laidKinds := [.handle], laidTests := true, laidLooks := .later }
def OctetStaysCardSaid : Prop := Claim7.holds Tryd.pinned (.plain (OpenSpec.ofChange octetStaysSpec)) octetStaysCard

/-- THE TIED CARD OF 'jotterlaw01.OctetBack'. -/
def octetBackCard : Claim7 := { stood := { row := octetBackRow, standIns := [], harness := (true, "b49986f59bda251ba1d9008877debff81f2fbe4b7bb078ed92395a674620b10d"), looks := true }, kinds := [], alts := [], laidByText := true, laidKinds := [.handle], laidTests := true, laidLooks := .later }
def OctetBackCardSaid : Prop := Claim7.holds Tryd.pinned (.plain (OpenSpec.ofChange octetBackSpec)) octetBackCard

/-- THE SECOND FORM's CARD OF 'jotterlaw01.OctetSums'. -/
def octetSumsUptoCard : Claim7 := { stood := { row := octetSumsUptoRow, standIns := [], harness := (true, "b49986f59bda251ba1d9008877debff81f2fbe4b7bb078ed92395a674620b10d"), looks := true }, kinds := [], alts := [], laidByText := true, laidKinds := [.data], laidTests := true, laidLooks := .later }
def OctetSumsUptoCardSaid : Prop := Claim7.holds Tryd.pinned (.plain (OpenSpec.upto octetSumsSpec)) octetSumsUptoCard

/-- THE SECOND FORM's CARD OF 'jotterlaw01.OctetAdds'. -/
def octetAddsUptoCard : Claim7 := { stood := { row := octetAddsUptoRow, standIns := [], harness := (true, "b49986f59bda251ba1d9008877debff81f2fbe4b7bb078ed92395a674620b10d"), looks := true }, kinds := [], alts := [], laidByText := true, laidKinds := [.data], laidTests := true, laidLooks := .later }
def OctetAddsUptoCardSaid : Prop := Claim7.holds Tryd.pinned (.plain (OpenSpec.upto octetAddsSpec)) octetAddsUptoCard

/-- THE SECOND FORM's CARD OF 'jotterlaw01.OctetLong'. -/
def octetLongUptoCard : Claim7 := { stood := { row := octetLongUptoRow, standIns := [], harness := (true, "b49986f59bda251ba1d9008877debff81f2fbe4b7bb078ed92395a674620b10d"), looks := true }, kinds := [], alts := [], laidByText := true, laidKinds := [.data], laidTests := true, laidLooks := .later }
def OctetLongUptoCardSaid : Prop := Claim7.holds Tryd.pinned (.plain (OpenSpec.upto octetLongSpec)) octetLongUptoCard

/-- THE SECOND FORM's CARD OF 'jotterlaw01.OctetFresh'. -/
def octetFreshUptoCard : Claim7 := { stood := { row := octetFreshUptoRow, standIns := [], harness := (true, "b49986f59bda251ba1d9008877debff81f2fbe4b7bb078ed92395a674620b10d"), looks := true }, kinds := [], alts := [], laidByText := true, laidKinds := [.data], laidTests := true, laidLooks := .later }
def OctetFreshUptoCardSaid : Prop := Claim7.holds Tryd.pinned (.plain (OpenSpec.upto octetFreshSpec)) octetFreshUptoCard

/-- THE SECOND FORM's CARD OF 'jotterlaw01.OctetSeals'. -/
def octetSealsUptoCard : Claim7 := { stood := { row := octetSealsUptoRow, standIns := [], harness := (true, "b49986f59bda251ba1d9008877debff81f2fbe4b7bb078ed92395a674620b10d"), looks := true }, kinds := [], alts := [], laidByText := true, laidKinds := [.handle, .data], laidTests := true, laidLooks := .later }
def OctetSealsUptoCardSaid : Prop := Claim7.holds Tryd.pinned (.plain (OpenSpec.upto octetSealsSpec)) octetSealsUptoCard

/-- THE SECOND FORM's CARD OF 'jotterlaw01.OctetTold'. -/
def octetToldUptoCard : Claim7 := { stood := { row := octetToldUptoRow, standIns := [], harness := (true, "b49986f59bda251ba1d9008877debff81f2fbe4b7bb078ed92395a674620b10d"), looks := true }, kinds := [], alts := [], laidByText := true, laidKinds := [.handle, .data], laidTests := true, laidLooks := .later }
def OctetToldUptoCardSaid : Prop := Claim7.holds Tryd.pinned (.plain (OpenSpec.upto octetToldSpec)) octetToldUptoCard

/-- THE SECOND FORM's CARD OF 'jotterlaw01.OctetOne'. -/
def octetOneUptoCard : Claim7 := { stood := { row := octetOneUptoRow, standIns := [], harness := (true, "b49986f59bda251ba1d9008877debff81f2fbe4b7bb078ed92395a674620b10d"), looks := true }, kinds := [], alts := [], laidByText := true, laidKinds := [.handle, .data], laidTests := true, laidLooks := .later }
def OctetOneUptoCardSaid : Prop := Claim7.holds Tryd.pinned (.plain (OpenSpec.upto octetOneSpec)) octetOneUptoCard

/-- THE SECOND FORM's CARD OF 'jotterlaw01.OctetReads'. -/
def octetReadsUptoCard : Claim7 := { stood := { row := octetReadsUptoRow, standIns := [], harness := (true, "b49986f59bda251ba1d9008877debff81f2fbe4b7bb078ed92395a674620b10d"), looks := true }, kinds := [], alts := [], laidByText := true, laidKinds := [.handle], laidTests := true, laidLooks := .later }
def OctetReadsUptoCardSaid : Prop := Claim7.holds Tryd.pinned (.plain (OpenSpec.upto octetReadsSpec)) octetReadsUptoCard

/-- THE SECOND FORM's CARD OF 'jotterlaw01.OctetStays'. -/
def octetStaysUptoCard : Claim7 := { stood := { row := octetStaysUptoRow, standIns := [], harness := (true, "b49986f59bda251ba1d9008877debff81f2fbe4b7bb078ed92395a674620b10d"), looks := true }, kinds := [], alts := [], laidByText := true, laidKinds := [.handle], laidTests := true, laidLooks := .later }
def OctetStaysUptoCardSaid : Prop := Claim7.holds Tryd.pinned (.plain (OpenSpec.upto octetStaysSpec)) octetStaysUptoCard

/-- THE SECOND FORM's CARD OF 'jotterlaw01.OctetBack'. -/
def octetBackUptoCard : Claim7 := { stood := { row := octetBackUptoRow, standIns := [], harness := (true, "b49986f59bda251ba1d9008877debff81f2fbe4b7bb078ed92395a674620b10d"), looks := true }, kinds := [], alts := [], laidByText := true, laidKinds := [.handle], laidTests := true, laidLooks := .later }
def OctetBackUptoCardSaid : Prop := Claim7.holds Tryd.pinned (.plain (OpenSpec.upto octetBackSpec)) octetBackUptoCard
end Rows
end Go.Proofs.YtoooflagkhpnkaaDoor
