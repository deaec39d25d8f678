/-
  DERIVED. GIVEN WITH THE SEED: THE CARDS: each row of YtgmefkhincnajaaDoorRows.lean that lists a variable, with what it lists TIED to the program's text (the seventh form; the later family's looks); each row that meets fmt, with fmt's text TOLD by the authors' own Lean function (tested against real Go, not proved from fmt's source: count such statements apart). THE CARD IS WHAT COUNTS. Prove the row's statement (the work); the ties are given (YtgmefkhincnajaaDoorTie.lean); close each card by the builder's one call (the guide's Derived/Test/ToyasCard.lean, 'card_holds'). Laid BY PROGRAM, IN A SANDBOX (cutbox-door.mjs). By AI agents, Wed Nov 11 2026. No macro, syntax, notation, axiom, sorry.
-/
import Derived.Test.YtgmefkhincnajaaDoorRows
import GoSem.ClaimSeven
namespace Go.Proofs.YtgmefkhincnajaaDoor
namespace Rows

/-- THE TIED CARD OF 'ingotlaw13.TypeTrees'. -/
def typeTreesCard : Claim7 := { stood := { row := typeTreesRow, standIns := [], harness := (true, "f5ee6991fa9fa9aab99d566e83bff2cab72c14bc9be593814d446fa396b1c7bb"), looks := false }, kinds := [], alts := [], laidByText := true, laidKinds := [.data, .data, .data, .listed, .data], laidTests := true, laidLooks := .later }
def TypeTreesCardSaid : Prop := Claim7.holds Tryd.pinned (.plain (OpenSpec.ofChange typeTreesSpec)) typeTreesCard

/-- THE TIED CARD OF 'ingotlaw13.TypeCloses'. -/
def typeClosesCard : Claim7 := { stood := { row := typeClosesRow, standIns := [], harness := (true, "f5ee6991fa9fa9aab99d566e83bff2cab72c14bc9be593814d446fa396b1c7bb"), looks := false }, kinds := [], alts := [], laidByText := true, laidKinds := [.data, .data, .data, .listed, .data], laidTests := true, laidLooks := .later }
def TypeClosesCardSaid : Prop := Claim7.holds Tryd.pinned (.plain (OpenSpec.ofChange typeClosesSpec)) typeClosesCard

/-- THE TIED CARD OF 'ingotlaw13.TypeTwo'. -/
def typeTwoCard : Claim7 := { stood := { row := typeTwoRow, standIns := [], harness := (true, "f5ee6991fa9fa9aab99d566e83bff2cab72c14bc9be593814d446fa396b1c7bb"), looks := false }, kinds := [], alts := [], laidByText := true, laidKinds := [.data, .data, .data, .listed, .data], laidTests := true, laidLooks := .later }
def TypeTwoCardSaid : Prop := Claim7.holds Tryd.pinned (.plain (OpenSpec.ofChange typeTwoSpec)) typeTwoCard

/-- THE TIED CARD OF 'ingotlaw13.TypeDepths'. -/
def typeDepthsCard : Claim7 := { stood := { row := typeDepthsRow, standIns := [], harness := (true, "f5ee6991fa9fa9aab99d566e83bff2cab72c14bc9be593814d446fa396b1c7bb"), looks := false }, kinds := [], alts := [], laidByText := true, laidKinds := [.data, .data, .data, .listed, .data], laidTests := true, laidLooks := .later }
def TypeDepthsCardSaid : Prop := Claim7.holds Tryd.pinned (.plain (OpenSpec.ofChange typeDepthsSpec)) typeDepthsCard

/-- THE TIED CARD OF 'ingotlaw13.TypeCounts'. -/
def typeCountsCard : Claim7 := { stood := { row := typeCountsRow, standIns := [], harness := (true, "f5ee6991fa9fa9aab99d566e83bff2cab72c14bc9be593814d446fa396b1c7bb"), looks := false }, kinds := [], alts := [], laidByText := true, laidKinds := [.data, .data, .data, .listed, .data], laidTests := true, laidLooks := .later }
def TypeCountsCardSaid : Prop := Claim7.holds Tryd.pinned (.plain (OpenSpec.ofChange typeCountsSpec)) typeCountsCard

/-- THE TIED CARD OF 'ingotlaw13.TypeFields'. -/
def typeFieldsCard : Claim7 := { stood := { row := typeFieldsRow, standIns := [], harness := (true, "f5ee6991fa9fa9aab99d566e83bff2cab72c14bc9be593814d446fa396b1c7bb"), looks := false }, kinds := [], alts := [], laidByText := true, laidKinds := [.data, .data, .data, .listed, .data], laidTests := true, laidLooks := .later }
def TypeFieldsCardSaid : Prop := Claim7.holds Tryd.pinned (.plain (OpenSpec.ofChange typeFieldsSpec)) typeFieldsCard

/-- THE TIED CARD OF 'ingotlaw13.TypeParents'. -/
def typeParentsCard : Claim7 := { stood := { row := typeParentsRow, standIns := [], harness := (true, "f5ee6991fa9fa9aab99d566e83bff2cab72c14bc9be593814d446fa396b1c7bb"), looks := false }, kinds := [], alts := [], laidByText := true, laidKinds := [.data, .data, .data, .listed, .data], laidTests := true, laidLooks := .later }
def TypeParentsCardSaid : Prop := Claim7.holds Tryd.pinned (.plain (OpenSpec.ofChange typeParentsSpec)) typeParentsCard

/-- THE SECOND FORM's CARD OF 'ingotlaw13.TypeTrees'. -/
def typeTreesUptoCard : Claim7 := { stood := { row := typeTreesUptoRow, standIns := [], harness := (true, "f5ee6991fa9fa9aab99d566e83bff2cab72c14bc9be593814d446fa396b1c7bb"), looks := false }, kinds := [], alts := [], laidByText := true, laidKinds := [.data, .data, .data, .listed, .data], laidTests := true, laidLooks := .later }
def TypeTreesUptoCardSaid : Prop := Claim7.holds Tryd.pinned (.plain (OpenSpec.upto typeTreesSpec)) typeTreesUptoCard

/-- THE SECOND FORM's CARD OF 'ingotlaw13.TypeCloses'. -/
def typeClosesUptoCard : Claim7 := { stood := { row := typeClosesUptoRow, standIns := [], harness := (true, "f5ee6991fa9fa9aab99d566e83bff2cab72c14bc9be593814d446fa396b1c7bb"), looks := false }, kinds := [], alts := [], laidByText := true, laidKinds := [.data, .data, .data, .listed, .data], laidTests := true, laidLooks := .later }
def TypeClosesUptoCardSaid : Prop := Claim7.holds Tryd.pinned (.plain (OpenSpec.upto typeClosesSpec)) typeClosesUptoCard

/-- THE SECOND FORM's CARD OF 'ingotlaw13.TypeTwo'. -/
def typeTwoUptoCard : Claim7 := { stood := { row := typeTwoUptoRow, standIns := [], harness := (true, "f5ee6991fa9fa9aab99d566e83bff2cab72c14bc9be593814d446fa396b1c7bb"), looks := false }, kinds := [], alts := [], laidByText := true, laidKinds := [.data, .data, .data, .listed, .data], laidTests := true, laidLooks := .later }
def TypeTwoUptoCardSaid : Prop := Claim7.holds Tryd.pinned (.plain (OpenSpec.upto typeTwoSpec)) typeTwoUptoCard

/-- THE SECOND FORM's CARD OF 'ingotlaw13.TypeDepths'. -/
def typeDepthsUptoCard : Claim7 := { stood := { row := typeDepthsUptoRow, standIns := [], harness := (true, "f5ee6991fa9fa9aab99d566e83bff2cab72c14bc9be593814d446fa396b1c7bb"), looks := false }, kinds := [], alts := [], laidByText := true, laidKinds := [.data, .data, .data, .listed, .data], laidTests := true, laidLooks := .later }
def TypeDepthsUptoCardSaid : Prop := Claim7.holds Tryd.pinned (.plain (OpenSpec.upto typeDepthsSpec)) typeDepthsUptoCard

/-- THE SECOND FORM's CARD OF 'ingotlaw13.TypeCounts'. -/
def typeCountsUptoCard : Claim7 := { stood := { row := typeCountsUptoRow, standIns := [], harness := (true, "f5ee6991fa9fa9aab99d566e83bff2cab72c14bc9be593814d446fa396b1c7bb"), looks := false }, kinds := [], alts := [], laidByText := true, laidKinds := [.data, .data, .data, .listed, .data], laidTests := true, laidLooks := .later }
def TypeCountsUptoCardSaid : Prop := Claim7.holds Tryd.pinned (.plain (OpenSpec.upto typeCountsSpec)) typeCountsUptoCard

/-- THE SECOND FORM's CARD OF 'ingotlaw13.TypeFields'. -/
def typeFieldsUptoCard : Claim7 := { stood := { row := typeFieldsUptoRow, standIns := [], harness := (true, "f5ee6991fa9fa9aab99d566e83bff2cab72c14bc9be593814d446fa396b1c7bb"), looks := false }, kinds := [], alts := [], laidByText := true, laidKinds := [.data, .data, .data, .listed, .data], laidTests := true, laidLooks := .later }
def TypeFieldsUptoCardSaid : Prop := Claim7.holds Tryd.pinned (.plain (OpenSpec.upto typeFieldsSpec)) typeFieldsUptoCard

/-- THE SECOND FORM's CARD OF 'ingotlaw13.TypeParents'. -/
def typeParentsUptoCard : Claim7 := { stood := { row := typeParentsUptoRow, standIns := [], harness := (true, "f5ee6991fa9fa9aab99d566e83bff2cab72c14bc9be593814d446fa396b1c7bb"), looks := false }, kinds := [], alts := [], laidByText := true, laidKinds := [.data, .data, .data, .listed, .data], laidTests := true, laidLooks := .later }
def TypeParentsUptoCardSaid : Prop := Claim7.holds Tryd.pinned (.plain (OpenSpec.upto typeParentsSpec)) typeParentsUptoCard
end Rows
end Go.Proofs.YtgmefkhincnajaaDoor
