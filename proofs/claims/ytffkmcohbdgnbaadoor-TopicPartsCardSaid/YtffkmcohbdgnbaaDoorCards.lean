/-
  DERIVED. GIVEN WITH THE SEED: THE CARDS: each row of YtffkmcohbdgnbaaDoorRows.lean that lists a variable, with what it lists TIED to the program's text (the seventh form; the later family's looks); each row that meets fmt, with fmt's text TOLD by the authors' own Lean function (tested against real Go, not proved from fmt's source: count such statements apart). THE CARD IS WHAT COUNTS. Prove the row's statement (the work); the ties are given (YtffkmcohbdgnbaaDoorTie.lean); close each card by the builder's one call (the guide's Derived/Test/ToyasCard.lean, 'card_holds'). Laid BY PROGRAM, IN A SANDBOX (cutbox-door.mjs). By AI agents, Wed Nov 11 2026. No macro, syntax, notation, axiom, sorry.
-/
import Derived.Test.YtffkmcohbdgnbaaDoorRows
import GoSem.ClaimSeven
namespace Go.Proofs.YtffkmcohbdgnbaaDoor
namespace Rows

/-- THE TIED CARD OF 'humpyardlaw07.TopicNames'. -/
def topicNamesCard : Claim7 := { stood := { row := topicNamesRow, standIns := [], harness := (true, "94c4893132987b57291419e181bbb1f341e170cb16bac4a64c0c76ff3ea96144"), looks := false }, kinds := [], alts := [], laidByText := true, laidKinds := [.data, .pinned], laidTests := true, laidLooks := .later }
def TopicNamesCardSaid : Prop := Claim7.holds Tryd.pinned (.plain (OpenSpec.ofChange topicNamesSpec)) topicNamesCard

/-- THE TIED CARD OF 'humpyardlaw07.TopicApart'. -/
def topicApartCard : Claim7 := { stood := { row := topicApartRow, standIns := [], harness := (true, "94c4893132987b57291419e181bbb1f341e170cb16bac4a64c0c76ff3ea96144"), looks := false }, kinds := [], alts := [], laidByText := true, laidKinds := [.data, .pinned], laidTests := true, laidLooks := .later }
def TopicApartCardSaid : Prop := Claim7.holds Tryd.pinned (.plain (OpenSpec.ofChange topicApartSpec)) topicApartCard

/-- THE TIED CARD OF 'humpyardlaw07.TopicParts'. -/
def topicPartsCard : Claim7 := { stood := { row := topicPartsRow, standIns := [], harness := (true, "94c4893132987b57291419e181bbb1f341e170cb16bac4a64c0c76ff3ea96144"), looks := false }, kinds := [], alts := [], laidByText := true, laidKinds := [.data, .pinned], laidTests := true, laidLooks := .later }
def TopicPartsCardSaid : Prop := Claim7.holds Tryd.pinned (.plain (OpenSpec.ofChange topicPartsSpec)) topicPartsCard

/-- THE SECOND FORM's CARD OF 'humpyardlaw07.TopicNames'. -/
def topicNamesUptoCard : Claim7 := { stood := { row := topicNamesUptoRow, standIns := [], harness := (true, "94c4893132987b57291419e181bbb1f341e170cb16bac4a64c0c76ff3ea96144"), looks := false }, kinds := [], alts := [], laidByText := true, laidKinds := [.data, .pinned], laidTests := true, laidLooks := .later }
def TopicNamesUptoCardSaid : Prop := Claim7.holds Tryd.pinned (.plain (OpenSpec.upto topicNamesSpec)) topicNamesUptoCard

/-- THE SECOND FORM's CARD OF 'humpyardlaw07.TopicApart'. -/
def topicApartUptoCard : Claim7 := { stood := { row := topicApartUptoRow, standIns := [], harness := (true, "94c4893132987b57291419e181bbb1f341e170cb16bac4a64c0c76ff3ea96144"), looks := false }, kinds := [], alts := [], laidByText := true, laidKinds := [.data, .pinned], laidTests := true, laidLooks := .later }
def TopicApartUptoCardSaid : Prop := Claim7.holds Tryd.pinned (.plain (OpenSpec.upto topicApartSpec)) topicApartUptoCard

/-- THE SECOND FORM's CARD OF 'humpyardlaw07.TopicParts'. -/
def topicPartsUptoCard : Claim7 := { stood := { row := topicPartsUptoRow, standIns := [], harness := (true, "94c4893132987b57291419e181bbb1f341e170cb16bac4a64c0c76ff3ea96144"), looks := false }, kinds := [], alts := [], laidByText := true, laidKinds := [.data, .pinned], laidTests := true, laidLooks := .later }
def TopicPartsUptoCardSaid : Prop := Claim7.holds Tryd.pinned (.plain (OpenSpec.upto topicPartsSpec)) topicPartsUptoCard
end Rows
end Go.Proofs.YtffkmcohbdgnbaaDoor
