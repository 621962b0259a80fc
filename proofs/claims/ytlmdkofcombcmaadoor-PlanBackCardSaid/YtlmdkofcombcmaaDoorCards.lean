/-
  DERIVED. GIVEN WITH THE SEED: THE CARDS: each row of YtlmdkofcombcmaaDoorRows.lean that lists a variable, with what it lists TIED to the program's text (the seventh form; the later family's looks); each row that meets fmt, with fmt's text TOLD by the authors' own Lean function (tested against real Go, not proved from fmt's source: count such statements apart). THE CARD IS WHAT COUNTS. Prove the row's statement (the work); the ties are given (YtlmdkofcombcmaaDoorTie.lean); close each card by the builder's one call (the guide's Derived/Test/ToyasCard.lean, 'card_holds'). Laid BY PROGRAM, IN A SANDBOX (cutbox-door.mjs). By AI agents, Wed Nov 11 2026. No macro, syntax, notation, axiom, sorry.
-/
import Derived.Test.YtlmdkofcombcmaaDoorRows
import GoSem.ClaimSeven
namespace Go.Proofs.YtlmdkofcombcmaaDoor
namespace Rows

/-- THE TIED CARD OF 'annalslaw15.PlanBack'. -/
def planBackCard : Claim7 := { stood := { row := planBackRow, standIns := [], harness := (true, "b802243592428e71c36952d55f177446249b95a7af93bd850187ca04ab77b9d7"), looks := false }, kinds := [], alts := [], laidByText := true, laidKinds := [.data, .data, .data, .data, .data, .data, .pinned], laidTests := true, laidLooks := .later }
def PlanBackCardSaid : Prop := Claim7.holds Tryd.pinned (.plain (OpenSpec.ofChange planBackSpec)) planBackCard

/-- THE TIED CARD OF 'annalslaw15.PlanOneWay'. -/
def planOneWayCard : Claim7 := { stood := { row := planOneWayRow, standIns := [], harness := (true, "b802243592428e71c36952d55f177446249b95a7af93bd850187ca04ab77b9d7"), looks := false }, kinds := [], alts := [], laidByText := true, laidKinds := [.data, .data, .data, .data, .data, .data, .pinned], laidTests := true, laidLooks := .later }
def PlanOneWayCardSaid : Prop := Claim7.holds Tryd.pinned (.plain (OpenSpec.ofChange planOneWaySpec)) planOneWayCard

/-- THE TIED CARD OF 'annalslaw15.PlanOwn'. -/
def planOwnCard : Claim7 := { stood := { row := planOwnRow, standIns := [], harness := (true, "b802243592428e71c36952d55f177446249b95a7af93bd850187ca04ab77b9d7"), looks := false }, kinds := [], alts := [], laidByText := true, laidKinds := [.data, .data, .data, .data, .data, .data, .pinned], laidTests := true, laidLooks := .later }
def PlanOwnCardSaid : Prop := Claim7.holds Tryd.pinned (.plain (OpenSpec.ofChange planOwnSpec)) planOwnCard

/-- THE SECOND FORM's CARD OF 'annalslaw15.PlanBack'. -/
def planBackUptoCard : Claim7 := { stood := { row := planBackUptoRow, standIns := [], harness := (true, "b802243592428e71c36952d55f177446249b95a7af93bd850187ca04ab77b9d7"), looks := false }, kinds := [], alts := [], laidByText := true, laidKinds := [.data, .data, .data, .data, .data, .data, .pinned], laidTests := true, laidLooks := .later }
def PlanBackUptoCardSaid : Prop := Claim7.holds Tryd.pinned (.plain (OpenSpec.upto planBackSpec)) planBackUptoCard

/-- THE SECOND FORM's CARD OF 'annalslaw15.PlanOneWay'. -/
def planOneWayUptoCard : Claim7 := { stood := { row := planOneWayUptoRow, standIns := [], harness := (true, "b802243592428e71c36952d55f177446249b95a7af93bd850187ca04ab77b9d7"), looks := false }, kinds := [], alts := [], laidByText := true, laidKinds := [.data, .data, .data, .data, .data, .data, .pinned], laidTests := true, laidLooks := .later }
def PlanOneWayUptoCardSaid : Prop := Claim7.holds Tryd.pinned (.plain (OpenSpec.upto planOneWaySpec)) planOneWayUptoCard

/-- THE SECOND FORM's CARD OF 'annalslaw15.PlanOwn'. -/
def planOwnUptoCard : Claim7 := { stood := { row := planOwnUptoRow, standIns := [], harness := (true, "b802243592428e71c36952d55f177446249b95a7af93bd850187ca04ab77b9d7"), looks := false }, kinds := [], alts := [], laidByText := true, laidKinds := [.data, .data, .data, .data, .data, .data, .pinned], laidTests := true, laidLooks := .later }
def PlanOwnUptoCardSaid : Prop := Claim7.holds Tryd.pinned (.plain (OpenSpec.upto planOwnSpec)) planOwnUptoCard
end Rows
end Go.Proofs.YtlmdkofcombcmaaDoor
