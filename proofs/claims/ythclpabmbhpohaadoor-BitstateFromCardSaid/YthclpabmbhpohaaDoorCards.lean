/-
  DERIVED. GIVEN WITH THE SEED: THE CARDS: each row of YthclpabmbhpohaaDoorRows.lean that lists a variable, with what it lists TIED to the program's text (the seventh form; the later family's looks); each row that meets fmt, with fmt's text TOLD by the authors' own Lean function (tested against real Go, not proved from fmt's source: count such statements apart). THE CARD IS WHAT COUNTS. Prove the row's statement (the work); the ties are given (YthclpabmbhpohaaDoorTie.lean); close each card by the builder's one call (the guide's Derived/Test/ToyasCard.lean, 'card_holds'). Laid BY PROGRAM, IN A SANDBOX (cutbox-door.mjs). By AI agents, Wed Nov 11 2026. No macro, syntax, notation, axiom, sorry.
-/
import Derived.Test.YthclpabmbhpohaaDoorRows
import GoSem.ClaimSeven
namespace Go.Proofs.YthclpabmbhpohaaDoor
namespace Rows

/-- THE TIED CARD OF 'martellolaw16.BitstateFinds'. -/
def bitstateFindsCard : Claim7 := { stood := { row := bitstateFindsRow, standIns := [], harness := (true, "14235558b0f0e138db2129b89808b8104759a80d1add2cfb837f544677f5eba5"), looks := false }, kinds := [], alts := [], laidByText := true, laidKinds := [.data, .pinned], laidTests := true, laidLooks := .later }
def BitstateFindsCardSaid : Prop := Claim7.holds Tryd.pinned (.plain (OpenSpec.ofChange bitstateFindsSpec)) bitstateFindsCard

/-- THE TIED CARD OF 'martellolaw16.BitstateWithin'. -/
def bitstateWithinCard : Claim7 := { stood := { row := bitstateWithinRow, standIns := [], harness := (true, "14235558b0f0e138db2129b89808b8104759a80d1add2cfb837f544677f5eba5"), looks := false }, kinds := [], alts := [], laidByText := true, laidKinds := [.data, .pinned], laidTests := true, laidLooks := .later }
def BitstateWithinCardSaid : Prop := Claim7.holds Tryd.pinned (.plain (OpenSpec.ofChange bitstateWithinSpec)) bitstateWithinCard

/-- THE TIED CARD OF 'martellolaw16.BitstateFrom'. -/
def bitstateFromCard : Claim7 := { stood := { row := bitstateFromRow, standIns := [], harness := (true, "14235558b0f0e138db2129b89808b8104759a80d1add2cfb837f544677f5eba5"), looks := false }, kinds := [], alts := [], laidByText := true, laidKinds := [.data, .pinned], laidTests := true, laidLooks := .later }
def BitstateFromCardSaid : Prop := Claim7.holds Tryd.pinned (.plain (OpenSpec.ofChange bitstateFromSpec)) bitstateFromCard

/-- THE TIED CARD OF 'martellolaw15.OnepassAdmits'. -/
def onepassAdmitsCard : Claim7 := { stood := { row := onepassAdmitsRow, standIns := [], harness := (true, "14235558b0f0e138db2129b89808b8104759a80d1add2cfb837f544677f5eba5"), looks := false }, kinds := [], alts := [], laidByText := true, laidKinds := [.data, .pinned], laidTests := true, laidLooks := .later }
def OnepassAdmitsCardSaid : Prop := Claim7.holds Tryd.pinned (.plain (OpenSpec.ofChange onepassAdmitsSpec)) onepassAdmitsCard

/-- THE TIED CARD OF 'martellolaw15.OnepassMatches'. -/
def onepassMatchesCard : Claim7 := { stood := { row := onepassMatchesRow, standIns := [], harness := (true, "14235558b0f0e138db2129b89808b8104759a80d1add2cfb837f544677f5eba5"), looks := false }, kinds := [], alts := [], laidByText := true, laidKinds := [.data, .pinned], laidTests := true, laidLooks := .later }
def OnepassMatchesCardSaid : Prop := Claim7.holds Tryd.pinned (.plain (OpenSpec.ofChange onepassMatchesSpec)) onepassMatchesCard

/-- THE TIED CARD OF 'martellolaw16.BitstateOnepass'. -/
def bitstateOnepassCard : Claim7 := { stood := { row := bitstateOnepassRow, standIns := [], harness := (true, "14235558b0f0e138db2129b89808b8104759a80d1add2cfb837f544677f5eba5"), looks := false }, kinds := [], alts := [], laidByText := true, laidKinds := [.data, .pinned], laidTests := true, laidLooks := .later }
def BitstateOnepassCardSaid : Prop := Claim7.holds Tryd.pinned (.plain (OpenSpec.ofChange bitstateOnepassSpec)) bitstateOnepassCard

/-- THE SECOND FORM's CARD OF 'martellolaw16.BitstateFinds'. -/
def bitstateFindsUptoCard : Claim7 := { stood := { row := bitstateFindsUptoRow, standIns := [], harness := (true, "14235558b0f0e138db2129b89808b8104759a80d1add2cfb837f544677f5eba5"), looks := false }, kinds := [], alts := [], laidByText := true, laidKinds := [.data, .pinned], laidTests := true, laidLooks := .later }
def BitstateFindsUptoCardSaid : Prop := Claim7.holds Tryd.pinned (.plain (OpenSpec.upto bitstateFindsSpec)) bitstateFindsUptoCard

/-- THE SECOND FORM's CARD OF 'martellolaw16.BitstateWithin'. -/
def bitstateWithinUptoCard : Claim7 := { stood := { row := bitstateWithinUptoRow, standIns := [], harness := (true, "14235558b0f0e138db2129b89808b8104759a80d1add2cfb837f544677f5eba5"), looks := false }, kinds := [], alts := [], laidByText := true, laidKinds := [.data, .pinned], laidTests := true, laidLooks := .later }
def BitstateWithinUptoCardSaid : Prop := Claim7.holds Tryd.pinned (.plain (OpenSpec.upto bitstateWithinSpec)) bitstateWithinUptoCard

/-- THE SECOND FORM's CARD OF 'martellolaw16.BitstateFrom'. -/
def bitstateFromUptoCard : Claim7 := { stood := { row := bitstateFromUptoRow, standIns := [], harness := (true, "14235558b0f0e138db2129b89808b8104759a80d1add2cfb837f544677f5eba5"), looks := false }, kinds := [], alts := [], laidByText := true, laidKinds := [.data, .pinned], laidTests := true, laidLooks := .later }
def BitstateFromUptoCardSaid : Prop := Claim7.holds Tryd.pinned (.plain (OpenSpec.upto bitstateFromSpec)) bitstateFromUptoCard

/-- THE SECOND FORM's CARD OF 'martellolaw15.OnepassAdmits'. -/
def onepassAdmitsUptoCard : Claim7 := { stood := { row := onepassAdmitsUptoRow, standIns := [], harness := (true, "14235558b0f0e138db2129b89808b8104759a80d1add2cfb837f544677f5eba5"), looks := false }, kinds := [], alts := [], laidByText := true, laidKinds := [.data, .pinned], laidTests := true, laidLooks := .later }
def OnepassAdmitsUptoCardSaid : Prop := Claim7.holds Tryd.pinned (.plain (OpenSpec.upto onepassAdmitsSpec)) onepassAdmitsUptoCard

/-- THE SECOND FORM's CARD OF 'martellolaw15.OnepassMatches'. -/
def onepassMatchesUptoCard : Claim7 := { stood := { row := onepassMatchesUptoRow, standIns := [], harness := (true, "14235558b0f0e138db2129b89808b8104759a80d1add2cfb837f544677f5eba5"), looks := false }, kinds := [], alts := [], laidByText := true, laidKinds := [.data, .pinned], laidTests := true, laidLooks := .later }
def OnepassMatchesUptoCardSaid : Prop := Claim7.holds Tryd.pinned (.plain (OpenSpec.upto onepassMatchesSpec)) onepassMatchesUptoCard

/-- THE SECOND FORM's CARD OF 'martellolaw16.BitstateOnepass'. -/
def bitstateOnepassUptoCard : Claim7 := { stood := { row := bitstateOnepassUptoRow, standIns := [], harness := (true, "14235558b0f0e138db2129b89808b8104759a80d1add2cfb837f544677f5eba5"), looks := false }, kinds := [], alts := [], laidByText := true, laidKinds := [.data, .pinned], laidTests := true, laidLooks := .later }
def BitstateOnepassUptoCardSaid : Prop := Claim7.holds Tryd.pinned (.plain (OpenSpec.upto bitstateOnepassSpec)) bitstateOnepassUptoCard
end Rows
end Go.Proofs.YthclpabmbhpohaaDoor
