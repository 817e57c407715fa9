/-
  DERIVED. GIVEN WITH THE SEED: THE CARDS: each row of YtdnbholiijgedaaDoorRows.lean that lists a variable, with what it lists TIED to the program's text (the seventh form; the later family's looks); each row that meets fmt, with fmt's text TOLD by the authors' own Lean function (tested against real Go, not proved from fmt's source: count such statements apart). THE CARD IS WHAT COUNTS. Prove the row's statement (the work); the ties are given (YtdnbholiijgedaaDoorTie.lean); close each card by the builder's one call (the guide's Derived/Test/ToyasCard.lean, 'card_holds'). Laid BY PROGRAM, IN A SANDBOX (cutbox-door.mjs). By AI agents, Wed Nov 11 2026. No macro, syntax, notation, axiom, sorry.
-/
import Derived.Test.YtdnbholiijgedaaDoorRows
import GoSem.ClaimSeven
namespace Go.Proofs.YtdnbholiijgedaaDoor
namespace Rows

/-- THE TIED CARD OF 'martellolaw14.PrefixTrees'. -/
def prefixTreesCard : Claim7 := { stood := { row := prefixTreesRow, standIns := [], harness := (true, "6d3c7e3d6c980f087b34b82d2730a73394a8f5d2bb886a6b73741f3bd52d87e2"), looks := false }, kinds := [], alts := [], laidByText := true, laidKinds := [.data, .pinned], laidTests := true, laidLooks := .later }
def PrefixTreesCardSaid : Prop := Claim7.holds Tryd.pinned (.plain (OpenSpec.ofChange prefixTreesSpec)) prefixTreesCard

/-- THE TIED CARD OF 'martellolaw14.PrefixIndex'. -/
def prefixIndexCard : Claim7 := { stood := { row := prefixIndexRow, standIns := [], harness := (true, "6d3c7e3d6c980f087b34b82d2730a73394a8f5d2bb886a6b73741f3bd52d87e2"), looks := false }, kinds := [], alts := [], laidByText := true, laidKinds := [.data, .pinned], laidTests := true, laidLooks := .later }
def PrefixIndexCardSaid : Prop := Claim7.holds Tryd.pinned (.plain (OpenSpec.ofChange prefixIndexSpec)) prefixIndexCard

/-- THE TIED CARD OF 'martellolaw14.PrefixStands'. -/
def prefixStandsCard : Claim7 := { stood := { row := prefixStandsRow, standIns := [], harness := (true, "6d3c7e3d6c980f087b34b82d2730a73394a8f5d2bb886a6b73741f3bd52d87e2"), looks := false }, kinds := [], alts := [], laidByText := true, laidKinds := [.data, .pinned], laidTests := true, laidLooks := .later }
def PrefixStandsCardSaid : Prop := Claim7.holds Tryd.pinned (.plain (OpenSpec.ofChange prefixStandsSpec)) prefixStandsCard

/-- THE TIED CARD OF 'martellolaw14.PrefixRuns'. -/
def prefixRunsCard : Claim7 := { stood := { row := prefixRunsRow, standIns := [], harness := (true, "6d3c7e3d6c980f087b34b82d2730a73394a8f5d2bb886a6b73741f3bd52d87e2"), looks := false }, kinds := [], alts := [], laidByText := true, laidKinds := [.data, .pinned], laidTests := true, laidLooks := .later }
def PrefixRunsCardSaid : Prop := Claim7.holds Tryd.pinned (.plain (OpenSpec.ofChange prefixRunsSpec)) prefixRunsCard

/-- THE SECOND FORM's CARD OF 'martellolaw14.PrefixTrees'. -/
def prefixTreesUptoCard : Claim7 := { stood := { row := prefixTreesUptoRow, standIns := [], harness := (true, "6d3c7e3d6c980f087b34b82d2730a73394a8f5d2bb886a6b73741f3bd52d87e2"), looks := false }, kinds := [], alts := [], laidByText := true, laidKinds := [.data, .pinned], laidTests := true, laidLooks := .later }
def PrefixTreesUptoCardSaid : Prop := Claim7.holds Tryd.pinned (.plain (OpenSpec.upto prefixTreesSpec)) prefixTreesUptoCard

/-- THE SECOND FORM's CARD OF 'martellolaw14.PrefixIndex'. -/
def prefixIndexUptoCard : Claim7 := { stood := { row := prefixIndexUptoRow, standIns := [], harness := (true, "6d3c7e3d6c980f087b34b82d2730a73394a8f5d2bb886a6b73741f3bd52d87e2"), looks := false }, kinds := [], alts := [], laidByText := true, laidKinds := [.data, .pinned], laidTests := true, laidLooks := .later }
def PrefixIndexUptoCardSaid : Prop := Claim7.holds Tryd.pinned (.plain (OpenSpec.upto prefixIndexSpec)) prefixIndexUptoCard

/-- THE SECOND FORM's CARD OF 'martellolaw14.PrefixStands'. -/
def prefixStandsUptoCard : Claim7 := { stood := { row := prefixStandsUptoRow, standIns := [], harness := (true, "6d3c7e3d6c980f087b34b82d2730a73394a8f5d2bb886a6b73741f3bd52d87e2"), looks := false }, kinds := [], alts := [], laidByText := true, laidKinds := [.data, .pinned], laidTests := true, laidLooks := .later }
def PrefixStandsUptoCardSaid : Prop := Claim7.holds Tryd.pinned (.plain (OpenSpec.upto prefixStandsSpec)) prefixStandsUptoCard

/-- THE SECOND FORM's CARD OF 'martellolaw14.PrefixRuns'. -/
def prefixRunsUptoCard : Claim7 := { stood := { row := prefixRunsUptoRow, standIns := [], harness := (true, "6d3c7e3d6c980f087b34b82d2730a73394a8f5d2bb886a6b73741f3bd52d87e2"), looks := false }, kinds := [], alts := [], laidByText := true, laidKinds := [.data, .pinned], laidTests := true, laidLooks := .later }
def PrefixRunsUptoCardSaid : Prop := Claim7.holds Tryd.pinned (.plain (OpenSpec.upto prefixRunsSpec)) prefixRunsUptoCard
end Rows
end Go.Proofs.YtdnbholiijgedaaDoor
