/-
  NARROWER THAN 'FOR EVERY INPUT', by the rows' own cells (each row's printed sentence says how): BitstateFinds: laid · BitstateWithin: laid · BitstateFrom: laid · OnepassAdmits: laid · OnepassMatches: laid · BitstateOnepass: laid.
  DERIVED. THE GIVEN ROWS OF THIS SEAT. 6 by the template 'for every input the law returns true; each argument reads behind the call as it read before'; 0 by the template 'total and deterministic' (their statements: YthclpabmbhpohaaDoorTotals.lean).
  GIVEN WITH THE SEED: the statements are not yours to turn. If you find one false, say at which input.
  Laid BY PROGRAM, IN A SANDBOX (cutbox-rows.mjs): the forced cells as the released guide's own fill.sh prints them over the translation 80809cfc8923ef8b… (all of the seat's roots in one cut). By AI agents, Wed Nov 11 2026. No macro, syntax, notation, axiom, sorry.
-/
import Derived.Test.YthclpabmbhpohaaDoorChecked
import GoSem.PinnedTables
import GoSem.Claim
import GoSem.ClaimJoined
import GoSem.ClaimMapViews
import Derived.JoinedTies
import Derived.KernelRfl
namespace Go.Proofs.YthclpabmbhpohaaDoor
/- THE CELL 'sum', in the pinned program and in every row, IS THE sha256 OF THE DUMP (.gsa) THAT YthclpabmbhpohaaDoorProg.lean LOADS. Nothing in Lean hashes anything: it is a label: what it is worth is what the hold of that sum in a sandbox is worth. -/
noncomputable def Tryd.pinned : Pinned := { name := "ythclpabmbhpohaadoor", sum := "80809cfc8923ef8b30a2a30dd9a8d6ed8d127f72424411781cca7d583d01be29", checked := Tryd.checked }
namespace Rows
def none {H : Type} : Left H := { results := [], args := [] }

/- WHAT THE LISTED PACKAGE-LEVEL VARIABLES READ AS WHEN THE CALL BEGINS. Each datum BY PROGRAM (the guide's laid-datum.mjs) off the statement by which the dump's own 'gosem.cut.vars' lays the variable. In a bare row this is a premise. The card (YthclpabmbhpohaaDoorCards.lean) ties it to the program's text. -/
def laid_unicode_utf8_acceptRanges {H : Type} : DataW H := .agg [.agg [.lit (.int .u8 128), .lit (.int .u8 191)], .agg [.lit (.int .u8 160), .lit (.int .u8 191)], .agg [.lit (.int .u8 128), .lit (.int .u8 159)], .agg [.lit (.int .u8 144), .lit (.int .u8 191)], .agg [.lit (.int .u8 128), .lit (.int .u8 143)], .agg [.lit (.int .u8 0), .lit (.int .u8 0)], .agg [.lit (.int .u8 0), .lit (.int .u8 0)], .agg [.lit (.int .u8 0), .lit (.int .u8 0)], .agg [.lit (.int .u8 0), .lit (.int .u8 0)], .agg [.lit (.int .u8 0), .lit (.int .u8 0)], .agg [.lit (.int .u8 0), .lit (.int .u8 0)], .agg [.lit (.int .u8 0), .lit (.int .u8 0)], .agg [.lit (.int .u8 0), .lit (.int .u8 0)], .agg [.lit (.int .u8 0), .lit (.int .u8 0)], .agg [.lit (.int .u8 0), .lit (.int .u8 0)], .agg [.lit (.int .u8 0), .lit (.int .u8 0)]]
/-- One of Go's own tables, pinned by name: the form's constant. -/
def laid_unicode_utf8_first : DataW Unit := Go.Pinned.utf8First

/-- 'martellolaw16.BitstateFinds': WHATEVER THE INPUT: true; the input reads as it did. -/
def bitstateFindsSpec : ChangeSpec := { name := "bitstateFinds", fn := fun _ => fun
  | [d] => { results := [.lit (.bool true)], args := [d] }
  | _ => none }
def bitstateFindsRow : OpenClaim := { program := "ythclpabmbhpohaadoor", sum := "80809cfc8923ef8b30a2a30dd9a8d6ed8d127f72424411781cca7d583d01be29", func := "martello/martellolaw16.BitstateFinds", spec := "bitstateFinds", unfollowed := true, recurses := true, named := ["unicode/utf8.first", "unicode/utf8.acceptRanges"], apart := false, laid := [("unicode/utf8.acceptRanges", laid_unicode_utf8_acceptRanges), ("unicode/utf8.first", laid_unicode_utf8_first)] }
def BitstateFindsSaid : Prop := bitstateFindsRow.holds Tryd.pinned (OpenSpec.ofChange bitstateFindsSpec)

/-- ITS FALSE NEIGHBOUR: 'it returns false'. Refute it at one input. -/
def bitstateFindsWrong : ChangeSpec := { name := "bitstateFinds", fn := fun _ => fun
  | [d] => { results := [.lit (.bool false)], args := [d] }
  | _ => none }
def BitstateFindsWrongFalsely : Prop := bitstateFindsRow.holds Tryd.pinned (OpenSpec.ofChange bitstateFindsWrong)

/-- 'martellolaw16.BitstateWithin': WHATEVER THE INPUT: true; the input reads as it did. -/
def bitstateWithinSpec : ChangeSpec := { name := "bitstateWithin", fn := fun _ => fun
  | [d] => { results := [.lit (.bool true)], args := [d] }
  | _ => none }
def bitstateWithinRow : OpenClaim := { program := "ythclpabmbhpohaadoor", sum := "80809cfc8923ef8b30a2a30dd9a8d6ed8d127f72424411781cca7d583d01be29", func := "martello/martellolaw16.BitstateWithin", spec := "bitstateWithin", unfollowed := true, recurses := true, named := ["unicode/utf8.first", "unicode/utf8.acceptRanges"], apart := false, laid := [("unicode/utf8.acceptRanges", laid_unicode_utf8_acceptRanges), ("unicode/utf8.first", laid_unicode_utf8_first)] }
def BitstateWithinSaid : Prop := bitstateWithinRow.holds Tryd.pinned (OpenSpec.ofChange bitstateWithinSpec)

/-- ITS FALSE NEIGHBOUR: 'it returns false'. Refute it at one input. -/
def bitstateWithinWrong : ChangeSpec := { name := "bitstateWithin", fn := fun _ => fun
  | [d] => { results := [.lit (.bool false)], args := [d] }
  | _ => none }
def BitstateWithinWrongFalsely : Prop := bitstateWithinRow.holds Tryd.pinned (OpenSpec.ofChange bitstateWithinWrong)

/-- 'martellolaw16.BitstateFrom': WHATEVER THE INPUT: true; the input reads as it did. -/
def bitstateFromSpec : ChangeSpec := { name := "bitstateFrom", fn := fun _ => fun
  | [d] => { results := [.lit (.bool true)], args := [d] }
  | _ => none }
def bitstateFromRow : OpenClaim := { program := "ythclpabmbhpohaadoor", sum := "80809cfc8923ef8b30a2a30dd9a8d6ed8d127f72424411781cca7d583d01be29", func := "martello/martellolaw16.BitstateFrom", spec := "bitstateFrom", unfollowed := true, recurses := true, named := ["unicode/utf8.first", "unicode/utf8.acceptRanges"], apart := false, laid := [("unicode/utf8.acceptRanges", laid_unicode_utf8_acceptRanges), ("unicode/utf8.first", laid_unicode_utf8_first)] }
def BitstateFromSaid : Prop := bitstateFromRow.holds Tryd.pinned (OpenSpec.ofChange bitstateFromSpec)

/-- ITS FALSE NEIGHBOUR: 'it returns false'. Refute it at one input. -/
def bitstateFromWrong : ChangeSpec := { name := "bitstateFrom", fn := fun _ => fun
  | [d] => { results := [.lit (.bool false)], args := [d] }
  | _ => none }
def BitstateFromWrongFalsely : Prop := bitstateFromRow.holds Tryd.pinned (OpenSpec.ofChange bitstateFromWrong)

/-- 'martellolaw15.OnepassAdmits': WHATEVER THE INPUT: true; the input reads as it did. -/
def onepassAdmitsSpec : ChangeSpec := { name := "onepassAdmits", fn := fun _ => fun
  | [d] => { results := [.lit (.bool true)], args := [d] }
  | _ => none }
def onepassAdmitsRow : OpenClaim := { program := "ythclpabmbhpohaadoor", sum := "80809cfc8923ef8b30a2a30dd9a8d6ed8d127f72424411781cca7d583d01be29", func := "martello/martellolaw15.OnepassAdmits", spec := "onepassAdmits", unfollowed := true, recurses := true, named := ["unicode/utf8.first", "unicode/utf8.acceptRanges"], apart := false, laid := [("unicode/utf8.acceptRanges", laid_unicode_utf8_acceptRanges), ("unicode/utf8.first", laid_unicode_utf8_first)] }
def OnepassAdmitsSaid : Prop := onepassAdmitsRow.holds Tryd.pinned (OpenSpec.ofChange onepassAdmitsSpec)

/-- ITS FALSE NEIGHBOUR: 'it returns false'. Refute it at one input. -/
def onepassAdmitsWrong : ChangeSpec := { name := "onepassAdmits", fn := fun _ => fun
  | [d] => { results := [.lit (.bool false)], args := [d] }
  | _ => none }
def OnepassAdmitsWrongFalsely : Prop := onepassAdmitsRow.holds Tryd.pinned (OpenSpec.ofChange onepassAdmitsWrong)

/-- 'martellolaw15.OnepassMatches': WHATEVER THE INPUT: true; the input reads as it did. -/
def onepassMatchesSpec : ChangeSpec := { name := "onepassMatches", fn := fun _ => fun
  | [d1, d2, d3] => { results := [.lit (.bool true)], args := [d1, d2, d3] }
  | _ => none }
def onepassMatchesRow : OpenClaim := { program := "ythclpabmbhpohaadoor", sum := "80809cfc8923ef8b30a2a30dd9a8d6ed8d127f72424411781cca7d583d01be29", func := "martello/martellolaw15.OnepassMatches", spec := "onepassMatches", unfollowed := true, recurses := true, named := ["unicode/utf8.first", "unicode/utf8.acceptRanges"], apart := false, laid := [("unicode/utf8.acceptRanges", laid_unicode_utf8_acceptRanges), ("unicode/utf8.first", laid_unicode_utf8_first)] }
def OnepassMatchesSaid : Prop := onepassMatchesRow.holds Tryd.pinned (OpenSpec.ofChange onepassMatchesSpec)

/-- ITS FALSE NEIGHBOUR: 'it returns false'. Refute it at one input. -/
def onepassMatchesWrong : ChangeSpec := { name := "onepassMatches", fn := fun _ => fun
  | [d1, d2, d3] => { results := [.lit (.bool false)], args := [d1, d2, d3] }
  | _ => none }
def OnepassMatchesWrongFalsely : Prop := onepassMatchesRow.holds Tryd.pinned (OpenSpec.ofChange onepassMatchesWrong)

/-- 'martellolaw16.BitstateOnepass': WHATEVER THE INPUT: true; the input reads as it did. -/
def bitstateOnepassSpec : ChangeSpec := { name := "bitstateOnepass", fn := fun _ => fun
  | [d1, d2, d3] => { results := [.lit (.bool true)], args := [d1, d2, d3] }
  | _ => none }
def bitstateOnepassRow : OpenClaim := { program := "ythclpabmbhpohaadoor", sum := "80809cfc8923ef8b30a2a30dd9a8d6ed8d127f72424411781cca7d583d01be29", func := "martello/martellolaw16.BitstateOnepass", spec := "bitstateOnepass", unfollowed := true, recurses := true, named := ["unicode/utf8.first", "unicode/utf8.acceptRanges"], apart := false, laid := [("unicode/utf8.acceptRanges", laid_unicode_utf8_acceptRanges), ("unicode/utf8.first", laid_unicode_utf8_first)] }
def BitstateOnepassSaid : Prop := bitstateOnepassRow.holds Tryd.pinned (OpenSpec.ofChange bitstateOnepassSpec)

/-- ITS FALSE NEIGHBOUR: 'it returns false'. Refute it at one input. -/
def bitstateOnepassWrong : ChangeSpec := { name := "bitstateOnepass", fn := fun _ => fun
  | [d1, d2, d3] => { results := [.lit (.bool false)], args := [d1, d2, d3] }
  | _ => none }
def BitstateOnepassWrongFalsely : Prop := bitstateOnepassRow.holds Tryd.pinned (OpenSpec.ofChange bitstateOnepassWrong)

/- THE SECOND FORM. 'bulk': how many values and letters a reading holds, each counted each time it is reached (what is shared counts as often as it is met; a slice's spare places count too). A statement '..UptoSaid' is the law's where the arguments, and the package variables that the reading takes, are together of bulk at most 1048576: NARROWER than '..Said'. Prove '..Said' where nothing that the law and all that it calls make is longer than what came in: it says more and counts as full. Else prove '..UptoSaid'. A law counts once. -/
mutual
def uptoBulk {H : Type} : DataW H → Nat
  | .lit (.string bytes) => bytes.length + 1
  | .lit _ => 1
  | .nil => 1
  | .ptr d => uptoBulk d + 1
  | .slice elems spare => uptoBulkAll elems + uptoBulkAll spare + 1
  | .agg parts => uptoBulkAll parts + 1
  | .iface _ d => uptoBulk d + 1
  | .map entries => uptoBulkEntries entries + 1
  | .held _ => 1
def uptoBulkAll {H : Type} : List (DataW H) → Nat
  | [] => 0
  | d :: r => uptoBulk d + uptoBulkAll r
def uptoBulkEntries {H : Type} : List (Lit × DataW H) → Nat
  | [] => 0
  | x :: r => uptoBulkEntry x + uptoBulkEntries r
def uptoBulkEntry {H : Type} : Lit × DataW H → Nat
  | (.string bytes, d) => bytes.length + uptoBulk d + 1
  | (_, d) => uptoBulk d + 1
 end
def uptoSmall : (H : Type) → List (DataW H) → Bool := fun _ ds => decide (uptoBulkAll ds ≤ 1048576)
def OpenSpec.upto (s : _root_.Go.ChangeSpec) : _root_.Go.OpenSpec := { _root_.Go.OpenSpec.ofChange s with cond := some uptoSmall }

/-- 'martellolaw16.BitstateFinds', WHERE WHAT IT READS IS OF BULK AT MOST 1048576: true; the input reads as it did. -/
def bitstateFindsUptoRow : OpenClaim := { program := "ythclpabmbhpohaadoor", sum := "80809cfc8923ef8b30a2a30dd9a8d6ed8d127f72424411781cca7d583d01be29", func := "martello/martellolaw16.BitstateFinds", spec := "bitstateFinds", unfollowed := true, recurses := true, named := ["unicode/utf8.first", "unicode/utf8.acceptRanges"], apart := false, laid := [("unicode/utf8.acceptRanges", laid_unicode_utf8_acceptRanges), ("unicode/utf8.first", laid_unicode_utf8_first)], narrowed := true }
def BitstateFindsUptoSaid : Prop := bitstateFindsUptoRow.holds Tryd.pinned (OpenSpec.upto bitstateFindsSpec)

/-- 'martellolaw16.BitstateWithin', WHERE WHAT IT READS IS OF BULK AT MOST 1048576: true; the input reads as it did. -/
def bitstateWithinUptoRow : OpenClaim := { program := "ythclpabmbhpohaadoor", sum := "80809cfc8923ef8b30a2a30dd9a8d6ed8d127f72424411781cca7d583d01be29", func := "martello/martellolaw16.BitstateWithin", spec := "bitstateWithin", unfollowed := true, recurses := true, named := ["unicode/utf8.first", "unicode/utf8.acceptRanges"], apart := false, laid := [("unicode/utf8.acceptRanges", laid_unicode_utf8_acceptRanges), ("unicode/utf8.first", laid_unicode_utf8_first)], narrowed := true }
def BitstateWithinUptoSaid : Prop := bitstateWithinUptoRow.holds Tryd.pinned (OpenSpec.upto bitstateWithinSpec)

/-- 'martellolaw16.BitstateFrom', WHERE WHAT IT READS IS OF BULK AT MOST 1048576: true; the input reads as it did. -/
def bitstateFromUptoRow : OpenClaim := { program := "ythclpabmbhpohaadoor", sum := "80809cfc8923ef8b30a2a30dd9a8d6ed8d127f72424411781cca7d583d01be29", func := "martello/martellolaw16.BitstateFrom", spec := "bitstateFrom", unfollowed := true, recurses := true, named := ["unicode/utf8.first", "unicode/utf8.acceptRanges"], apart := false, laid := [("unicode/utf8.acceptRanges", laid_unicode_utf8_acceptRanges), ("unicode/utf8.first", laid_unicode_utf8_first)], narrowed := true }
def BitstateFromUptoSaid : Prop := bitstateFromUptoRow.holds Tryd.pinned (OpenSpec.upto bitstateFromSpec)

/-- 'martellolaw15.OnepassAdmits', WHERE WHAT IT READS IS OF BULK AT MOST 1048576: true; the input reads as it did. -/
def onepassAdmitsUptoRow : OpenClaim := { program := "ythclpabmbhpohaadoor", sum := "80809cfc8923ef8b30a2a30dd9a8d6ed8d127f72424411781cca7d583d01be29", func := "martello/martellolaw15.OnepassAdmits", spec := "onepassAdmits", unfollowed := true, recurses := true, named := ["unicode/utf8.first", "unicode/utf8.acceptRanges"], apart := false, laid := [("unicode/utf8.acceptRanges", laid_unicode_utf8_acceptRanges), ("unicode/utf8.first", laid_unicode_utf8_first)], narrowed := true }
def OnepassAdmitsUptoSaid : Prop := onepassAdmitsUptoRow.holds Tryd.pinned (OpenSpec.upto onepassAdmitsSpec)

/-- 'martellolaw15.OnepassMatches', WHERE WHAT IT READS IS OF BULK AT MOST 1048576: true; the input reads as it did. -/
def onepassMatchesUptoRow : OpenClaim := { program := "ythclpabmbhpohaadoor", sum := "80809cfc8923ef8b30a2a30dd9a8d6ed8d127f72424411781cca7d583d01be29", func := "martello/martellolaw15.OnepassMatches", spec := "onepassMatches", unfollowed := true, recurses := true, named := ["unicode/utf8.first", "unicode/utf8.acceptRanges"], apart := false, laid := [("unicode/utf8.acceptRanges", laid_unicode_utf8_acceptRanges), ("unicode/utf8.first", laid_unicode_utf8_first)], narrowed := true }
def OnepassMatchesUptoSaid : Prop := onepassMatchesUptoRow.holds Tryd.pinned (OpenSpec.upto onepassMatchesSpec)

/-- 'martellolaw16.BitstateOnepass', WHERE WHAT IT READS IS OF BULK AT MOST 1048576: true; the input reads as it did. -/
def bitstateOnepassUptoRow : OpenClaim := { program := "ythclpabmbhpohaadoor", sum := "80809cfc8923ef8b30a2a30dd9a8d6ed8d127f72424411781cca7d583d01be29", func := "martello/martellolaw16.BitstateOnepass", spec := "bitstateOnepass", unfollowed := true, recurses := true, named := ["unicode/utf8.first", "unicode/utf8.acceptRanges"], apart := false, laid := [("unicode/utf8.acceptRanges", laid_unicode_utf8_acceptRanges), ("unicode/utf8.first", laid_unicode_utf8_first)], narrowed := true }
def BitstateOnepassUptoSaid : Prop := bitstateOnepassUptoRow.holds Tryd.pinned (OpenSpec.upto bitstateOnepassSpec)

end Rows
end Go.Proofs.YthclpabmbhpohaaDoor
