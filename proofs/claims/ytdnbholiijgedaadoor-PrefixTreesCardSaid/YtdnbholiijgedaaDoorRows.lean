/-
  NARROWER THAN 'FOR EVERY INPUT', by the rows' own cells (each row's printed sentence says how): PrefixTrees: loops, laid · PrefixIndex: laid · PrefixStands: laid · PrefixRuns: laid.
  DERIVED. THE GIVEN ROWS OF THIS SEAT. 4 by the template 'for every input the law returns true; each argument reads behind the call as it read before'; 0 by the template 'total and deterministic' (their statements: YtdnbholiijgedaaDoorTotals.lean).
  GIVEN WITH THE SEED: the statements are not yours to turn. If you find one false, say at which input.
  Laid BY PROGRAM, IN A SANDBOX (cutbox-rows.mjs): the forced cells as the released guide's own fill.sh prints them over the translation 1f0307134838e728… (all of the seat's roots in one cut). By AI agents, Wed Nov 11 2026. No macro, syntax, notation, axiom, sorry.
-/
import Derived.Test.YtdnbholiijgedaaDoorChecked
import GoSem.PinnedTables
import GoSem.Claim
import GoSem.ClaimJoined
import GoSem.ClaimMapViews
import Derived.JoinedTies
import Derived.KernelRfl
namespace Go.Proofs.YtdnbholiijgedaaDoor
/- THE CELL 'sum', in the pinned program and in every row, IS THE sha256 OF THE DUMP (.gsa) THAT YtdnbholiijgedaaDoorProg.lean LOADS. Nothing in Lean hashes anything: it is a label: what it is worth is what the hold of that sum in a sandbox is worth. -/
noncomputable def Tryd.pinned : Pinned := { name := "ytdnbholiijgedaadoor", sum := "1f0307134838e728f47ed0562b0ce6554cd90dd76d2cbfc7aaa21a113bf0721c", checked := Tryd.checked }
namespace Rows
def none {H : Type} : Left H := { results := [], args := [] }

/- WHAT THE LISTED PACKAGE-LEVEL VARIABLES READ AS WHEN THE CALL BEGINS. Each datum BY PROGRAM (the guide's laid-datum.mjs) off the statement by which the dump's own 'gosem.cut.vars' lays the variable. In a bare row this is a premise. The card (YtdnbholiijgedaaDoorCards.lean) ties it to the program's text. -/
def laid_unicode_utf8_acceptRanges {H : Type} : DataW H := .agg [.agg [.lit (.int .u8 128), .lit (.int .u8 191)], .agg [.lit (.int .u8 160), .lit (.int .u8 191)], .agg [.lit (.int .u8 128), .lit (.int .u8 159)], .agg [.lit (.int .u8 144), .lit (.int .u8 191)], .agg [.lit (.int .u8 128), .lit (.int .u8 143)], .agg [.lit (.int .u8 0), .lit (.int .u8 0)], .agg [.lit (.int .u8 0), .lit (.int .u8 0)], .agg [.lit (.int .u8 0), .lit (.int .u8 0)], .agg [.lit (.int .u8 0), .lit (.int .u8 0)], .agg [.lit (.int .u8 0), .lit (.int .u8 0)], .agg [.lit (.int .u8 0), .lit (.int .u8 0)], .agg [.lit (.int .u8 0), .lit (.int .u8 0)], .agg [.lit (.int .u8 0), .lit (.int .u8 0)], .agg [.lit (.int .u8 0), .lit (.int .u8 0)], .agg [.lit (.int .u8 0), .lit (.int .u8 0)], .agg [.lit (.int .u8 0), .lit (.int .u8 0)]]
/-- One of Go's own tables, pinned by name: the form's constant. -/
def laid_unicode_utf8_first : DataW Unit := Go.Pinned.utf8First

/-- 'martellolaw14.PrefixTrees': WHATEVER THE INPUT: true; the input reads as it did. -/
def prefixTreesSpec : ChangeSpec := { name := "prefixTrees", fn := fun _ => fun
  | [d] => { results := [.lit (.bool true)], args := [d] }
  | _ => none }
def prefixTreesRow : OpenClaim := { program := "ytdnbholiijgedaadoor", sum := "1f0307134838e728f47ed0562b0ce6554cd90dd76d2cbfc7aaa21a113bf0721c", func := "martello/martellolaw14.PrefixTrees", spec := "prefixTrees", unfollowed := true, recurses := true, named := ["unicode/utf8.first", "unicode/utf8.acceptRanges"], loops := true, apart := false, laid := [("unicode/utf8.acceptRanges", laid_unicode_utf8_acceptRanges), ("unicode/utf8.first", laid_unicode_utf8_first)] }
def PrefixTreesSaid : Prop := prefixTreesRow.holds Tryd.pinned (OpenSpec.ofChange prefixTreesSpec)

/-- ITS FALSE NEIGHBOUR: 'it returns false'. Refute it at one input. -/
def prefixTreesWrong : ChangeSpec := { name := "prefixTrees", fn := fun _ => fun
  | [d] => { results := [.lit (.bool false)], args := [d] }
  | _ => none }
def PrefixTreesWrongFalsely : Prop := prefixTreesRow.holds Tryd.pinned (OpenSpec.ofChange prefixTreesWrong)

/-- 'martellolaw14.PrefixIndex': WHATEVER THE INPUT: true; the input reads as it did. -/
def prefixIndexSpec : ChangeSpec := { name := "prefixIndex", fn := fun _ => fun
  | [d1, d2, d3] => { results := [.lit (.bool true)], args := [d1, d2, d3] }
  | _ => none }
def prefixIndexRow : OpenClaim := { program := "ytdnbholiijgedaadoor", sum := "1f0307134838e728f47ed0562b0ce6554cd90dd76d2cbfc7aaa21a113bf0721c", func := "martello/martellolaw14.PrefixIndex", spec := "prefixIndex", unfollowed := true, recurses := true, named := ["unicode/utf8.first", "unicode/utf8.acceptRanges"], apart := false, laid := [("unicode/utf8.acceptRanges", laid_unicode_utf8_acceptRanges), ("unicode/utf8.first", laid_unicode_utf8_first)] }
def PrefixIndexSaid : Prop := prefixIndexRow.holds Tryd.pinned (OpenSpec.ofChange prefixIndexSpec)

/-- ITS FALSE NEIGHBOUR: 'it returns false'. Refute it at one input. -/
def prefixIndexWrong : ChangeSpec := { name := "prefixIndex", fn := fun _ => fun
  | [d1, d2, d3] => { results := [.lit (.bool false)], args := [d1, d2, d3] }
  | _ => none }
def PrefixIndexWrongFalsely : Prop := prefixIndexRow.holds Tryd.pinned (OpenSpec.ofChange prefixIndexWrong)

/-- 'martellolaw14.PrefixStands': WHATEVER THE INPUT: true; the input reads as it did. -/
def prefixStandsSpec : ChangeSpec := { name := "prefixStands", fn := fun _ => fun
  | [d1, d2, d3] => { results := [.lit (.bool true)], args := [d1, d2, d3] }
  | _ => none }
def prefixStandsRow : OpenClaim := { program := "ytdnbholiijgedaadoor", sum := "1f0307134838e728f47ed0562b0ce6554cd90dd76d2cbfc7aaa21a113bf0721c", func := "martello/martellolaw14.PrefixStands", spec := "prefixStands", unfollowed := true, recurses := true, named := ["unicode/utf8.first", "unicode/utf8.acceptRanges"], apart := false, laid := [("unicode/utf8.acceptRanges", laid_unicode_utf8_acceptRanges), ("unicode/utf8.first", laid_unicode_utf8_first)] }
def PrefixStandsSaid : Prop := prefixStandsRow.holds Tryd.pinned (OpenSpec.ofChange prefixStandsSpec)

/-- ITS FALSE NEIGHBOUR: 'it returns false'. Refute it at one input. -/
def prefixStandsWrong : ChangeSpec := { name := "prefixStands", fn := fun _ => fun
  | [d1, d2, d3] => { results := [.lit (.bool false)], args := [d1, d2, d3] }
  | _ => none }
def PrefixStandsWrongFalsely : Prop := prefixStandsRow.holds Tryd.pinned (OpenSpec.ofChange prefixStandsWrong)

/-- 'martellolaw14.PrefixRuns': WHATEVER THE INPUT: true; the input reads as it did. -/
def prefixRunsSpec : ChangeSpec := { name := "prefixRuns", fn := fun _ => fun
  | [d1, d2, d3] => { results := [.lit (.bool true)], args := [d1, d2, d3] }
  | _ => none }
def prefixRunsRow : OpenClaim := { program := "ytdnbholiijgedaadoor", sum := "1f0307134838e728f47ed0562b0ce6554cd90dd76d2cbfc7aaa21a113bf0721c", func := "martello/martellolaw14.PrefixRuns", spec := "prefixRuns", unfollowed := true, recurses := true, named := ["unicode/utf8.first", "unicode/utf8.acceptRanges"], apart := false, laid := [("unicode/utf8.acceptRanges", laid_unicode_utf8_acceptRanges), ("unicode/utf8.first", laid_unicode_utf8_first)] }
def PrefixRunsSaid : Prop := prefixRunsRow.holds Tryd.pinned (OpenSpec.ofChange prefixRunsSpec)

/-- ITS FALSE NEIGHBOUR: 'it returns false'. Refute it at one input. -/
def prefixRunsWrong : ChangeSpec := { name := "prefixRuns", fn := fun _ => fun
  | [d1, d2, d3] => { results := [.lit (.bool false)], args := [d1, d2, d3] }
  | _ => none }
def PrefixRunsWrongFalsely : Prop := prefixRunsRow.holds Tryd.pinned (OpenSpec.ofChange prefixRunsWrong)

/- THE SECOND FORM. 'bulk': how many values and letters a reading holds, each counted each time it is reached (what is shared counts as often as it is met; a slice's spare places count too). A statement '..UptoSaid' is the law's where the arguments, and the package variables that the reading takes, are together of bulk at most 1048576: NARROWER than '..Said'. Prove '..Said' where nothing that the law and all that it calls make is longer than what came in: it says more and counts as full. Else prove '..UptoSaid'. A law counts once. -/
mutual
def uptoBulk {H : Type} : DataW H → Nat
  | .lit (.string bytes) => bytes.length + 1
  | .lit _ => 1
  | .nil => 1
  | .ptr d => uptoBulk d + 1
  | .slice elems spare => uptoBulkAll elems + uptoBulkAll spare + 1
  | .agg parts => uptoBulkAll parts + 1
  | .iface _ d => uptoBulk d + 1
  | .map entries => uptoBulkEntries entries + 1
  | .held _ => 1
def uptoBulkAll {H : Type} : List (DataW H) → Nat
  | [] => 0
  | d :: r => uptoBulk d + uptoBulkAll r
def uptoBulkEntries {H : Type} : List (Lit × DataW H) → Nat
  | [] => 0
  | x :: r => uptoBulkEntry x + uptoBulkEntries r
def uptoBulkEntry {H : Type} : Lit × DataW H → Nat
  | (.string bytes, d) => bytes.length + uptoBulk d + 1
  | (_, d) => uptoBulk d + 1
 end
def uptoSmall : (H : Type) → List (DataW H) → Bool := fun _ ds => decide (uptoBulkAll ds ≤ 1048576)
def OpenSpec.upto (s : _root_.Go.ChangeSpec) : _root_.Go.OpenSpec := { _root_.Go.OpenSpec.ofChange s with cond := some uptoSmall }

/-- 'martellolaw14.PrefixTrees', WHERE WHAT IT READS IS OF BULK AT MOST 1048576: true; the input reads as it did. -/
def prefixTreesUptoRow : OpenClaim := { program := "ytdnbholiijgedaadoor", sum := "1f0307134838e728f47ed0562b0ce6554cd90dd76d2cbfc7aaa21a113bf0721c", func := "martello/martellolaw14.PrefixTrees", spec := "prefixTrees", unfollowed := true, recurses := true, named := ["unicode/utf8.first", "unicode/utf8.acceptRanges"], loops := true, apart := false, laid := [("unicode/utf8.acceptRanges", laid_unicode_utf8_acceptRanges), ("unicode/utf8.first", laid_unicode_utf8_first)], narrowed := true }
def PrefixTreesUptoSaid : Prop := prefixTreesUptoRow.holds Tryd.pinned (OpenSpec.upto prefixTreesSpec)

/-- 'martellolaw14.PrefixIndex', WHERE WHAT IT READS IS OF BULK AT MOST 1048576: true; the input reads as it did. -/
def prefixIndexUptoRow : OpenClaim := { program := "ytdnbholiijgedaadoor", sum := "1f0307134838e728f47ed0562b0ce6554cd90dd76d2cbfc7aaa21a113bf0721c", func := "martello/martellolaw14.PrefixIndex", spec := "prefixIndex", unfollowed := true, recurses := true, named := ["unicode/utf8.first", "unicode/utf8.acceptRanges"], apart := false, laid := [("unicode/utf8.acceptRanges", laid_unicode_utf8_acceptRanges), ("unicode/utf8.first", laid_unicode_utf8_first)], narrowed := true }
def PrefixIndexUptoSaid : Prop := prefixIndexUptoRow.holds Tryd.pinned (OpenSpec.upto prefixIndexSpec)

/-- 'martellolaw14.PrefixStands', WHERE WHAT IT READS IS OF BULK AT MOST 1048576: true; the input reads as it did. -/
def prefixStandsUptoRow : OpenClaim := { program := "ytdnbholiijgedaadoor", sum := "1f0307134838e728f47ed0562b0ce6554cd90dd76d2cbfc7aaa21a113bf0721c", func := "martello/martellolaw14.PrefixStands", spec := "prefixStands", unfollowed := true, recurses := true, named := ["unicode/utf8.first", "unicode/utf8.acceptRanges"], apart := false, laid := [("unicode/utf8.acceptRanges", laid_unicode_utf8_acceptRanges), ("unicode/utf8.first", laid_unicode_utf8_first)], narrowed := true }
def PrefixStandsUptoSaid : Prop := prefixStandsUptoRow.holds Tryd.pinned (OpenSpec.upto prefixStandsSpec)

/-- 'martellolaw14.PrefixRuns', WHERE WHAT IT READS IS OF BULK AT MOST 1048576: true; the input reads as it did. -/
def prefixRunsUptoRow : OpenClaim := { program := "ytdnbholiijgedaadoor", sum := "1f0307134838e728f47ed0562b0ce6554cd90dd76d2cbfc7aaa21a113bf0721c", func := "martello/martellolaw14.PrefixRuns", spec := "prefixRuns", unfollowed := true, recurses := true, named := ["unicode/utf8.first", "unicode/utf8.acceptRanges"], apart := false, laid := [("unicode/utf8.acceptRanges", laid_unicode_utf8_acceptRanges), ("unicode/utf8.first", laid_unicode_utf8_first)], narrowed := true }
def PrefixRunsUptoSaid : Prop := prefixRunsUptoRow.holds Tryd.pinned (OpenSpec.upto prefixRunsSpec)

end Rows
end Go.Proofs.YtdnbholiijgedaaDoor
