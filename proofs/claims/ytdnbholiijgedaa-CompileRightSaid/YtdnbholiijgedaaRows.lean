/-
  NARROWER THAN 'FOR EVERY INPUT', by the rows' own cells (each row's printed sentence says how): CompileGroups: loops · CompileSizes: loops · SimplifyAgain: loops · SimplifyPlain: loops · CompileRight: loops.
  DERIVED. THE GIVEN ROWS OF THIS SEAT. 6 by the template 'for every input the law returns true; each argument reads behind the call as it read before'; 0 by the template 'total and deterministic' (their statements: YtdnbholiijgedaaTotals.lean).
  GIVEN WITH THE SEED: the statements are not yours to turn. If you find one false, say at which input.
  Laid BY PROGRAM, IN A SANDBOX (cutbox-rows.mjs): the forced cells as the released guide's own fill.sh prints them over the translation 1109b166cff3cc8a… (all of the seat's roots in one cut). By AI agents, Wed Nov 11 2026. No macro, syntax, notation, axiom, sorry.
-/
import Derived.Test.YtdnbholiijgedaaChecked
import GoSem.Claim
import GoSem.ClaimJoined
import GoSem.ClaimMapViews
import Derived.JoinedTies
import Derived.KernelRfl
namespace Go.Proofs.Ytdnbholiijgedaa
/- THE CELL 'sum', in the pinned program and in every row, IS THE sha256 OF THE DUMP (.gsa) THAT YtdnbholiijgedaaProg.lean LOADS. Nothing in Lean hashes anything: it is a label: what it is worth is what the hold of that sum in a sandbox is worth. -/
noncomputable def Try.pinned : Pinned := { name := "ytdnbholiijgedaa", sum := "1109b166cff3cc8a49c97b4008fab86edf038e7d0be87ddeb9832194ffaf6156", checked := Try.checked }
namespace Rows
def none {H : Type} : Left H := { results := [], args := [] }

/-- 'martellolaw13.CompileGroups': WHATEVER THE INPUT: true; the input reads as it did. -/
def compileGroupsSpec : ChangeSpec := { name := "compileGroups", fn := fun _ => fun
  | [d1, d2] => { results := [.lit (.bool true)], args := [d1, d2] }
  | _ => none }
def compileGroupsRow : OpenClaim := { program := "ytdnbholiijgedaa", sum := "1109b166cff3cc8a49c97b4008fab86edf038e7d0be87ddeb9832194ffaf6156", func := "martello/martellolaw13.CompileGroups", spec := "compileGroups", unfollowed := true, recurses := true, loops := true, apart := false }
def CompileGroupsSaid : Prop := compileGroupsRow.holds Try.pinned (OpenSpec.ofChange compileGroupsSpec)

/-- ITS FALSE NEIGHBOUR: 'it returns false'. Refute it at one input. -/
def compileGroupsWrong : ChangeSpec := { name := "compileGroups", fn := fun _ => fun
  | [d1, d2] => { results := [.lit (.bool false)], args := [d1, d2] }
  | _ => none }
def CompileGroupsWrongFalsely : Prop := compileGroupsRow.holds Try.pinned (OpenSpec.ofChange compileGroupsWrong)

/-- 'martellolaw13.CompileSizes': WHATEVER THE INPUT: true; the input reads as it did. -/
def compileSizesSpec : ChangeSpec := { name := "compileSizes", fn := fun _ => fun
  | [d1, d2] => { results := [.lit (.bool true)], args := [d1, d2] }
  | _ => none }
def compileSizesRow : OpenClaim := { program := "ytdnbholiijgedaa", sum := "1109b166cff3cc8a49c97b4008fab86edf038e7d0be87ddeb9832194ffaf6156", func := "martello/martellolaw13.CompileSizes", spec := "compileSizes", unfollowed := true, recurses := true, loops := true, apart := false }
def CompileSizesSaid : Prop := compileSizesRow.holds Try.pinned (OpenSpec.ofChange compileSizesSpec)

/-- ITS FALSE NEIGHBOUR: 'it returns false'. Refute it at one input. -/
def compileSizesWrong : ChangeSpec := { name := "compileSizes", fn := fun _ => fun
  | [d1, d2] => { results := [.lit (.bool false)], args := [d1, d2] }
  | _ => none }
def CompileSizesWrongFalsely : Prop := compileSizesRow.holds Try.pinned (OpenSpec.ofChange compileSizesWrong)

/-- 'martellolaw10.SimplifyCounts': WHATEVER THE INPUT: true; the input reads as it did. -/
def simplifyCountsSpec : ChangeSpec := { name := "simplifyCounts", fn := fun _ => fun
  | [d1, d2, d3, d4] => { results := [.lit (.bool true)], args := [d1, d2, d3, d4] }
  | _ => none }
def simplifyCountsRow : OpenClaim := { program := "ytdnbholiijgedaa", sum := "1109b166cff3cc8a49c97b4008fab86edf038e7d0be87ddeb9832194ffaf6156", func := "martello/martellolaw10.SimplifyCounts", spec := "simplifyCounts", unfollowed := true, recurses := true, apart := false }
def SimplifyCountsSaid : Prop := simplifyCountsRow.holds Try.pinned (OpenSpec.ofChange simplifyCountsSpec)

/-- ITS FALSE NEIGHBOUR: 'it returns false'. Refute it at one input. -/
def simplifyCountsWrong : ChangeSpec := { name := "simplifyCounts", fn := fun _ => fun
  | [d1, d2, d3, d4] => { results := [.lit (.bool false)], args := [d1, d2, d3, d4] }
  | _ => none }
def SimplifyCountsWrongFalsely : Prop := simplifyCountsRow.holds Try.pinned (OpenSpec.ofChange simplifyCountsWrong)

/-- 'martellolaw10.SimplifyAgain': WHATEVER THE INPUT: true; the input reads as it did. -/
def simplifyAgainSpec : ChangeSpec := { name := "simplifyAgain", fn := fun _ => fun
  | [d] => { results := [.lit (.bool true)], args := [d] }
  | _ => none }
def simplifyAgainRow : OpenClaim := { program := "ytdnbholiijgedaa", sum := "1109b166cff3cc8a49c97b4008fab86edf038e7d0be87ddeb9832194ffaf6156", func := "martello/martellolaw10.SimplifyAgain", spec := "simplifyAgain", unfollowed := true, recurses := true, loops := true, apart := false }
def SimplifyAgainSaid : Prop := simplifyAgainRow.holds Try.pinned (OpenSpec.ofChange simplifyAgainSpec)

/-- ITS FALSE NEIGHBOUR: 'it returns false'. Refute it at one input. -/
def simplifyAgainWrong : ChangeSpec := { name := "simplifyAgain", fn := fun _ => fun
  | [d] => { results := [.lit (.bool false)], args := [d] }
  | _ => none }
def SimplifyAgainWrongFalsely : Prop := simplifyAgainRow.holds Try.pinned (OpenSpec.ofChange simplifyAgainWrong)

/-- 'martellolaw10.SimplifyPlain': WHATEVER THE INPUT: true; the input reads as it did. -/
def simplifyPlainSpec : ChangeSpec := { name := "simplifyPlain", fn := fun _ => fun
  | [d] => { results := [.lit (.bool true)], args := [d] }
  | _ => none }
def simplifyPlainRow : OpenClaim := { program := "ytdnbholiijgedaa", sum := "1109b166cff3cc8a49c97b4008fab86edf038e7d0be87ddeb9832194ffaf6156", func := "martello/martellolaw10.SimplifyPlain", spec := "simplifyPlain", unfollowed := true, recurses := true, loops := true, apart := false }
def SimplifyPlainSaid : Prop := simplifyPlainRow.holds Try.pinned (OpenSpec.ofChange simplifyPlainSpec)

/-- ITS FALSE NEIGHBOUR: 'it returns false'. Refute it at one input. -/
def simplifyPlainWrong : ChangeSpec := { name := "simplifyPlain", fn := fun _ => fun
  | [d] => { results := [.lit (.bool false)], args := [d] }
  | _ => none }
def SimplifyPlainWrongFalsely : Prop := simplifyPlainRow.holds Try.pinned (OpenSpec.ofChange simplifyPlainWrong)

/-- 'martellolaw13.CompileRight': WHATEVER THE INPUT: true; the input reads as it did. -/
def compileRightSpec : ChangeSpec := { name := "compileRight", fn := fun _ => fun
  | [d1, d2] => { results := [.lit (.bool true)], args := [d1, d2] }
  | _ => none }
def compileRightRow : OpenClaim := { program := "ytdnbholiijgedaa", sum := "1109b166cff3cc8a49c97b4008fab86edf038e7d0be87ddeb9832194ffaf6156", func := "martello/martellolaw13.CompileRight", spec := "compileRight", unfollowed := true, recurses := true, loops := true, apart := false }
def CompileRightSaid : Prop := compileRightRow.holds Try.pinned (OpenSpec.ofChange compileRightSpec)

/-- ITS FALSE NEIGHBOUR: 'it returns false'. Refute it at one input. -/
def compileRightWrong : ChangeSpec := { name := "compileRight", fn := fun _ => fun
  | [d1, d2] => { results := [.lit (.bool false)], args := [d1, d2] }
  | _ => none }
def CompileRightWrongFalsely : Prop := compileRightRow.holds Try.pinned (OpenSpec.ofChange compileRightWrong)

/- THE SECOND FORM. 'bulk': how many values and letters a reading holds, each counted each time it is reached (what is shared counts as often as it is met; a slice's spare places count too). A statement '..UptoSaid' is the law's where the arguments, and the package variables that the reading takes, are together of bulk at most 1048576: NARROWER than '..Said'. Prove '..Said' where nothing that the law and all that it calls make is longer than what came in: it says more and counts as full. Else prove '..UptoSaid'. A law counts once. -/
mutual
def uptoBulk {H : Type} : DataW H → Nat
  | .lit (.string bytes) => bytes.length + 1
  | .lit _ => 1
  | .nil => 1
  | .ptr d => uptoBulk d + 1
  | .slice elems spare => uptoBulkAll elems + uptoBulkAll spare + 1
  | .agg parts => uptoBulkAll parts + 1
  | .iface _ d => uptoBulk d + 1
  | .map entries => uptoBulkEntries entries + 1
  | .held _ => 1
def uptoBulkAll {H : Type} : List (DataW H) → Nat
  | [] => 0
  | d :: r => uptoBulk d + uptoBulkAll r
def uptoBulkEntries {H : Type} : List (Lit × DataW H) → Nat
  | [] => 0
  | x :: r => uptoBulkEntry x + uptoBulkEntries r
def uptoBulkEntry {H : Type} : Lit × DataW H → Nat
  | (.string bytes, d) => bytes.length + uptoBulk d + 1
  | (_, d) => uptoBulk d + 1
 end
def uptoSmall : (H : Type) → List (DataW H) → Bool := fun _ ds => decide (uptoBulkAll ds ≤ 1048576)
def OpenSpec.upto (s : _root_.Go.ChangeSpec) : _root_.Go.OpenSpec := { _root_.Go.OpenSpec.ofChange s with cond := some uptoSmall }

/-- 'martellolaw13.CompileGroups', WHERE WHAT IT READS IS OF BULK AT MOST 1048576: true; the input reads as it did. -/
def compileGroupsUptoRow : OpenClaim := { program := "ytdnbholiijgedaa", sum := "1109b166cff3cc8a49c97b4008fab86edf038e7d0be87ddeb9832194ffaf6156", func := "martello/martellolaw13.CompileGroups", spec := "compileGroups", unfollowed := true, recurses := true, loops := true, apart := false, narrowed := true }
def CompileGroupsUptoSaid : Prop := compileGroupsUptoRow.holds Try.pinned (OpenSpec.upto compileGroupsSpec)

/-- 'martellolaw13.CompileSizes', WHERE WHAT IT READS IS OF BULK AT MOST 1048576: true; the input reads as it did. -/
def compileSizesUptoRow : OpenClaim := { program := "ytdnbholiijgedaa", sum := "1109b166cff3cc8a49c97b4008fab86edf038e7d0be87ddeb9832194ffaf6156", func := "martello/martellolaw13.CompileSizes", spec := "compileSizes", unfollowed := true, recurses := true, loops := true, apart := false, narrowed := true }
def CompileSizesUptoSaid : Prop := compileSizesUptoRow.holds Try.pinned (OpenSpec.upto compileSizesSpec)

/-- 'martellolaw10.SimplifyCounts', WHERE WHAT IT READS IS OF BULK AT MOST 1048576: true; the input reads as it did. -/
def simplifyCountsUptoRow : OpenClaim := { program := "ytdnbholiijgedaa", sum := "1109b166cff3cc8a49c97b4008fab86edf038e7d0be87ddeb9832194ffaf6156", func := "martello/martellolaw10.SimplifyCounts", spec := "simplifyCounts", unfollowed := true, recurses := true, apart := false, narrowed := true }
def SimplifyCountsUptoSaid : Prop := simplifyCountsUptoRow.holds Try.pinned (OpenSpec.upto simplifyCountsSpec)

/-- 'martellolaw10.SimplifyAgain', WHERE WHAT IT READS IS OF BULK AT MOST 1048576: true; the input reads as it did. -/
def simplifyAgainUptoRow : OpenClaim := { program := "ytdnbholiijgedaa", sum := "1109b166cff3cc8a49c97b4008fab86edf038e7d0be87ddeb9832194ffaf6156", func := "martello/martellolaw10.SimplifyAgain", spec := "simplifyAgain", unfollowed := true, recurses := true, loops := true, apart := false, narrowed := true }
def SimplifyAgainUptoSaid : Prop := simplifyAgainUptoRow.holds Try.pinned (OpenSpec.upto simplifyAgainSpec)

/-- 'martellolaw10.SimplifyPlain', WHERE WHAT IT READS IS OF BULK AT MOST 1048576: true; the input reads as it did. -/
def simplifyPlainUptoRow : OpenClaim := { program := "ytdnbholiijgedaa", sum := "1109b166cff3cc8a49c97b4008fab86edf038e7d0be87ddeb9832194ffaf6156", func := "martello/martellolaw10.SimplifyPlain", spec := "simplifyPlain", unfollowed := true, recurses := true, loops := true, apart := false, narrowed := true }
def SimplifyPlainUptoSaid : Prop := simplifyPlainUptoRow.holds Try.pinned (OpenSpec.upto simplifyPlainSpec)

/-- 'martellolaw13.CompileRight', WHERE WHAT IT READS IS OF BULK AT MOST 1048576: true; the input reads as it did. -/
def compileRightUptoRow : OpenClaim := { program := "ytdnbholiijgedaa", sum := "1109b166cff3cc8a49c97b4008fab86edf038e7d0be87ddeb9832194ffaf6156", func := "martello/martellolaw13.CompileRight", spec := "compileRight", unfollowed := true, recurses := true, loops := true, apart := false, narrowed := true }
def CompileRightUptoSaid : Prop := compileRightUptoRow.holds Try.pinned (OpenSpec.upto compileRightSpec)

end Rows
end Go.Proofs.Ytdnbholiijgedaa
