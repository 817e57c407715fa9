/-
  compile's code, op by op, given the Kids' code. No condition.
-/
import Derived.Test.YtdnbholiijgedaaComp3
import Derived.Test.YtdnbholiijgedaaClone
namespace Go.Proofs.Ytdnbholiijgedaa
open Go.RowKit
set_option linter.unusedVariables false

/-- The head of a walk through code: the builder's words, the tree's fields. -/
theorem code_open {w : World} {B0 G : Nat} {v : Value} {st cp gr : Int} {s : St} (hb : BldAt w B0 G v st cp gr s) : w.cell? ⟨G, 4, none⟩ = some (.bool s.2) ∧ G < w.heap.size ∧ G < w.heap.size + 1 ∧ G < w.heap.size + 1 + 1 := ⟨by rw [cell_of_blk hb.blk]; rfl, hb.glt.1, by have := hb.glt.1; omega, by have := hb.glt.1; omega⟩
set_option maxRecDepth 100000 in
set_option maxHeartbeats 1000000 in
theorem code_many (B0 G : Nat) (st cp gr : Int) (t : Tr) (cs : List Value) (to : Int) (w : World) (v : Value) (s : St) (ht : TrC (fun b => b < B0) w t cs) (hb : BldAt w B0 G v st cp gr s) (hm : s.2 = true) :
    Calls Try.prog 24 #[.pointer (some ⟨G, 0, none⟩), .agg cs.toArray, .int .i64 to] w (EmitPost B0 G st cp gr v w (codeS gr t to s)) := by
  obtain ⟨A, c, B, d, rfl, _⟩ := trC_iff.1 ht
  obtain ⟨k4, hG, hG1, hG2⟩ := code_open hb
  have hS : codeS gr t to s = (0, s) := by rw [codeS_eq, if_pos hm]
  rw [hm] at k4
  have HH := Lib.hid (And.intro hb hS)
  clear hb hS hm ht
  go_enter Try.func24, Try.ntmps24
  go_wp2_with fail
  go_ret
  rw [HH.out.2]
  exact ⟨v, rfl, HH.out.1.below (by repeat (first | exact Below.refl _ _ | apply below_al)), Touch.of_below (by repeat (first | exact Below.refl _ _ | apply below_al))⟩
set_option maxRecDepth 100000 in
set_option maxHeartbeats 1000000 in
theorem code_fail (B0 G : Nat) (st cp gr : Int) (t : Tr) (cs : List Value) (to : Int) (w : World) (v : Value) (s : St) (ht : TrC (fun b => b < B0) w t cs) (hb : BldAt w B0 G v st cp gr s) (hl : s.1.length ≤ 10000) (hm : s.2 = false) (ho : t.op = 1) :
    Calls Try.prog 24 #[.pointer (some ⟨G, 0, none⟩), .agg cs.toArray, .int .i64 to] w (EmitPost B0 G st cp gr v w (codeS gr t to s)) := by
  obtain ⟨A, c, B, d, rfl, _⟩ := trC_iff.1 ht
  obtain ⟨k4, hG, hG1, hG2⟩ := code_open hb
  have hS : codeS gr t to s = emitS ⟨6, 0, 0, [], 0⟩ s := by rw [codeS_eq, if_neg (by rw [hm]; simp), if_pos ho]
  have o1 : (t.op == 1) = true := by rw [ho]; rfl
  rw [hm] at k4
  have hem := fun W (hW : Below w.heap.size w W) => emit_any W B0 G v st cp gr s ⟨6, 0, 0, [], 0⟩ _ (hb.below hW) (inC_lit W _ _ _ _) hl
  have HH := Lib.hid hS
  clear hb hS hm ht ho
  go_enter Try.func24, Try.ntmps24
  go_wp2_with fail
  refine (hem _ (by repeat (first | exact Below.refl _ _ | apply below_al))).mono ?_
  rintro e w1 ⟨v1, rfl, hb1, ht1⟩
  have H1 := Lib.hid (And.intro hb1 ht1)
  clear hem hb1 ht1
  go_wp2_with fail
  go_ret
  rw [HH.out]
  exact ⟨v1, rfl, H1.out.1, (Touch.of_below (by repeat (first | exact Below.refl _ _ | apply below_al))).trans H1.out.2⟩
end Go.Proofs.Ytdnbholiijgedaa
