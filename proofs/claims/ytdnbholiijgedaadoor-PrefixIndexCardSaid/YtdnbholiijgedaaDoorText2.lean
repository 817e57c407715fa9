/-
  Bytes that came in as an argument: a text.
-/
import Derived.Test.YtdnbholiijgedaaDoorText
import Derived.Test.YtdnbholiijgedaaDoorRow
namespace Go.Proofs.YtdnbholiijgedaaDoor
open Go.RowKit
set_option linter.unusedVariables false

theorem wf_u8 {z : Int} (h : (Lit.int .u8 z).wf = true) : 0 ≤ z ∧ z ≤ 255 := by
  simp [Lit.wf, IntKind.min, IntKind.max, IntKind.signed, IntKind.bits] at h
  omega
theorem came_text {w : World} {A : Option Addr} {n c : Nat} {xs : List Int} (h : Came .u8 w A n c xs) : ∃ s : ByteArray, n = s.size ∧ TextC (fun b => b < w.heap.size) w A s ∧ n ≤ c ∧ c ≤ maxLen := by
  obtain ⟨hl, h1, h2, h3, h4⟩ := h
  refine ⟨⟨(xs.map fun x => UInt8.ofNat x.toNat).toArray⟩, ?_, ?_, h1, h2⟩
  · show n = ((xs.map fun x => UInt8.ofNat x.toNat).toArray).size
    simp [hl]
  · intro i y hi
    simp only [List.getElem?_map] at hi
    cases hx : xs[i]? with
    | none => rw [hx] at hi; cases hi
    | some x =>
      rw [hx] at hi
      cases hi
      obtain ⟨ad, cs, h5, h6, h7, h8, h9⟩ := h3 i x hx
      refine ⟨ad, cs, h5, h6, ?_, h8, h9⟩
      have hw := wf_u8 (h4 x (List.mem_of_getElem? hx))
      rw [h7]
      show [Value.int .u8 x] = [Value.int .u8 ((UInt8.ofNat x.toNat).toNat : Int)]
      rw [UInt8.toNat_ofNat', show x.toNat % 2 ^ 8 = x.toNat by omega, show (x.toNat : Int) = x by omega]
end Go.Proofs.YtdnbholiijgedaaDoor
