/-
  More words of this seat's own. No condition.
-/
import Derived.Test.YtdnbholiijgedaaDoorCore
namespace Go.Proofs.YtdnbholiijgedaaDoor
open Go.RowKit
set_option linter.unusedVariables false

theorem balc {B : Nat} {w w1 : World} (h : Below B w w1) (hB : B ≤ w.heap.size) (o : Obj) : Below B w (w1.alloc o) := h.alloc (Nat.le_trans hB h.size) o

/-- The first of a list of trees, cell by cell, as the walk asks for it. -/
theorem trArr_at0 {ok : Nat → Prop} {w : World} {A : Option Addr} {xs : List Tr} (h : Arr ok w 10 (TrC ok w) A xs) (wr : World) (hmv : ∀ b, ok b → b < w.heap.size → wr.heap[b]? = w.heap[b]?) (hi : 0 < xs.length) :
    ∃ ad A1 c1 A3 c3, A = some ad ∧ TrC ok w xs[0] [.int .i64 xs[0].op, .slice A1 xs[0].kids.length c1, .int .i32 xs[0].rune, .slice A3 xs[0].set.length c3, .int .i64 xs[0].at_, .int .i64 xs[0].cap, .string xs[0].name, .int .i64 xs[0].mn, .int .i64 xs[0].mx, .bool xs[0].lz] ∧
      wr.cell? ad = some (.int .i64 xs[0].op) ∧ wr.cell? ⟨ad.block, ad.off + 1, none⟩ = some (.slice A1 xs[0].kids.length c1) ∧
      wr.cell? ⟨ad.block, ad.off + 2, none⟩ = some (.int .i32 xs[0].rune) ∧ wr.cell? ⟨ad.block, ad.off + 3, none⟩ = some (.slice A3 xs[0].set.length c3) ∧
      wr.cell? ⟨ad.block, ad.off + 4, none⟩ = some (.int .i64 xs[0].at_) ∧ wr.cell? ⟨ad.block, ad.off + 5, none⟩ = some (.int .i64 xs[0].cap) ∧
      wr.cell? ⟨ad.block, ad.off + 6, none⟩ = some (.string xs[0].name) ∧ wr.cell? ⟨ad.block, ad.off + 7, none⟩ = some (.int .i64 xs[0].mn) ∧
      wr.cell? ⟨ad.block, ad.off + 8, none⟩ = some (.int .i64 xs[0].mx) ∧ wr.cell? ⟨ad.block, ad.off + 9, none⟩ = some (.bool xs[0].lz) := by
  obtain ⟨ad, A1, c1, A3, c3, rfl, hT, g⟩ := trArr_at h wr hmv 0 hi
  have h0 : ad.add (0 * 10) = ad := rfl
  rw [h0] at g
  exact ⟨ad, A1, c1, A3, c3, rfl, hT, g⟩

theorem parts_kid {t : Tr} {i : Nat} (hi : i < t.kids.length) : ((t.kids.take i).flatMap parts).length + (parts t.kids[i]).length + 1 ≤ (parts t).length := by
  have hp := parts_eq t
  rw [hp, partsL_flat]
  have h9 := congrArg List.length (congrArg (List.flatMap parts) (List.take_append_drop (i + 1) t.kids))
  rw [List.flatMap_append, List.length_append, List.take_succ_eq_append_getElem hi, List.flatMap_append, List.length_append] at h9
  simp only [List.flatMap_cons, List.flatMap_nil, List.append_nil, List.length_cons] at h9 ⊢
  omega
theorem mem_parts_kid {t : Tr} {i : Nat} (hi : i < t.kids.length) {p : Tr} (hp : p ∈ parts t.kids[i]) : p ∈ parts t := by
  rw [parts_eq, partsL_flat]; exact List.mem_cons_of_mem _ (List.mem_flatMap.2 ⟨_, List.getElem_mem hi, hp⟩)
theorem mem_parts_self (t : Tr) : t ∈ parts t := by rw [parts_eq]; simp
end Go.Proofs.YtdnbholiijgedaaDoor
