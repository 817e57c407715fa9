/-
  What a tree's matches begin with: the plain words. No condition.
  More words of this seat's own. No condition.
-/
import Derived.Test.YtdnbholiijgedaaCore
namespace Go.Proofs.Ytdnbholiijgedaa
set_option linter.unusedVariables false

mutual
def pfx : Tr → List Int × Bool
  | ⟨op, kids, rune, set, at_, cap, name, mn, mx, lz⟩ =>
    if op = 2 then ([], true) else if op = 3 then ([rune], true) else
    if op = 6 ∨ (op = 12 ∧ kids.length = 1) then pfxH kids else
    if op = 8 ∨ (op = 10 ∧ 0 < mn) then ((pfxH kids).1, false) else
    if op = 11 then pfxL kids else ([], false)
def pfxH : List Tr → List Int × Bool
  | [] => ([], false)
  | x :: _ => pfx x
def pfxL : List Tr → List Int × Bool
  | [] => ([], true)
  | x :: xs => if (pfx x).2 = true then ((pfx x).1 ++ (pfxL xs).1, (pfxL xs).2) else pfx x
 end

theorem pfx_eq (t : Tr) : pfx t = if t.op = 2 then ([], true) else if t.op = 3 then ([t.rune], true) else
    if t.op = 6 ∨ (t.op = 12 ∧ t.kids.length = 1) then pfxH t.kids else
    if t.op = 8 ∨ (t.op = 10 ∧ 0 < t.mn) then ((pfxH t.kids).1, false) else
    if t.op = 11 then pfxL t.kids else ([], false) := by cases t; rw [pfx]
theorem pfxH_eq {l : List Tr} (h : 0 < l.length) : pfxH l = pfx l[0] := by
  cases l with
  | nil => simp at h
  | cons x xs => rw [pfxH]; rfl
theorem pfxL_append : ∀ (a b : List Tr), pfxL (a ++ b) = if (pfxL a).2 = true then ((pfxL a).1 ++ (pfxL b).1, (pfxL b).2) else pfxL a
  | [], b => by simp [pfxL]
  | x :: a, b => by
    rw [List.cons_append, pfxL, pfxL, pfxL_append a b]
    by_cases h : (pfx x).2 = true
    · rw [if_pos h, if_pos h]
      by_cases h2 : (pfxL a).2 = true
      · simp [h2]
      · simp [h2]
    · rw [if_neg h, if_neg h, if_neg h]
theorem pfxL_one (x : Tr) : pfxL [x] = pfx x := by
  rw [pfxL, pfxL]
  by_cases h : (pfx x).2 = true
  · rw [if_pos h]; cases hp : pfx x; simp_all
  · rw [if_neg h]
theorem pfxL_take {l : List Tr} {i : Nat} (hi : i < l.length) {ys : List Int} (h : pfxL (l.take i) = (ys, true)) : pfxL (l.take (i + 1)) = (ys ++ (pfx l[i]).1, (pfx l[i]).2) := by
  rw [List.take_succ_eq_append_getElem hi, pfxL_append, h, pfxL_one]; rfl
theorem pfxL_stop {l : List Tr} {i : Nat} (hi : i < l.length) {ys : List Int} (h : pfxL (l.take i) = (ys, true)) (hx : (pfx l[i]).2 = false) : pfxL l = (ys ++ (pfx l[i]).1, false) := by
  have h1 := pfxL_take hi h
  rw [hx] at h1
  have h2 := pfxL_append (l.take (i + 1)) (l.drop (i + 1))
  rw [List.take_append_drop, h1] at h2
  simpa using h2

mutual
theorem pfx_len : ∀ t : Tr, (pfx t).1.length ≤ (parts t).length
  | ⟨op, kids, rune, set, at_, cap, name, mn, mx, lz⟩ => by
    have h1 := pfxH_len kids
    have h2 := pfxL_len kids
    rw [pfx, parts]
    repeat' split
    all_goals simp only [List.length_cons, List.length_nil]
    all_goals omega
theorem pfxH_len : ∀ l : List Tr, (pfxH l).1.length ≤ (partsL l).length
  | [] => by rw [pfxH]; simp
  | x :: xs => by
    have := pfx_len x
    rw [pfxH, partsL, List.length_append]; omega
theorem pfxL_len : ∀ l : List Tr, (pfxL l).1.length ≤ (partsL l).length
  | [] => by rw [pfxL]; simp
  | x :: xs => by
    have h1 := pfx_len x
    have h2 := pfxL_len xs
    rw [pfxL, partsL, List.length_append]
    split
    · simp only [List.length_append]; omega
    · omega
 end
end Go.Proofs.Ytdnbholiijgedaa
namespace Go.Proofs.Ytdnbholiijgedaa
open Go.RowKit
set_option linter.unusedVariables false

theorem balc {B : Nat} {w w1 : World} (h : Below B w w1) (hB : B ≤ w.heap.size) (o : Obj) : Below B w (w1.alloc o) := h.alloc (Nat.le_trans hB h.size) o

/-- The first of a list of trees, cell by cell, as the walk asks for it. -/
theorem trArr_at0 {ok : Nat → Prop} {w : World} {A : Option Addr} {xs : List Tr} (h : Arr ok w 10 (TrC ok w) A xs) (wr : World) (hmv : ∀ b, ok b → b < w.heap.size → wr.heap[b]? = w.heap[b]?) (hi : 0 < xs.length) :
    ∃ ad A1 c1 A3 c3, A = some ad ∧ TrC ok w xs[0] [.int .i64 xs[0].op, .slice A1 xs[0].kids.length c1, .int .i32 xs[0].rune, .slice A3 xs[0].set.length c3, .int .i64 xs[0].at_, .int .i64 xs[0].cap, .string xs[0].name, .int .i64 xs[0].mn, .int .i64 xs[0].mx, .bool xs[0].lz] ∧
      wr.cell? ad = some (.int .i64 xs[0].op) ∧ wr.cell? ⟨ad.block, ad.off + 1, none⟩ = some (.slice A1 xs[0].kids.length c1) ∧
      wr.cell? ⟨ad.block, ad.off + 2, none⟩ = some (.int .i32 xs[0].rune) ∧ wr.cell? ⟨ad.block, ad.off + 3, none⟩ = some (.slice A3 xs[0].set.length c3) ∧
      wr.cell? ⟨ad.block, ad.off + 4, none⟩ = some (.int .i64 xs[0].at_) ∧ wr.cell? ⟨ad.block, ad.off + 5, none⟩ = some (.int .i64 xs[0].cap) ∧
      wr.cell? ⟨ad.block, ad.off + 6, none⟩ = some (.string xs[0].name) ∧ wr.cell? ⟨ad.block, ad.off + 7, none⟩ = some (.int .i64 xs[0].mn) ∧
      wr.cell? ⟨ad.block, ad.off + 8, none⟩ = some (.int .i64 xs[0].mx) ∧ wr.cell? ⟨ad.block, ad.off + 9, none⟩ = some (.bool xs[0].lz) := by
  obtain ⟨ad, A1, c1, A3, c3, rfl, hT, g⟩ := trArr_at h wr hmv 0 hi
  have h0 : ad.add (0 * 10) = ad := rfl
  rw [h0] at g
  exact ⟨ad, A1, c1, A3, c3, rfl, hT, g⟩

theorem parts_kid {t : Tr} {i : Nat} (hi : i < t.kids.length) : ((t.kids.take i).flatMap parts).length + (parts t.kids[i]).length + 1 ≤ (parts t).length := by
  have hp := parts_eq t
  rw [hp, partsL_flat]
  have h9 := congrArg List.length (congrArg (List.flatMap parts) (List.take_append_drop (i + 1) t.kids))
  rw [List.flatMap_append, List.length_append, List.take_succ_eq_append_getElem hi, List.flatMap_append, List.length_append] at h9
  simp only [List.flatMap_cons, List.flatMap_nil, List.append_nil, List.length_cons] at h9 ⊢
  omega
theorem mem_parts_kid {t : Tr} {i : Nat} (hi : i < t.kids.length) {p : Tr} (hp : p ∈ parts t.kids[i]) : p ∈ parts t := by
  rw [parts_eq, partsL_flat]; exact List.mem_cons_of_mem _ (List.mem_flatMap.2 ⟨_, List.getElem_mem hi, hp⟩)
theorem mem_parts_self (t : Tr) : t ∈ parts t := by rw [parts_eq]; simp
end Go.Proofs.Ytdnbholiijgedaa
