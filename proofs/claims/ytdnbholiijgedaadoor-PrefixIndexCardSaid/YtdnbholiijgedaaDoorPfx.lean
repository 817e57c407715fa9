/-
  What a tree's matches begin with: the plain words. No condition.
-/
import Derived.Test.YtdnbholiijgedaaDoorCore
namespace Go.Proofs.YtdnbholiijgedaaDoor
set_option linter.unusedVariables false

mutual
def pfx : Tr → List Int × Bool
  | ⟨op, kids, rune, set, at_, cap, name, mn, mx, lz⟩ =>
    if op = 2 then ([], true) else if op = 3 then ([rune], true) else
    if op = 6 ∨ (op = 12 ∧ kids.length = 1) then pfxH kids else
    if op = 8 ∨ (op = 10 ∧ 0 < mn) then ((pfxH kids).1, false) else
    if op = 11 then pfxL kids else ([], false)
def pfxH : List Tr → List Int × Bool
  | [] => ([], false)
  | x :: _ => pfx x
def pfxL : List Tr → List Int × Bool
  | [] => ([], true)
  | x :: xs => if (pfx x).2 = true then ((pfx x).1 ++ (pfxL xs).1, (pfxL xs).2) else pfx x
 end

theorem pfx_eq (t : Tr) : pfx t = if t.op = 2 then ([], true) else if t.op = 3 then ([t.rune], true) else
    if t.op = 6 ∨ (t.op = 12 ∧ t.kids.length = 1) then pfxH t.kids else
    if t.op = 8 ∨ (t.op = 10 ∧ 0 < t.mn) then ((pfxH t.kids).1, false) else
    if t.op = 11 then pfxL t.kids else ([], false) := by cases t; rw [pfx]
theorem pfxH_eq {l : List Tr} (h : 0 < l.length) : pfxH l = pfx l[0] := by
  cases l with
  | nil => simp at h
  | cons x xs => rw [pfxH]; rfl
theorem pfxL_append : ∀ (a b : List Tr), pfxL (a ++ b) = if (pfxL a).2 = true then ((pfxL a).1 ++ (pfxL b).1, (pfxL b).2) else pfxL a
  | [], b => by simp [pfxL]
  | x :: a, b => by
    rw [List.cons_append, pfxL, pfxL, pfxL_append a b]
    by_cases h : (pfx x).2 = true
    · rw [if_pos h, if_pos h]
      by_cases h2 : (pfxL a).2 = true
      · simp [h2]
      · simp [h2]
    · rw [if_neg h, if_neg h, if_neg h]
theorem pfxL_one (x : Tr) : pfxL [x] = pfx x := by
  rw [pfxL, pfxL]
  by_cases h : (pfx x).2 = true
  · rw [if_pos h]; cases hp : pfx x; simp_all
  · rw [if_neg h]
theorem pfxL_take {l : List Tr} {i : Nat} (hi : i < l.length) {ys : List Int} (h : pfxL (l.take i) = (ys, true)) : pfxL (l.take (i + 1)) = (ys ++ (pfx l[i]).1, (pfx l[i]).2) := by
  rw [List.take_succ_eq_append_getElem hi, pfxL_append, h, pfxL_one]; rfl
theorem pfxL_stop {l : List Tr} {i : Nat} (hi : i < l.length) {ys : List Int} (h : pfxL (l.take i) = (ys, true)) (hx : (pfx l[i]).2 = false) : pfxL l = (ys ++ (pfx l[i]).1, false) := by
  have h1 := pfxL_take hi h
  rw [hx] at h1
  have h2 := pfxL_append (l.take (i + 1)) (l.drop (i + 1))
  rw [List.take_append_drop, h1] at h2
  simpa using h2

mutual
theorem pfx_len : ∀ t : Tr, (pfx t).1.length ≤ (parts t).length
  | ⟨op, kids, rune, set, at_, cap, name, mn, mx, lz⟩ => by
    have h1 := pfxH_len kids
    have h2 := pfxL_len kids
    rw [pfx, parts]
    repeat' split
    all_goals simp only [List.length_cons, List.length_nil]
    all_goals omega
theorem pfxH_len : ∀ l : List Tr, (pfxH l).1.length ≤ (partsL l).length
  | [] => by rw [pfxH]; simp
  | x :: xs => by
    have := pfx_len x
    rw [pfxH, partsL, List.length_append]; omega
theorem pfxL_len : ∀ l : List Tr, (pfxL l).1.length ≤ (partsL l).length
  | [] => by rw [pfxL]; simp
  | x :: xs => by
    have h1 := pfx_len x
    have h2 := pfxL_len xs
    rw [pfxL, partsL, List.length_append]
    split
    · simp only [List.length_append]; omega
    · omega
 end
end Go.Proofs.YtdnbholiijgedaaDoor
