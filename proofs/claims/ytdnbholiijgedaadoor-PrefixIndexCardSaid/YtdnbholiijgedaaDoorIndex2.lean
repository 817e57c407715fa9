/-
  The step of prefix.Index: how far the runes may be moved; prefix.Index: the first place at which the runes stand. No condition.
-/
import Derived.Test.YtdnbholiijgedaaDoorIndex
import Derived.Deep.QuietTactic
import Derived.BigQuiet
namespace Go.Proofs.YtdnbholiijgedaaDoor
open Go.RowKit Go.Shelf
set_option linter.unusedVariables false

/-! ### the law behind the step -/
def stepOf (l : List Int) (c : Int) : Nat := if 0 ≤ idxI l.dropLast.reverse c then (idxI l.dropLast.reverse c).toNat + 1 else l.length

theorem step_pos {l : List Int} (c : Int) (h : 0 < l.length) : 0 < stepOf l c := by
  unfold stepOf; split <;> omega

theorem arr_take {ok : Nat → Prop} {w : World} {A : Option Addr} {l : List Int} (h : Arr ok w 1 (IntC .i32) A l) : Arr ok w 1 (IntC .i32) A l.dropLast := by
  intro i x hi
  apply h i x
  rw [List.dropLast_eq_take, List.getElem?_take] at hi
  split at hi
  · exact hi
  · cases hi

theorem cell_lt {w : World} {p : Addr} {v : Value} (h : w.cell? p = some v) : p.block < w.heap.size := by
  rcases Nat.lt_or_ge p.block w.heap.size with h1 | h1
  · exact h1
  · unfold World.cell? at h
    rw [Array.getElem?_eq_none h1] at h
    simp at h
theorem idxI_lt (xs : List Int) (v : Int) : idxI xs v < xs.length := by
  unfold idxI
  split
  · rename_i i h
    have := (List.findIdx?_eq_some_iff_getElem.1 h).1
    omega
  · omega

def StepPost (l : List Int) (c : Int) (w : World) (e : Ending) (w' : World) : Prop := e = .returned (.int .i64 (stepOf l c)) ∧ Below w.heap.size w w'
set_option maxHeartbeats 1000000 in
theorem step_any (ok : Nat → Prop) (w : World) (bl bn : Addr) (A : Option Addr) (cap : Nat) (l : List Int) (c : Int) (h : Arr ok w 1 (IntC .i32) A l) (hb : w.cell? bl = some (.slice A l.length cap)) (hn : w.cell? bn = some (.int .i64 l.length)) (hp : 0 < l.length) (hcap : l.length ≤ cap) (hN : l.length ≤ 1000000000) :
    Calls Tryd.prog 23 #[.int .i32 c, .pointer (some bl), .pointer (some bn)] w (StepPost l c w) := by
  obtain ⟨ad, hA, _⟩ := ints_at h 0 hp
  subst hA
  have hrev := reversed_any ok w (some ad) cap l.dropLast (arr_take h) (by simp; omega)
  rw [List.length_dropLast] at hrev
  have hl1 : ((l.length : Int) - 1).toNat = l.length - 1 := by omega
  have hix : ∀ (w1 : World) (A1 : Option Addr) (c1 : Nat), OwnI w1 w.heap.size (.slice A1 (l.length - 1) c1) l.dropLast.reverse → Calls Tryd.prog 24 #[.slice A1 (l.length - 1) c1, .int .i32 c] w1 fun e w' => e = .returned (.int .i64 (idxI l.dropLast.reverse c)) ∧ w1 = w' := by
    intro w1 A1 c1 ho
    have h2 := Owns.arr ho (E := IntC .i32) (xs := l.dropLast.reverse) (by simp) (by intro i x cs hx hc; rw [List.getElem?_map, hx] at hc; simp at hc; subst hc; rfl) (ok := fun _ => True) (fun _ _ => trivial)
    have h3 := indexRune_any w1 _ A1 c1 l.dropLast.reverse c h2 (by simp; omega)
    simpa using h3
  have hz3 : idxI l.dropLast.reverse c < 1000000000 := by have := idxI_lt l.dropLast.reverse c; simp at this; omega
  have HS : Hid ((0 ≤ idxI l.dropLast.reverse c → stepOf l c = (idxI l.dropLast.reverse c).toNat + 1) ∧ (idxI l.dropLast.reverse c < 0 → stepOf l c = l.length)) := Lib.hid ⟨fun hz => by unfold stepOf; rw [if_pos hz], fun hz => by unfold stepOf; rw [if_neg (by omega)]⟩
  generalize idxI l.dropLast.reverse c = z at *
  clear h
  go_enter Tryd.func23, Tryd.ntmps23
  go_wp2_with (first
    | (go_at_call 25
       refine hrev.mono ?_
       rintro e w1 ⟨v1, rfl, ho, hb1⟩
       obtain ⟨A1, c1, rfl, _, _⟩ := ho.shape
       simp only [List.length_map, List.length_reverse, List.length_dropLast] at ho ⊢
       have HO := Lib.hid ho
       have hn' := (hb1.cell (cell_lt hn)).trans hn
       have HB := Lib.hid hb1
       clear ho hb1)
    | (go_at_call 24
       refine (hix w1 A1 c1 HO.out).mono ?_
       rintro e w2 ⟨rfl, rfl⟩))
  · go_ret
    exact ⟨ret_int (by rw [HS.out.1 (by omega)]; omega), HB.out⟩
  · go_ret
    exact ⟨ret_int (by rw [HS.out.2 (by omega)]), HB.out⟩
end Go.Proofs.YtdnbholiijgedaaDoor
