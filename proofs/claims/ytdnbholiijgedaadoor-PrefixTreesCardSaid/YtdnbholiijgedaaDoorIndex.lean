/-
  slices.Index over runes, slices.Reverse, prefix.reversed, the step of prefix.Index. No condition.
-/
import Derived.Test.YtdnbholiijgedaaDoorText
import Derived.Test.YtdnbholiijgedaaDoorRunes
import Derived.Test.YtdnbholiijgedaaDoorClone
import Derived.Ground.SlgnProg
import Derived.Shelf.SlicesE.Reverse
import Derived.Lib.OwnBridge
import Derived.Lib.SmallJoins
namespace Go.Proofs.YtdnbholiijgedaaDoor
open Go.RowKit Go.Shelf
set_option linter.unusedVariables false

set_option maxHeartbeats 400000 in
theorem indexRune_any (w : World) (ok : Nat → Prop) (A : Option Addr) (c : Nat) (xs : List Int) (v : Int) (h : Arr ok w 1 (IntC .i32) A xs) (hl : xs.length ≤ 9223372036854775807) :
    Calls Tryd.prog 24 #[.slice A xs.length c, .int .i32 v] w fun e w' => e = .returned (.int .i64 (idxI xs v)) ∧ w = w' := by
  go_enter Tryd.func24, Tryd.ntmps24
  go_wp2
  go_loop [8] (fun i => ∃ k : Nat, k ≤ xs.length ∧ i = .int .i64 k ∧ ∀ j (hj : j < xs.length), j < k → ¬ v = xs[j]) (fun i => xs.length - (intOf i).toNat)
  case atStart => exact ⟨0, Nat.zero_le _, rfl, fun j _ h => by omega⟩
  case round =>
    obtain ⟨k, hk, rfl, hb⟩ := hrel
    have HB := Lib.hid hb
    clear hb
    by_cases hlt : k < xs.length
    · obtain ⟨ad, rfl, hc⟩ := ints_at h k hlt
      by_cases he : (v == xs[k]) = true
      · go_wp2
        go_ret
        exact ⟨ret_int (idxI_some hlt he HB.out).symm, rfl⟩
      · have he' : (v == xs[k]) = false := by simpa using he
        clear he
        have HE := Lib.hid he'
        go_wp2
        go_round
        case rel =>
          exact ⟨k + 1, by omega, by go_num, fun j hj hjk => by
            rcases Nat.lt_or_ge j k with h1 | h1
            · exact HB.out j hj h1
            · obtain rfl : j = k := by omega
              simpa using HE.out⟩
        case measure => simp [intOf]; omega
    · obtain rfl : k = xs.length := by omega
      go_wp2
      go_ret
      exact ⟨ret_int (idxI_none (fun j hj => HB.out j hj hj)).symm, rfl⟩

/-! ### slices.Reverse, by the shelf's contract; prefix.reversed -/
def layRevNums : Go.Shelf.Ren := ⟨fun | 35 => 36 | n => n, fun | 3 => 3 | 4 => 4 | 22 => 30 | 23 => 21 | n => n, fun n => n⟩
theorem layRev : SlLaysE.n35 Tryd.prog layRevNums := {
  mixed := by kernel_rfl
  f35 := ⟨Tryd.f36.name, by decide, Tryd.func36.trans (congrArg some (by kernel_rfl))⟩
  t0 := Tryd.underlying0
  a0 := Tryd.isAgg0
  z0 := Tryd.sizeOf0
  v0 := Tryd.zeroValue0
  t3 := Tryd.underlying3
  a3 := Tryd.isAgg3
  z3 := Tryd.sizeOf3
  v3 := Tryd.zeroValue3
  t4 := Tryd.underlying4
  a4 := Tryd.isAgg4
  z4 := Tryd.sizeOf4
  v4 := Tryd.zeroValue4
  t22 := Tryd.underlying30
  a22 := Tryd.isAgg30
  z22 := Tryd.sizeOf30
  v22 := Tryd.zeroValue30
  a23 := Tryd.isAgg21
  z23 := Tryd.sizeOf21 }

theorem flat_runes (xs : List Int) : (xs.map runeC).flatten = xs.map (Value.int .i32) := by
  induction xs with
  | nil => rfl
  | cons x xs ih => rw [List.map_cons, List.flatten_cons, ih]; rfl
theorem ownI_row {w : World} {base : Nat} {v : Value} {xs : List Int} : OwnI w base v xs ↔ w.ownsRow base 21 1 v xs.length (xs.map (Value.int .i32)) := by
  unfold OwnI Owns
  rw [flat_runes, List.length_map]
  exact ⟨fun h => h.1, fun h => ⟨h, fun c hc => by obtain ⟨x, _, rfl⟩ := List.mem_map.1 hc; rfl⟩⟩
def RevPost (base : Nat) (v : Value) (xs : List Int) (w1 : World) (e : Ending) (w' : World) : Prop := e = .returned (.tuple #[]) ∧ OwnI w' base v xs.reverse ∧ Below base w1 w'
theorem reverse_own (w1 : World) (base : Nat) (v : Value) (xs : List Int) (ho : OwnI w1 base v xs) : Calls Tryd.prog 36 #[v] w1 (RevPost base v xs w1) := by
  have h1 := ownI_row.1 ho
  rcases Joins.ownsRow_forms h1 with ⟨rfl, hn⟩ | ⟨g, cap, rfl⟩
  · have hx : xs = [] := List.eq_nil_of_length_eq_zero hn
    subst hx
    refine (AnyE.slices_Reverse_empty layRev none 0 w1).mono ?_
    rintro e w' ⟨rfl, rfl⟩
    exact ⟨rfl, ho, below_w⟩
  · obtain ⟨g', cap', e0, hbg, hlt, hnc, hcm, hlen, hH⟩ := Lib.holds_of_ownsRow h1 (by simp)
    injection e0 with e1 _ e3
    injection e1 with e1
    injection e1 with e1
    subst e1; subst e3
    refine (AnyE.slices_Reverse layRev (Value.int .i32) (fun _ => rfl) g 0 cap xs w1 hH (by unfold maxLen at hcm; omega)).mono ?_
    rintro e w' ⟨rfl, q, rfl⟩
    have h2 := Lib.ownsRow_putRow (q := q) (ys := xs.reverse) h1 (by simp) (Nat.le_refl _)
    rw [List.take_of_length_le (by simp)] at h2
    exact ⟨rfl, ownI_row.2 (by simpa using h2), Lib.below_putRow (below_w) hbg⟩

def ReversedPost (xs : List Int) (w : World) (e : Ending) (w' : World) : Prop := ∃ v', e = .returned v' ∧ OwnI w' w.heap.size v' xs.reverse ∧ Below w.heap.size w w'
set_option maxHeartbeats 1000000 in
theorem reversed_any (ok : Nat → Prop) (w : World) (A : Option Addr) (c : Nat) (xs : List Int) (h : Arr ok w 1 (IntC .i32) A xs) (hN : xs.length ≤ 1000000000) :
    Calls Tryd.prog 25 #[.slice A xs.length c] w (ReversedPost xs w) := by
  have hcl := cloneRune Int (IntC .i32) (fun x c hc u hu => by rw [hc] at hu; simp at hu; subst hu; rfl) ok w A c xs h (by omega)
  clear h
  go_enter Tryd.func25, Tryd.ntmps25
  go_wp2_with (first
    | (go_at_call 35
       refine hcl.mono ?_
       rintro e w1 ⟨v1, css, rfl, hl, hE, ho, hb⟩
       have hcs : css = xs.map runeC := by
         apply List.ext_getElem
         · simpa using hl
         · intro i h1 h2
           have := hE i _ _ (List.getElem?_eq_getElem (by omega)) (List.getElem?_eq_getElem h1)
           rw [this]; simp [runeC]
       have hr := reverse_own w1 w.heap.size v1 xs (by unfold OwnI; rw [← hcs]; exact ho)
       have HB := Lib.hid hb
       clear hl hE ho hb hcs css)
    | (go_at_call 36
       refine hr.mono ?_
       rintro e w2 ⟨rfl, h2, h3⟩
       have H2 := Lib.hid (And.intro h2 h3)
       clear h2 h3 hr))
  go_ret
  exact ⟨_, rfl, H2.out.1, HB.out.trans H2.out.2⟩
end Go.Proofs.YtdnbholiijgedaaDoor
