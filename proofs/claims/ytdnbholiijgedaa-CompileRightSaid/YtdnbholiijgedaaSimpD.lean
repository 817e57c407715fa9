/-
  simplify: star, plus, quest. No condition.
-/
import Derived.Test.YtdnbholiijgedaaSimpC
namespace Go.Proofs.Ytdnbholiijgedaa
open Go.RowKit
set_option linter.unusedVariables false

theorem arr_one {ok : Nat → Prop} {w : World} {b : Nat} {t : Tr} {cs : List Value} (h : w.heap[b]? = some (.cells cs.toArray 27 (0, 0))) (hok : ok b) (ht : TrC ok w t cs) : Arr ok w 10 (TrC ok w) (some ⟨b, 0, none⟩) [t] := by
  intro i x hx
  have hi : i < 1 := (List.getElem?_eq_some_iff.1 hx).1
  obtain rfl : i = 0 := by omega
  simp at hx
  subst hx
  refine ⟨_, cs, rfl, hok, ht, ht.len, fun j u hu => ?_⟩
  have : (⟨b, 0, none⟩ : Addr).add (0 * 10 + j) = ⟨b, j, none⟩ := by unfold Addr.add; split <;> simp_all
  rw [this, cell_of_blk h]; simpa using hu
def starS (t : Tr) (lz : Bool) : Tr := if movesB t = true then opT 7 [t] lz else opT 2 [] false
set_option maxRecDepth 100000 in
set_option maxHeartbeats 2000000 in
theorem star_any (ok : Nat → Prop) (w : World) (t : Tr) (cs : List Value) (lz : Bool) (ht : TrC ok w t cs) (hs : ∀ p ∈ parts t, p.kids.length ≤ 140737488351232) :
    Calls Try.prog 46 #[.agg cs.toArray, .bool lz] w (TreePost ok (starS t lz) w) := by
  have ht0 := ht.old
  obtain ⟨A, c, B, d, rfl, _⟩ := trC_iff.1 ht
  have hmv := fun (W : World) (hW : Below w.heap.size w W) => moves_any _ _ t _ W (Nat.le_refl _) (ht0.move (fun b hb _ => ⟨hW.block b hb.2, hb⟩)) hs
  have HT := Lib.hid ht0
  clear ht ht0 hs
  go_enter Try.func46, Try.ntmps46
  go_wp2_with fail
  have yb := below_al (below_al (Below.refl w.heap.size w) (.cells #[.int .i64 t.op, .slice A t.kids.length c, .int .i32 t.rune, .slice B t.set.length d, .int .i64 t.at_, .int .i64 t.cap, .string t.name, .int .i64 t.mn, .int .i64 t.mx, .bool t.lz] 27)) (.cells #[.int .i64 0, .slice none 0 0, .int .i32 0, .slice none 0 0, .int .i64 0, .int .i64 0, .string ⟨#[]⟩, .int .i64 0, .int .i64 0, .bool false] 27)
  have y1 : ((w.alloc (.cells #[.int .i64 t.op, .slice A t.kids.length c, .int .i32 t.rune, .slice B t.set.length d, .int .i64 t.at_, .int .i64 t.cap, .string t.name, .int .i64 t.mn, .int .i64 t.mx, .bool t.lz] 27)).alloc (.cells #[.int .i64 0, .slice none 0 0, .int .i32 0, .slice none 0 0, .int .i64 0, .int .i64 0, .string ⟨#[]⟩, .int .i64 0, .int .i64 0, .bool false] 27)).heap[w.heap.size]? = some (.cells #[.int .i64 t.op, .slice A t.kids.length c, .int .i32 t.rune, .slice B t.set.length d, .int .i64 t.at_, .int .i64 t.cap, .string t.name, .int .i64 t.mn, .int .i64 t.mx, .bool t.lz] 27) := (Below.heap_alloc _ _ _ (by simp)).trans (heap_new1 _ _)
  have y2 : ((w.alloc (.cells #[.int .i64 t.op, .slice A t.kids.length c, .int .i32 t.rune, .slice B t.set.length d, .int .i64 t.at_, .int .i64 t.cap, .string t.name, .int .i64 t.mn, .int .i64 t.mx, .bool t.lz] 27)).alloc (.cells #[.int .i64 0, .slice none 0 0, .int .i32 0, .slice none 0 0, .int .i64 0, .int .i64 0, .string ⟨#[]⟩, .int .i64 0, .int .i64 0, .bool false] 27)).heap[w.heap.size + 1]? = some (.cells #[.int .i64 0, .slice none 0 0, .int .i32 0, .slice none 0 0, .int .i64 0, .int .i64 0, .string ⟨#[]⟩, .int .i64 0, .int .i64 0, .bool false] 27) := heap_new2 _ _ _
  refine (hmv _ yb).mono ?_
  clear hmv
  rintro e w1 ⟨rfl, hb1⟩
  dsimp only
  have x1 := (hb1.block _ (heap_lt y1)).trans y1
  have x2 := (hb1.block _ (heap_lt y2)).trans y2
  have xb := below_and hb1 yb
  clear y1 y2 yb hb1
  have n2 := heap_lt x2
  have n1 : w.heap.size < w1.heap.size := by omega
  have hfz := frozen_of x2
  obtain ⟨g0, g1, g2, g3, g4, g5, g6, g7, g8, g9⟩ := cells10 x1
  obtain ⟨k0, k1, k2, k3, k4, k5, k6, k7, k8, k9⟩ := cells10 x2
  have HB := Lib.hid (And.intro x1 (And.intro x2 xb))
  clear x1 x2 xb
  have HS := Lib.hid (show starS t lz = if movesB t = true then opT 7 [t] lz else opT 2 [] false from rfl)
  generalize starS t lz = J at *
  cases hm : movesB t with
  | true =>
    rw [hm] at HS
    go_wp2_with fail
    have q0 := set10_blk HB.out.2.1 (.int .i64 7) (.slice (some ⟨w1.heap.size, 0, none⟩) 1 1) (.int .i32 0) (.slice none 0 0) (.int .i64 0) (.int .i64 0) (.string ⟨#[]⟩) (.int .i64 0) (.int .i64 0) (.bool lz)
    have qs : ((((((((((w1.setCell ⟨w.heap.size + 1, 0, none⟩ (.int .i64 7)).setCell ⟨w.heap.size + 1, 1, none⟩ (.slice (some ⟨w1.heap.size, 0, none⟩) 1 1)).setCell ⟨w.heap.size + 1, 2, none⟩ (.int .i32 0)).setCell ⟨w.heap.size + 1, 3, none⟩ (.slice none 0 0)).setCell ⟨w.heap.size + 1, 4, none⟩ (.int .i64 0)).setCell ⟨w.heap.size + 1, 5, none⟩ (.int .i64 0)).setCell ⟨w.heap.size + 1, 6, none⟩ (.string ⟨#[]⟩)).setCell ⟨w.heap.size + 1, 7, none⟩ (.int .i64 0)).setCell ⟨w.heap.size + 1, 8, none⟩ (.int .i64 0)).setCell ⟨w.heap.size + 1, 9, none⟩ (.bool lz)).heap.size = w1.heap.size := by simp [size_set]
    have qo : ∀ b, b ≠ w.heap.size + 1 → ((((((((((w1.setCell ⟨w.heap.size + 1, 0, none⟩ (.int .i64 7)).setCell ⟨w.heap.size + 1, 1, none⟩ (.slice (some ⟨w1.heap.size, 0, none⟩) 1 1)).setCell ⟨w.heap.size + 1, 2, none⟩ (.int .i32 0)).setCell ⟨w.heap.size + 1, 3, none⟩ (.slice none 0 0)).setCell ⟨w.heap.size + 1, 4, none⟩ (.int .i64 0)).setCell ⟨w.heap.size + 1, 5, none⟩ (.int .i64 0)).setCell ⟨w.heap.size + 1, 6, none⟩ (.string ⟨#[]⟩)).setCell ⟨w.heap.size + 1, 7, none⟩ (.int .i64 0)).setCell ⟨w.heap.size + 1, 8, none⟩ (.int .i64 0)).setCell ⟨w.heap.size + 1, 9, none⟩ (.bool lz)).heap[b]? = w1.heap[b]? := fun b hb => set10_ne hb _ _ _ _ _ _ _ _ _ _
    have qb := below_set10 HB.out.2.2 (show w.heap.size ≤ w.heap.size + 1 by omega) (.int .i64 7) (.slice (some ⟨w1.heap.size, 0, none⟩) 1 1) (.int .i32 0) (.slice none 0 0) (.int .i64 0) (.int .i64 0) (.string ⟨#[]⟩) (.int .i64 0) (.int .i64 0) (.bool lz)
    generalize ((((((((((w1.setCell ⟨w.heap.size + 1, 0, none⟩ (.int .i64 7)).setCell ⟨w.heap.size + 1, 1, none⟩ (.slice (some ⟨w1.heap.size, 0, none⟩) 1 1)).setCell ⟨w.heap.size + 1, 2, none⟩ (.int .i32 0)).setCell ⟨w.heap.size + 1, 3, none⟩ (.slice none 0 0)).setCell ⟨w.heap.size + 1, 4, none⟩ (.int .i64 0)).setCell ⟨w.heap.size + 1, 5, none⟩ (.int .i64 0)).setCell ⟨w.heap.size + 1, 6, none⟩ (.string ⟨#[]⟩)).setCell ⟨w.heap.size + 1, 7, none⟩ (.int .i64 0)).setCell ⟨w.heap.size + 1, 8, none⟩ (.int .i64 0)).setCell ⟨w.heap.size + 1, 9, none⟩ (.bool lz)) = w2 at *
    have q1 := heap_new1 w2 (.cells #[.int .i64 t.op, .slice A t.kids.length c, .int .i32 t.rune, .slice B t.set.length d, .int .i64 t.at_, .int .i64 t.cap, .string t.name, .int .i64 t.mn, .int .i64 t.mx, .bool t.lz] 27)
    rw [qs] at q1
    obtain ⟨z0, z1, z2, z3, z4, z5, z6, z7, z8, z9⟩ := cells10 ((Below.heap_alloc w2 (.cells #[.int .i64 t.op, .slice A t.kids.length c, .int .i32 t.rune, .slice B t.set.length d, .int .i64 t.at_, .int .i64 t.cap, .string t.name, .int .i64 t.mn, .int .i64 t.mx, .bool t.lz] 27) _ (heap_lt q0)).trans q0)
    refine bodyPost_ret (v := .agg #[.int .i64 7, .slice (some ⟨w1.heap.size, 0, none⟩) 1 1, .int .i32 0, .slice none 0 0, .int .i64 0, .int .i64 0, .string ⟨#[]⟩, .int .i64 0, .int .i64 0, .bool lz]) (by simp [results, Try.f46, go_sem, z0, z1, z2, z3, z4, z5, z6, z7, z8, z9]) rfl ?_
    rw [HS.out, if_pos (by simp)]
    refine ⟨_, rfl, opTrC (arr_one (cs := [.int .i64 t.op, .slice A t.kids.length c, .int .i32 t.rune, .slice B t.set.length d, .int .i64 t.at_, .int .i64 t.cap, .string t.name, .int .i64 t.mn, .int .i64 t.mx, .bool t.lz]) q1 (.inr (by omega)) (HT.out.move (fun b hb _ => ⟨(Below.heap_alloc _ _ _ (by rw [qs]; omega)).trans ((qo b (by omega)).trans (HB.out.2.2.block b hb.2)), .inl hb.1⟩))) (Nat.le_refl _) (by unfold maxLen; simp), below_al qb _⟩
  | false =>
    rw [hm] at HS
    go_wp2_with fail
    obtain ⟨z0, z1, z2, z3, z4, z5, z6, z7, z8, z9⟩ := cells10 (set10_blk HB.out.2.1 (.int .i64 2) (.slice none 0 0) (.int .i32 0) (.slice none 0 0) (.int .i64 0) (.int .i64 0) (.string ⟨#[]⟩) (.int .i64 0) (.int .i64 0) (.bool false))
    refine bodyPost_ret (v := .agg #[.int .i64 2, .slice none 0 0, .int .i32 0, .slice none 0 0, .int .i64 0, .int .i64 0, .string ⟨#[]⟩, .int .i64 0, .int .i64 0, .bool false]) (by simp [results, Try.f46, go_sem, z0, z1, z2, z3, z4, z5, z6, z7, z8, z9]) rfl ?_
    rw [HS.out, if_neg (by simp)]
    exact ⟨_, rfl, opTrC Arr.nil (Nat.le_refl _) (Nat.zero_le _), below_set10 HB.out.2.2 (by omega) _ _ _ _ _ _ _ _ _ _⟩
def plusS (t : Tr) (lz : Bool) : Tr := if movesB t = true then opT 8 [t] lz else t
set_option maxRecDepth 100000 in
set_option maxHeartbeats 2000000 in
theorem plus_any (ok : Nat → Prop) (w : World) (t : Tr) (cs : List Value) (lz : Bool) (ht : TrC ok w t cs) (hs : ∀ p ∈ parts t, p.kids.length ≤ 140737488351232) :
    Calls Try.prog 47 #[.agg cs.toArray, .bool lz] w (TreePost ok (plusS t lz) w) := by
  have ht0 := ht.old
  obtain ⟨A, c, B, d, rfl, _⟩ := trC_iff.1 ht
  have hmv := fun (W : World) (hW : Below w.heap.size w W) => moves_any _ _ t _ W (Nat.le_refl _) (ht0.move (fun b hb _ => ⟨hW.block b hb.2, hb⟩)) hs
  have HT := Lib.hid ht0
  clear ht ht0 hs
  go_enter Try.func47, Try.ntmps47
  go_wp2_with fail
  have yb := below_al (below_al (Below.refl w.heap.size w) (.cells #[.int .i64 t.op, .slice A t.kids.length c, .int .i32 t.rune, .slice B t.set.length d, .int .i64 t.at_, .int .i64 t.cap, .string t.name, .int .i64 t.mn, .int .i64 t.mx, .bool t.lz] 27)) (.cells #[.int .i64 0, .slice none 0 0, .int .i32 0, .slice none 0 0, .int .i64 0, .int .i64 0, .string ⟨#[]⟩, .int .i64 0, .int .i64 0, .bool false] 27)
  have y1 : ((w.alloc (.cells #[.int .i64 t.op, .slice A t.kids.length c, .int .i32 t.rune, .slice B t.set.length d, .int .i64 t.at_, .int .i64 t.cap, .string t.name, .int .i64 t.mn, .int .i64 t.mx, .bool t.lz] 27)).alloc (.cells #[.int .i64 0, .slice none 0 0, .int .i32 0, .slice none 0 0, .int .i64 0, .int .i64 0, .string ⟨#[]⟩, .int .i64 0, .int .i64 0, .bool false] 27)).heap[w.heap.size]? = some (.cells #[.int .i64 t.op, .slice A t.kids.length c, .int .i32 t.rune, .slice B t.set.length d, .int .i64 t.at_, .int .i64 t.cap, .string t.name, .int .i64 t.mn, .int .i64 t.mx, .bool t.lz] 27) := (Below.heap_alloc _ _ _ (by simp)).trans (heap_new1 _ _)
  have y2 : ((w.alloc (.cells #[.int .i64 t.op, .slice A t.kids.length c, .int .i32 t.rune, .slice B t.set.length d, .int .i64 t.at_, .int .i64 t.cap, .string t.name, .int .i64 t.mn, .int .i64 t.mx, .bool t.lz] 27)).alloc (.cells #[.int .i64 0, .slice none 0 0, .int .i32 0, .slice none 0 0, .int .i64 0, .int .i64 0, .string ⟨#[]⟩, .int .i64 0, .int .i64 0, .bool false] 27)).heap[w.heap.size + 1]? = some (.cells #[.int .i64 0, .slice none 0 0, .int .i32 0, .slice none 0 0, .int .i64 0, .int .i64 0, .string ⟨#[]⟩, .int .i64 0, .int .i64 0, .bool false] 27) := heap_new2 _ _ _
  refine (hmv _ yb).mono ?_
  clear hmv
  rintro e w1 ⟨rfl, hb1⟩
  dsimp only
  have x1 := (hb1.block _ (heap_lt y1)).trans y1
  have x2 := (hb1.block _ (heap_lt y2)).trans y2
  have xb := below_and hb1 yb
  clear y1 y2 yb hb1
  have n2 := heap_lt x2
  have n1 : w.heap.size < w1.heap.size := by omega
  have hfz := frozen_of x2
  obtain ⟨g0, g1, g2, g3, g4, g5, g6, g7, g8, g9⟩ := cells10 x1
  obtain ⟨k0, k1, k2, k3, k4, k5, k6, k7, k8, k9⟩ := cells10 x2
  have HB := Lib.hid (And.intro x1 (And.intro x2 xb))
  clear x1 x2 xb
  have HS := Lib.hid (show plusS t lz = if movesB t = true then opT 8 [t] lz else t from rfl)
  generalize plusS t lz = J at *
  cases hm : movesB t with
  | true =>
    rw [hm] at HS
    go_wp2_with fail
    have q0 := set10_blk HB.out.2.1 (.int .i64 8) (.slice (some ⟨w1.heap.size, 0, none⟩) 1 1) (.int .i32 0) (.slice none 0 0) (.int .i64 0) (.int .i64 0) (.string ⟨#[]⟩) (.int .i64 0) (.int .i64 0) (.bool lz)
    have qs : ((((((((((w1.setCell ⟨w.heap.size + 1, 0, none⟩ (.int .i64 8)).setCell ⟨w.heap.size + 1, 1, none⟩ (.slice (some ⟨w1.heap.size, 0, none⟩) 1 1)).setCell ⟨w.heap.size + 1, 2, none⟩ (.int .i32 0)).setCell ⟨w.heap.size + 1, 3, none⟩ (.slice none 0 0)).setCell ⟨w.heap.size + 1, 4, none⟩ (.int .i64 0)).setCell ⟨w.heap.size + 1, 5, none⟩ (.int .i64 0)).setCell ⟨w.heap.size + 1, 6, none⟩ (.string ⟨#[]⟩)).setCell ⟨w.heap.size + 1, 7, none⟩ (.int .i64 0)).setCell ⟨w.heap.size + 1, 8, none⟩ (.int .i64 0)).setCell ⟨w.heap.size + 1, 9, none⟩ (.bool lz)).heap.size = w1.heap.size := by simp [size_set]
    have qo : ∀ b, b ≠ w.heap.size + 1 → ((((((((((w1.setCell ⟨w.heap.size + 1, 0, none⟩ (.int .i64 8)).setCell ⟨w.heap.size + 1, 1, none⟩ (.slice (some ⟨w1.heap.size, 0, none⟩) 1 1)).setCell ⟨w.heap.size + 1, 2, none⟩ (.int .i32 0)).setCell ⟨w.heap.size + 1, 3, none⟩ (.slice none 0 0)).setCell ⟨w.heap.size + 1, 4, none⟩ (.int .i64 0)).setCell ⟨w.heap.size + 1, 5, none⟩ (.int .i64 0)).setCell ⟨w.heap.size + 1, 6, none⟩ (.string ⟨#[]⟩)).setCell ⟨w.heap.size + 1, 7, none⟩ (.int .i64 0)).setCell ⟨w.heap.size + 1, 8, none⟩ (.int .i64 0)).setCell ⟨w.heap.size + 1, 9, none⟩ (.bool lz)).heap[b]? = w1.heap[b]? := fun b hb => set10_ne hb _ _ _ _ _ _ _ _ _ _
    have qb := below_set10 HB.out.2.2 (show w.heap.size ≤ w.heap.size + 1 by omega) (.int .i64 8) (.slice (some ⟨w1.heap.size, 0, none⟩) 1 1) (.int .i32 0) (.slice none 0 0) (.int .i64 0) (.int .i64 0) (.string ⟨#[]⟩) (.int .i64 0) (.int .i64 0) (.bool lz)
    generalize ((((((((((w1.setCell ⟨w.heap.size + 1, 0, none⟩ (.int .i64 8)).setCell ⟨w.heap.size + 1, 1, none⟩ (.slice (some ⟨w1.heap.size, 0, none⟩) 1 1)).setCell ⟨w.heap.size + 1, 2, none⟩ (.int .i32 0)).setCell ⟨w.heap.size + 1, 3, none⟩ (.slice none 0 0)).setCell ⟨w.heap.size + 1, 4, none⟩ (.int .i64 0)).setCell ⟨w.heap.size + 1, 5, none⟩ (.int .i64 0)).setCell ⟨w.heap.size + 1, 6, none⟩ (.string ⟨#[]⟩)).setCell ⟨w.heap.size + 1, 7, none⟩ (.int .i64 0)).setCell ⟨w.heap.size + 1, 8, none⟩ (.int .i64 0)).setCell ⟨w.heap.size + 1, 9, none⟩ (.bool lz)) = w2 at *
    have q1 := heap_new1 w2 (.cells #[.int .i64 t.op, .slice A t.kids.length c, .int .i32 t.rune, .slice B t.set.length d, .int .i64 t.at_, .int .i64 t.cap, .string t.name, .int .i64 t.mn, .int .i64 t.mx, .bool t.lz] 27)
    rw [qs] at q1
    obtain ⟨z0, z1, z2, z3, z4, z5, z6, z7, z8, z9⟩ := cells10 ((Below.heap_alloc w2 (.cells #[.int .i64 t.op, .slice A t.kids.length c, .int .i32 t.rune, .slice B t.set.length d, .int .i64 t.at_, .int .i64 t.cap, .string t.name, .int .i64 t.mn, .int .i64 t.mx, .bool t.lz] 27) _ (heap_lt q0)).trans q0)
    refine bodyPost_ret (v := .agg #[.int .i64 8, .slice (some ⟨w1.heap.size, 0, none⟩) 1 1, .int .i32 0, .slice none 0 0, .int .i64 0, .int .i64 0, .string ⟨#[]⟩, .int .i64 0, .int .i64 0, .bool lz]) (by simp [results, Try.f47, go_sem, z0, z1, z2, z3, z4, z5, z6, z7, z8, z9]) rfl ?_
    rw [HS.out, if_pos (by simp)]
    refine ⟨_, rfl, opTrC (arr_one (cs := [.int .i64 t.op, .slice A t.kids.length c, .int .i32 t.rune, .slice B t.set.length d, .int .i64 t.at_, .int .i64 t.cap, .string t.name, .int .i64 t.mn, .int .i64 t.mx, .bool t.lz]) q1 (.inr (by omega)) (HT.out.move (fun b hb _ => ⟨(Below.heap_alloc _ _ _ (by rw [qs]; omega)).trans ((qo b (by omega)).trans (HB.out.2.2.block b hb.2)), .inl hb.1⟩))) (Nat.le_refl _) (by unfold maxLen; simp), below_al qb _⟩
  | false =>
    rw [hm] at HS
    go_wp2_with fail
    obtain ⟨z0, z1, z2, z3, z4, z5, z6, z7, z8, z9⟩ := cells10 (set10_blk HB.out.2.1 (.int .i64 t.op) (.slice A t.kids.length c) (.int .i32 t.rune) (.slice B t.set.length d) (.int .i64 t.at_) (.int .i64 t.cap) (.string t.name) (.int .i64 t.mn) (.int .i64 t.mx) (.bool t.lz))
    refine bodyPost_ret (v := .agg #[.int .i64 t.op, .slice A t.kids.length c, .int .i32 t.rune, .slice B t.set.length d, .int .i64 t.at_, .int .i64 t.cap, .string t.name, .int .i64 t.mn, .int .i64 t.mx, .bool t.lz]) (by simp [results, Try.f47, go_sem, z0, z1, z2, z3, z4, z5, z6, z7, z8, z9]) rfl ?_
    rw [HS.out, if_neg (by simp)]
    exact ⟨_, rfl, HT.out.move (fun b hb _ => ⟨(set10_ne (by omega) _ _ _ _ _ _ _ _ _ _).trans (HB.out.2.2.block b hb.2), .inl hb.1⟩), below_set10 HB.out.2.2 (by omega) _ _ _ _ _ _ _ _ _ _⟩
def questS (t : Tr) (lz : Bool) : Tr := if ([1, 2] : List Int).contains t.op = true then opT 2 [] false else opT 9 [t] lz
set_option maxRecDepth 100000 in
set_option maxHeartbeats 2000000 in
theorem quest_any (ok : Nat → Prop) (w : World) (t : Tr) (cs : List Value) (lz : Bool) (ht : TrC ok w t cs) :
    Calls Try.prog 48 #[.agg cs.toArray, .bool lz] w (TreePost ok (questS t lz) w) := by
  have ht0 := ht.old
  obtain ⟨A, c, B, d, rfl, _⟩ := trC_iff.1 ht
  have hmv := fun (W : World) (g : Nat) hg => is_lit W t A c B d [1, 2] g 2 rfl hg (by simp)
  unfold treeC at hmv
  have HT := Lib.hid ht0
  clear ht ht0
  go_enter Try.func48, Try.ntmps48
  go_wp2_with fail
  have yb := below_al (below_al (Below.refl w.heap.size w) (.cells #[.int .i64 t.op, .slice A t.kids.length c, .int .i32 t.rune, .slice B t.set.length d, .int .i64 t.at_, .int .i64 t.cap, .string t.name, .int .i64 t.mn, .int .i64 t.mx, .bool t.lz] 27)) (.cells #[.int .i64 0, .slice none 0 0, .int .i32 0, .slice none 0 0, .int .i64 0, .int .i64 0, .string ⟨#[]⟩, .int .i64 0, .int .i64 0, .bool false] 27)
  have y1 : ((w.alloc (.cells #[.int .i64 t.op, .slice A t.kids.length c, .int .i32 t.rune, .slice B t.set.length d, .int .i64 t.at_, .int .i64 t.cap, .string t.name, .int .i64 t.mn, .int .i64 t.mx, .bool t.lz] 27)).alloc (.cells #[.int .i64 0, .slice none 0 0, .int .i32 0, .slice none 0 0, .int .i64 0, .int .i64 0, .string ⟨#[]⟩, .int .i64 0, .int .i64 0, .bool false] 27)).heap[w.heap.size]? = some (.cells #[.int .i64 t.op, .slice A t.kids.length c, .int .i32 t.rune, .slice B t.set.length d, .int .i64 t.at_, .int .i64 t.cap, .string t.name, .int .i64 t.mn, .int .i64 t.mx, .bool t.lz] 27) := (Below.heap_alloc _ _ _ (by simp)).trans (heap_new1 _ _)
  have y2 : ((w.alloc (.cells #[.int .i64 t.op, .slice A t.kids.length c, .int .i32 t.rune, .slice B t.set.length d, .int .i64 t.at_, .int .i64 t.cap, .string t.name, .int .i64 t.mn, .int .i64 t.mx, .bool t.lz] 27)).alloc (.cells #[.int .i64 0, .slice none 0 0, .int .i32 0, .slice none 0 0, .int .i64 0, .int .i64 0, .string ⟨#[]⟩, .int .i64 0, .int .i64 0, .bool false] 27)).heap[w.heap.size + 1]? = some (.cells #[.int .i64 0, .slice none 0 0, .int .i32 0, .slice none 0 0, .int .i64 0, .int .i64 0, .string ⟨#[]⟩, .int .i64 0, .int .i64 0, .bool false] 27) := heap_new2 _ _ _
  have yb3 := below_al yb (.cells #[.int .i64 1, .int .i64 2] 22)
  have y1 := (Below.heap_alloc _ (.cells #[.int .i64 1, .int .i64 2] 22) _ (heap_lt y1)).trans y1
  have y2 := (Below.heap_alloc _ (.cells #[.int .i64 1, .int .i64 2] 22) _ (heap_lt y2)).trans y2
  refine (hmv _ _ (heap_new3 _ _ _ _)).mono ?_
  clear hmv
  rintro e w1 ⟨rfl, hb1⟩
  dsimp only
  have x1 := (hb1.block _ (heap_lt y1)).trans y1
  have x2 := (hb1.block _ (heap_lt y2)).trans y2
  have xb := below_and hb1 yb3
  clear y1 y2 yb yb3 hb1
  have n2 := heap_lt x2
  have n1 : w.heap.size < w1.heap.size := by omega
  have hfz := frozen_of x2
  obtain ⟨g0, g1, g2, g3, g4, g5, g6, g7, g8, g9⟩ := cells10 x1
  obtain ⟨k0, k1, k2, k3, k4, k5, k6, k7, k8, k9⟩ := cells10 x2
  have HB := Lib.hid (And.intro x1 (And.intro x2 xb))
  clear x1 x2 xb
  have HS := Lib.hid (show questS t lz = if ([1, 2] : List Int).contains t.op = true then opT 2 [] false else opT 9 [t] lz from rfl)
  generalize questS t lz = J at *
  generalize ([1, 2] : List Int).contains t.op = bb at *
  cases bb with
  | false =>
    go_wp2_with fail
    have q0 := set10_blk HB.out.2.1 (.int .i64 9) (.slice (some ⟨w1.heap.size, 0, none⟩) 1 1) (.int .i32 0) (.slice none 0 0) (.int .i64 0) (.int .i64 0) (.string ⟨#[]⟩) (.int .i64 0) (.int .i64 0) (.bool lz)
    have qs : ((((((((((w1.setCell ⟨w.heap.size + 1, 0, none⟩ (.int .i64 9)).setCell ⟨w.heap.size + 1, 1, none⟩ (.slice (some ⟨w1.heap.size, 0, none⟩) 1 1)).setCell ⟨w.heap.size + 1, 2, none⟩ (.int .i32 0)).setCell ⟨w.heap.size + 1, 3, none⟩ (.slice none 0 0)).setCell ⟨w.heap.size + 1, 4, none⟩ (.int .i64 0)).setCell ⟨w.heap.size + 1, 5, none⟩ (.int .i64 0)).setCell ⟨w.heap.size + 1, 6, none⟩ (.string ⟨#[]⟩)).setCell ⟨w.heap.size + 1, 7, none⟩ (.int .i64 0)).setCell ⟨w.heap.size + 1, 8, none⟩ (.int .i64 0)).setCell ⟨w.heap.size + 1, 9, none⟩ (.bool lz)).heap.size = w1.heap.size := by simp [size_set]
    have qo : ∀ b, b ≠ w.heap.size + 1 → ((((((((((w1.setCell ⟨w.heap.size + 1, 0, none⟩ (.int .i64 9)).setCell ⟨w.heap.size + 1, 1, none⟩ (.slice (some ⟨w1.heap.size, 0, none⟩) 1 1)).setCell ⟨w.heap.size + 1, 2, none⟩ (.int .i32 0)).setCell ⟨w.heap.size + 1, 3, none⟩ (.slice none 0 0)).setCell ⟨w.heap.size + 1, 4, none⟩ (.int .i64 0)).setCell ⟨w.heap.size + 1, 5, none⟩ (.int .i64 0)).setCell ⟨w.heap.size + 1, 6, none⟩ (.string ⟨#[]⟩)).setCell ⟨w.heap.size + 1, 7, none⟩ (.int .i64 0)).setCell ⟨w.heap.size + 1, 8, none⟩ (.int .i64 0)).setCell ⟨w.heap.size + 1, 9, none⟩ (.bool lz)).heap[b]? = w1.heap[b]? := fun b hb => set10_ne hb _ _ _ _ _ _ _ _ _ _
    have qb := below_set10 HB.out.2.2 (show w.heap.size ≤ w.heap.size + 1 by omega) (.int .i64 9) (.slice (some ⟨w1.heap.size, 0, none⟩) 1 1) (.int .i32 0) (.slice none 0 0) (.int .i64 0) (.int .i64 0) (.string ⟨#[]⟩) (.int .i64 0) (.int .i64 0) (.bool lz)
    generalize ((((((((((w1.setCell ⟨w.heap.size + 1, 0, none⟩ (.int .i64 9)).setCell ⟨w.heap.size + 1, 1, none⟩ (.slice (some ⟨w1.heap.size, 0, none⟩) 1 1)).setCell ⟨w.heap.size + 1, 2, none⟩ (.int .i32 0)).setCell ⟨w.heap.size + 1, 3, none⟩ (.slice none 0 0)).setCell ⟨w.heap.size + 1, 4, none⟩ (.int .i64 0)).setCell ⟨w.heap.size + 1, 5, none⟩ (.int .i64 0)).setCell ⟨w.heap.size + 1, 6, none⟩ (.string ⟨#[]⟩)).setCell ⟨w.heap.size + 1, 7, none⟩ (.int .i64 0)).setCell ⟨w.heap.size + 1, 8, none⟩ (.int .i64 0)).setCell ⟨w.heap.size + 1, 9, none⟩ (.bool lz)) = w2 at *
    have q1 := heap_new1 w2 (.cells #[.int .i64 t.op, .slice A t.kids.length c, .int .i32 t.rune, .slice B t.set.length d, .int .i64 t.at_, .int .i64 t.cap, .string t.name, .int .i64 t.mn, .int .i64 t.mx, .bool t.lz] 27)
    rw [qs] at q1
    obtain ⟨z0, z1, z2, z3, z4, z5, z6, z7, z8, z9⟩ := cells10 ((Below.heap_alloc w2 (.cells #[.int .i64 t.op, .slice A t.kids.length c, .int .i32 t.rune, .slice B t.set.length d, .int .i64 t.at_, .int .i64 t.cap, .string t.name, .int .i64 t.mn, .int .i64 t.mx, .bool t.lz] 27) _ (heap_lt q0)).trans q0)
    refine bodyPost_ret (v := .agg #[.int .i64 9, .slice (some ⟨w1.heap.size, 0, none⟩) 1 1, .int .i32 0, .slice none 0 0, .int .i64 0, .int .i64 0, .string ⟨#[]⟩, .int .i64 0, .int .i64 0, .bool lz]) (by simp [results, Try.f48, go_sem, z0, z1, z2, z3, z4, z5, z6, z7, z8, z9]) rfl ?_
    rw [HS.out, if_neg (by simp)]
    refine ⟨_, rfl, opTrC (arr_one (cs := [.int .i64 t.op, .slice A t.kids.length c, .int .i32 t.rune, .slice B t.set.length d, .int .i64 t.at_, .int .i64 t.cap, .string t.name, .int .i64 t.mn, .int .i64 t.mx, .bool t.lz]) q1 (.inr (by omega)) (HT.out.move (fun b hb _ => ⟨(Below.heap_alloc _ _ _ (by rw [qs]; omega)).trans ((qo b (by omega)).trans (HB.out.2.2.block b hb.2)), .inl hb.1⟩))) (Nat.le_refl _) (by unfold maxLen; simp), below_al qb _⟩
  | true =>
    go_wp2_with fail
    obtain ⟨z0, z1, z2, z3, z4, z5, z6, z7, z8, z9⟩ := cells10 (set10_blk HB.out.2.1 (.int .i64 2) (.slice none 0 0) (.int .i32 0) (.slice none 0 0) (.int .i64 0) (.int .i64 0) (.string ⟨#[]⟩) (.int .i64 0) (.int .i64 0) (.bool false))
    refine bodyPost_ret (v := .agg #[.int .i64 2, .slice none 0 0, .int .i32 0, .slice none 0 0, .int .i64 0, .int .i64 0, .string ⟨#[]⟩, .int .i64 0, .int .i64 0, .bool false]) (by simp [results, Try.f48, go_sem, z0, z1, z2, z3, z4, z5, z6, z7, z8, z9]) rfl ?_
    rw [HS.out, if_pos (by simp)]
    exact ⟨_, rfl, opTrC Arr.nil (Nat.le_refl _) (Nat.zero_le _), below_set10 HB.out.2.2 (by omega) _ _ _ _ _ _ _ _ _ _⟩
end Go.Proofs.Ytdnbholiijgedaa
