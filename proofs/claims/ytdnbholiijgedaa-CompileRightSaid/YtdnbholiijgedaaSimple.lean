/-
  simplify.Simple; the live question of the statements of layer 10. No condition but on the size.
-/
import Derived.Test.YtdnbholiijgedaaSimpG
import Derived.Test.YtdnbholiijgedaaSimpLaw3
import Derived.Test.YtdnbholiijgedaaTRight
namespace Go.Proofs.Ytdnbholiijgedaa
open Go.RowKit
set_option linter.unusedVariables false

/-- Trees small enough to be asked anything. -/
def SmallT (t : Tr) : Prop := (∀ p ∈ parts t, p.set.length ≤ 1000000 ∧ p.kids.length ≤ 1000000 ∧ p.name.size ≤ maxLen) ∧ szT t ≤ 1000000000
theorem SmallT.right {t : Tr} (h : SmallT t) (ok : Nat → Prop) (w : World) (cs : List Value) (ht : TrC ok w t cs) :
    Calls Try.prog 17 #[.agg cs.toArray] w fun e w' => e = .returned (.bool (rightTB rightR t)) ∧ Below w.heap.size w w' :=
  tright_any rightR ok w t cs ht (fun p hp _ => right_ok p.set (by have := (h.1 p hp).1; omega)) (fun p hp => by have := (h.1 p hp).2.1; omega) (fun p hp => (h.1 p hp).2.2) h.2
def simpR (t : Tr) : Tr := if rightTB rightR t = true then simpleS t else opT 0 [] false
theorem simpR_good {t : Tr} (h : SmallT t) (hr : rightTB rightR t = true) : GoodT (simpleS t) :=
  good_simple _ t (Nat.le_refl _) (fun p hp => ⟨((right_facts hr).2 p hp).1, ((right_facts hr).2 p hp).2, (h.1 p hp).1, (h.1 p hp).2.2⟩)
theorem simpR_size {t : Tr} (hr : rightTB rightR t = true) : szT (simpleS t) ≤ 12000 := by
  have h1 := simple_sz rightR _ t (Nat.le_refl _) (fun p hp => ((right_facts hr).2 p hp).1) (right_facts hr).1
  have h2 := (right_facts hr).1
  omega
theorem simpR_small {t : Tr} (h : SmallT t) (hr : rightTB rightR t = true) : SmallT (simpleS t) := by
  refine ⟨fun p hp => ⟨(simpR_good h hr p hp).set, ?_, (simpR_good h hr p hp).nam⟩, by have := simpR_size hr; omega⟩
  have h1 := sz_part hp
  have h2 := kids_szT p
  have h3 := simpR_size hr
  omega
set_option maxRecDepth 100000 in
set_option maxHeartbeats 4000000 in
theorem Simple_any (ok : Nat → Prop) (w : World) (t : Tr) (cs : List Value) (ht : TrC ok w t cs) (hs : SmallT t) :
    Calls Try.prog 16 #[.agg cs.toArray] w (TreePost ok (simpR t) w) := by
  have ht0 := ht.old
  have hrt := fun (W : World) (hW : Below w.heap.size w W) => hs.right _ W cs (ht0.move (w' := W) (ok' := fun b => ok b ∧ b < w.heap.size) (fun b hb hlt => ⟨hW.block b hlt, hb⟩))
  have hsm := fun (hr : rightTB rightR t = true) (W : World) (hW : Below w.heap.size w W) => simple_any (szT t) (fun b => ok b ∧ b < w.heap.size) t cs W (Nat.le_refl _) (ht0.move (w' := W) (ok' := fun b => ok b ∧ b < w.heap.size) (fun b hb hlt => ⟨hW.block b hlt, hb⟩)) (simOK_of rightR (fun p hp => ((right_facts hr).2 p hp).1) (right_facts hr).1 (fun p hp => ⟨(hs.1 p hp).1, (hs.1 p hp).2.1⟩))
  have HS := Lib.hid (show simpR t = if rightTB rightR t = true then simpleS t else opT 0 [] false from rfl)
  obtain ⟨A, c, B, d, rfl, _⟩ := trC_iff.1 ht
  generalize simpR t = T at *
  generalize rightTB rightR t = rb at *
  clear ht ht0 hs
  go_enter Try.func16, Try.ntmps16
  go_wp2_with fail
  have yb := below_al (below_al (Below.refl w.heap.size w) (.cells #[.int .i64 t.op, .slice A t.kids.length c, .int .i32 t.rune, .slice B t.set.length d, .int .i64 t.at_, .int .i64 t.cap, .string t.name, .int .i64 t.mn, .int .i64 t.mx, .bool t.lz] 27)) (.cells #[.int .i64 0, .slice none 0 0, .int .i32 0, .slice none 0 0, .int .i64 0, .int .i64 0, .string ⟨#[]⟩, .int .i64 0, .int .i64 0, .bool false] 27)
  have y1 : ((w.alloc (.cells #[.int .i64 t.op, .slice A t.kids.length c, .int .i32 t.rune, .slice B t.set.length d, .int .i64 t.at_, .int .i64 t.cap, .string t.name, .int .i64 t.mn, .int .i64 t.mx, .bool t.lz] 27)).alloc (.cells #[.int .i64 0, .slice none 0 0, .int .i32 0, .slice none 0 0, .int .i64 0, .int .i64 0, .string ⟨#[]⟩, .int .i64 0, .int .i64 0, .bool false] 27)).heap[w.heap.size]? = some (.cells #[.int .i64 t.op, .slice A t.kids.length c, .int .i32 t.rune, .slice B t.set.length d, .int .i64 t.at_, .int .i64 t.cap, .string t.name, .int .i64 t.mn, .int .i64 t.mx, .bool t.lz] 27) := (Below.heap_alloc _ _ _ (by simp)).trans (heap_new1 _ _)
  have y2 : ((w.alloc (.cells #[.int .i64 t.op, .slice A t.kids.length c, .int .i32 t.rune, .slice B t.set.length d, .int .i64 t.at_, .int .i64 t.cap, .string t.name, .int .i64 t.mn, .int .i64 t.mx, .bool t.lz] 27)).alloc (.cells #[.int .i64 0, .slice none 0 0, .int .i32 0, .slice none 0 0, .int .i64 0, .int .i64 0, .string ⟨#[]⟩, .int .i64 0, .int .i64 0, .bool false] 27)).heap[w.heap.size + 1]? = some (.cells #[.int .i64 0, .slice none 0 0, .int .i32 0, .slice none 0 0, .int .i64 0, .int .i64 0, .string ⟨#[]⟩, .int .i64 0, .int .i64 0, .bool false] 27) := heap_new2 _ _ _
  refine (hrt _ yb).mono ?_
  clear hrt
  rintro e w1 ⟨rfl, hb1⟩
  dsimp only
  have x1 := (hb1.block _ (heap_lt y1)).trans y1
  have x2 := (hb1.block _ (heap_lt y2)).trans y2
  have xb := below_and hb1 yb
  clear y1 y2 yb hb1
  have n2 := heap_lt x2
  obtain ⟨g0, g1, g2, g3, g4, g5, g6, g7, g8, g9⟩ := cells10 x1
  have fz := frozen_of x2
  cases rb with
  | false =>
    have HB := Lib.hid (And.intro x1 (And.intro x2 xb))
    clear x1 x2 xb hsm
    go_wp2_with ((refine wpList_storeB rfl 27 _ _ rfl (w.heap.size + 1) [.int .i64 0, .slice none 0 0, .int .i32 0, .slice none 0 0, .int .i64 0, .int .i64 0, .string ⟨#[]⟩, .int .i64 0, .int .i64 0, .bool false] [.int .i64 0, .slice none 0 0, .int .i32 0, .slice none 0 0, .int .i64 0, .int .i64 0, .string ⟨#[]⟩, .int .i64 0, .int .i64 0, .bool false] 27 rfl rfl HB.out.2.1 rfl infoTrS (by intro u hu; simp at hu; rcases hu with rfl | rfl | rfl | rfl | rfl | rfl | rfl | rfl | rfl | rfl <;> rfl) ?_))
    intro w3 hn9 hg9 hs9
    have HN := Lib.hid (And.intro hn9 hg9)
    clear hn9 hg9
    go_wp2_with fail
    refine bodyPost_ret (results_cell_row rfl _ _ (w.heap.size + 1) _ _ _ _ rfl HN.out.1 Try.underlying27 rfl infoTrS) rfl ?_
    rw [HS.out, if_neg (by simp)]
    exact sim_fin (okF := fun _ => False) HB.out.2.2 (opTrC Arr.nil (Nat.le_refl _) (Nat.zero_le _)) (fun b hb => hb.elim) HN.out.2
  | true =>
    have hsm1 := hsm rfl w1 xb
    have HB := Lib.hid (And.intro x1 (And.intro x2 xb))
    clear x1 x2 xb hsm
    go_wp2_with fail
    refine hsm1.mono ?_
    clear hsm1
    rintro e w2 ⟨c2, rfl, ht2, hb2⟩
    dsimp only
    have hl9 := Lib.hid ht2.len
    have H9 := Lib.hid (And.intro ht2 (And.intro (below_and hb2 HB.out.2.2) ((hb2.block _ n2).trans HB.out.2.1)))
    clear ht2 hb2 g0 g1 g2 g3 g4 g5 g6 g7 g8 g9 fz
    go_wp2_with ((refine wpList_storeB rfl 27 _ _ rfl (w.heap.size + 1) c2 [.int .i64 0, .slice none 0 0, .int .i32 0, .slice none 0 0, .int .i64 0, .int .i64 0, .string ⟨#[]⟩, .int .i64 0, .int .i64 0, .bool false] 27 rfl rfl H9.out.2.2 (by rw [hl9.out]; rfl) (by rw [hl9.out]; exact infoTrS) (trC_cells H9.out.1) ?_))
    intro w3 hn9 hg9 hs9
    have HN := Lib.hid (And.intro hn9 hg9)
    clear hn9 hg9
    go_wp2_with fail
    refine bodyPost_ret (results_cell_row rfl _ _ (w.heap.size + 1) _ _ _ _ rfl HN.out.1 Try.underlying27 rfl (by rw [List.size_toArray, hl9.out]; exact infoTrS)) rfl ?_
    rw [HS.out, if_pos (by simp)]
    refine sim_fin H9.out.2.1 H9.out.1 (fun b hb => ?_) HN.out.2
    rcases hb with hb | hb
    · exact ⟨by omega, .inl hb.1⟩
    · exact ⟨by omega, .inr (by omega)⟩
def runeA : Tr := ⟨3, [], 97, [], 0, 0, ⟨#[]⟩, 0, 0, false⟩
theorem leaf_small {t : Tr} (h : t.kids = []) (h1 : t.set.length ≤ 1000000) (h2 : t.name.size ≤ maxLen) : SmallT t := by
  have hp : parts t = [t] := by rw [parts_eq, h, partsL_flat]; rfl
  refine ⟨fun p hp' => ?_, by unfold szT; rw [hp]; exact (by simp)⟩
  rw [hp] at hp'
  rw [List.mem_singleton.1 hp']
  exact ⟨h1, by rw [h]; exact Nat.zero_le _, h2⟩
theorem head10_tree : simpR ⟨10, [runeA], 0, [], 0, 0, ⟨#[]⟩, 2, 2, false⟩ = opT 11 [runeA, runeA] false := by kernel_rfl
theorem small_runeA : SmallT runeA := leaf_small rfl (Nat.zero_le _) (Nat.zero_le _)
theorem small_cons {t : Tr} (h1 : t.set.length ≤ 1000000) (h2 : t.name.size ≤ maxLen) (h3 : t.kids.length ≤ 1000000) (h4 : szL t.kids ≤ 999999999) (h : ∀ k ∈ t.kids, SmallT k) : SmallT t := by
  refine ⟨fun p hp => ?_, by rw [szT_eq]; omega⟩
  rw [parts_eq] at hp
  rcases List.mem_cons.1 hp with rfl | hp
  · exact ⟨h1, h3, h2⟩
  · rw [partsL_flat] at hp
    obtain ⟨k, hk, hpk⟩ := List.mem_flatMap.1 hp
    exact (h k hk).1 p hpk
theorem small_rep (mn mx : Int) (lz : Bool) : SmallT ⟨10, [runeA], 0, [], 0, 0, ⟨#[]⟩, mn, mx, lz⟩ :=
  small_cons (Nat.zero_le _) (Nat.zero_le _) (by simp) (by show (szL [runeA]) ≤ 999999999; rw [szL_cons, szL_nil]; exact (by decide)) (fun k hk => by rw [List.mem_singleton.1 hk]; exact small_runeA)
theorem trC_runeA (ok : Nat → Prop) (w : World) : TrC ok w runeA [.int .i64 3, .slice none 0 0, .int .i32 97, .slice none 0 0, .int .i64 0, .int .i64 0, .string ⟨#[]⟩, .int .i64 0, .int .i64 0, .bool false] :=
  trC_iff.2 ⟨none, 0, none, 0, rfl, Nat.le_refl _, Nat.zero_le _, Nat.le_refl _, Nat.zero_le _, Arr.nil, Arr.nil⟩
theorem trC_rep {w : World} {g : Nat} (mn mx : Int) (lz : Bool) (h : w.heap[g]? = some (.cells #[.int .i64 3, .slice none 0 0, .int .i32 97, .slice none 0 0, .int .i64 0, .int .i64 0, .string ⟨#[]⟩, .int .i64 0, .int .i64 0, .bool false] 27 (0, 0))) :
    TrC (fun _ => True) w ⟨10, [runeA], 0, [], 0, 0, ⟨#[]⟩, mn, mx, lz⟩ [.int .i64 10, .slice (some ⟨g, 0, none⟩) 1 1, .int .i32 0, .slice none 0 0, .int .i64 0, .int .i64 0, .string ⟨#[]⟩, .int .i64 mn, .int .i64 mx, .bool lz] :=
  trC_iff.2 ⟨some ⟨g, 0, none⟩, 1, none, 0, rfl, Nat.le_refl _, by unfold maxLen; omega, Nat.le_refl _, Nat.zero_le _, Arr.nil, arr_one (cs := [.int .i64 3, .slice none 0 0, .int .i32 97, .slice none 0 0, .int .i64 0, .int .i64 0, .string ⟨#[]⟩, .int .i64 0, .int .i64 0, .bool false]) h trivial (trC_runeA _ _)⟩
set_option maxRecDepth 100000 in
set_option maxHeartbeats 4000000 in
theorem head10_any (w : World) : Calls Try.prog 14 #[] w fun e w' => e = .returned (.bool true) ∧ Below w.heap.size w w' := by
  go_enter Try.func14, Try.ntmps14
  go_wp2_with fail
  have h := Simple_any (fun _ => True) _ _ _ (trC_rep 2 2 false (heap_new1 w (.cells #[.int .i64 3, .slice none 0 0, .int .i32 97, .slice none 0 0, .int .i64 0, .int .i64 0, .string ⟨#[]⟩, .int .i64 0, .int .i64 0, .bool false] 27))) (small_rep 2 2 false)
  refine h.mono ?_
  clear h
  rintro e w1 ⟨cs, rfl, ht, hb⟩
  rw [head10_tree] at ht
  have hb1 := below_and hb (below_al (Below.refl _ _) _)
  obtain ⟨A, c, B, d, hcs, hcl, _, _, _, _, hk⟩ := trC_iff.1 ht
  obtain ⟨ad, A1, e1, A3, e3, hA, hTk, k0, k1, k2, k3, k4, k5, k6, k7, k8, k9⟩ := trArr_at hk w1 (fun _ _ _ => rfl) 1 (by simp [opT])
  subst hA
  have hcs' : cs = [.int .i64 11, .slice (some ad) 2 c, .int .i32 0, .slice B 0 d, .int .i64 0, .int .i64 0, .string ⟨#[]⟩, .int .i64 0, .int .i64 0, .bool false] := hcs
  have k2' : w1.cell? ⟨ad.block, ad.off + 10 + 2, none⟩ = some (.int .i32 97) := k2
  have hl : ad.block < w1.heap.size := World.block_lt_of_cell? w1 (a := ⟨ad.block, ad.off + 10 + 2, none⟩) k2'
  subst hcs'
  have HB := Lib.hid hb1
  clear ht hb hb1 hk hTk k0 k1 k2 k3 k4 k5 k6 k7 k8 k9 hcs
  dsimp only
  go_wp2_with fail
  go_ret
  exact ⟨rfl, below_al HB.out _⟩
end Go.Proofs.Ytdnbholiijgedaa
