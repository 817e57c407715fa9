/-
  compile's code: a set, a quest. No condition but a bound on the set.
-/
import Derived.Test.YtdnbholiijgedaaComp5
import Derived.Deep.RegionHeld3
import Derived.StillTailTactics
namespace Go.Proofs.Ytdnbholiijgedaa
open Go.RowKit
set_option linter.unusedVariables false

theorem inC_set {W : World} {b0 : Nat} {v' : Value} {css : List (List Value)} {set : List Rg} (hl : css.length = set.length) (hE : ∀ (i : Nat) (x : Rg) (c : List Value), set[i]? = some x → css[i]? = some c → RgC x c) (ho : Owns W b0 61 2 v' css) (to : Int) :
    ∃ A5 c5, v' = .slice A5 set.length c5 ∧ InC W ⟨2, to, 0, set, 0⟩ [.int .i64 2, .int .i64 to, .int .i64 0, .slice A5 set.length c5, .int .i64 0] := by
  obtain ⟨A5, c5, rfl, h1, h2⟩ := Owns.shape ho
  rw [hl] at ho h1
  refine ⟨A5, c5, by rw [hl], A5, c5, rfl, h1, h2, Owns.arr ho hl.symm hE (fun a ha => ?_)⟩
  subst ha
  obtain ⟨cs, fr, hc⟩ := own_ty ho (k := a.block) rfl
  exact ⟨cs, fr, hc⟩
theorem rg_one (x : Rg) (c : List Value) (h : RgC x c) : ∀ u ∈ c, u.oneCell' = true := by
  rw [h]; intro u hu; simp at hu; rcases hu with rfl | rfl <;> rfl
theorem box3 (w : World) (o1 o2 o3 : Obj) : ((w.alloc o1).alloc o2 |>.alloc o3).heap[w.heap.size]? = some o1 ∧ ((w.alloc o1).alloc o2 |>.alloc o3).heap[w.heap.size + 1]? = some o2 ∧ ((w.alloc o1).alloc o2 |>.alloc o3).heap[w.heap.size + 1 + 1]? = some o3 ∧
    ((w.alloc o1).alloc o2 |>.alloc o3).heap.size = w.heap.size + 1 + 1 + 1 ∧ Below w.heap.size w ((w.alloc o1).alloc o2 |>.alloc o3) :=
  ⟨by rw [Below.heap_alloc _ _ _ (by simp; omega), Below.heap_alloc _ _ _ (by simp)]; exact heap_new1 _ _, by rw [Below.heap_alloc _ _ _ (by simp)]; exact heap_new2 _ _ _, heap_new3 _ _ _ _, by simp, below_al (below_al (below_al (Below.refl _ _) _) _) _⟩
set_option maxRecDepth 100000 in
set_option maxHeartbeats 1000000 in
theorem code_set (B0 G : Nat) (st cp gr : Int) (t : Tr) (cs : List Value) (to : Int) (w : World) (v : Value) (s : St) (ht : TrC (fun b => b < B0) w t cs) (hb : BldAt w B0 G v st cp gr s) (hl : s.1.length ≤ 10000) (hm : s.2 = false) (ho : t.op = 4) (hN : t.set.length ≤ 1000000000) :
    Calls Try.prog 24 #[.pointer (some ⟨G, 0, none⟩), .agg cs.toArray, .int .i64 to] w (EmitPost B0 G st cp gr v w (codeS gr t to s)) := by
  obtain ⟨A, c, B, d, rfl, m1, m2, m3, m4, h5, h6⟩ := trC_iff.1 ht
  obtain ⟨k4, hG, hG1, hG2⟩ := code_open hb
  have o1 : (t.op == 1) = false := by rw [ho]; rfl
  have o3 : (t.op == 3) = false := by rw [ho]; rfl
  have o4 : (t.op == 4) = true := by rw [ho]; rfl
  have o5 : (t.op == 5) = false := by rw [ho]; rfl
  have o6 : (t.op == 6) = false := by rw [ho]; rfl
  have o11 : (t.op == 11) = false := by rw [ho]; rfl
  have o12 : (t.op == 12) = false := by rw [ho]; rfl
  have o9 : (t.op == 9) = false := by rw [ho]; rfl
  have o7 : (t.op == 7) = false := by rw [ho]; rfl
  have o8 : (t.op == 8) = false := by rw [ho]; rfl
  have hS : codeS gr t to s = emitS ⟨2, to, 0, t.set, 0⟩ s := by rw [codeS_eq, if_neg (by rw [hm]; simp), if_neg (by omega), if_neg (by omega), if_pos ho]
  rw [hm] at k4
  have hem := fun W (hW : Below w.heap.size w W) cs hh => emit_any W B0 G v st cp gr s ⟨2, to, 0, t.set, 0⟩ cs (hb.below hW) hh hl
  have hcl := fun W (hW : Below w.heap.size w W) => cloneRange Rg RgC rg_one (fun b => b < B0) W B d t.set (h5.move (fun b hb' hlt => ⟨hW.block b hlt, hb'⟩) (by omega)) (by omega)
  have HH := Lib.hid (And.intro hS (And.intro hem hb))
  clear hb hS hm ht ho h5 h6 hem
  go_enter Try.func24, Try.ntmps24
  go_wp2_with fail
  obtain ⟨x0, x1, x2, x3, xb⟩ := box3 w (.cells #[.pointer (some ⟨G, 0, none⟩)] 47) (.cells #[.int .i64 t.op, .slice A t.kids.length c, .int .i32 t.rune, .slice B t.set.length d, .int .i64 t.at_, .int .i64 t.cap, .string t.name, .int .i64 t.mn, .int .i64 t.mx, .bool t.lz] 27) (.cells #[.int .i64 to] 3)
  obtain ⟨X, hX⟩ : ∃ X, (((w.alloc (.cells #[.pointer (some ⟨G, 0, none⟩)] 47)).alloc (.cells #[.int .i64 t.op, .slice A t.kids.length c, .int .i32 t.rune, .slice B t.set.length d, .int .i64 t.at_, .int .i64 t.cap, .string t.name, .int .i64 t.mn, .int .i64 t.mx, .bool t.lz] 27)).alloc (.cells #[.int .i64 to] 3)) = X := ⟨_, rfl⟩
  rw [hX] at x0 x1 x2 x3 xb ⊢
  clear hX
  have b0 : X.cell? ⟨w.heap.size, 0, none⟩ = some (.pointer (some ⟨G, 0, none⟩)) := by rw [cell_of_blk x0]; rfl
  have b2 : X.cell? ⟨w.heap.size + 1 + 1, 0, none⟩ = some (.int .i64 to) := by rw [cell_of_blk x2]; rfl
  obtain ⟨g0, g1, g2, g3, g4, g5, g6, g7, g8, g9⟩ := cells10 x1
  have l0 : w.heap.size < X.heap.size := by omega
  have l1 : w.heap.size + 1 < X.heap.size := by omega
  have l2 : w.heap.size + 1 + 1 < X.heap.size := by omega
  have lG : G < X.heap.size := by omega
  have HX := Lib.hid xb
  have HY := Lib.hid (And.intro x0 (And.intro x1 x2))
  clear x0 x1 x2 xb
  go_region_held3 (fun w' => w'.cell? ⟨w.heap.size, 0, none⟩ = some (.pointer (some ⟨G, 0, none⟩)) ∧ w'.cell? ⟨w.heap.size + 1, 3, none⟩ = some (.slice B t.set.length d) ∧ w'.cell? ⟨w.heap.size + 1 + 1, 0, none⟩ = some (.int .i64 to)) (go_keep) (first | (go_at_call 35; (refine (hcl _ (by first | exact HX.out | exact HX.out.drew)).mono ?_); rintro e w2 ⟨v', css, rfl, hcs, hE, hown, hb2⟩; have hc2 : ∀ b o, b < X.heap.size → w2.cell? ⟨b, o, none⟩ = X.cell? ⟨b, o, none⟩ := fun b o hb' => hb2.cell (p := ⟨b, o, none⟩) hb'; have s0 := (hc2 _ 0 l0).trans b0; have s1 := (hc2 _ 3 l1).trans g3; have s2 := (hc2 _ 0 l2).trans b2; clear hc2; (obtain ⟨A5, c5, rfl, hin⟩ := inC_set hcs hE hown to); (have hb3 : Below X.heap.size X w2 := by first | exact hb2 | exact (Below.refl _ _).drew.trans hb2); (have hbw : Below w.heap.size w w2 := HX.out.trans (hb3.mono (by omega))); have hem2 := HH.out.2.1 w2 hbw _ hin; have HB := Lib.hid (And.intro hbw (And.intro ((hb3.block _ l0).trans HY.out.1) (And.intro ((hb3.block _ l1).trans HY.out.2.1) ((hb3.block _ l2).trans HY.out.2.2)))); clear hcs hE hown hin hbw hb2 hb3 hcl) | (go_at_call 34; (refine hem2.mono ?_); clear hem2; rintro e w3 ⟨v3, rfl, hb3, ht3⟩; have hbb := HH.out.2.2.below HB.out.1; have t0 := cell_of_blk (ht3.keep hbb HB.out.2.1 (by decide) (by decide)) 0; have t1 := cell_of_blk (ht3.keep hbb HB.out.2.2.1 (by decide) (by decide)) 3; have t2 := cell_of_blk (ht3.keep hbb HB.out.2.2.2 (by decide) (by decide)) 0; simp only [List.getElem?_toArray, List.getElem?_cons_zero, List.getElem?_cons_succ] at t0 t1 t2; clear hbb; have H3 := Lib.hid (And.intro hb3 ht3); clear hb3 ht3))
  all_goals
    go_wp2_with fail
    go_ret
    rw [HH.out.1]
    exact ⟨v3, rfl, H3.out.1, (Touch.of_below HB.out.1).trans H3.out.2⟩
set_option maxRecDepth 100000 in
set_option maxHeartbeats 1000000 in
theorem code_quest (B0 G : Nat) (st cp gr : Int) (t : Tr) (cs : List Value) (to : Int) (w : World) (v : Value) (s : St) (ht : TrC (fun b => b < B0) w t cs) (hb : BldAt w B0 G v st cp gr s) (hl : s.1.length ≤ 10000) (hm : s.2 = false) (ho : t.op = 9) (h1 : 0 < t.kids.length) (ih : CodeOK B0 G st cp gr t.kids[0]) :
    Calls Try.prog 24 #[.pointer (some ⟨G, 0, none⟩), .agg cs.toArray, .int .i64 to] w (EmitPost B0 G st cp gr v w (codeS gr t to s)) := by
  obtain ⟨A, c, B, d, rfl, m1, m2, m3, m4, h5, h6⟩ := trC_iff.1 ht
  obtain ⟨k4, hG, hG1, hG2⟩ := code_open hb
  have o1 : (t.op == 1) = false := by rw [ho]; rfl
  have o3 : (t.op == 3) = false := by rw [ho]; rfl
  have o4 : (t.op == 4) = false := by rw [ho]; rfl
  have o5 : (t.op == 5) = false := by rw [ho]; rfl
  have o6 : (t.op == 6) = false := by rw [ho]; rfl
  have o11 : (t.op == 11) = false := by rw [ho]; rfl
  have o12 : (t.op == 12) = false := by rw [ho]; rfl
  have o9 : (t.op == 9) = true := by rw [ho]; rfl
  have o7 : (t.op == 7) = false := by rw [ho]; rfl
  have o8 : (t.op == 8) = false := by rw [ho]; rfl
  have hS : codeS gr t to s = emitS (forkI (codeS gr t.kids[0] to s).1 to t.lz) (codeS gr t.kids[0] to s).2 := by
    rw [codeS_eq, if_neg (by rw [hm]; simp), if_neg (by omega), if_neg (by omega), if_neg (by omega), if_neg (by omega), if_neg (by omega), if_neg (by omega), if_neg (by omega), if_pos ho]
    simp only [codeH_eq h1]
  rw [hm] at k4
  have hl1 := codeS_len gr t.kids[0] to s hl
  have hih0 := fun cs w v h1 h2 h3 => ih cs to w v s h1 h2 h3
  generalize codeS gr t.kids[0] to s = E1 at *
  have HH := Lib.hid (And.intro hS (And.intro hih0 (And.intro hb h6)))
  clear hb hS hm ht ho h5 h6 ih hih0
  go_enter Try.func24, Try.ntmps24
  go_wp2_with fail
  obtain ⟨x0, x1, x2, x3, xb⟩ := box3 w (.cells #[.pointer (some ⟨G, 0, none⟩)] 47) (.cells #[.int .i64 t.op, .slice A t.kids.length c, .int .i32 t.rune, .slice B t.set.length d, .int .i64 t.at_, .int .i64 t.cap, .string t.name, .int .i64 t.mn, .int .i64 t.mx, .bool t.lz] 27) (.cells #[.int .i64 to] 3)
  obtain ⟨X, hX⟩ : ∃ X, (((w.alloc (.cells #[.pointer (some ⟨G, 0, none⟩)] 47)).alloc (.cells #[.int .i64 t.op, .slice A t.kids.length c, .int .i32 t.rune, .slice B t.set.length d, .int .i64 t.at_, .int .i64 t.cap, .string t.name, .int .i64 t.mn, .int .i64 t.mx, .bool t.lz] 27)).alloc (.cells #[.int .i64 to] 3)) = X := ⟨_, rfl⟩
  rw [hX] at x0 x1 x2 x3 xb ⊢
  clear hX
  have b0 : X.cell? ⟨w.heap.size, 0, none⟩ = some (.pointer (some ⟨G, 0, none⟩)) := by rw [cell_of_blk x0]; rfl
  have b2 : X.cell? ⟨w.heap.size + 1 + 1, 0, none⟩ = some (.int .i64 to) := by rw [cell_of_blk x2]; rfl
  obtain ⟨g0, g1, g2, g3, g4, g5, g6, g7, g8, g9⟩ := cells10 x1
  have l0 : w.heap.size < X.heap.size := by omega
  have l1 : w.heap.size + 1 < X.heap.size := by omega
  have l2 : w.heap.size + 1 + 1 < X.heap.size := by omega
  have lG : G < X.heap.size := by omega
  obtain ⟨ad, A1, c1, A3, c3, rfl, hTk, k0, k1', k2', k3', k4', k5, k6, k7, k8, k9⟩ := trArr_at0 HH.out.2.2.2 X (fun b _ hb' => xb.block b hb') h1
  have hih := fun W (hW : Below w.heap.size w W) => HH.out.2.1 _ W v (hTk.move (fun b hb' hlt => ⟨hW.block b hlt, hb'⟩)) (HH.out.2.2.1.below hW) hl
  have HX := Lib.hid xb
  have HY := Lib.hid (And.intro x0 (And.intro x1 x2))
  clear x0 x1 x2 xb hTk
  go_still_tail 6, (by kernel_rfl)
  go_wp2_with fail
  refine (hih _ (by first | exact HX.out | exact HX.out.drew)).mono ?_
  rintro e w1 ⟨v1, rfl, hb1, ht1⟩
  clear hih b0 b2 g0 g1 g2 g3 g4 g5 g6 g7 g8 g9 k0 k1' k2' k3' k4' k5 k6 k7 k8 k9
  have hbx : BldAt X.drew B0 G v st cp gr s := HH.out.2.2.1.below HX.out.drew
  have y0 := ht1.keep hbx HY.out.1 (by decide) (by decide)
  have y1 := ht1.keep hbx HY.out.2.1 (by decide) (by decide)
  have y2 := ht1.keep hbx HY.out.2.2 (by decide) (by decide)
  have b0 := cell_of_blk y0 0
  have b2 := cell_of_blk y2 0
  have b9 := cell_of_blk y1 9
  simp only [List.getElem?_toArray, List.getElem?_cons_zero, List.getElem?_cons_succ] at b0 b2 b9
  have m0 := heap_lt y0
  have m1 := heap_lt y1
  have m2 := heap_lt y2
  have htt := (Touch.of_below HX.out.drew).trans ht1
  have hem := fun W (hW : Below w1.heap.size w1 W) x cs hh => emit_any W B0 G v1 st cp gr E1.2 x cs (hb1.below hW) hh hl1
  have hfk := fun W => fork_any W E1.1 to t.lz
  have H1 := Lib.hid (And.intro hb1 (And.intro htt (And.intro hem (And.intro y0 (And.intro y1 y2)))))
  clear hb1 ht1 hbx htt hem y0 y1 y2
  obtain ⟨fo, hfo⟩ : ∃ fo, fo = (forkI E1.1 to t.lz).out := ⟨_, rfl⟩
  obtain ⟨fa, hfa⟩ : ∃ fa, fa = (forkI E1.1 to t.lz).arg := ⟨_, rfl⟩
  have hfi : forkI E1.1 to t.lz = ⟨3, fo, fa, [], 0⟩ := by rw [hfo, hfa]; rfl
  rw [hfi] at hfk
  simp only [inV] at hfk
  have HF := Lib.hid hfi
  clear hfo hfa hfi
  go_wp2_with fail
  go_region_held3 (fun w' => w'.cell? ⟨w.heap.size, 0, none⟩ = some (.pointer (some ⟨G, 0, none⟩)) ∧ w'.cell? ⟨w.heap.size + 1, 9, none⟩ = some (.bool t.lz) ∧ w'.cell? ⟨w.heap.size + 1 + 1, 0, none⟩ = some (.int .i64 to)) (go_keep) (first | (go_at_call 39; (refine (hfk _).mono ?_); rintro e w5 ⟨rfl, hb5⟩; (have hb6 : Below w1.heap.size w1 w5 := by first | exact hb5 | exact (Below.refl _ _).drew.trans hb5); have s0 := (hb6.cell (p := ⟨w.heap.size, 0, none⟩) m0).trans b0; have s1 := (hb6.cell (p := ⟨w.heap.size + 1, 9, none⟩) m1).trans b9; have s2 := (hb6.cell (p := ⟨w.heap.size + 1 + 1, 0, none⟩) m2).trans b2; have hem2 := H1.out.2.2.1 w5 hb6 ⟨3, fo, fa, [], 0⟩ _ (inC_lit _ _ _ _ _); have HB := Lib.hid hb6; clear hb5 hb6 hfk) | (go_at_call 34; (refine hem2.mono ?_); clear hem2; rintro e w3 ⟨v3, rfl, hb3, ht3⟩; have hbb := H1.out.1.below HB.out; have t0 := cell_of_blk (ht3.keep hbb ((HB.out.block _ m0).trans H1.out.2.2.2.1) (by decide) (by decide)) 0; have t1 := cell_of_blk (ht3.keep hbb ((HB.out.block _ m1).trans H1.out.2.2.2.2.1) (by decide) (by decide)) 9; have t2 := cell_of_blk (ht3.keep hbb ((HB.out.block _ m2).trans H1.out.2.2.2.2.2) (by decide) (by decide)) 0; simp only [List.getElem?_toArray, List.getElem?_cons_zero, List.getElem?_cons_succ] at t0 t1 t2; clear hbb; have H3 := Lib.hid (And.intro hb3 ht3); clear hb3 ht3))
  all_goals
    go_wp2_with fail
    go_ret
    rw [HH.out.1, HF.out]
    exact ⟨v3, rfl, H3.out.1, (H1.out.2.1.trans (Touch.of_below HB.out)).trans H3.out.2⟩
end Go.Proofs.Ytdnbholiijgedaa
