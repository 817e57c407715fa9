/-
  compile's code: the arms that emit once or hand on. No condition.
-/
import Derived.Test.YtdnbholiijgedaaComp4
namespace Go.Proofs.Ytdnbholiijgedaa
open Go.RowKit
set_option linter.unusedVariables false

theorem alloc_at {W : World} {o : Obj} {n : Nat} (h : n = W.heap.size) : (W.alloc o).heap[n]? = some o := by subst h; exact World.alloc_heap_new _ _
theorem inC_rune {W : World} {b : Nat} {r to : Int} (h : W.heap[b]? = some (.cells #[.int .i32 r, .int .i32 r] 61 (0, 0))) : InC W ⟨2, to, 0, [⟨r, r⟩], 0⟩ [.int .i64 2, .int .i64 to, .int .i64 0, .slice (some ⟨b, 0, none⟩) 1 1, .int .i64 0] := by
  refine ⟨some ⟨b, 0, none⟩, 1, rfl, Nat.le_refl _, by unfold maxLen; simp, fun i x hx => ?_⟩
  have hi : i < 1 := (List.getElem?_eq_some_iff.1 hx).1
  obtain rfl : i = 0 := by omega
  simp at hx; subst hx
  refine ⟨_, [.int .i32 r, .int .i32 r], rfl, ⟨_, _, h⟩, rfl, rfl, fun j u hu => ?_⟩
  have : (⟨b, 0, none⟩ : Addr).add (0 * 2 + j) = ⟨b, j, none⟩ := by unfold Addr.add; split <;> simp_all
  rw [this, cell_of_blk h]; simpa using hu
set_option maxRecDepth 100000 in
set_option maxHeartbeats 1000000 in
theorem code_rune (B0 G : Nat) (st cp gr : Int) (t : Tr) (cs : List Value) (to : Int) (w : World) (v : Value) (s : St) (ht : TrC (fun b => b < B0) w t cs) (hb : BldAt w B0 G v st cp gr s) (hl : s.1.length ≤ 10000) (hm : s.2 = false) (ho : t.op = 3) :
    Calls Try.prog 24 #[.pointer (some ⟨G, 0, none⟩), .agg cs.toArray, .int .i64 to] w (EmitPost B0 G st cp gr v w (codeS gr t to s)) := by
  obtain ⟨A, c, B, d, rfl, m1, m2, m3, m4, h5, h6⟩ := trC_iff.1 ht
  obtain ⟨k4, hG, hG1, hG2⟩ := code_open hb
  have o1 : (t.op == 1) = false := by rw [ho]; rfl
  have o3 : (t.op == 3) = true := by rw [ho]; rfl
  have o4 : (t.op == 4) = false := by rw [ho]; rfl
  have o5 : (t.op == 5) = false := by rw [ho]; rfl
  have o6 : (t.op == 6) = false := by rw [ho]; rfl
  have o11 : (t.op == 11) = false := by rw [ho]; rfl
  have o12 : (t.op == 12) = false := by rw [ho]; rfl
  have o9 : (t.op == 9) = false := by rw [ho]; rfl
  have o7 : (t.op == 7) = false := by rw [ho]; rfl
  have o8 : (t.op == 8) = false := by rw [ho]; rfl
  have hS : codeS gr t to s = emitS ⟨2, to, 0, [⟨t.rune, t.rune⟩], 0⟩ s := by rw [codeS_eq, if_neg (by rw [hm]; simp), if_neg (by omega), if_pos ho]
  rw [hm] at k4
  have hem := fun W (hW : Below w.heap.size w W) b hh => emit_any W B0 G v st cp gr s ⟨2, to, 0, [⟨t.rune, t.rune⟩], 0⟩ _ (hb.below hW) (inC_rune (b := b) hh) hl
  have HH := Lib.hid hS
  clear hb hS hm ht ho
  go_enter Try.func24, Try.ntmps24
  go_wp2_with fail
  refine (hem _ (by repeat (first | exact Below.refl _ _ | apply below_al | apply below_drewN | refine Below.drew ?_)) _ (alloc_at (by simp))).mono ?_
  rintro e w1 ⟨v1, rfl, hb1, ht1⟩
  have H1 := Lib.hid (And.intro hb1 ht1)
  clear hem hb1 ht1
  go_wp2_with fail
  go_ret
  rw [HH.out]
  exact ⟨v1, rfl, H1.out.1, (Touch.of_below (by repeat (first | exact Below.refl _ _ | apply below_al | apply below_drewN | refine Below.drew ?_))).trans H1.out.2⟩
set_option maxRecDepth 100000 in
set_option maxHeartbeats 1000000 in
theorem code_at (B0 G : Nat) (st cp gr : Int) (t : Tr) (cs : List Value) (to : Int) (w : World) (v : Value) (s : St) (ht : TrC (fun b => b < B0) w t cs) (hb : BldAt w B0 G v st cp gr s) (hl : s.1.length ≤ 10000) (hm : s.2 = false) (ho : t.op = 5) :
    Calls Try.prog 24 #[.pointer (some ⟨G, 0, none⟩), .agg cs.toArray, .int .i64 to] w (EmitPost B0 G st cp gr v w (codeS gr t to s)) := by
  obtain ⟨A, c, B, d, rfl, m1, m2, m3, m4, h5, h6⟩ := trC_iff.1 ht
  obtain ⟨k4, hG, hG1, hG2⟩ := code_open hb
  have o1 : (t.op == 1) = false := by rw [ho]; rfl
  have o3 : (t.op == 3) = false := by rw [ho]; rfl
  have o4 : (t.op == 4) = false := by rw [ho]; rfl
  have o5 : (t.op == 5) = true := by rw [ho]; rfl
  have o6 : (t.op == 6) = false := by rw [ho]; rfl
  have o11 : (t.op == 11) = false := by rw [ho]; rfl
  have o12 : (t.op == 12) = false := by rw [ho]; rfl
  have o9 : (t.op == 9) = false := by rw [ho]; rfl
  have o7 : (t.op == 7) = false := by rw [ho]; rfl
  have o8 : (t.op == 8) = false := by rw [ho]; rfl
  have hS : codeS gr t to s = emitS ⟨5, to, 0, [], t.at_⟩ s := by rw [codeS_eq, if_neg (by rw [hm]; simp), if_neg (by omega), if_neg (by omega), if_neg (by omega), if_pos ho]
  rw [hm] at k4
  have hem := fun W (hW : Below w.heap.size w W) => emit_any W B0 G v st cp gr s ⟨5, to, 0, [], t.at_⟩ _ (hb.below hW) (inC_lit W _ _ _ _) hl
  have HH := Lib.hid hS
  clear hb hS hm ht ho
  go_enter Try.func24, Try.ntmps24
  go_wp2_with fail
  refine (hem _ (by repeat (first | exact Below.refl _ _ | apply below_al | apply below_drewN | refine Below.drew ?_))).mono ?_
  rintro e w1 ⟨v1, rfl, hb1, ht1⟩
  have H1 := Lib.hid (And.intro hb1 ht1)
  clear hem hb1 ht1
  go_wp2_with fail
  go_ret
  rw [HH.out]
  exact ⟨v1, rfl, H1.out.1, (Touch.of_below (by repeat (first | exact Below.refl _ _ | apply below_al | apply below_drewN | refine Below.drew ?_))).trans H1.out.2⟩
set_option maxRecDepth 100000 in
set_option maxHeartbeats 1000000 in
theorem code_cap (B0 G : Nat) (st cp gr : Int) (t : Tr) (cs : List Value) (to : Int) (w : World) (v : Value) (s : St) (ht : TrC (fun b => b < B0) w t cs) (hb : BldAt w B0 G v st cp gr s) (hl : s.1.length ≤ 10000) (hm : s.2 = false) (ho : t.op = 6) (hgr : 0 ≤ gr ∧ gr ≤ 2000) (h1 : 0 < t.kids.length) (hc : 1 ≤ t.cap) (ih : CodeOK B0 G st cp gr t.kids[0]) :
    Calls Try.prog 24 #[.pointer (some ⟨G, 0, none⟩), .agg cs.toArray, .int .i64 to] w (EmitPost B0 G st cp gr v w (codeS gr t to s)) := by
  obtain ⟨A, c, B, d, rfl, m1, m2, m3, m4, h5, h6⟩ := trC_iff.1 ht
  obtain ⟨k4, hG, hG1, hG2⟩ := code_open hb
  have o1 : (t.op == 1) = false := by rw [ho]; rfl
  have o3 : (t.op == 3) = false := by rw [ho]; rfl
  have o4 : (t.op == 4) = false := by rw [ho]; rfl
  have o5 : (t.op == 5) = false := by rw [ho]; rfl
  have o6 : (t.op == 6) = true := by rw [ho]; rfl
  have o11 : (t.op == 11) = false := by rw [ho]; rfl
  have o12 : (t.op == 12) = false := by rw [ho]; rfl
  have o9 : (t.op == 9) = false := by rw [ho]; rfl
  have o7 : (t.op == 7) = false := by rw [ho]; rfl
  have o8 : (t.op == 8) = false := by rw [ho]; rfl
  have hS : codeS gr t to s = groupS gr t to s := by rw [codeS_eq, if_neg (by rw [hm]; simp), if_neg (by omega), if_neg (by omega), if_neg (by omega), if_neg (by omega), if_pos ho]; rfl
  rw [hm] at k4
  have hem := fun W (hW : Below w.heap.size w W) => group_any B0 G st cp gr hgr t _ to W v s (ht.move (fun b hb' hlt => ⟨hW.block b hlt, hb'⟩)) (hb.below hW) hl h1 hc ih
  have HH := Lib.hid hS
  clear hb hS hm ht ho ih h6
  go_enter Try.func24, Try.ntmps24
  go_wp2_with fail
  refine (hem _ (by repeat (first | exact Below.refl _ _ | apply below_al | apply below_drewN | refine Below.drew ?_))).mono ?_
  rintro e w1 ⟨v1, rfl, hb1, ht1⟩
  have H1 := Lib.hid (And.intro hb1 ht1)
  clear hem hb1 ht1
  go_wp2_with fail
  go_ret
  rw [HH.out]
  exact ⟨v1, rfl, H1.out.1, (Touch.of_below (by repeat (first | exact Below.refl _ _ | apply below_al | apply below_drewN | refine Below.drew ?_))).trans H1.out.2⟩
set_option maxRecDepth 100000 in
set_option maxHeartbeats 1000000 in
theorem code_star (B0 G : Nat) (st cp gr : Int) (t : Tr) (cs : List Value) (to : Int) (w : World) (v : Value) (s : St) (ht : TrC (fun b => b < B0) w t cs) (hb : BldAt w B0 G v st cp gr s) (hl : s.1.length ≤ 10000) (hm : s.2 = false) (ho : t.op = 7) (h1 : 0 < t.kids.length) (ih : CodeOK B0 G st cp gr t.kids[0]) :
    Calls Try.prog 24 #[.pointer (some ⟨G, 0, none⟩), .agg cs.toArray, .int .i64 to] w (EmitPost B0 G st cp gr v w (codeS gr t to s)) := by
  obtain ⟨A, c, B, d, rfl, m1, m2, m3, m4, h5, h6⟩ := trC_iff.1 ht
  obtain ⟨k4, hG, hG1, hG2⟩ := code_open hb
  have o1 : (t.op == 1) = false := by rw [ho]; rfl
  have o3 : (t.op == 3) = false := by rw [ho]; rfl
  have o4 : (t.op == 4) = false := by rw [ho]; rfl
  have o5 : (t.op == 5) = false := by rw [ho]; rfl
  have o6 : (t.op == 6) = false := by rw [ho]; rfl
  have o11 : (t.op == 11) = false := by rw [ho]; rfl
  have o12 : (t.op == 12) = false := by rw [ho]; rfl
  have o9 : (t.op == 9) = false := by rw [ho]; rfl
  have o7 : (t.op == 7) = true := by rw [ho]; rfl
  have o8 : (t.op == 8) = false := by rw [ho]; rfl
  have hS : codeS gr t to s = ((loopS gr t to s).1.1, (loopS gr t to s).2) := by
    rw [codeS_eq, if_neg (by rw [hm]; simp), if_neg (by omega), if_neg (by omega), if_neg (by omega), if_neg (by omega), if_neg (by omega), if_neg (by omega), if_neg (by omega), if_neg (by omega), if_pos (by omega)]
    unfold loopS
    simp only [ho]; simp
  rw [hm] at k4
  have hem := fun W (hW : Below w.heap.size w W) => loop_any B0 G st cp gr t _ to W v s (ht.move (fun b hb' hlt => ⟨hW.block b hlt, hb'⟩)) (hb.below hW) hl h1 ih
  have HH := Lib.hid hS
  clear hb hS hm ht ho ih h6
  go_enter Try.func24, Try.ntmps24
  go_wp2_with fail
  refine (hem _ (by repeat (first | exact Below.refl _ _ | apply below_al | apply below_drewN | refine Below.drew ?_))).mono ?_
  rintro e w1 ⟨v1, rfl, hb1, ht1⟩
  have H1 := Lib.hid (And.intro hb1 ht1)
  clear hem hb1 ht1
  go_wp2_with fail
  go_ret
  rw [HH.out]
  exact ⟨v1, rfl, H1.out.1, (Touch.of_below (by repeat (first | exact Below.refl _ _ | apply below_al | apply below_drewN | refine Below.drew ?_))).trans H1.out.2⟩
set_option maxRecDepth 100000 in
set_option maxHeartbeats 1000000 in
theorem code_plus (B0 G : Nat) (st cp gr : Int) (t : Tr) (cs : List Value) (to : Int) (w : World) (v : Value) (s : St) (ht : TrC (fun b => b < B0) w t cs) (hb : BldAt w B0 G v st cp gr s) (hl : s.1.length ≤ 10000) (hm : s.2 = false) (ho : t.op = 8) (h1 : 0 < t.kids.length) (ih : CodeOK B0 G st cp gr t.kids[0]) :
    Calls Try.prog 24 #[.pointer (some ⟨G, 0, none⟩), .agg cs.toArray, .int .i64 to] w (EmitPost B0 G st cp gr v w (codeS gr t to s)) := by
  obtain ⟨A, c, B, d, rfl, m1, m2, m3, m4, h5, h6⟩ := trC_iff.1 ht
  obtain ⟨k4, hG, hG1, hG2⟩ := code_open hb
  have o1 : (t.op == 1) = false := by rw [ho]; rfl
  have o3 : (t.op == 3) = false := by rw [ho]; rfl
  have o4 : (t.op == 4) = false := by rw [ho]; rfl
  have o5 : (t.op == 5) = false := by rw [ho]; rfl
  have o6 : (t.op == 6) = false := by rw [ho]; rfl
  have o11 : (t.op == 11) = false := by rw [ho]; rfl
  have o12 : (t.op == 12) = false := by rw [ho]; rfl
  have o9 : (t.op == 9) = false := by rw [ho]; rfl
  have o7 : (t.op == 7) = false := by rw [ho]; rfl
  have o8 : (t.op == 8) = true := by rw [ho]; rfl
  have hS : codeS gr t to s = ((loopS gr t to s).1.2, (loopS gr t to s).2) := by
    rw [codeS_eq, if_neg (by rw [hm]; simp), if_neg (by omega), if_neg (by omega), if_neg (by omega), if_neg (by omega), if_neg (by omega), if_neg (by omega), if_neg (by omega), if_neg (by omega), if_pos (by omega)]
    unfold loopS
    simp only [ho]; simp
  rw [hm] at k4
  have hem := fun W (hW : Below w.heap.size w W) => loop_any B0 G st cp gr t _ to W v s (ht.move (fun b hb' hlt => ⟨hW.block b hlt, hb'⟩)) (hb.below hW) hl h1 ih
  have HH := Lib.hid hS
  clear hb hS hm ht ho ih h6
  go_enter Try.func24, Try.ntmps24
  go_wp2_with fail
  refine (hem _ (by repeat (first | exact Below.refl _ _ | apply below_al | apply below_drewN | refine Below.drew ?_))).mono ?_
  rintro e w1 ⟨v1, rfl, hb1, ht1⟩
  have H1 := Lib.hid (And.intro hb1 ht1)
  clear hem hb1 ht1
  go_wp2_with fail
  go_ret
  rw [HH.out]
  exact ⟨v1, rfl, H1.out.1, (Touch.of_below (by repeat (first | exact Below.refl _ _ | apply below_al | apply below_drewN | refine Below.drew ?_))).trans H1.out.2⟩
set_option maxRecDepth 100000 in
set_option maxHeartbeats 1000000 in
theorem code_rest (B0 G : Nat) (st cp gr : Int) (t : Tr) (cs : List Value) (to : Int) (w : World) (v : Value) (s : St) (ht : TrC (fun b => b < B0) w t cs) (hb : BldAt w B0 G v st cp gr s) (hl : s.1.length ≤ 10000) (hm : s.2 = false) (hno : ¬ (t.op = 1 ∨ t.op = 3 ∨ t.op = 4 ∨ t.op = 5 ∨ t.op = 6 ∨ t.op = 11 ∨ t.op = 12 ∨ t.op = 9 ∨ t.op = 7 ∨ t.op = 8)) :
    Calls Try.prog 24 #[.pointer (some ⟨G, 0, none⟩), .agg cs.toArray, .int .i64 to] w (EmitPost B0 G st cp gr v w (codeS gr t to s)) := by
  obtain ⟨A, c, B, d, rfl, m1, m2, m3, m4, h5, h6⟩ := trC_iff.1 ht
  obtain ⟨k4, hG, hG1, hG2⟩ := code_open hb
  have o1 : (t.op == 1) = false := by simp; omega
  have o3 : (t.op == 3) = false := by simp; omega
  have o4 : (t.op == 4) = false := by simp; omega
  have o5 : (t.op == 5) = false := by simp; omega
  have o6 : (t.op == 6) = false := by simp; omega
  have o11 : (t.op == 11) = false := by simp; omega
  have o12 : (t.op == 12) = false := by simp; omega
  have o9 : (t.op == 9) = false := by simp; omega
  have o7 : (t.op == 7) = false := by simp; omega
  have o8 : (t.op == 8) = false := by simp; omega
  have hS : codeS gr t to s = (to, s) := by
    rw [codeS_eq, if_neg (by rw [hm]; simp), if_neg (by omega), if_neg (by omega), if_neg (by omega), if_neg (by omega), if_neg (by omega), if_neg (by omega), if_neg (by omega), if_neg (by omega), if_neg (by omega)]
  rw [hm] at k4
  have HH := Lib.hid (And.intro hb hS)
  clear hb hS hm ht hno
  go_enter Try.func24, Try.ntmps24
  go_wp2_with fail
  go_ret
  rw [HH.out.2]
  exact ⟨v, rfl, HH.out.1.below (by repeat (first | exact Below.refl _ _ | apply below_al | apply below_drewN | refine Below.drew ?_)), Touch.of_below (by repeat (first | exact Below.refl _ _ | apply below_al | apply below_drewN | refine Below.drew ?_))⟩
end Go.Proofs.Ytdnbholiijgedaa
