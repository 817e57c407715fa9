/-
  martelloref12.inst: is an instruction right, as the document has it? No condition but bounds.
  progs.right: may an instruction be? What sets.Right answers is a premise. No other condition.
  progs.Check: is it a program? What sets.Right answers is a premise. No other condition.
  martelloref12.Check: is a program right, as the document has it? No condition but bounds.
  What a right program is good for; lists of instructions that are come to are short. No condition.
-/
import Derived.Test.YthclpabmbhpohaaDoorOneMatG5
namespace Go.Proofs.YthclpabmbhpohaaDoor
open Go.RowKit
set_option linter.unusedVariables false
theorem atsB_iff (v : Int) : atsB v = true ↔ (v = 1 ∨ v = 2 ∨ v = 4 ∨ v = 8 ∨ v = 16 ∨ v = 32) := by unfold atsB ats; simp
set_option maxRecDepth 100000 in
set_option maxHeartbeats 4000000 in
theorem inst12_any (ok : Nat → Prop) (w : World) (A B : Option Addr) (L c d : Nat) (st caps : Int) (x : In) (h : Arr ok w 2 RgC B x.set) (hL : L ≤ 140737488351232) (hN : x.set.length ≤ 140737488351232) :
    Calls Tryd.prog 31 #[.agg #[.slice A L c, .int .i64 st, .int .i64 caps], .agg #[.int .i64 x.op, .int .i64 x.out, .int .i64 x.arg, .slice B x.set.length d, .int .i64 x.at_]] w fun e w' => e = .returned (.bool (rightI rightR L caps x)) ∧ Below w.heap.size w w' := by
  obtain ⟨op, out, arg, set, at_⟩ := x
  dsimp only at h hN ⊢
  have hB0 := below_al (below_al (Below.refl w.heap.size w) (.cells #[.slice A L c, .int .i64 st, .int .i64 caps] 28)) (.cells #[.int .i64 op, .int .i64 out, .int .i64 arg, .slice B set.length d, .int .i64 at_] 64)
  have hx := heap_new2 w (.cells #[.slice A L c, .int .i64 st, .int .i64 caps] 28) (.cells #[.int .i64 op, .int .i64 out, .int .i64 arg, .slice B set.length d, .int .i64 at_] 64)
  have hr := right02_any ok _ set B d (h.move (ok' := ok) (fun b hb hlt => ⟨hB0.block b hlt, hb⟩) (by omega)) hN
  have HR : Hid (rightI rightR L caps ⟨op, out, arg, set, at_⟩ = rightI rightR L caps ⟨op, out, arg, set, at_⟩) := Lib.hid rfl
  obtain ⟨n, hn⟩ : ∃ n, set.length = n := ⟨_, rfl⟩
  have hri : ∀ r, r = rightI rightR L caps ⟨op, out, arg, set, at_⟩ → r = (
      if op = 1 ∨ op = 6 then (out == 0) && (arg == 0) && (at_ == 0) && ((n : Int) == 0)
      else if op = 2 then hereB L out && !((n : Int) == 0) && rightR set && (arg == 0) && (at_ == 0)
      else if op = 3 then hereB L out && hereB L arg && (at_ == 0) && ((n : Int) == 0)
      else if op = 4 then hereB L out && !decide (arg < 2) && !decide (caps ≤ arg) && (at_ == 0) && ((n : Int) == 0)
      else if op = 5 then hereB L out && atsB at_ && (arg == 0) && ((n : Int) == 0)
      else false) := fun r h9 => by rw [h9, ← hn]; rfl
  obtain ⟨r, hr9⟩ : ∃ r, rightI rightR L caps ⟨op, out, arg, set, at_⟩ = r := ⟨_, rfl⟩
  rw [hr9]
  have hri2 := hri r hr9.symm
  clear hri HR hr9
  rw [hn] at hr hx hB0 hN ⊢
  clear h hn
  generalize rightR set = rs at *
  have hav := atsB_iff at_
  generalize atsB at_ = av at *
  have HX := Lib.hid (And.intro hB0 (And.intro hri2 (And.intro hav hx)))
  clear hB0 hri2 hav hx
  by_cases h1 : op < 1
  · have d1 : decide (op < 1) = true := decide_eq_true h1
    go_enter Tryd.func31, Tryd.ntmps31
    go_wp2_with fail
    go_ret
    exact ⟨ret_bool (by rw [HX.out.2.1]; rw [if_neg (by omega), if_neg (by omega), if_neg (by omega), if_neg (by omega), if_neg (by omega)]), HX.out.1⟩
  by_cases h6 : 6 < op
  · have d1 : decide (op < 1) = false := decide_eq_false h1
    have d6 : decide (6 < op) = true := decide_eq_true h6
    go_enter Tryd.func31, Tryd.ntmps31
    go_wp2_with fail
    go_ret
    exact ⟨ret_bool (by rw [HX.out.2.1]; rw [if_neg (by omega), if_neg (by omega), if_neg (by omega), if_neg (by omega), if_neg (by omega)]), HX.out.1⟩
  have hop : op = 1 ∨ op = 2 ∨ op = 3 ∨ op = 4 ∨ op = 5 ∨ op = 6 := by omega
  clear h1 h6
  rcases hop with rfl | rfl | rfl | rfl | rfl | rfl
  all_goals
    go_enter Tryd.func31, Tryd.ntmps31
    go_wp2_with (go_at_call 51; refine hr.mono ?_; clear hr; rintro e w1 ⟨rfl, hb1⟩; (have hbx := (hb1.block _ (heap_lt HX.out.2.2.2)).trans HX.out.2.2.2); (obtain ⟨x0, x1, x2, x3, x4⟩ := cells5 hbx); (have xn := heap_lt hbx); (have HB1 := Lib.hid (below_and hb1 HX.out.1)); clear hb1 hbx)
    all_goals
      go_ret
      refine ⟨ret_bool ?_, by first | exact HB1.out | exact HX.out.1⟩
      rw [HX.out.2.1]
      have hav := HX.out.2.2.1
      clear HX
      rw [Bool.eq_iff_iff]
      (first | (simp [hereB]; done) | (simp [hereB]; omega) | (simp [hereB, hav]; omega) | (simp_all [hereB]; done) | (simp_all [hereB]; omega) | trace_state)
end Go.Proofs.YthclpabmbhpohaaDoor
namespace Go.Proofs.YthclpabmbhpohaaDoor
open Go.RowKit
set_option linter.unusedVariables false
set_option maxRecDepth 100000 in
set_option maxHeartbeats 8000000 in
theorem right_pg1 (R : List Rg → Bool) (ok : Nat → Prop) (w : World) (p : Pg) (x : In) (ps xs : List Value) (hp : PgC ok w p ps) (hx : InO ok w x xs) (hR : x.op = 2 → RightOK R x.set) (hpl : p.ins.length ≤ 140737488351232) (ho : x.op = 1) :
    Calls Tryd.prog 54 #[.agg ps.toArray, .agg xs.toArray] w fun e w' => e = .returned (.bool (rightI R p.ins.length p.caps x)) ∧ Below w.heap.size w w' := by
  obtain ⟨A, c, rfl, p1, p2, _⟩ := hp
  obtain ⟨B, d, rfl, x1, x2, x3⟩ := hx
  have hRr : True := trivial
  clear hR x3
  have HO := Lib.hid ho
  have o1 : (x.op == 1) = true := (by rw [ho]; rfl)
  have o6 : (x.op == 6) = false := (by rw [ho]; rfl)
  have o2 : (x.op == 2) = false := (by rw [ho]; rfl)
  have o3 : (x.op == 3) = false := (by rw [ho]; rfl)
  have o4 : (x.op == 4) = false := (by rw [ho]; rfl)
  have o5 : (x.op == 5) = false := (by rw [ho]; rfl)
  clear ho
  have hb3 : (((w.alloc (.cells #[.slice A p.ins.length c, .int .i64 p.start, .int .i64 p.caps] 28)).alloc (.cells #[.int .i64 x.op, .int .i64 x.out, .int .i64 x.arg, .slice B x.set.length d, .int .i64 x.at_] 64)).alloc (.cells #[.int .i64 0, .int .i64 x.out, .int .i64 x.arg, .slice B x.set.length d, .int .i64 x.at_] 64)).heap[w.heap.size]? = some (.cells #[.slice A p.ins.length c, .int .i64 p.start, .int .i64 p.caps] 28 (0, 0)) := (Below.heap_alloc _ _ _ (by simp; omega)).trans ((Below.heap_alloc _ _ _ (by simp)).trans (heap_new1 _ _))
  have hbx : (((w.alloc (.cells #[.slice A p.ins.length c, .int .i64 p.start, .int .i64 p.caps] 28)).alloc (.cells #[.int .i64 x.op, .int .i64 x.out, .int .i64 x.arg, .slice B x.set.length d, .int .i64 x.at_] 64)).alloc (.cells #[.int .i64 0, .int .i64 x.out, .int .i64 x.arg, .slice B x.set.length d, .int .i64 x.at_] 64)).heap[w.heap.size + 1]? = some (.cells #[.int .i64 x.op, .int .i64 x.out, .int .i64 x.arg, .slice B x.set.length d, .int .i64 x.at_] 64 (0, 0)) := (Below.heap_alloc _ _ _ (by simp)).trans (heap_new2 _ _ _)
  have hb2 : (((w.alloc (.cells #[.slice A p.ins.length c, .int .i64 p.start, .int .i64 p.caps] 28)).alloc (.cells #[.int .i64 x.op, .int .i64 x.out, .int .i64 x.arg, .slice B x.set.length d, .int .i64 x.at_] 64)).alloc (.cells #[.int .i64 0, .int .i64 x.out, .int .i64 x.arg, .slice B x.set.length d, .int .i64 x.at_] 64)).heap[w.heap.size + 1 + 1]? = some (.cells #[.int .i64 0, .int .i64 x.out, .int .i64 x.arg, .slice B x.set.length d, .int .i64 x.at_] 64 (0, 0)) := heap_new3 _ _ _ _
  have hb4 : ∀ o, ((((w.alloc (.cells #[.slice A p.ins.length c, .int .i64 p.start, .int .i64 p.caps] 28)).alloc (.cells #[.int .i64 x.op, .int .i64 x.out, .int .i64 x.arg, .slice B x.set.length d, .int .i64 x.at_] 64)).alloc (.cells #[.int .i64 0, .int .i64 x.out, .int .i64 x.arg, .slice B x.set.length d, .int .i64 x.at_] 64)).alloc o).heap[w.heap.size]? = some (.cells #[.slice A p.ins.length c, .int .i64 p.start, .int .i64 p.caps] 28 (0, 0)) := fun o => (Below.heap_alloc _ _ _ (by simp; omega)).trans hb3
  have yb : Below w.heap.size w (((w.alloc (.cells #[.slice A p.ins.length c, .int .i64 p.start, .int .i64 p.caps] 28)).alloc (.cells #[.int .i64 x.op, .int .i64 x.out, .int .i64 x.arg, .slice B x.set.length d, .int .i64 x.at_] 64)).alloc (.cells #[.int .i64 0, .int .i64 x.out, .int .i64 x.arg, .slice B x.set.length d, .int .i64 x.at_] 64)) := below_al (below_al (below_al (Below.refl _ _) _) _) _
  have HH := Lib.hid (And.intro hb3 (And.intro hbx hb2))
  cases c1 : (x.out == 0) with
  | false =>
    go_enter Tryd.func54, Tryd.ntmps54
    go_wp2_with (first
          | (go_at_call 72; refine (here_any _ w.heap.size A p.ins.length c p.start p.caps _ (by first | exact hb3 | exact hb4 _) hpl).mono ?_; rintro e w' ⟨rfl, rfl⟩)
          | (go_at_call 74; refine (containsAtB _ _ _ _ (by first | exact heap_new4 _ _ _ _ _ | exact heap_new1 _ _)).mono ?_; rintro e w' ⟨rfl, rfl⟩)
          | (go_at_call 73; refine (hRr _ yb).mono ?_; clear hRr; rintro e w4 ⟨rfl, hb4⟩; have z := (hb4.block _ (heap_lt hb2)).trans hb2; obtain ⟨z0, z1, z2, z3, z4⟩ := cells5 z; have zx := (hb4.block _ (heap_lt hbx)).trans hbx; obtain ⟨v0, v1, v2, v3, v4⟩ := cells5 zx; have fz := frozenOf z; have ny := heap_lt z; have YB := Lib.hid (below_and hb4 yb); clear z zx hb4))
    go_ret
    exact ⟨ret_bool (by unfold rightI; simp [HO.out, c1]), by first | exact (((YB.out.setCell (by simp) _).setCell (by simp) _)) | exact YB.out | (repeat (first | exact Below.refl _ _ | apply below_al))⟩
  | true =>
    cases c2 : (x.arg == 0) with
    | false =>
      go_enter Tryd.func54, Tryd.ntmps54
      go_wp2_with (first
            | (go_at_call 72; refine (here_any _ w.heap.size A p.ins.length c p.start p.caps _ (by first | exact hb3 | exact hb4 _) hpl).mono ?_; rintro e w' ⟨rfl, rfl⟩)
            | (go_at_call 74; refine (containsAtB _ _ _ _ (by first | exact heap_new4 _ _ _ _ _ | exact heap_new1 _ _)).mono ?_; rintro e w' ⟨rfl, rfl⟩)
            | (go_at_call 73; refine (hRr _ yb).mono ?_; clear hRr; rintro e w4 ⟨rfl, hb4⟩; have z := (hb4.block _ (heap_lt hb2)).trans hb2; obtain ⟨z0, z1, z2, z3, z4⟩ := cells5 z; have zx := (hb4.block _ (heap_lt hbx)).trans hbx; obtain ⟨v0, v1, v2, v3, v4⟩ := cells5 zx; have fz := frozenOf z; have ny := heap_lt z; have YB := Lib.hid (below_and hb4 yb); clear z zx hb4))
      go_ret
      exact ⟨ret_bool (by unfold rightI; simp [HO.out, c1, c2]), by first | exact (((YB.out.setCell (by simp) _).setCell (by simp) _)) | exact YB.out | (repeat (first | exact Below.refl _ _ | apply below_al))⟩
    | true =>
      cases c3 : (x.at_ == 0) with
      | false =>
        go_enter Tryd.func54, Tryd.ntmps54
        go_wp2_with (first
              | (go_at_call 72; refine (here_any _ w.heap.size A p.ins.length c p.start p.caps _ (by first | exact hb3 | exact hb4 _) hpl).mono ?_; rintro e w' ⟨rfl, rfl⟩)
              | (go_at_call 74; refine (containsAtB _ _ _ _ (by first | exact heap_new4 _ _ _ _ _ | exact heap_new1 _ _)).mono ?_; rintro e w' ⟨rfl, rfl⟩)
              | (go_at_call 73; refine (hRr _ yb).mono ?_; clear hRr; rintro e w4 ⟨rfl, hb4⟩; have z := (hb4.block _ (heap_lt hb2)).trans hb2; obtain ⟨z0, z1, z2, z3, z4⟩ := cells5 z; have zx := (hb4.block _ (heap_lt hbx)).trans hbx; obtain ⟨v0, v1, v2, v3, v4⟩ := cells5 zx; have fz := frozenOf z; have ny := heap_lt z; have YB := Lib.hid (below_and hb4 yb); clear z zx hb4))
        go_ret
        exact ⟨ret_bool (by unfold rightI; simp [HO.out, c1, c2, c3]), by first | exact (((YB.out.setCell (by simp) _).setCell (by simp) _)) | exact YB.out | (repeat (first | exact Below.refl _ _ | apply below_al))⟩
      | true =>
        cases c4 : ((x.set.length : Int) == 0) with
        | false =>
          go_enter Tryd.func54, Tryd.ntmps54
          go_wp2_with (first
                | (go_at_call 72; refine (here_any _ w.heap.size A p.ins.length c p.start p.caps _ (by first | exact hb3 | exact hb4 _) hpl).mono ?_; rintro e w' ⟨rfl, rfl⟩)
                | (go_at_call 74; refine (containsAtB _ _ _ _ (by first | exact heap_new4 _ _ _ _ _ | exact heap_new1 _ _)).mono ?_; rintro e w' ⟨rfl, rfl⟩)
                | (go_at_call 73; refine (hRr _ yb).mono ?_; clear hRr; rintro e w4 ⟨rfl, hb4⟩; have z := (hb4.block _ (heap_lt hb2)).trans hb2; obtain ⟨z0, z1, z2, z3, z4⟩ := cells5 z; have zx := (hb4.block _ (heap_lt hbx)).trans hbx; obtain ⟨v0, v1, v2, v3, v4⟩ := cells5 zx; have fz := frozenOf z; have ny := heap_lt z; have YB := Lib.hid (below_and hb4 yb); clear z zx hb4))
          go_ret
          exact ⟨ret_bool (by unfold rightI; simp [HO.out, c1, c2, c3, c4]), by first | exact (((YB.out.setCell (by simp) _).setCell (by simp) _)) | exact YB.out | (repeat (first | exact Below.refl _ _ | apply below_al))⟩
        | true =>
          go_enter Tryd.func54, Tryd.ntmps54
          go_wp2_with (first
                | (go_at_call 72; refine (here_any _ w.heap.size A p.ins.length c p.start p.caps _ (by first | exact hb3 | exact hb4 _) hpl).mono ?_; rintro e w' ⟨rfl, rfl⟩)
                | (go_at_call 74; refine (containsAtB _ _ _ _ (by first | exact heap_new4 _ _ _ _ _ | exact heap_new1 _ _)).mono ?_; rintro e w' ⟨rfl, rfl⟩)
                | (go_at_call 73; refine (hRr _ yb).mono ?_; clear hRr; rintro e w4 ⟨rfl, hb4⟩; have z := (hb4.block _ (heap_lt hb2)).trans hb2; obtain ⟨z0, z1, z2, z3, z4⟩ := cells5 z; have zx := (hb4.block _ (heap_lt hbx)).trans hbx; obtain ⟨v0, v1, v2, v3, v4⟩ := cells5 zx; have fz := frozenOf z; have ny := heap_lt z; have YB := Lib.hid (below_and hb4 yb); clear z zx hb4))
          go_ret
          exact ⟨ret_bool (by unfold rightI; simp [HO.out, c1, c2, c3, c4]), by first | exact (((YB.out.setCell (by simp) _).setCell (by simp) _)) | exact YB.out | (repeat (first | exact Below.refl _ _ | apply below_al))⟩
set_option maxRecDepth 100000 in
set_option maxHeartbeats 8000000 in
theorem right_pg6 (R : List Rg → Bool) (ok : Nat → Prop) (w : World) (p : Pg) (x : In) (ps xs : List Value) (hp : PgC ok w p ps) (hx : InO ok w x xs) (hR : x.op = 2 → RightOK R x.set) (hpl : p.ins.length ≤ 140737488351232) (ho : x.op = 6) :
    Calls Tryd.prog 54 #[.agg ps.toArray, .agg xs.toArray] w fun e w' => e = .returned (.bool (rightI R p.ins.length p.caps x)) ∧ Below w.heap.size w w' := by
  obtain ⟨A, c, rfl, p1, p2, _⟩ := hp
  obtain ⟨B, d, rfl, x1, x2, x3⟩ := hx
  have hRr : True := trivial
  clear hR x3
  have HO := Lib.hid ho
  have o1 : (x.op == 1) = false := (by rw [ho]; rfl)
  have o6 : (x.op == 6) = true := (by rw [ho]; rfl)
  have o2 : (x.op == 2) = false := (by rw [ho]; rfl)
  have o3 : (x.op == 3) = false := (by rw [ho]; rfl)
  have o4 : (x.op == 4) = false := (by rw [ho]; rfl)
  have o5 : (x.op == 5) = false := (by rw [ho]; rfl)
  clear ho
  have hb3 : (((w.alloc (.cells #[.slice A p.ins.length c, .int .i64 p.start, .int .i64 p.caps] 28)).alloc (.cells #[.int .i64 x.op, .int .i64 x.out, .int .i64 x.arg, .slice B x.set.length d, .int .i64 x.at_] 64)).alloc (.cells #[.int .i64 0, .int .i64 x.out, .int .i64 x.arg, .slice B x.set.length d, .int .i64 x.at_] 64)).heap[w.heap.size]? = some (.cells #[.slice A p.ins.length c, .int .i64 p.start, .int .i64 p.caps] 28 (0, 0)) := (Below.heap_alloc _ _ _ (by simp; omega)).trans ((Below.heap_alloc _ _ _ (by simp)).trans (heap_new1 _ _))
  have hbx : (((w.alloc (.cells #[.slice A p.ins.length c, .int .i64 p.start, .int .i64 p.caps] 28)).alloc (.cells #[.int .i64 x.op, .int .i64 x.out, .int .i64 x.arg, .slice B x.set.length d, .int .i64 x.at_] 64)).alloc (.cells #[.int .i64 0, .int .i64 x.out, .int .i64 x.arg, .slice B x.set.length d, .int .i64 x.at_] 64)).heap[w.heap.size + 1]? = some (.cells #[.int .i64 x.op, .int .i64 x.out, .int .i64 x.arg, .slice B x.set.length d, .int .i64 x.at_] 64 (0, 0)) := (Below.heap_alloc _ _ _ (by simp)).trans (heap_new2 _ _ _)
  have hb2 : (((w.alloc (.cells #[.slice A p.ins.length c, .int .i64 p.start, .int .i64 p.caps] 28)).alloc (.cells #[.int .i64 x.op, .int .i64 x.out, .int .i64 x.arg, .slice B x.set.length d, .int .i64 x.at_] 64)).alloc (.cells #[.int .i64 0, .int .i64 x.out, .int .i64 x.arg, .slice B x.set.length d, .int .i64 x.at_] 64)).heap[w.heap.size + 1 + 1]? = some (.cells #[.int .i64 0, .int .i64 x.out, .int .i64 x.arg, .slice B x.set.length d, .int .i64 x.at_] 64 (0, 0)) := heap_new3 _ _ _ _
  have hb4 : ∀ o, ((((w.alloc (.cells #[.slice A p.ins.length c, .int .i64 p.start, .int .i64 p.caps] 28)).alloc (.cells #[.int .i64 x.op, .int .i64 x.out, .int .i64 x.arg, .slice B x.set.length d, .int .i64 x.at_] 64)).alloc (.cells #[.int .i64 0, .int .i64 x.out, .int .i64 x.arg, .slice B x.set.length d, .int .i64 x.at_] 64)).alloc o).heap[w.heap.size]? = some (.cells #[.slice A p.ins.length c, .int .i64 p.start, .int .i64 p.caps] 28 (0, 0)) := fun o => (Below.heap_alloc _ _ _ (by simp; omega)).trans hb3
  have yb : Below w.heap.size w (((w.alloc (.cells #[.slice A p.ins.length c, .int .i64 p.start, .int .i64 p.caps] 28)).alloc (.cells #[.int .i64 x.op, .int .i64 x.out, .int .i64 x.arg, .slice B x.set.length d, .int .i64 x.at_] 64)).alloc (.cells #[.int .i64 0, .int .i64 x.out, .int .i64 x.arg, .slice B x.set.length d, .int .i64 x.at_] 64)) := below_al (below_al (below_al (Below.refl _ _) _) _) _
  have HH := Lib.hid (And.intro hb3 (And.intro hbx hb2))
  cases c1 : (x.out == 0) with
  | false =>
    go_enter Tryd.func54, Tryd.ntmps54
    go_wp2_with (first
          | (go_at_call 72; refine (here_any _ w.heap.size A p.ins.length c p.start p.caps _ (by first | exact hb3 | exact hb4 _) hpl).mono ?_; rintro e w' ⟨rfl, rfl⟩)
          | (go_at_call 74; refine (containsAtB _ _ _ _ (by first | exact heap_new4 _ _ _ _ _ | exact heap_new1 _ _)).mono ?_; rintro e w' ⟨rfl, rfl⟩)
          | (go_at_call 73; refine (hRr _ yb).mono ?_; clear hRr; rintro e w4 ⟨rfl, hb4⟩; have z := (hb4.block _ (heap_lt hb2)).trans hb2; obtain ⟨z0, z1, z2, z3, z4⟩ := cells5 z; have zx := (hb4.block _ (heap_lt hbx)).trans hbx; obtain ⟨v0, v1, v2, v3, v4⟩ := cells5 zx; have fz := frozenOf z; have ny := heap_lt z; have YB := Lib.hid (below_and hb4 yb); clear z zx hb4))
    go_ret
    exact ⟨ret_bool (by unfold rightI; simp [HO.out, c1]), by first | exact (((YB.out.setCell (by simp) _).setCell (by simp) _)) | exact YB.out | (repeat (first | exact Below.refl _ _ | apply below_al))⟩
  | true =>
    cases c2 : (x.arg == 0) with
    | false =>
      go_enter Tryd.func54, Tryd.ntmps54
      go_wp2_with (first
            | (go_at_call 72; refine (here_any _ w.heap.size A p.ins.length c p.start p.caps _ (by first | exact hb3 | exact hb4 _) hpl).mono ?_; rintro e w' ⟨rfl, rfl⟩)
            | (go_at_call 74; refine (containsAtB _ _ _ _ (by first | exact heap_new4 _ _ _ _ _ | exact heap_new1 _ _)).mono ?_; rintro e w' ⟨rfl, rfl⟩)
            | (go_at_call 73; refine (hRr _ yb).mono ?_; clear hRr; rintro e w4 ⟨rfl, hb4⟩; have z := (hb4.block _ (heap_lt hb2)).trans hb2; obtain ⟨z0, z1, z2, z3, z4⟩ := cells5 z; have zx := (hb4.block _ (heap_lt hbx)).trans hbx; obtain ⟨v0, v1, v2, v3, v4⟩ := cells5 zx; have fz := frozenOf z; have ny := heap_lt z; have YB := Lib.hid (below_and hb4 yb); clear z zx hb4))
      go_ret
      exact ⟨ret_bool (by unfold rightI; simp [HO.out, c1, c2]), by first | exact (((YB.out.setCell (by simp) _).setCell (by simp) _)) | exact YB.out | (repeat (first | exact Below.refl _ _ | apply below_al))⟩
    | true =>
      cases c3 : (x.at_ == 0) with
      | false =>
        go_enter Tryd.func54, Tryd.ntmps54
        go_wp2_with (first
              | (go_at_call 72; refine (here_any _ w.heap.size A p.ins.length c p.start p.caps _ (by first | exact hb3 | exact hb4 _) hpl).mono ?_; rintro e w' ⟨rfl, rfl⟩)
              | (go_at_call 74; refine (containsAtB _ _ _ _ (by first | exact heap_new4 _ _ _ _ _ | exact heap_new1 _ _)).mono ?_; rintro e w' ⟨rfl, rfl⟩)
              | (go_at_call 73; refine (hRr _ yb).mono ?_; clear hRr; rintro e w4 ⟨rfl, hb4⟩; have z := (hb4.block _ (heap_lt hb2)).trans hb2; obtain ⟨z0, z1, z2, z3, z4⟩ := cells5 z; have zx := (hb4.block _ (heap_lt hbx)).trans hbx; obtain ⟨v0, v1, v2, v3, v4⟩ := cells5 zx; have fz := frozenOf z; have ny := heap_lt z; have YB := Lib.hid (below_and hb4 yb); clear z zx hb4))
        go_ret
        exact ⟨ret_bool (by unfold rightI; simp [HO.out, c1, c2, c3]), by first | exact (((YB.out.setCell (by simp) _).setCell (by simp) _)) | exact YB.out | (repeat (first | exact Below.refl _ _ | apply below_al))⟩
      | true =>
        cases c4 : ((x.set.length : Int) == 0) with
        | false =>
          go_enter Tryd.func54, Tryd.ntmps54
          go_wp2_with (first
                | (go_at_call 72; refine (here_any _ w.heap.size A p.ins.length c p.start p.caps _ (by first | exact hb3 | exact hb4 _) hpl).mono ?_; rintro e w' ⟨rfl, rfl⟩)
                | (go_at_call 74; refine (containsAtB _ _ _ _ (by first | exact heap_new4 _ _ _ _ _ | exact heap_new1 _ _)).mono ?_; rintro e w' ⟨rfl, rfl⟩)
                | (go_at_call 73; refine (hRr _ yb).mono ?_; clear hRr; rintro e w4 ⟨rfl, hb4⟩; have z := (hb4.block _ (heap_lt hb2)).trans hb2; obtain ⟨z0, z1, z2, z3, z4⟩ := cells5 z; have zx := (hb4.block _ (heap_lt hbx)).trans hbx; obtain ⟨v0, v1, v2, v3, v4⟩ := cells5 zx; have fz := frozenOf z; have ny := heap_lt z; have YB := Lib.hid (below_and hb4 yb); clear z zx hb4))
          go_ret
          exact ⟨ret_bool (by unfold rightI; simp [HO.out, c1, c2, c3, c4]), by first | exact (((YB.out.setCell (by simp) _).setCell (by simp) _)) | exact YB.out | (repeat (first | exact Below.refl _ _ | apply below_al))⟩
        | true =>
          go_enter Tryd.func54, Tryd.ntmps54
          go_wp2_with (first
                | (go_at_call 72; refine (here_any _ w.heap.size A p.ins.length c p.start p.caps _ (by first | exact hb3 | exact hb4 _) hpl).mono ?_; rintro e w' ⟨rfl, rfl⟩)
                | (go_at_call 74; refine (containsAtB _ _ _ _ (by first | exact heap_new4 _ _ _ _ _ | exact heap_new1 _ _)).mono ?_; rintro e w' ⟨rfl, rfl⟩)
                | (go_at_call 73; refine (hRr _ yb).mono ?_; clear hRr; rintro e w4 ⟨rfl, hb4⟩; have z := (hb4.block _ (heap_lt hb2)).trans hb2; obtain ⟨z0, z1, z2, z3, z4⟩ := cells5 z; have zx := (hb4.block _ (heap_lt hbx)).trans hbx; obtain ⟨v0, v1, v2, v3, v4⟩ := cells5 zx; have fz := frozenOf z; have ny := heap_lt z; have YB := Lib.hid (below_and hb4 yb); clear z zx hb4))
          go_ret
          exact ⟨ret_bool (by unfold rightI; simp [HO.out, c1, c2, c3, c4]), by first | exact (((YB.out.setCell (by simp) _).setCell (by simp) _)) | exact YB.out | (repeat (first | exact Below.refl _ _ | apply below_al))⟩
set_option maxRecDepth 100000 in
set_option maxHeartbeats 8000000 in
theorem right_pg2 (R : List Rg → Bool) (ok : Nat → Prop) (w : World) (p : Pg) (x : In) (ps xs : List Value) (hp : PgC ok w p ps) (hx : InO ok w x xs) (hR : x.op = 2 → RightOK R x.set) (hpl : p.ins.length ≤ 140737488351232) (ho : x.op = 2) :
    Calls Tryd.prog 54 #[.agg ps.toArray, .agg xs.toArray] w fun e w' => e = .returned (.bool (rightI R p.ins.length p.caps x)) ∧ Below w.heap.size w w' := by
  obtain ⟨A, c, rfl, p1, p2, _⟩ := hp
  obtain ⟨B, d, rfl, x1, x2, x3⟩ := hx
  have hRr := fun (W : World) (hW : Below w.heap.size w W) => hR ho ok W B d (x3.move (fun b hb hlt => ⟨hW.block b hlt, hb⟩) (by omega)) x1 x2
  clear hR x3
  have HO := Lib.hid ho
  have o1 : (x.op == 1) = false := (by rw [ho]; rfl)
  have o6 : (x.op == 6) = false := (by rw [ho]; rfl)
  have o2 : (x.op == 2) = true := (by rw [ho]; rfl)
  have o3 : (x.op == 3) = false := (by rw [ho]; rfl)
  have o4 : (x.op == 4) = false := (by rw [ho]; rfl)
  have o5 : (x.op == 5) = false := (by rw [ho]; rfl)
  clear ho
  have hb3 : (((w.alloc (.cells #[.slice A p.ins.length c, .int .i64 p.start, .int .i64 p.caps] 28)).alloc (.cells #[.int .i64 x.op, .int .i64 x.out, .int .i64 x.arg, .slice B x.set.length d, .int .i64 x.at_] 64)).alloc (.cells #[.int .i64 0, .int .i64 x.out, .int .i64 x.arg, .slice B x.set.length d, .int .i64 x.at_] 64)).heap[w.heap.size]? = some (.cells #[.slice A p.ins.length c, .int .i64 p.start, .int .i64 p.caps] 28 (0, 0)) := (Below.heap_alloc _ _ _ (by simp; omega)).trans ((Below.heap_alloc _ _ _ (by simp)).trans (heap_new1 _ _))
  have hbx : (((w.alloc (.cells #[.slice A p.ins.length c, .int .i64 p.start, .int .i64 p.caps] 28)).alloc (.cells #[.int .i64 x.op, .int .i64 x.out, .int .i64 x.arg, .slice B x.set.length d, .int .i64 x.at_] 64)).alloc (.cells #[.int .i64 0, .int .i64 x.out, .int .i64 x.arg, .slice B x.set.length d, .int .i64 x.at_] 64)).heap[w.heap.size + 1]? = some (.cells #[.int .i64 x.op, .int .i64 x.out, .int .i64 x.arg, .slice B x.set.length d, .int .i64 x.at_] 64 (0, 0)) := (Below.heap_alloc _ _ _ (by simp)).trans (heap_new2 _ _ _)
  have hb2 : (((w.alloc (.cells #[.slice A p.ins.length c, .int .i64 p.start, .int .i64 p.caps] 28)).alloc (.cells #[.int .i64 x.op, .int .i64 x.out, .int .i64 x.arg, .slice B x.set.length d, .int .i64 x.at_] 64)).alloc (.cells #[.int .i64 0, .int .i64 x.out, .int .i64 x.arg, .slice B x.set.length d, .int .i64 x.at_] 64)).heap[w.heap.size + 1 + 1]? = some (.cells #[.int .i64 0, .int .i64 x.out, .int .i64 x.arg, .slice B x.set.length d, .int .i64 x.at_] 64 (0, 0)) := heap_new3 _ _ _ _
  have hb4 : ∀ o, ((((w.alloc (.cells #[.slice A p.ins.length c, .int .i64 p.start, .int .i64 p.caps] 28)).alloc (.cells #[.int .i64 x.op, .int .i64 x.out, .int .i64 x.arg, .slice B x.set.length d, .int .i64 x.at_] 64)).alloc (.cells #[.int .i64 0, .int .i64 x.out, .int .i64 x.arg, .slice B x.set.length d, .int .i64 x.at_] 64)).alloc o).heap[w.heap.size]? = some (.cells #[.slice A p.ins.length c, .int .i64 p.start, .int .i64 p.caps] 28 (0, 0)) := fun o => (Below.heap_alloc _ _ _ (by simp; omega)).trans hb3
  have yb : Below w.heap.size w (((w.alloc (.cells #[.slice A p.ins.length c, .int .i64 p.start, .int .i64 p.caps] 28)).alloc (.cells #[.int .i64 x.op, .int .i64 x.out, .int .i64 x.arg, .slice B x.set.length d, .int .i64 x.at_] 64)).alloc (.cells #[.int .i64 0, .int .i64 x.out, .int .i64 x.arg, .slice B x.set.length d, .int .i64 x.at_] 64)) := below_al (below_al (below_al (Below.refl _ _) _) _) _
  have HH := Lib.hid (And.intro hb3 (And.intro hbx hb2))
  cases c1 : hereB p.ins.length x.out with
  | false =>
    go_enter Tryd.func54, Tryd.ntmps54
    go_wp2_with (first
          | (go_at_call 72; refine (here_any _ w.heap.size A p.ins.length c p.start p.caps _ (by first | exact hb3 | exact hb4 _) hpl).mono ?_; rintro e w' ⟨rfl, rfl⟩)
          | (go_at_call 74; refine (containsAtB _ _ _ _ (by first | exact heap_new4 _ _ _ _ _ | exact heap_new1 _ _)).mono ?_; rintro e w' ⟨rfl, rfl⟩)
          | (go_at_call 73; refine (hRr _ yb).mono ?_; clear hRr; rintro e w4 ⟨rfl, hb4⟩; have z := (hb4.block _ (heap_lt hb2)).trans hb2; obtain ⟨z0, z1, z2, z3, z4⟩ := cells5 z; have zx := (hb4.block _ (heap_lt hbx)).trans hbx; obtain ⟨v0, v1, v2, v3, v4⟩ := cells5 zx; have fz := frozenOf z; have ny := heap_lt z; have YB := Lib.hid (below_and hb4 yb); clear z zx hb4))
    go_ret
    exact ⟨ret_bool (by unfold rightI; simp [HO.out, c1]), by first | exact (((YB.out.setCell (by simp) _).setCell (by simp) _)) | exact YB.out | (repeat (first | exact Below.refl _ _ | apply below_al))⟩
  | true =>
    cases c2 : ((x.set.length : Int) == 0) with
    | true =>
      go_enter Tryd.func54, Tryd.ntmps54
      go_wp2_with (first
            | (go_at_call 72; refine (here_any _ w.heap.size A p.ins.length c p.start p.caps _ (by first | exact hb3 | exact hb4 _) hpl).mono ?_; rintro e w' ⟨rfl, rfl⟩)
            | (go_at_call 74; refine (containsAtB _ _ _ _ (by first | exact heap_new4 _ _ _ _ _ | exact heap_new1 _ _)).mono ?_; rintro e w' ⟨rfl, rfl⟩)
            | (go_at_call 73; refine (hRr _ yb).mono ?_; clear hRr; rintro e w4 ⟨rfl, hb4⟩; have z := (hb4.block _ (heap_lt hb2)).trans hb2; obtain ⟨z0, z1, z2, z3, z4⟩ := cells5 z; have zx := (hb4.block _ (heap_lt hbx)).trans hbx; obtain ⟨v0, v1, v2, v3, v4⟩ := cells5 zx; have fz := frozenOf z; have ny := heap_lt z; have YB := Lib.hid (below_and hb4 yb); clear z zx hb4))
      go_ret
      exact ⟨ret_bool (by unfold rightI; simp [HO.out, c1, c2]), by first | exact (((YB.out.setCell (by simp) _).setCell (by simp) _)) | exact YB.out | (repeat (first | exact Below.refl _ _ | apply below_al))⟩
    | false =>
      cases c3 : R x.set with
      | false =>
        go_enter Tryd.func54, Tryd.ntmps54
        go_wp2_with (first | (go_at_call 72; refine (here_any _ w.heap.size A p.ins.length c p.start p.caps _ (by first | exact hb3 | exact hb4 _) hpl).mono ?_; rintro e w' ⟨rfl, rfl⟩))
        refine (hRr _ yb).mono ?_
        clear hRr
        rintro e w4 ⟨rfl, hb5⟩
        dsimp only
        have z := (hb5.block _ (heap_lt hb2)).trans hb2
        obtain ⟨z0, z1, z2, z3, z4⟩ := cells5 z
        have zx := (hb5.block _ (heap_lt hbx)).trans hbx
        obtain ⟨v0, v1, v2, v3, v4⟩ := cells5 zx
        have fz := frozenOf z
        have ny := heap_lt z
        have YB := Lib.hid (below_and hb5 yb)
        clear z zx hb5 hb3 hbx hb2 hb4 yb
        go_wp2_with fail
        go_ret
        exact ⟨ret_bool (by unfold rightI; simp [HO.out, c1, c2, c3]), by first | exact YB.out | exact (((YB.out.setCell (by simp; omega) _).setCell (by simp; omega) _))⟩
      | true =>
        cases c4 : (x.arg == 0) with
        | false =>
          go_enter Tryd.func54, Tryd.ntmps54
          go_wp2_with (first | (go_at_call 72; refine (here_any _ w.heap.size A p.ins.length c p.start p.caps _ (by first | exact hb3 | exact hb4 _) hpl).mono ?_; rintro e w' ⟨rfl, rfl⟩))
          refine (hRr _ yb).mono ?_
          clear hRr
          rintro e w4 ⟨rfl, hb5⟩
          dsimp only
          have z := (hb5.block _ (heap_lt hb2)).trans hb2
          obtain ⟨z0, z1, z2, z3, z4⟩ := cells5 z
          have zx := (hb5.block _ (heap_lt hbx)).trans hbx
          obtain ⟨v0, v1, v2, v3, v4⟩ := cells5 zx
          have fz := frozenOf z
          have ny := heap_lt z
          have YB := Lib.hid (below_and hb5 yb)
          clear z zx hb5 hb3 hbx hb2 hb4 yb
          go_wp2_with fail
          go_ret
          exact ⟨ret_bool (by unfold rightI; simp [HO.out, c1, c2, c3, c4]), by first | exact YB.out | exact (((YB.out.setCell (by simp; omega) _).setCell (by simp; omega) _))⟩
        | true =>
          cases c5 : (x.at_ == 0) with
          | false =>
            go_enter Tryd.func54, Tryd.ntmps54
            go_wp2_with (first | (go_at_call 72; refine (here_any _ w.heap.size A p.ins.length c p.start p.caps _ (by first | exact hb3 | exact hb4 _) hpl).mono ?_; rintro e w' ⟨rfl, rfl⟩))
            refine (hRr _ yb).mono ?_
            clear hRr
            rintro e w4 ⟨rfl, hb5⟩
            dsimp only
            have z := (hb5.block _ (heap_lt hb2)).trans hb2
            obtain ⟨z0, z1, z2, z3, z4⟩ := cells5 z
            have zx := (hb5.block _ (heap_lt hbx)).trans hbx
            obtain ⟨v0, v1, v2, v3, v4⟩ := cells5 zx
            have fz := frozenOf z
            have ny := heap_lt z
            have YB := Lib.hid (below_and hb5 yb)
            clear z zx hb5 hb3 hbx hb2 hb4 yb
            go_wp2_with fail
            go_ret
            exact ⟨ret_bool (by unfold rightI; simp [HO.out, c1, c2, c3, c4, c5]), by first | exact YB.out | exact (((YB.out.setCell (by simp; omega) _).setCell (by simp; omega) _))⟩
          | true =>
            go_enter Tryd.func54, Tryd.ntmps54
            go_wp2_with (first | (go_at_call 72; refine (here_any _ w.heap.size A p.ins.length c p.start p.caps _ (by first | exact hb3 | exact hb4 _) hpl).mono ?_; rintro e w' ⟨rfl, rfl⟩))
            refine (hRr _ yb).mono ?_
            clear hRr
            rintro e w4 ⟨rfl, hb5⟩
            dsimp only
            have z := (hb5.block _ (heap_lt hb2)).trans hb2
            obtain ⟨z0, z1, z2, z3, z4⟩ := cells5 z
            have zx := (hb5.block _ (heap_lt hbx)).trans hbx
            obtain ⟨v0, v1, v2, v3, v4⟩ := cells5 zx
            have fz := frozenOf z
            have ny := heap_lt z
            have YB := Lib.hid (below_and hb5 yb)
            clear z zx hb5 hb3 hbx hb2 hb4 yb
            go_wp2_with fail
            go_ret
            exact ⟨ret_bool (by unfold rightI; simp [HO.out, c1, c2, c3, c4, c5]), by first | exact YB.out | exact (((YB.out.setCell (by simp; omega) _).setCell (by simp; omega) _))⟩
set_option maxRecDepth 100000 in
set_option maxHeartbeats 8000000 in
theorem right_pg3 (R : List Rg → Bool) (ok : Nat → Prop) (w : World) (p : Pg) (x : In) (ps xs : List Value) (hp : PgC ok w p ps) (hx : InO ok w x xs) (hR : x.op = 2 → RightOK R x.set) (hpl : p.ins.length ≤ 140737488351232) (ho : x.op = 3) :
    Calls Tryd.prog 54 #[.agg ps.toArray, .agg xs.toArray] w fun e w' => e = .returned (.bool (rightI R p.ins.length p.caps x)) ∧ Below w.heap.size w w' := by
  obtain ⟨A, c, rfl, p1, p2, _⟩ := hp
  obtain ⟨B, d, rfl, x1, x2, x3⟩ := hx
  have hRr : True := trivial
  clear hR x3
  have HO := Lib.hid ho
  have o1 : (x.op == 1) = false := (by rw [ho]; rfl)
  have o6 : (x.op == 6) = false := (by rw [ho]; rfl)
  have o2 : (x.op == 2) = false := (by rw [ho]; rfl)
  have o3 : (x.op == 3) = true := (by rw [ho]; rfl)
  have o4 : (x.op == 4) = false := (by rw [ho]; rfl)
  have o5 : (x.op == 5) = false := (by rw [ho]; rfl)
  clear ho
  have hb3 : (((w.alloc (.cells #[.slice A p.ins.length c, .int .i64 p.start, .int .i64 p.caps] 28)).alloc (.cells #[.int .i64 x.op, .int .i64 x.out, .int .i64 x.arg, .slice B x.set.length d, .int .i64 x.at_] 64)).alloc (.cells #[.int .i64 0, .int .i64 x.out, .int .i64 x.arg, .slice B x.set.length d, .int .i64 x.at_] 64)).heap[w.heap.size]? = some (.cells #[.slice A p.ins.length c, .int .i64 p.start, .int .i64 p.caps] 28 (0, 0)) := (Below.heap_alloc _ _ _ (by simp; omega)).trans ((Below.heap_alloc _ _ _ (by simp)).trans (heap_new1 _ _))
  have hbx : (((w.alloc (.cells #[.slice A p.ins.length c, .int .i64 p.start, .int .i64 p.caps] 28)).alloc (.cells #[.int .i64 x.op, .int .i64 x.out, .int .i64 x.arg, .slice B x.set.length d, .int .i64 x.at_] 64)).alloc (.cells #[.int .i64 0, .int .i64 x.out, .int .i64 x.arg, .slice B x.set.length d, .int .i64 x.at_] 64)).heap[w.heap.size + 1]? = some (.cells #[.int .i64 x.op, .int .i64 x.out, .int .i64 x.arg, .slice B x.set.length d, .int .i64 x.at_] 64 (0, 0)) := (Below.heap_alloc _ _ _ (by simp)).trans (heap_new2 _ _ _)
  have hb2 : (((w.alloc (.cells #[.slice A p.ins.length c, .int .i64 p.start, .int .i64 p.caps] 28)).alloc (.cells #[.int .i64 x.op, .int .i64 x.out, .int .i64 x.arg, .slice B x.set.length d, .int .i64 x.at_] 64)).alloc (.cells #[.int .i64 0, .int .i64 x.out, .int .i64 x.arg, .slice B x.set.length d, .int .i64 x.at_] 64)).heap[w.heap.size + 1 + 1]? = some (.cells #[.int .i64 0, .int .i64 x.out, .int .i64 x.arg, .slice B x.set.length d, .int .i64 x.at_] 64 (0, 0)) := heap_new3 _ _ _ _
  have hb4 : ∀ o, ((((w.alloc (.cells #[.slice A p.ins.length c, .int .i64 p.start, .int .i64 p.caps] 28)).alloc (.cells #[.int .i64 x.op, .int .i64 x.out, .int .i64 x.arg, .slice B x.set.length d, .int .i64 x.at_] 64)).alloc (.cells #[.int .i64 0, .int .i64 x.out, .int .i64 x.arg, .slice B x.set.length d, .int .i64 x.at_] 64)).alloc o).heap[w.heap.size]? = some (.cells #[.slice A p.ins.length c, .int .i64 p.start, .int .i64 p.caps] 28 (0, 0)) := fun o => (Below.heap_alloc _ _ _ (by simp; omega)).trans hb3
  have yb : Below w.heap.size w (((w.alloc (.cells #[.slice A p.ins.length c, .int .i64 p.start, .int .i64 p.caps] 28)).alloc (.cells #[.int .i64 x.op, .int .i64 x.out, .int .i64 x.arg, .slice B x.set.length d, .int .i64 x.at_] 64)).alloc (.cells #[.int .i64 0, .int .i64 x.out, .int .i64 x.arg, .slice B x.set.length d, .int .i64 x.at_] 64)) := below_al (below_al (below_al (Below.refl _ _) _) _) _
  have HH := Lib.hid (And.intro hb3 (And.intro hbx hb2))
  cases c1 : hereB p.ins.length x.out with
  | false =>
    go_enter Tryd.func54, Tryd.ntmps54
    go_wp2_with (first
          | (go_at_call 72; refine (here_any _ w.heap.size A p.ins.length c p.start p.caps _ (by first | exact hb3 | exact hb4 _) hpl).mono ?_; rintro e w' ⟨rfl, rfl⟩)
          | (go_at_call 74; refine (containsAtB _ _ _ _ (by first | exact heap_new4 _ _ _ _ _ | exact heap_new1 _ _)).mono ?_; rintro e w' ⟨rfl, rfl⟩)
          | (go_at_call 73; refine (hRr _ yb).mono ?_; clear hRr; rintro e w4 ⟨rfl, hb4⟩; have z := (hb4.block _ (heap_lt hb2)).trans hb2; obtain ⟨z0, z1, z2, z3, z4⟩ := cells5 z; have zx := (hb4.block _ (heap_lt hbx)).trans hbx; obtain ⟨v0, v1, v2, v3, v4⟩ := cells5 zx; have fz := frozenOf z; have ny := heap_lt z; have YB := Lib.hid (below_and hb4 yb); clear z zx hb4))
    go_ret
    exact ⟨ret_bool (by unfold rightI; simp [HO.out, c1]), by first | exact (((YB.out.setCell (by simp) _).setCell (by simp) _)) | exact YB.out | (repeat (first | exact Below.refl _ _ | apply below_al))⟩
  | true =>
    cases c2 : hereB p.ins.length x.arg with
    | false =>
      go_enter Tryd.func54, Tryd.ntmps54
      go_wp2_with (first
            | (go_at_call 72; refine (here_any _ w.heap.size A p.ins.length c p.start p.caps _ (by first | exact hb3 | exact hb4 _) hpl).mono ?_; rintro e w' ⟨rfl, rfl⟩)
            | (go_at_call 74; refine (containsAtB _ _ _ _ (by first | exact heap_new4 _ _ _ _ _ | exact heap_new1 _ _)).mono ?_; rintro e w' ⟨rfl, rfl⟩)
            | (go_at_call 73; refine (hRr _ yb).mono ?_; clear hRr; rintro e w4 ⟨rfl, hb4⟩; have z := (hb4.block _ (heap_lt hb2)).trans hb2; obtain ⟨z0, z1, z2, z3, z4⟩ := cells5 z; have zx := (hb4.block _ (heap_lt hbx)).trans hbx; obtain ⟨v0, v1, v2, v3, v4⟩ := cells5 zx; have fz := frozenOf z; have ny := heap_lt z; have YB := Lib.hid (below_and hb4 yb); clear z zx hb4))
      go_ret
      exact ⟨ret_bool (by unfold rightI; simp [HO.out, c1, c2]), by first | exact (((YB.out.setCell (by simp) _).setCell (by simp) _)) | exact YB.out | (repeat (first | exact Below.refl _ _ | apply below_al))⟩
    | true =>
      cases c3 : (x.at_ == 0) with
      | false =>
        go_enter Tryd.func54, Tryd.ntmps54
        go_wp2_with (first
              | (go_at_call 72; refine (here_any _ w.heap.size A p.ins.length c p.start p.caps _ (by first | exact hb3 | exact hb4 _) hpl).mono ?_; rintro e w' ⟨rfl, rfl⟩)
              | (go_at_call 74; refine (containsAtB _ _ _ _ (by first | exact heap_new4 _ _ _ _ _ | exact heap_new1 _ _)).mono ?_; rintro e w' ⟨rfl, rfl⟩)
              | (go_at_call 73; refine (hRr _ yb).mono ?_; clear hRr; rintro e w4 ⟨rfl, hb4⟩; have z := (hb4.block _ (heap_lt hb2)).trans hb2; obtain ⟨z0, z1, z2, z3, z4⟩ := cells5 z; have zx := (hb4.block _ (heap_lt hbx)).trans hbx; obtain ⟨v0, v1, v2, v3, v4⟩ := cells5 zx; have fz := frozenOf z; have ny := heap_lt z; have YB := Lib.hid (below_and hb4 yb); clear z zx hb4))
        go_ret
        exact ⟨ret_bool (by unfold rightI; simp [HO.out, c1, c2, c3]), by first | exact (((YB.out.setCell (by simp) _).setCell (by simp) _)) | exact YB.out | (repeat (first | exact Below.refl _ _ | apply below_al))⟩
      | true =>
        cases c4 : ((x.set.length : Int) == 0) with
        | false =>
          go_enter Tryd.func54, Tryd.ntmps54
          go_wp2_with (first
                | (go_at_call 72; refine (here_any _ w.heap.size A p.ins.length c p.start p.caps _ (by first | exact hb3 | exact hb4 _) hpl).mono ?_; rintro e w' ⟨rfl, rfl⟩)
                | (go_at_call 74; refine (containsAtB _ _ _ _ (by first | exact heap_new4 _ _ _ _ _ | exact heap_new1 _ _)).mono ?_; rintro e w' ⟨rfl, rfl⟩)
                | (go_at_call 73; refine (hRr _ yb).mono ?_; clear hRr; rintro e w4 ⟨rfl, hb4⟩; have z := (hb4.block _ (heap_lt hb2)).trans hb2; obtain ⟨z0, z1, z2, z3, z4⟩ := cells5 z; have zx := (hb4.block _ (heap_lt hbx)).trans hbx; obtain ⟨v0, v1, v2, v3, v4⟩ := cells5 zx; have fz := frozenOf z; have ny := heap_lt z; have YB := Lib.hid (below_and hb4 yb); clear z zx hb4))
          go_ret
          exact ⟨ret_bool (by unfold rightI; simp [HO.out, c1, c2, c3, c4]), by first | exact (((YB.out.setCell (by simp) _).setCell (by simp) _)) | exact YB.out | (repeat (first | exact Below.refl _ _ | apply below_al))⟩
        | true =>
          go_enter Tryd.func54, Tryd.ntmps54
          go_wp2_with (first
                | (go_at_call 72; refine (here_any _ w.heap.size A p.ins.length c p.start p.caps _ (by first | exact hb3 | exact hb4 _) hpl).mono ?_; rintro e w' ⟨rfl, rfl⟩)
                | (go_at_call 74; refine (containsAtB _ _ _ _ (by first | exact heap_new4 _ _ _ _ _ | exact heap_new1 _ _)).mono ?_; rintro e w' ⟨rfl, rfl⟩)
                | (go_at_call 73; refine (hRr _ yb).mono ?_; clear hRr; rintro e w4 ⟨rfl, hb4⟩; have z := (hb4.block _ (heap_lt hb2)).trans hb2; obtain ⟨z0, z1, z2, z3, z4⟩ := cells5 z; have zx := (hb4.block _ (heap_lt hbx)).trans hbx; obtain ⟨v0, v1, v2, v3, v4⟩ := cells5 zx; have fz := frozenOf z; have ny := heap_lt z; have YB := Lib.hid (below_and hb4 yb); clear z zx hb4))
          go_ret
          exact ⟨ret_bool (by unfold rightI; simp [HO.out, c1, c2, c3, c4]), by first | exact (((YB.out.setCell (by simp) _).setCell (by simp) _)) | exact YB.out | (repeat (first | exact Below.refl _ _ | apply below_al))⟩
set_option maxRecDepth 100000 in
set_option maxHeartbeats 8000000 in
theorem right_pg4 (R : List Rg → Bool) (ok : Nat → Prop) (w : World) (p : Pg) (x : In) (ps xs : List Value) (hp : PgC ok w p ps) (hx : InO ok w x xs) (hR : x.op = 2 → RightOK R x.set) (hpl : p.ins.length ≤ 140737488351232) (ho : x.op = 4) :
    Calls Tryd.prog 54 #[.agg ps.toArray, .agg xs.toArray] w fun e w' => e = .returned (.bool (rightI R p.ins.length p.caps x)) ∧ Below w.heap.size w w' := by
  obtain ⟨A, c, rfl, p1, p2, _⟩ := hp
  obtain ⟨B, d, rfl, x1, x2, x3⟩ := hx
  have hRr : True := trivial
  clear hR x3
  have HO := Lib.hid ho
  have o1 : (x.op == 1) = false := (by rw [ho]; rfl)
  have o6 : (x.op == 6) = false := (by rw [ho]; rfl)
  have o2 : (x.op == 2) = false := (by rw [ho]; rfl)
  have o3 : (x.op == 3) = false := (by rw [ho]; rfl)
  have o4 : (x.op == 4) = true := (by rw [ho]; rfl)
  have o5 : (x.op == 5) = false := (by rw [ho]; rfl)
  clear ho
  have hb3 : (((w.alloc (.cells #[.slice A p.ins.length c, .int .i64 p.start, .int .i64 p.caps] 28)).alloc (.cells #[.int .i64 x.op, .int .i64 x.out, .int .i64 x.arg, .slice B x.set.length d, .int .i64 x.at_] 64)).alloc (.cells #[.int .i64 0, .int .i64 x.out, .int .i64 x.arg, .slice B x.set.length d, .int .i64 x.at_] 64)).heap[w.heap.size]? = some (.cells #[.slice A p.ins.length c, .int .i64 p.start, .int .i64 p.caps] 28 (0, 0)) := (Below.heap_alloc _ _ _ (by simp; omega)).trans ((Below.heap_alloc _ _ _ (by simp)).trans (heap_new1 _ _))
  have hbx : (((w.alloc (.cells #[.slice A p.ins.length c, .int .i64 p.start, .int .i64 p.caps] 28)).alloc (.cells #[.int .i64 x.op, .int .i64 x.out, .int .i64 x.arg, .slice B x.set.length d, .int .i64 x.at_] 64)).alloc (.cells #[.int .i64 0, .int .i64 x.out, .int .i64 x.arg, .slice B x.set.length d, .int .i64 x.at_] 64)).heap[w.heap.size + 1]? = some (.cells #[.int .i64 x.op, .int .i64 x.out, .int .i64 x.arg, .slice B x.set.length d, .int .i64 x.at_] 64 (0, 0)) := (Below.heap_alloc _ _ _ (by simp)).trans (heap_new2 _ _ _)
  have hb2 : (((w.alloc (.cells #[.slice A p.ins.length c, .int .i64 p.start, .int .i64 p.caps] 28)).alloc (.cells #[.int .i64 x.op, .int .i64 x.out, .int .i64 x.arg, .slice B x.set.length d, .int .i64 x.at_] 64)).alloc (.cells #[.int .i64 0, .int .i64 x.out, .int .i64 x.arg, .slice B x.set.length d, .int .i64 x.at_] 64)).heap[w.heap.size + 1 + 1]? = some (.cells #[.int .i64 0, .int .i64 x.out, .int .i64 x.arg, .slice B x.set.length d, .int .i64 x.at_] 64 (0, 0)) := heap_new3 _ _ _ _
  have hb4 : ∀ o, ((((w.alloc (.cells #[.slice A p.ins.length c, .int .i64 p.start, .int .i64 p.caps] 28)).alloc (.cells #[.int .i64 x.op, .int .i64 x.out, .int .i64 x.arg, .slice B x.set.length d, .int .i64 x.at_] 64)).alloc (.cells #[.int .i64 0, .int .i64 x.out, .int .i64 x.arg, .slice B x.set.length d, .int .i64 x.at_] 64)).alloc o).heap[w.heap.size]? = some (.cells #[.slice A p.ins.length c, .int .i64 p.start, .int .i64 p.caps] 28 (0, 0)) := fun o => (Below.heap_alloc _ _ _ (by simp; omega)).trans hb3
  have yb : Below w.heap.size w (((w.alloc (.cells #[.slice A p.ins.length c, .int .i64 p.start, .int .i64 p.caps] 28)).alloc (.cells #[.int .i64 x.op, .int .i64 x.out, .int .i64 x.arg, .slice B x.set.length d, .int .i64 x.at_] 64)).alloc (.cells #[.int .i64 0, .int .i64 x.out, .int .i64 x.arg, .slice B x.set.length d, .int .i64 x.at_] 64)) := below_al (below_al (below_al (Below.refl _ _) _) _) _
  have HH := Lib.hid (And.intro hb3 (And.intro hbx hb2))
  cases c1 : hereB p.ins.length x.out with
  | false =>
    go_enter Tryd.func54, Tryd.ntmps54
    go_wp2_with (first
          | (go_at_call 72; refine (here_any _ w.heap.size A p.ins.length c p.start p.caps _ (by first | exact hb3 | exact hb4 _) hpl).mono ?_; rintro e w' ⟨rfl, rfl⟩)
          | (go_at_call 74; refine (containsAtB _ _ _ _ (by first | exact heap_new4 _ _ _ _ _ | exact heap_new1 _ _)).mono ?_; rintro e w' ⟨rfl, rfl⟩)
          | (go_at_call 73; refine (hRr _ yb).mono ?_; clear hRr; rintro e w4 ⟨rfl, hb4⟩; have z := (hb4.block _ (heap_lt hb2)).trans hb2; obtain ⟨z0, z1, z2, z3, z4⟩ := cells5 z; have zx := (hb4.block _ (heap_lt hbx)).trans hbx; obtain ⟨v0, v1, v2, v3, v4⟩ := cells5 zx; have fz := frozenOf z; have ny := heap_lt z; have YB := Lib.hid (below_and hb4 yb); clear z zx hb4))
    go_ret
    exact ⟨ret_bool (by unfold rightI; simp [HO.out, c1]), by first | exact (((YB.out.setCell (by simp) _).setCell (by simp) _)) | exact YB.out | (repeat (first | exact Below.refl _ _ | apply below_al))⟩
  | true =>
    cases c2 : decide (x.arg < 2) with
    | true =>
      go_enter Tryd.func54, Tryd.ntmps54
      go_wp2_with (first
            | (go_at_call 72; refine (here_any _ w.heap.size A p.ins.length c p.start p.caps _ (by first | exact hb3 | exact hb4 _) hpl).mono ?_; rintro e w' ⟨rfl, rfl⟩)
            | (go_at_call 74; refine (containsAtB _ _ _ _ (by first | exact heap_new4 _ _ _ _ _ | exact heap_new1 _ _)).mono ?_; rintro e w' ⟨rfl, rfl⟩)
            | (go_at_call 73; refine (hRr _ yb).mono ?_; clear hRr; rintro e w4 ⟨rfl, hb4⟩; have z := (hb4.block _ (heap_lt hb2)).trans hb2; obtain ⟨z0, z1, z2, z3, z4⟩ := cells5 z; have zx := (hb4.block _ (heap_lt hbx)).trans hbx; obtain ⟨v0, v1, v2, v3, v4⟩ := cells5 zx; have fz := frozenOf z; have ny := heap_lt z; have YB := Lib.hid (below_and hb4 yb); clear z zx hb4))
      go_ret
      exact ⟨ret_bool (by unfold rightI; simp [HO.out, c1, c2]), by first | exact (((YB.out.setCell (by simp) _).setCell (by simp) _)) | exact YB.out | (repeat (first | exact Below.refl _ _ | apply below_al))⟩
    | false =>
      cases c3 : decide (p.caps ≤ x.arg) with
      | true =>
        go_enter Tryd.func54, Tryd.ntmps54
        go_wp2_with (first
              | (go_at_call 72; refine (here_any _ w.heap.size A p.ins.length c p.start p.caps _ (by first | exact hb3 | exact hb4 _) hpl).mono ?_; rintro e w' ⟨rfl, rfl⟩)
              | (go_at_call 74; refine (containsAtB _ _ _ _ (by first | exact heap_new4 _ _ _ _ _ | exact heap_new1 _ _)).mono ?_; rintro e w' ⟨rfl, rfl⟩)
              | (go_at_call 73; refine (hRr _ yb).mono ?_; clear hRr; rintro e w4 ⟨rfl, hb4⟩; have z := (hb4.block _ (heap_lt hb2)).trans hb2; obtain ⟨z0, z1, z2, z3, z4⟩ := cells5 z; have zx := (hb4.block _ (heap_lt hbx)).trans hbx; obtain ⟨v0, v1, v2, v3, v4⟩ := cells5 zx; have fz := frozenOf z; have ny := heap_lt z; have YB := Lib.hid (below_and hb4 yb); clear z zx hb4))
        go_ret
        exact ⟨ret_bool (by unfold rightI; simp [HO.out, c1, c2, c3]), by first | exact (((YB.out.setCell (by simp) _).setCell (by simp) _)) | exact YB.out | (repeat (first | exact Below.refl _ _ | apply below_al))⟩
      | false =>
        cases c4 : (x.at_ == 0) with
        | false =>
          go_enter Tryd.func54, Tryd.ntmps54
          go_wp2_with (first
                | (go_at_call 72; refine (here_any _ w.heap.size A p.ins.length c p.start p.caps _ (by first | exact hb3 | exact hb4 _) hpl).mono ?_; rintro e w' ⟨rfl, rfl⟩)
                | (go_at_call 74; refine (containsAtB _ _ _ _ (by first | exact heap_new4 _ _ _ _ _ | exact heap_new1 _ _)).mono ?_; rintro e w' ⟨rfl, rfl⟩)
                | (go_at_call 73; refine (hRr _ yb).mono ?_; clear hRr; rintro e w4 ⟨rfl, hb4⟩; have z := (hb4.block _ (heap_lt hb2)).trans hb2; obtain ⟨z0, z1, z2, z3, z4⟩ := cells5 z; have zx := (hb4.block _ (heap_lt hbx)).trans hbx; obtain ⟨v0, v1, v2, v3, v4⟩ := cells5 zx; have fz := frozenOf z; have ny := heap_lt z; have YB := Lib.hid (below_and hb4 yb); clear z zx hb4))
          go_ret
          exact ⟨ret_bool (by unfold rightI; simp [HO.out, c1, c2, c3, c4]), by first | exact (((YB.out.setCell (by simp) _).setCell (by simp) _)) | exact YB.out | (repeat (first | exact Below.refl _ _ | apply below_al))⟩
        | true =>
          cases c5 : ((x.set.length : Int) == 0) with
          | false =>
            go_enter Tryd.func54, Tryd.ntmps54
            go_wp2_with (first
                  | (go_at_call 72; refine (here_any _ w.heap.size A p.ins.length c p.start p.caps _ (by first | exact hb3 | exact hb4 _) hpl).mono ?_; rintro e w' ⟨rfl, rfl⟩)
                  | (go_at_call 74; refine (containsAtB _ _ _ _ (by first | exact heap_new4 _ _ _ _ _ | exact heap_new1 _ _)).mono ?_; rintro e w' ⟨rfl, rfl⟩)
                  | (go_at_call 73; refine (hRr _ yb).mono ?_; clear hRr; rintro e w4 ⟨rfl, hb4⟩; have z := (hb4.block _ (heap_lt hb2)).trans hb2; obtain ⟨z0, z1, z2, z3, z4⟩ := cells5 z; have zx := (hb4.block _ (heap_lt hbx)).trans hbx; obtain ⟨v0, v1, v2, v3, v4⟩ := cells5 zx; have fz := frozenOf z; have ny := heap_lt z; have YB := Lib.hid (below_and hb4 yb); clear z zx hb4))
            go_ret
            exact ⟨ret_bool (by unfold rightI; simp [HO.out, c1, c2, c3, c4, c5]), by first | exact (((YB.out.setCell (by simp) _).setCell (by simp) _)) | exact YB.out | (repeat (first | exact Below.refl _ _ | apply below_al))⟩
          | true =>
            go_enter Tryd.func54, Tryd.ntmps54
            go_wp2_with (first
                  | (go_at_call 72; refine (here_any _ w.heap.size A p.ins.length c p.start p.caps _ (by first | exact hb3 | exact hb4 _) hpl).mono ?_; rintro e w' ⟨rfl, rfl⟩)
                  | (go_at_call 74; refine (containsAtB _ _ _ _ (by first | exact heap_new4 _ _ _ _ _ | exact heap_new1 _ _)).mono ?_; rintro e w' ⟨rfl, rfl⟩)
                  | (go_at_call 73; refine (hRr _ yb).mono ?_; clear hRr; rintro e w4 ⟨rfl, hb4⟩; have z := (hb4.block _ (heap_lt hb2)).trans hb2; obtain ⟨z0, z1, z2, z3, z4⟩ := cells5 z; have zx := (hb4.block _ (heap_lt hbx)).trans hbx; obtain ⟨v0, v1, v2, v3, v4⟩ := cells5 zx; have fz := frozenOf z; have ny := heap_lt z; have YB := Lib.hid (below_and hb4 yb); clear z zx hb4))
            go_ret
            exact ⟨ret_bool (by unfold rightI; simp [HO.out, c1, c2, c3, c4, c5]), by first | exact (((YB.out.setCell (by simp) _).setCell (by simp) _)) | exact YB.out | (repeat (first | exact Below.refl _ _ | apply below_al))⟩
set_option maxRecDepth 100000 in
set_option maxHeartbeats 8000000 in
theorem right_pg5 (R : List Rg → Bool) (ok : Nat → Prop) (w : World) (p : Pg) (x : In) (ps xs : List Value) (hp : PgC ok w p ps) (hx : InO ok w x xs) (hR : x.op = 2 → RightOK R x.set) (hpl : p.ins.length ≤ 140737488351232) (ho : x.op = 5) :
    Calls Tryd.prog 54 #[.agg ps.toArray, .agg xs.toArray] w fun e w' => e = .returned (.bool (rightI R p.ins.length p.caps x)) ∧ Below w.heap.size w w' := by
  obtain ⟨A, c, rfl, p1, p2, _⟩ := hp
  obtain ⟨B, d, rfl, x1, x2, x3⟩ := hx
  have hRr : True := trivial
  clear hR x3
  have HO := Lib.hid ho
  have o1 : (x.op == 1) = false := (by rw [ho]; rfl)
  have o6 : (x.op == 6) = false := (by rw [ho]; rfl)
  have o2 : (x.op == 2) = false := (by rw [ho]; rfl)
  have o3 : (x.op == 3) = false := (by rw [ho]; rfl)
  have o4 : (x.op == 4) = false := (by rw [ho]; rfl)
  have o5 : (x.op == 5) = true := (by rw [ho]; rfl)
  clear ho
  have hb3 : (((w.alloc (.cells #[.slice A p.ins.length c, .int .i64 p.start, .int .i64 p.caps] 28)).alloc (.cells #[.int .i64 x.op, .int .i64 x.out, .int .i64 x.arg, .slice B x.set.length d, .int .i64 x.at_] 64)).alloc (.cells #[.int .i64 0, .int .i64 x.out, .int .i64 x.arg, .slice B x.set.length d, .int .i64 x.at_] 64)).heap[w.heap.size]? = some (.cells #[.slice A p.ins.length c, .int .i64 p.start, .int .i64 p.caps] 28 (0, 0)) := (Below.heap_alloc _ _ _ (by simp; omega)).trans ((Below.heap_alloc _ _ _ (by simp)).trans (heap_new1 _ _))
  have hbx : (((w.alloc (.cells #[.slice A p.ins.length c, .int .i64 p.start, .int .i64 p.caps] 28)).alloc (.cells #[.int .i64 x.op, .int .i64 x.out, .int .i64 x.arg, .slice B x.set.length d, .int .i64 x.at_] 64)).alloc (.cells #[.int .i64 0, .int .i64 x.out, .int .i64 x.arg, .slice B x.set.length d, .int .i64 x.at_] 64)).heap[w.heap.size + 1]? = some (.cells #[.int .i64 x.op, .int .i64 x.out, .int .i64 x.arg, .slice B x.set.length d, .int .i64 x.at_] 64 (0, 0)) := (Below.heap_alloc _ _ _ (by simp)).trans (heap_new2 _ _ _)
  have hb2 : (((w.alloc (.cells #[.slice A p.ins.length c, .int .i64 p.start, .int .i64 p.caps] 28)).alloc (.cells #[.int .i64 x.op, .int .i64 x.out, .int .i64 x.arg, .slice B x.set.length d, .int .i64 x.at_] 64)).alloc (.cells #[.int .i64 0, .int .i64 x.out, .int .i64 x.arg, .slice B x.set.length d, .int .i64 x.at_] 64)).heap[w.heap.size + 1 + 1]? = some (.cells #[.int .i64 0, .int .i64 x.out, .int .i64 x.arg, .slice B x.set.length d, .int .i64 x.at_] 64 (0, 0)) := heap_new3 _ _ _ _
  have hb4 : ∀ o, ((((w.alloc (.cells #[.slice A p.ins.length c, .int .i64 p.start, .int .i64 p.caps] 28)).alloc (.cells #[.int .i64 x.op, .int .i64 x.out, .int .i64 x.arg, .slice B x.set.length d, .int .i64 x.at_] 64)).alloc (.cells #[.int .i64 0, .int .i64 x.out, .int .i64 x.arg, .slice B x.set.length d, .int .i64 x.at_] 64)).alloc o).heap[w.heap.size]? = some (.cells #[.slice A p.ins.length c, .int .i64 p.start, .int .i64 p.caps] 28 (0, 0)) := fun o => (Below.heap_alloc _ _ _ (by simp; omega)).trans hb3
  have yb : Below w.heap.size w (((w.alloc (.cells #[.slice A p.ins.length c, .int .i64 p.start, .int .i64 p.caps] 28)).alloc (.cells #[.int .i64 x.op, .int .i64 x.out, .int .i64 x.arg, .slice B x.set.length d, .int .i64 x.at_] 64)).alloc (.cells #[.int .i64 0, .int .i64 x.out, .int .i64 x.arg, .slice B x.set.length d, .int .i64 x.at_] 64)) := below_al (below_al (below_al (Below.refl _ _) _) _) _
  have HH := Lib.hid (And.intro hb3 (And.intro hbx hb2))
  cases c1 : hereB p.ins.length x.out with
  | false =>
    go_enter Tryd.func54, Tryd.ntmps54
    go_wp2_with (first
          | (go_at_call 72; refine (here_any _ w.heap.size A p.ins.length c p.start p.caps _ (by first | exact hb3 | exact hb4 _) hpl).mono ?_; rintro e w' ⟨rfl, rfl⟩)
          | (go_at_call 74; refine (containsAtB _ _ _ _ (by first | exact heap_new4 _ _ _ _ _ | exact heap_new1 _ _)).mono ?_; rintro e w' ⟨rfl, rfl⟩)
          | (go_at_call 73; refine (hRr _ yb).mono ?_; clear hRr; rintro e w4 ⟨rfl, hb4⟩; have z := (hb4.block _ (heap_lt hb2)).trans hb2; obtain ⟨z0, z1, z2, z3, z4⟩ := cells5 z; have zx := (hb4.block _ (heap_lt hbx)).trans hbx; obtain ⟨v0, v1, v2, v3, v4⟩ := cells5 zx; have fz := frozenOf z; have ny := heap_lt z; have YB := Lib.hid (below_and hb4 yb); clear z zx hb4))
    go_ret
    exact ⟨ret_bool (by unfold rightI; simp [HO.out, c1]), by first | exact (((YB.out.setCell (by simp) _).setCell (by simp) _)) | exact YB.out | (repeat (first | exact Below.refl _ _ | apply below_al))⟩
  | true =>
    cases c2 : atsB x.at_ with
    | false =>
      go_enter Tryd.func54, Tryd.ntmps54
      go_wp2_with (first
            | (go_at_call 72; refine (here_any _ w.heap.size A p.ins.length c p.start p.caps _ (by first | exact hb3 | exact hb4 _) hpl).mono ?_; rintro e w' ⟨rfl, rfl⟩)
            | (go_at_call 74; refine (containsAtB _ _ _ _ (by first | exact heap_new4 _ _ _ _ _ | exact heap_new1 _ _)).mono ?_; rintro e w' ⟨rfl, rfl⟩)
            | (go_at_call 73; refine (hRr _ yb).mono ?_; clear hRr; rintro e w4 ⟨rfl, hb4⟩; have z := (hb4.block _ (heap_lt hb2)).trans hb2; obtain ⟨z0, z1, z2, z3, z4⟩ := cells5 z; have zx := (hb4.block _ (heap_lt hbx)).trans hbx; obtain ⟨v0, v1, v2, v3, v4⟩ := cells5 zx; have fz := frozenOf z; have ny := heap_lt z; have YB := Lib.hid (below_and hb4 yb); clear z zx hb4))
      go_ret
      exact ⟨ret_bool (by unfold rightI; simp [HO.out, c1, c2]), by first | exact (((YB.out.setCell (by simp) _).setCell (by simp) _)) | exact YB.out | (repeat (first | exact Below.refl _ _ | apply below_al))⟩
    | true =>
      cases c3 : (x.arg == 0) with
      | false =>
        go_enter Tryd.func54, Tryd.ntmps54
        go_wp2_with (first
              | (go_at_call 72; refine (here_any _ w.heap.size A p.ins.length c p.start p.caps _ (by first | exact hb3 | exact hb4 _) hpl).mono ?_; rintro e w' ⟨rfl, rfl⟩)
              | (go_at_call 74; refine (containsAtB _ _ _ _ (by first | exact heap_new4 _ _ _ _ _ | exact heap_new1 _ _)).mono ?_; rintro e w' ⟨rfl, rfl⟩)
              | (go_at_call 73; refine (hRr _ yb).mono ?_; clear hRr; rintro e w4 ⟨rfl, hb4⟩; have z := (hb4.block _ (heap_lt hb2)).trans hb2; obtain ⟨z0, z1, z2, z3, z4⟩ := cells5 z; have zx := (hb4.block _ (heap_lt hbx)).trans hbx; obtain ⟨v0, v1, v2, v3, v4⟩ := cells5 zx; have fz := frozenOf z; have ny := heap_lt z; have YB := Lib.hid (below_and hb4 yb); clear z zx hb4))
        go_ret
        exact ⟨ret_bool (by unfold rightI; simp [HO.out, c1, c2, c3]), by first | exact (((YB.out.setCell (by simp) _).setCell (by simp) _)) | exact YB.out | (repeat (first | exact Below.refl _ _ | apply below_al))⟩
      | true =>
        cases c4 : ((x.set.length : Int) == 0) with
        | false =>
          go_enter Tryd.func54, Tryd.ntmps54
          go_wp2_with (first
                | (go_at_call 72; refine (here_any _ w.heap.size A p.ins.length c p.start p.caps _ (by first | exact hb3 | exact hb4 _) hpl).mono ?_; rintro e w' ⟨rfl, rfl⟩)
                | (go_at_call 74; refine (containsAtB _ _ _ _ (by first | exact heap_new4 _ _ _ _ _ | exact heap_new1 _ _)).mono ?_; rintro e w' ⟨rfl, rfl⟩)
                | (go_at_call 73; refine (hRr _ yb).mono ?_; clear hRr; rintro e w4 ⟨rfl, hb4⟩; have z := (hb4.block _ (heap_lt hb2)).trans hb2; obtain ⟨z0, z1, z2, z3, z4⟩ := cells5 z; have zx := (hb4.block _ (heap_lt hbx)).trans hbx; obtain ⟨v0, v1, v2, v3, v4⟩ := cells5 zx; have fz := frozenOf z; have ny := heap_lt z; have YB := Lib.hid (below_and hb4 yb); clear z zx hb4))
          go_ret
          exact ⟨ret_bool (by unfold rightI; simp [HO.out, c1, c2, c3, c4]), by first | exact (((YB.out.setCell (by simp) _).setCell (by simp) _)) | exact YB.out | (repeat (first | exact Below.refl _ _ | apply below_al))⟩
        | true =>
          go_enter Tryd.func54, Tryd.ntmps54
          go_wp2_with (first
                | (go_at_call 72; refine (here_any _ w.heap.size A p.ins.length c p.start p.caps _ (by first | exact hb3 | exact hb4 _) hpl).mono ?_; rintro e w' ⟨rfl, rfl⟩)
                | (go_at_call 74; refine (containsAtB _ _ _ _ (by first | exact heap_new4 _ _ _ _ _ | exact heap_new1 _ _)).mono ?_; rintro e w' ⟨rfl, rfl⟩)
                | (go_at_call 73; refine (hRr _ yb).mono ?_; clear hRr; rintro e w4 ⟨rfl, hb4⟩; have z := (hb4.block _ (heap_lt hb2)).trans hb2; obtain ⟨z0, z1, z2, z3, z4⟩ := cells5 z; have zx := (hb4.block _ (heap_lt hbx)).trans hbx; obtain ⟨v0, v1, v2, v3, v4⟩ := cells5 zx; have fz := frozenOf z; have ny := heap_lt z; have YB := Lib.hid (below_and hb4 yb); clear z zx hb4))
          go_ret
          exact ⟨ret_bool (by unfold rightI; simp [HO.out, c1, c2, c3, c4]), by first | exact (((YB.out.setCell (by simp) _).setCell (by simp) _)) | exact YB.out | (repeat (first | exact Below.refl _ _ | apply below_al))⟩
set_option maxRecDepth 100000 in
set_option maxHeartbeats 8000000 in
theorem right_pg0 (R : List Rg → Bool) (ok : Nat → Prop) (w : World) (p : Pg) (x : In) (ps xs : List Value) (hp : PgC ok w p ps) (hx : InO ok w x xs) (hR : x.op = 2 → RightOK R x.set) (hpl : p.ins.length ≤ 140737488351232) (ho : x.op ≠ 1 ∧ x.op ≠ 2 ∧ x.op ≠ 3 ∧ x.op ≠ 4 ∧ x.op ≠ 5 ∧ x.op ≠ 6) :
    Calls Tryd.prog 54 #[.agg ps.toArray, .agg xs.toArray] w fun e w' => e = .returned (.bool (rightI R p.ins.length p.caps x)) ∧ Below w.heap.size w w' := by
  obtain ⟨A, c, rfl, p1, p2, _⟩ := hp
  obtain ⟨B, d, rfl, x1, x2, x3⟩ := hx
  have hRr : True := trivial
  clear hR x3
  have HO := Lib.hid ho
  have o1 : (x.op == 1) = false := (by simp; omega)
  have o6 : (x.op == 6) = false := (by simp; omega)
  have o2 : (x.op == 2) = false := (by simp; omega)
  have o3 : (x.op == 3) = false := (by simp; omega)
  have o4 : (x.op == 4) = false := (by simp; omega)
  have o5 : (x.op == 5) = false := (by simp; omega)
  clear ho
  have hb3 : (((w.alloc (.cells #[.slice A p.ins.length c, .int .i64 p.start, .int .i64 p.caps] 28)).alloc (.cells #[.int .i64 x.op, .int .i64 x.out, .int .i64 x.arg, .slice B x.set.length d, .int .i64 x.at_] 64)).alloc (.cells #[.int .i64 0, .int .i64 x.out, .int .i64 x.arg, .slice B x.set.length d, .int .i64 x.at_] 64)).heap[w.heap.size]? = some (.cells #[.slice A p.ins.length c, .int .i64 p.start, .int .i64 p.caps] 28 (0, 0)) := (Below.heap_alloc _ _ _ (by simp; omega)).trans ((Below.heap_alloc _ _ _ (by simp)).trans (heap_new1 _ _))
  have hbx : (((w.alloc (.cells #[.slice A p.ins.length c, .int .i64 p.start, .int .i64 p.caps] 28)).alloc (.cells #[.int .i64 x.op, .int .i64 x.out, .int .i64 x.arg, .slice B x.set.length d, .int .i64 x.at_] 64)).alloc (.cells #[.int .i64 0, .int .i64 x.out, .int .i64 x.arg, .slice B x.set.length d, .int .i64 x.at_] 64)).heap[w.heap.size + 1]? = some (.cells #[.int .i64 x.op, .int .i64 x.out, .int .i64 x.arg, .slice B x.set.length d, .int .i64 x.at_] 64 (0, 0)) := (Below.heap_alloc _ _ _ (by simp)).trans (heap_new2 _ _ _)
  have hb2 : (((w.alloc (.cells #[.slice A p.ins.length c, .int .i64 p.start, .int .i64 p.caps] 28)).alloc (.cells #[.int .i64 x.op, .int .i64 x.out, .int .i64 x.arg, .slice B x.set.length d, .int .i64 x.at_] 64)).alloc (.cells #[.int .i64 0, .int .i64 x.out, .int .i64 x.arg, .slice B x.set.length d, .int .i64 x.at_] 64)).heap[w.heap.size + 1 + 1]? = some (.cells #[.int .i64 0, .int .i64 x.out, .int .i64 x.arg, .slice B x.set.length d, .int .i64 x.at_] 64 (0, 0)) := heap_new3 _ _ _ _
  have hb4 : ∀ o, ((((w.alloc (.cells #[.slice A p.ins.length c, .int .i64 p.start, .int .i64 p.caps] 28)).alloc (.cells #[.int .i64 x.op, .int .i64 x.out, .int .i64 x.arg, .slice B x.set.length d, .int .i64 x.at_] 64)).alloc (.cells #[.int .i64 0, .int .i64 x.out, .int .i64 x.arg, .slice B x.set.length d, .int .i64 x.at_] 64)).alloc o).heap[w.heap.size]? = some (.cells #[.slice A p.ins.length c, .int .i64 p.start, .int .i64 p.caps] 28 (0, 0)) := fun o => (Below.heap_alloc _ _ _ (by simp; omega)).trans hb3
  have yb : Below w.heap.size w (((w.alloc (.cells #[.slice A p.ins.length c, .int .i64 p.start, .int .i64 p.caps] 28)).alloc (.cells #[.int .i64 x.op, .int .i64 x.out, .int .i64 x.arg, .slice B x.set.length d, .int .i64 x.at_] 64)).alloc (.cells #[.int .i64 0, .int .i64 x.out, .int .i64 x.arg, .slice B x.set.length d, .int .i64 x.at_] 64)) := below_al (below_al (below_al (Below.refl _ _) _) _) _
  have HH := Lib.hid (And.intro hb3 (And.intro hbx hb2))
  go_enter Tryd.func54, Tryd.ntmps54
  go_wp2_with (first
        | (go_at_call 72; refine (here_any _ w.heap.size A p.ins.length c p.start p.caps _ (by first | exact hb3 | exact hb4 _) hpl).mono ?_; rintro e w' ⟨rfl, rfl⟩)
        | (go_at_call 74; refine (containsAtB _ _ _ _ (by first | exact heap_new4 _ _ _ _ _ | exact heap_new1 _ _)).mono ?_; rintro e w' ⟨rfl, rfl⟩)
        | (go_at_call 73; refine (hRr _ yb).mono ?_; clear hRr; rintro e w4 ⟨rfl, hb4⟩; have z := (hb4.block _ (heap_lt hb2)).trans hb2; obtain ⟨z0, z1, z2, z3, z4⟩ := cells5 z; have zx := (hb4.block _ (heap_lt hbx)).trans hbx; obtain ⟨v0, v1, v2, v3, v4⟩ := cells5 zx; have fz := frozenOf z; have ny := heap_lt z; have YB := Lib.hid (below_and hb4 yb); clear z zx hb4))
  go_ret
  exact ⟨ret_bool (by unfold rightI; simp [HO.out, ]), by first | exact (((YB.out.setCell (by simp) _).setCell (by simp) _)) | exact YB.out | (repeat (first | exact Below.refl _ _ | apply below_al))⟩
theorem right_pg (R : List Rg → Bool) (ok : Nat → Prop) (w : World) (p : Pg) (x : In) (ps xs : List Value) (hp : PgC ok w p ps) (hx : InO ok w x xs) (hR : x.op = 2 → RightOK R x.set) (hpl : p.ins.length ≤ 140737488351232) :
    Calls Tryd.prog 54 #[.agg ps.toArray, .agg xs.toArray] w fun e w' => e = .returned (.bool (rightI R p.ins.length p.caps x)) ∧ Below w.heap.size w w' := by
  by_cases h1 : x.op = 1
  · exact right_pg1 R ok w p x ps xs hp hx hR hpl h1
  by_cases h2 : x.op = 2
  · exact right_pg2 R ok w p x ps xs hp hx hR hpl h2
  by_cases h3 : x.op = 3
  · exact right_pg3 R ok w p x ps xs hp hx hR hpl h3
  by_cases h4 : x.op = 4
  · exact right_pg4 R ok w p x ps xs hp hx hR hpl h4
  by_cases h5 : x.op = 5
  · exact right_pg5 R ok w p x ps xs hp hx hR hpl h5
  by_cases h6 : x.op = 6
  · exact right_pg6 R ok w p x ps xs hp hx hR hpl h6
  exact right_pg0 R ok w p x ps xs hp hx hR hpl ⟨h1, h2, h3, h4, h5, h6⟩
end Go.Proofs.YthclpabmbhpohaaDoor
namespace Go.Proofs.YthclpabmbhpohaaDoor
open Go.RowKit
set_option linter.unusedVariables false
set_option maxRecDepth 100000 in
set_option maxHeartbeats 1000000 in
theorem check1_any (R : List Rg → Bool) (ok : Nat → Prop) (w : World) (b0 : Nat) (p : Pg) (ps xs : List Value) (x : In) (hb : w.heap[b0]? = some (.cells ps.toArray 28 (0, 0))) (hp : PgC ok w p ps) (hx : InO ok w x xs) (hR : x.op = 2 → RightOK R x.set) (hpl : p.ins.length ≤ 140737488351232) :
    Calls Tryd.prog 53 #[.agg xs.toArray, .pointer (some ⟨b0, 0, none⟩)] w fun e w' => e = .returned (.bool (!rightI R p.ins.length p.caps x)) ∧ Below w.heap.size w w' := by
  have hr := fun (W : World) (hW : Below w.heap.size w W) => right_pg R ok W p x ps xs (hp.below hW) (hx.below hW) hR hpl
  have hp0 := hp
  have hx0 := hx
  obtain ⟨A, c, rfl, p1, p2, _⟩ := hp
  obtain ⟨B, d, rfl, x1, x2, x3⟩ := hx
  obtain ⟨g0, g1, g2⟩ := cells3 hb
  have hn := heap_lt hb
  clear hb hp0 hx0 x3
  generalize rightI R p.ins.length p.caps x = r at *
  go_enter Tryd.func53, Tryd.ntmps53
  go_wp2_with fail
  refine (hr _ (below_al (Below.refl _ _) _)).mono ?_
  clear hr g0 g1 g2
  rintro e w1 ⟨rfl, hb1⟩
  dsimp only
  have HB := Lib.hid (below_and hb1 (below_al (Below.refl _ _) _))
  clear hb1
  go_wp2_with fail
  go_ret
  exact ⟨rfl, HB.out⟩
set_option maxRecDepth 100000 in
set_option maxHeartbeats 1000000 in
theorem index_check (R : List Rg → Bool) (ok : Nat → Prop) (w : World) (b0 : Nat) (p : Pg) (ps : List Value) (A : Option Addr) (c : Nat) (hb : w.heap[b0]? = some (.cells ps.toArray 28 (0, 0))) (hp : PgC ok w p ps) (h6 : Arr ok w 5 (InO ok w) A p.ins) (hN : p.ins.length ≤ 140737488351232)
    (hR : ∀ x ∈ p.ins, x.op = 2 → RightOK R x.set) :
    Calls Tryd.prog 71 #[.slice A p.ins.length c, .func (.func 53) #[] #[.pointer (some ⟨b0, 0, none⟩)]] w fun e w' => (∃ r : Int, e = .returned (.int .i64 r) ∧ decide (0 ≤ r) = p.ins.any (fun x => !rightI R p.ins.length p.caps x)) ∧ Below w.heap.size w w' := by
  have HE := Lib.hid (And.intro h6 (And.intro hp (And.intro hb hR)))
  clear h6 hp hb hR
  go_enter Tryd.func71, Tryd.ntmps71
  go_wp2_with fail
  go_loopw [8] (fun s8 wr => ∃ j : Nat, s8 = .int .i64 j ∧ j ≤ p.ins.length ∧ Hid ((p.ins.take j).any (fun x => !rightI R p.ins.length p.caps x) = false) ∧ Below w.heap.size w wr) (fun s8 _ => p.ins.length - (intOf s8).toNat)
  case atStart => exact ⟨0, rfl, Nat.zero_le _, Lib.hid (by simp), by repeat (first | exact Below.refl _ _ | apply below_al)⟩
  case round =>
    obtain ⟨j, rfl, hj, HJ, hB⟩ := hrel
    by_cases hlt : j < p.ins.length
    · obtain ⟨ad, B3, d3, rfl, _, _, hIk, k0, k1, k2, k3, k4⟩ := inArr_at HE.out.1 wr (fun b _ hb' => hB.block b hb') j hlt
      have hcall := check1_any R ok wr b0 p ps _ p.ins[j] ((hB.block _ (heap_lt HE.out.2.2.1)).trans HE.out.2.2.1) (HE.out.2.1.below hB) (hIk.below hB) (HE.out.2.2.2 _ (List.getElem_mem hlt)) hN
      have hnx : (p.ins.take (j + 1)).any (fun x => !rightI R p.ins.length p.caps x) = !rightI R p.ins.length p.caps p.ins[j] := by
        rw [List.take_succ_eq_append_getElem hlt, List.any_append, HJ.out]; simp
      have hmem := List.getElem_mem hlt
      generalize p.ins[j] = x at *
      cases hq : rightI R p.ins.length p.caps x with
      | false =>
        rw [hq] at hcall
        have HQ := Lib.hid (And.intro hq (And.intro hB hmem))
        clear hq hB hnx hIk
        go_wp2_with (go_at_call 53; refine hcall.mono ?_; clear hcall; rintro e w1 ⟨rfl, hb1⟩)
        go_ret
        refine ⟨⟨j, rfl, ?_⟩, below_and hb1 HQ.out.2.1⟩
        rw [List.any_eq_true.2 ⟨x, HQ.out.2.2, by rw [HQ.out.1]; rfl⟩]
        simp
      | true =>
        rw [hq] at hcall hnx
        have HQ := Lib.hid (And.intro hnx hB)
        clear hq hB hnx hIk
        go_wp2_with (go_at_call 53; refine hcall.mono ?_; clear hcall; rintro e w1 ⟨rfl, hb1⟩)
        go_roundw
        case rel => exact ⟨j + 1, by go_num, by omega, Lib.hid HQ.out.1, below_and hb1 HQ.out.2⟩
        case measure => simp [intOf]; omega
    · obtain rfl : j = p.ins.length := by omega
      go_wp2_with fail
      go_ret
      refine ⟨⟨-1, rfl, ?_⟩, hB⟩
      have := HJ.out
      rw [List.take_length] at this
      rw [this]; rfl
set_option maxRecDepth 100000 in
set_option maxHeartbeats 1000000 in
theorem contains_check (R : List Rg → Bool) (ok : Nat → Prop) (w : World) (b0 : Nat) (p : Pg) (ps : List Value) (A : Option Addr) (c : Nat) (hb : w.heap[b0]? = some (.cells ps.toArray 28 (0, 0))) (hp : PgC ok w p ps) (h6 : Arr ok w 5 (InO ok w) A p.ins) (hN : p.ins.length ≤ 140737488351232)
    (hR : ∀ x ∈ p.ins, x.op = 2 → RightOK R x.set) :
    Calls Tryd.prog 52 #[.slice A p.ins.length c, .func (.func 53) #[] #[.pointer (some ⟨b0, 0, none⟩)]] w fun e w' => e = .returned (.bool (p.ins.any (fun x => !rightI R p.ins.length p.caps x))) ∧ Below w.heap.size w w' := by
  have hi := index_check R ok w b0 p ps A c hb hp h6 hN hR
  clear h6 hp hb hR
  generalize p.ins.any (fun x => !rightI R p.ins.length p.caps x) = rr at *
  go_enter Tryd.func52, Tryd.ntmps52
  go_wp2_with (go_at_call 71; refine hi.mono ?_; clear hi; rintro e w1 ⟨⟨r, rfl, hr⟩, hb1⟩)
  go_ret
  exact ⟨by rw [← hr]; rfl, hb1⟩
/-- What Check answers: 0 or 121. -/
def checkS (R : List Rg → Bool) (p : Pg) : Int :=
  if (p.ins.length = 0 ∨ 10000 < p.ins.length) ∨ (p.start < 0 ∨ (p.ins.length : Int) ≤ p.start) ∨ (p.caps < 2 ∨ 4002 < p.caps ∨ p.caps % 2 = 1) then 121
  else if p.ins.any (fun x => !rightI R p.ins.length p.caps x) = true then 121 else 0
set_option maxRecDepth 100000 in
set_option maxHeartbeats 4000000 in
theorem check_any (R : List Rg → Bool) (ok : Nat → Prop) (w : World) (p : Pg) (ps : List Value) (hp : PgC ok w p ps) (hN : p.ins.length ≤ 140737488351232) (hR : ∀ x ∈ p.ins, x.op = 2 → RightOK R x.set) :
    Calls Tryd.prog 32 #[.agg ps.toArray] w fun e w' => e = .returned (.int .i64 (checkS R p)) ∧ Below w.heap.size w w' := by
  have hp0 := hp
  obtain ⟨A, c, rfl, p1, p2, h6⟩ := hp
  have hcf := fun (W : World) (hW : Below w.heap.size w W) hb => contains_check R ok W w.heap.size p _ A c hb (hp0.below hW) (h6.move (fun b hb hlt => ⟨hW.block b hlt, hb⟩) (by omega) |>.weak (fun x _ cs hx => hx.below hW)) hN hR
  have HS := Lib.hid (show checkS R p = (if (p.ins.length = 0 ∨ 10000 < p.ins.length) ∨ (p.start < 0 ∨ (p.ins.length : Int) ≤ p.start) ∨ (p.caps < 2 ∨ 4002 < p.caps ∨ p.caps % 2 = 1) then 121
    else if p.ins.any (fun x => !rightI R p.ins.length p.caps x) = true then 121 else 0) from rfl)
  generalize checkS R p = res at *
  generalize p.ins.any (fun x => !rightI R p.ins.length p.caps x) = bad at *
  have yb : Below w.heap.size w (w.alloc (.cells #[.slice A p.ins.length c, .int .i64 p.start, .int .i64 p.caps] 28)) := below_al (Below.refl _ _) _
  have y0 := heap_new1 w (.cells #[.slice A p.ins.length c, .int .i64 p.start, .int .i64 p.caps] 28)
  have hc := hcf _ yb y0
  clear hp0 h6 hR hcf
  have YB := Lib.hid yb
  clear yb y0
  go_enter Tryd.func32, Tryd.ntmps32
  go_wp2_with (go_at_call 52; refine hc.mono ?_; clear hc; rintro e w1 ⟨rfl, hb1⟩; have HB := Lib.hid (below_and hb1 YB.out); clear hb1)
  all_goals
    go_ret
    refine ⟨ret_int ?_, by first | exact HB.out | exact YB.out | exact below_al (Below.refl _ _) _⟩
    have h9 := HS.out
    first
    | (rw [h9, if_pos (by omega)])
    | (cases bad <;> simp_all <;> omega)
end Go.Proofs.YthclpabmbhpohaaDoor
namespace Go.Proofs.YthclpabmbhpohaaDoor.chk12
open Go.RowKit
set_option linter.unusedVariables false
theorem yw_rowA {P : Program} {ops : Array Oper} {S : World → Prop} {o : Oper} {a : Act} (ty : TypeId) (x : Operand) (ho : o.op = .load ty x) (ad : Addr) (cs : List Value) (hx : a.eval x = .pointer (some ad)) (hw : Region.wanted o (yielded ops a.tmps) = true)
    (d : TypeDesc) (hu : P.underlying ty = some d) (hd : d.isRow = true) (hi : (P.info? ty).map (·.size) = some cs.length) (hc : ∀ w, S w → ∀ r u, cs[r]? = some u → w.cell? (ad.add r) = some u) : YieldsIf P ops S o (.agg cs.toArray) a := by
  refine Or.inl ⟨hw, fun w hS => ?_⟩
  have hl := run_loadCells_list (P := P) w ad cs (hc w hS)
  cases hq : P.info? ty with
  | none => simp [hq] at hi
  | some i =>
    have hs : i.size = cs.length := by simpa [hq] using hi
    have hagg : (isAgg ty).run P w = .ok true w := by
      unfold isAgg
      rw [Sem.run_bind, run_underlying hu w]
      cases d <;> simp_all
    unfold execOp
    simp [ho, hx, Instr.loadAt, Instr.sureAddr, loadVar, hagg, sizeOf, typeInfo, hq, hs, hl]
theorem any_bad {l : List In} {f : In → Bool} {i : Nat} (hi : i < l.length) (h : f l[i] = false) : l.any (fun x => !f x) = true := List.any_eq_true.2 ⟨_, List.getElem_mem hi, by rw [h]; rfl⟩
theorem any_good {l : List In} {f : In → Bool} {i : Nat} (hi : l.length ≤ i) (h : ∀ j (hj : j < l.length), j < i → f l[j] = true) : l.any (fun x => !f x) = false := by
  rw [List.any_eq_false]
  intro x hx
  obtain ⟨j, hj, rfl⟩ := List.getElem_of_mem hx
  rw [h j hj (by omega)]; simp
set_option maxRecDepth 100000 in
set_option maxHeartbeats 4000000 in
theorem check12_any (ok : Nat → Prop) (w : World) (p : Pg) (ps : List Value) (hp : PgC ok w p ps) (hN : p.ins.length ≤ 140737488351232)
    (hw : ∀ x ∈ p.ins, ∀ r ∈ x.set, (Lit.int .i32 r.lo).wf = true ∧ (Lit.int .i32 r.hi).wf = true) (hs : ∀ x ∈ p.ins, x.set.length ≤ 140737488351232) :
    Calls Tryd.prog 14 #[.agg ps.toArray] w fun e w' => e = .returned (.int .i64 (checkS rightR p)) ∧ Below w.heap.size w w' := by
  have hold := hp.old
  obtain ⟨A, c, rfl, p1, p2, h6⟩ := hp
  clear hw
  have HS := Lib.hid (show checkS rightR p = (if (p.ins.length = 0 ∨ 10000 < p.ins.length) ∨ (p.start < 0 ∨ (p.ins.length : Int) ≤ p.start) ∨ (p.caps < 2 ∨ 4002 < p.caps ∨ p.caps % 2 = 1) then 121
    else if p.ins.any (fun x => !rightI rightR p.ins.length p.caps x) = true then 121 else 0) from rfl)
  generalize checkS rightR p = res at *
  have hB := below_al (Below.refl w.heap.size w) (.cells #[.slice A p.ins.length c, .int .i64 p.start, .int .i64 p.caps] 28)
  have hx := heap_new1 w (.cells #[.slice A p.ins.length c, .int .i64 p.start, .int .i64 p.caps] 28)
  have HP := Lib.hid (And.intro hold (And.intro hs (And.intro hB hx)))
  clear hold hs hB hx h6
  by_cases hbadc : (p.ins.length = 0 ∨ 10000 < p.ins.length) ∨ (p.start < 0 ∨ (p.ins.length : Int) ≤ p.start) ∨ (p.caps < 2 ∨ 4002 < p.caps ∨ p.caps % 2 = 1)
  · have HR : Hid (res = 121) := Lib.hid (by rw [HS.out, if_pos hbadc])
    clear HS
    go_enter Tryd.func14, Tryd.ntmps14
    go_wp2_with fail
    all_goals first
      | (go_ret; refine ⟨ret_int ?_, HP.out.2.2.1⟩; rw [HR.out]; done)
      | (exfalso; simp only [bne_eq_false_iff_eq] at *; omega)
  have d1 : decide ((p.ins.length : Int) < 1) = false := decide_eq_false (by omega)
  have d2 : decide (10000 < (p.ins.length : Int)) = false := decide_eq_false (by omega)
  have d3 : decide (p.start < 0) = false := decide_eq_false (by omega)
  have d4 : decide ((p.ins.length : Int) ≤ p.start) = false := decide_eq_false (by omega)
  have d5 : decide (p.caps < 2) = false := decide_eq_false (by omega)
  have d6 : decide (4002 < p.caps) = false := decide_eq_false (by omega)
  have d7 : (p.caps.tmod 2 != 0) = false := by rw [Int.tmod_eq_emod_of_nonneg (by omega)]; simp; omega
  have d8 : (p.caps % 2 != 0) = false := by simp; omega
  have hgoodc := hbadc
  have HG0 := Lib.hid hbadc
  clear hbadc
  go_enter Tryd.func14, Tryd.ntmps14
  have HS2 : Hid (res = if p.ins.any (fun x => !rightI rightR p.ins.length p.caps x) = true then 121 else 0) := Lib.hid (by rw [HS.out, if_neg hgoodc])
  clear hgoodc
  go_wp2_with fail
  obtain ⟨w0, hw0⟩ : ∃ w0, w.alloc (.cells #[.slice A p.ins.length c, .int .i64 p.start, .int .i64 p.caps] 28) = w0 := ⟨_, rfl⟩
  rw [hw0] at HP ⊢
  clear hw0 HS d1 d2 d3 d4 d5 d6 d7 d8
  go_loopg [4] (p.ins.length + 1) (fun g s4 wr => ∃ i : Nat, s4 = .int .i64 i ∧ i ≤ p.ins.length ∧ p.ins.length + 1 - i ≤ g ∧ Hid (∀ j (hj : j < p.ins.length), j < i → rightI rightR p.ins.length p.caps p.ins[j] = true) ∧ Below w0.heap.size w0 wr)
  case atStart => exact ⟨0, rfl, Nat.zero_le _, by omega, Lib.hid (fun j _ h => by omega), Below.refl _ _⟩
  case round =>
    obtain ⟨i, rfl, hi, hg, HF, hB⟩ := hrel
    by_cases hil : i < p.ins.length
    · have hdi : decide ((i : Int) < (p.ins.length : Int)) = true := decide_eq_true (by omega)
      have hBw := HP.out.2.2.1.trans (hB.mono HP.out.2.2.1.size)
      obtain ⟨X, rfl⟩ : ∃ X : World, X = wr := ⟨_, rfl⟩
      obtain ⟨ad, c', B, d, he, _, _, _, _, _, hk⟩ := ins_at (HP.out.1.move (ok' := fun k => k < w.heap.size) (fun k hk _ => ⟨rfl, hk.2⟩)) (Nat.le_refl _) i hil
      simp only [List.cons.injEq, Value.slice.injEq] at he
      obtain ⟨⟨rfl, _, rfl⟩, _⟩ := he
      have hbx := (hB.block _ (heap_lt HP.out.2.2.2)).trans HP.out.2.2.2
      have HG : Hid ((rightI rightR p.ins.length p.caps p.ins[i] = false → res = 121) ∧ (rightI rightR p.ins.length p.caps p.ins[i] = true → ∀ j (hj : j < p.ins.length), j < i + 1 → rightI rightR p.ins.length p.caps p.ins[j] = true)) := Lib.hid ⟨fun h => by rw [HS2.out, if_pos (any_bad hil h)], fun h j hj hji => by
        rcases Nat.lt_or_ge j i with h9 | h9
        · exact HF.out j hj h9
        · have hj9 : j = i := by omega
          subst hj9; exact h⟩
      have HC : Hid ((∀ W, Below X.heap.size X W → W.heap[w.heap.size]? = some (.cells #[.slice (some ad) p.ins.length c, .int .i64 p.start, .int .i64 p.caps] 28 (0, 0))) ∧ (∀ W, Below X.heap.size X W → W.cell? ⟨w.heap.size, 0, none⟩ = some (.slice (some ad) p.ins.length c)) ∧
          (∀ W, Below X.heap.size X W → ∀ r u, ([.int .i64 p.ins[i].op, .int .i64 p.ins[i].out, .int .i64 p.ins[i].arg, .slice B p.ins[i].set.length d, .int .i64 p.ins[i].at_] : List Value)[r]? = some u → W.cell? ((ad.add (i * 5)).add r) = some u) ∧
          (∀ W, Below X.heap.size X W → Calls Tryd.prog 31 #[.agg #[.slice (some ad) p.ins.length c, .int .i64 p.start, .int .i64 p.caps], .agg #[.int .i64 p.ins[i].op, .int .i64 p.ins[i].out, .int .i64 p.ins[i].arg, .slice B p.ins[i].set.length d, .int .i64 p.ins[i].at_]] W fun e w' => e = .returned (.bool (rightI rightR p.ins.length p.caps p.ins[i])) ∧ Below W.heap.size W w')) := Lib.hid (by
        refine ⟨fun W hW => (hW.block _ (heap_lt hbx)).trans hbx, fun W hW => by rw [cell_of_blk ((hW.block _ (heap_lt hbx)).trans hbx)]; rfl, fun W hW r u hu => ?_, fun W hW => ?_⟩
        · obtain ⟨_, k0, k1, k2, k3, k4⟩ := hk W (hBw.trans (hW.mono hBw.size))
          have hf : ∀ n, (ad.add (i * 5)).add n = if n = 0 then ad.add (i * 5) else ⟨(ad.add (i * 5)).block, (ad.add (i * 5)).off + n, none⟩ := fun n => rfl
          rw [hf]
          match r, hu with
          | 0, hu => cases hu; exact k0
          | 1, hu => cases hu; exact k1
          | 2, hu => cases hu; exact k2
          | 3, hu => cases hu; exact k3
          | 4, hu => cases hu; exact k4
        · exact inst12_any (fun k => k < w.heap.size) W (some ad) B p.ins.length c d p.start p.caps p.ins[i] (hk W (hBw.trans (hW.mono hBw.size))).1 hN (HP.out.2.1 _ (List.getElem_mem hil)))
      generalize p.ins[i] = x at *
      generalize rightI rightR p.ins.length p.caps x = rr at *
      have HB := Lib.hid (And.intro hB hBw)
      clear hB hBw hk hbx
      go_wp2_with fail
      refine wp_region_scr (fun W' => Below X.heap.size X W') [(true, 0, 47), (true, 1, 48), (true, 2, 49), (true, 3, 50), (true, 4, 51), (true, 5, 52), (false, 6, 53), (true, 7, 5)] (by kernel_rfl) (by kernel_rfl) (fun _ _ _ _ _ h => h) rfl (by kernel_rfl) ?_
      have HV := Lib.hid (show Below X.heap.size X X.drew from (Below.refl _ _).drew)
      refine Scr.take (v := .agg #[.slice (some ad) p.ins.length c, .int .i64 p.start, .int .i64 p.caps]) rfl rfl (yw_row 28 _ rfl w.heap.size ([.slice (some ad) p.ins.length c, .int .i64 p.start, .int .i64 p.caps] : List Value) 28 rfl (by rfl) _ Tryd.underlying28 rfl (by rfl) (fun W hS => HC.out.1 W hS)) HV.out ?_
      simp only [Act.put, List.setIfInBounds_toArray, List.set_cons_zero, List.set_cons_succ]
      refine Scr.take (v := .pointer (some ⟨w.heap.size, 0, none⟩)) rfl rfl (yw_pure (by rfl) (fun _ => by go_simp)) HV.out ?_
      simp only [Act.put, List.setIfInBounds_toArray, List.set_cons_zero, List.set_cons_succ]
      refine Scr.take (v := .slice (some ad) p.ins.length c) rfl rfl (yw_cell 26 _ rfl ⟨w.heap.size, 0, none⟩ (.slice (some ad) p.ins.length c) rfl (by rfl) _ Tryd.underlying26 rfl (fun W hS => HC.out.2.1 W hS)) HV.out ?_
      simp only [Act.put, List.setIfInBounds_toArray, List.set_cons_zero, List.set_cons_succ]
      refine Scr.take (v := .int .i64 i) rfl rfl (yw_pure (by rfl) (fun _ => by go_simp)) HV.out ?_
      simp only [Act.put, List.setIfInBounds_toArray, List.set_cons_zero, List.set_cons_succ]
      refine Scr.take (v := .pointer (some (ad.add (i * 5)))) rfl rfl (yw_pure (by rfl) (fun _ => by go_simp)) HV.out ?_
      simp only [Act.put, List.setIfInBounds_toArray, List.set_cons_zero, List.set_cons_succ]
      refine Scr.take (v := .agg #[.int .i64 x.op, .int .i64 x.out, .int .i64 x.arg, .slice B x.set.length d, .int .i64 x.at_]) rfl rfl (yw_rowA 64 _ rfl (ad.add (i * 5)) ([.int .i64 x.op, .int .i64 x.out, .int .i64 x.arg, .slice B x.set.length d, .int .i64 x.at_] : List Value) rfl (by rfl) _ Tryd.underlying64 rfl (by rfl) (fun W hS => HC.out.2.2.1 W hS)) HV.out ?_
      simp only [Act.put, List.setIfInBounds_toArray, List.set_cons_zero, List.set_cons_succ]
      refine Scr.run rfl (by rfl) (fun K hK => ?_)
      go_simp
      refine (HC.out.2.2.2 _ HV.out).mono ?_
      rintro e w9 ⟨rfl, hb9⟩
      dsimp only
      have hB9 : Below X.heap.size X w9 := HV.out.trans (hb9.mono HV.out.size)
      refine hK _ _ hB9 ?_
      clear hK K HV hb9
      have HV := Lib.hid hB9
      clear hB9
      refine Scr.take (v := .bool rr) rfl rfl (yw_pure (by rfl) (fun _ => by go_simp)) HV.out ?_
      simp only [Act.put, List.setIfInBounds_toArray, List.set_cons_zero, List.set_cons_succ]
      simp only [Scr]
      cases rr with
      | false =>
        have HE := Lib.hid (HG.out.1 rfl)
        go_wp2_with fail
        go_ret
        exact ⟨by rw [HE.out]; rfl, HB.out.2.trans (HV.out.mono HB.out.2.size)⟩
      | true =>
        have HE := Lib.hid (HG.out.2 rfl)
        go_wp2_with fail
        go_roundg (gk - 1)
        case measure => omega
        case rel => exact ⟨i + 1, by go_num, by omega, by omega, HE, HB.out.1.trans (HV.out.mono HB.out.1.size)⟩
    · have hdi : decide ((i : Int) < (p.ins.length : Int)) = false := decide_eq_false (by omega)
      have HE : Hid (res = 0) := Lib.hid (by rw [HS2.out, any_good (i := i) (by omega) HF.out]; rfl)
      go_wp2_with fail
      go_ret
      exact ⟨by rw [HE.out]; rfl, HP.out.2.2.1.trans (hB.mono HP.out.2.2.1.size)⟩
end Go.Proofs.YthclpabmbhpohaaDoor.chk12
namespace Go.Proofs.YthclpabmbhpohaaDoor
open Go.RowKit
set_option linter.unusedVariables false
theorem check_ok {R : List Rg → Bool} {p : Pg} (h : checkS R p = 0) : 1 ≤ p.ins.length ∧ p.ins.length ≤ 10000 ∧ Pc p p.start ∧ 2 ≤ p.caps ∧ p.caps ≤ 4002 ∧ p.caps % 2 = 0 ∧ ∀ x ∈ p.ins, rightI R p.ins.length p.caps x = true := by
  unfold checkS at h
  by_cases c1 : (p.ins.length = 0 ∨ 10000 < p.ins.length) ∨ (p.start < 0 ∨ (p.ins.length : Int) ≤ p.start) ∨ (p.caps < 2 ∨ 4002 < p.caps ∨ p.caps % 2 = 1)
  · rw [if_pos c1] at h; cases h
  rw [if_neg c1] at h
  by_cases c2 : p.ins.any (fun x => !rightI R p.ins.length p.caps x) = true
  · rw [if_pos c2] at h; cases h
  refine ⟨by omega, by omega, ⟨by omega, by omega⟩, by omega, by omega, by omega, fun x hx => ?_⟩
  have h9 : p.ins.any (fun x => !rightI R p.ins.length p.caps x) = false := by simpa using c2
  rw [List.any_eq_false] at h9
  simpa using h9 x hx
theorem get_mem {p : Pg} {pc : Int} (h : Pc p pc) : p.get pc ∈ p.ins := by
  obtain ⟨h0, h1⟩ := h
  have hi : pc.toNat < p.ins.length := by omega
  unfold Pg.get
  rw [List.getElem?_eq_getElem hi]
  exact List.getElem_mem hi
theorem here_pc {p : Pg} {pc : Int} (h : hereB p.ins.length pc = true) : Pc p pc := by
  unfold hereB at h
  simp only [Bool.and_eq_true, decide_eq_true_eq] at h
  exact h
/-- What is known of a right instruction. -/
structure GoodI (p : Pg) (x : In) : Prop where
  op : 1 ≤ x.op ∧ x.op ≤ 6
  out : x.op = 2 ∨ x.op = 3 ∨ x.op = 4 ∨ x.op = 5 → Pc p x.out
  arg : x.op = 3 → Pc p x.arg
  cap : x.op = 4 → 2 ≤ x.arg ∧ x.arg < p.caps
  set : x.op = 2 → SetOK x.set ∧ x.set ≠ []
  atv : x.op = 5 → atsB x.at_ = true
theorem good_of {p : Pg} {x : In} (h : rightI rightR p.ins.length p.caps x = true) : GoodI p x := by
  unfold rightI at h
  by_cases c1 : x.op = 1 ∨ x.op = 6
  · exact ⟨by omega, by omega, by omega, by omega, by omega, by omega⟩
  rw [if_neg c1] at h
  by_cases c2 : x.op = 2
  · rw [if_pos c2] at h
    simp only [Bool.and_eq_true, Bool.not_eq_true'] at h
    refine ⟨by omega, fun _ => here_pc h.1.1.1.1, by omega, by omega, fun _ => ⟨(right_iff _).1 h.1.1.2, fun e => ?_⟩, by omega⟩
    rw [e] at h
    exact absurd h.1.1.1.2 (by simp)
  rw [if_neg c2] at h
  by_cases c3 : x.op = 3
  · rw [if_pos c3] at h
    simp only [Bool.and_eq_true] at h
    exact ⟨by omega, fun _ => here_pc h.1.1.1, fun _ => here_pc h.1.1.2, by omega, by omega, by omega⟩
  rw [if_neg c3] at h
  by_cases c4 : x.op = 4
  · rw [if_pos c4] at h
    simp only [Bool.and_eq_true, Bool.not_eq_true', decide_eq_false_iff_not] at h
    exact ⟨by omega, fun _ => here_pc h.1.1.1.1, by omega, fun _ => ⟨by omega, by omega⟩, by omega, by omega⟩
  rw [if_neg c4] at h
  by_cases c5 : x.op = 5
  · rw [if_pos c5] at h
    simp only [Bool.and_eq_true] at h
    exact ⟨by omega, fun _ => here_pc h.1.1.1, by omega, by omega, by omega, fun _ => h.1.1.2⟩
  rw [if_neg c5] at h
  cases h
theorem check_good {p : Pg} (h : checkS rightR p = 0) {pc : Int} (hp : Pc p pc) : GoodI p (p.get pc) := good_of ((check_ok h).2.2.2.2.2.2 _ (get_mem hp))
theorem check_leads {p : Pg} (h : checkS rightR p = 0) : Leads p := fun pc hp => ⟨(check_good h hp).out, (check_good h hp).arg⟩
/-- A list of different instructions is no longer than the program. -/
theorem nodup_len {p : Pg} {l : List Int} (hn : l.Nodup) (hp : ∀ x ∈ l, Pc p x) : l.length ≤ p.ins.length := by
  have h : ∀ (l : List Int), l.Nodup → (∀ x ∈ l, Pc p x) → l.length + leftN p.ins.length l ≤ p.ins.length := by
    intro l
    induction l with
    | nil => intro _ _; rw [leftN_nil]; simp
    | cons x l ih =>
      intro hn hp
      obtain ⟨h1, h2⟩ := List.nodup_cons.1 hn
      have := ih h2 (fun y hy => hp y (by simp [hy]))
      have := leftN_cons (hp x (by simp)) (seen := l) (by simpa using h1)
      rw [List.length_cons]; omega
  have := h l hn hp
  omega
theorem putOuts_nodup (p : Pg) : ∀ (l td : List Int), td.Nodup → (putOuts p l td).Nodup
  | [], td, h => h
  | y :: l, td, h => by
    show (putOuts p l (if td.contains (p.get y).out = true then td else td ++ [(p.get y).out])).Nodup
    refine putOuts_nodup p l _ ?_
    split
    · exact h
    · rename_i hc
      refine List.nodup_append.2 ⟨h, by simp, fun a ha b hb => ?_⟩
      rw [List.mem_singleton.1 hb]
      rintro rfl
      exact hc (by simpa using ha)
theorem putOuts_le (p : Pg) : ∀ (l td : List Int), td.length ≤ (putOuts p l td).length
  | [], td => Nat.le_refl _
  | y :: l, td => by
    show td.length ≤ (putOuts p l (if td.contains (p.get y).out = true then td else td ++ [(p.get y).out])).length
    refine Nat.le_trans ?_ (putOuts_le p l _)
    split <;> simp
theorem putOuts_snoc (p : Pg) (l : List Int) (y : Int) (td : List Int) : putOuts p (l ++ [y]) td = if (putOuts p l td).contains (p.get y).out = true then putOuts p l td else putOuts p l td ++ [(p.get y).out] := by
  unfold putOuts; rw [List.foldl_append]; rfl
/-- What comes of the list that the program's own telling tells. -/
theorem waysW_list (me : List Rg → List Rg → Bool) (un : List Rg → List Rg → List Rg) (p : Pg) (hl : Leads p) : ∀ (n : Nat) (pc : Int) (s : Ow), Pc p pc → (∀ x ∈ s.l, Pc p x ∧ (p.get x).op = 2) → ∀ x ∈ (waysW me un p n pc s).2.l, Pc p x ∧ (p.get x).op = 2
  | 0, _, s, _, h => h
  | n + 1, pc, s, hp, h => by
    have ih := waysW_list me un p hl n
    have hx := hl pc hp
    have h1 : ∀ x ∈ (onW me un p pc s).2.l, Pc p x ∧ (p.get x).op = 2 := by
      unfold onW
      by_cases c0 : s.seen.contains pc = true
      · rw [if_pos c0]; exact h
      rw [if_neg c0]
      by_cases c1 : (p.get pc).op = 1
      · rw [if_pos c1]; exact h
      rw [if_neg c1]
      by_cases c2 : (p.get pc).op = 2
      · rw [if_pos c2]
        split
        · exact h
        · intro x hx
          rcases List.mem_append.1 hx with hx | hx
          · exact h x hx
          · rw [List.mem_singleton.1 hx]; exact ⟨hp, c2⟩
      rw [if_neg c2]; exact h
    rw [waysW_new rfl rfl]
    by_cases c0 : (onW me un p pc s).1 = false
    · rw [if_pos c0]; exact h1
    rw [if_neg c0]
    by_cases c3 : (p.get pc).op = 3
    · rw [if_pos c3]
      have h2 := ih _ _ (hx.1 (by omega)) h1
      split
      · exact h2
      · exact ih _ _ (hx.2 c3) h2
    rw [if_neg c3]
    by_cases c4 : (p.get pc).op = 4 ∨ (p.get pc).op = 5
    · rw [if_pos c4]; exact ih _ _ (hx.1 (by omega)) h1
    rw [if_neg c4]; exact h1
theorem simpleW_list (me : List Rg → List Rg → Bool) (un : List Rg → List Rg → List Rg) (p : Pg) (hl : Leads p) (pc : Int) (hp : Pc p pc) : ∀ x ∈ (simpleW me un p pc).1, Pc p x ∧ (p.get x).op = 2 := waysW_list me un p hl _ pc _ hp (fun x h => by simp at h)
end Go.Proofs.YthclpabmbhpohaaDoor
