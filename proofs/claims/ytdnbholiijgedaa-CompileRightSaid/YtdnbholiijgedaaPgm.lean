/-
  progs.right: may an instruction be? What sets.Right answers is a premise. No other condition.
-/
import Derived.Test.YtdnbholiijgedaaComp1
import Derived.Test.YtdnbholiijgedaaPlain2
import Derived.Test.YtdnbholiijgedaaMem
namespace Go.Proofs.Ytdnbholiijgedaa
open Go.RowKit
set_option linter.unusedVariables false

/-- A program. -/
structure Pg where
  ins : List In
  start : Int
  caps : Int
def InO (ok : Nat → Prop) (w : World) (x : In) (cs : List Value) : Prop := ∃ B d, cs = [.int .i64 x.op, .int .i64 x.out, .int .i64 x.arg, .slice B x.set.length d, .int .i64 x.at_] ∧ x.set.length ≤ d ∧ d ≤ maxLen ∧ Arr ok w 2 RgC B x.set
def PgC (ok : Nat → Prop) (w : World) (p : Pg) (cs : List Value) : Prop := ∃ A c, cs = [.slice A p.ins.length c, .int .i64 p.start, .int .i64 p.caps] ∧ p.ins.length ≤ c ∧ c ≤ maxLen ∧ Arr ok w 5 (InO ok w) A p.ins
theorem InO.move {ok ok' : Nat → Prop} {w w' : World} (hm : ∀ b, ok b → b < w.heap.size → w'.heap[b]? = w.heap[b]? ∧ ok' b) {x : In} {cs : List Value} (h : InO ok w x cs) : InO ok' w' x cs := by
  obtain ⟨B, d, h1, h2, h3, h4⟩ := h
  exact ⟨B, d, h1, h2, h3, h4.move hm (by omega)⟩
theorem PgC.move {ok ok' : Nat → Prop} {w w' : World} (hm : ∀ b, ok b → b < w.heap.size → w'.heap[b]? = w.heap[b]? ∧ ok' b) {p : Pg} {cs : List Value} (h : PgC ok w p cs) : PgC ok' w' p cs := by
  obtain ⟨A, c, h1, h2, h3, h4⟩ := h
  exact ⟨A, c, h1, h2, h3, (h4.move hm (by omega)).weak (fun x _ cs hx => hx.move hm)⟩
theorem PgC.old {ok : Nat → Prop} {w : World} {p : Pg} {cs : List Value} (h : PgC ok w p cs) : PgC (fun b => ok b ∧ b < w.heap.size) w p cs := h.move fun b hok hlt => ⟨rfl, hok, hlt⟩
theorem InO.old {ok : Nat → Prop} {w : World} {x : In} {cs : List Value} (h : InO ok w x cs) : InO (fun b => ok b ∧ b < w.heap.size) w x cs := h.move fun b hok hlt => ⟨rfl, hok, hlt⟩
theorem PgC.below {ok : Nat → Prop} {w w' : World} {p : Pg} {cs : List Value} (h : PgC ok w p cs) (hb : Below w.heap.size w w') : PgC ok w' p cs := h.move fun b hok hlt => ⟨hb.block b hlt, hok⟩
theorem InO.below {ok : Nat → Prop} {w w' : World} {x : In} {cs : List Value} (h : InO ok w x cs) (hb : Below w.heap.size w w') : InO ok w' x cs := h.move fun b hok hlt => ⟨hb.block b hlt, hok⟩
theorem inO_cells {ok : Nat → Prop} {w : World} {x : In} {cs : List Value} (h : InO ok w x cs) : ∀ u ∈ cs, u.oneCell' = true := by
  obtain ⟨B, d, rfl, _⟩ := h
  intro u hu
  simp at hu
  rcases hu with rfl | rfl | rfl | rfl | rfl <;> rfl
theorem InO.len {ok : Nat → Prop} {w : World} {x : In} {cs : List Value} (h : InO ok w x cs) : cs.length = 5 := by
  obtain ⟨B, d, rfl, _⟩ := h
  rfl
theorem cells5 {W : World} {b : Nat} {ty : TypeId} {fr : Nat × Nat} {a0 a1 a2 a3 a4 : Value} (h : W.heap[b]? = some (.cells #[a0, a1, a2, a3, a4] ty fr)) :
    W.cell? ⟨b, 0, none⟩ = some a0 ∧ W.cell? ⟨b, 1, none⟩ = some a1 ∧ W.cell? ⟨b, 2, none⟩ = some a2 ∧ W.cell? ⟨b, 3, none⟩ = some a3 ∧ W.cell? ⟨b, 4, none⟩ = some a4 := by
  refine ⟨?_, ?_, ?_, ?_, ?_⟩ <;> (rw [cell_of_blk h]; rfl)
theorem cells3 {W : World} {b : Nat} {ty : TypeId} {fr : Nat × Nat} {a0 a1 a2 : Value} (h : W.heap[b]? = some (.cells #[a0, a1, a2] ty fr)) : W.cell? ⟨b, 0, none⟩ = some a0 ∧ W.cell? ⟨b, 1, none⟩ = some a1 ∧ W.cell? ⟨b, 2, none⟩ = some a2 := by
  refine ⟨?_, ?_, ?_⟩ <;> (rw [cell_of_blk h]; rfl)
def atsB (z : Int) : Bool := ats.contains z
theorem containsAtB (W : World) (g : Nat) (fr : Nat × Nat) (v : Int) (h : W.heap[g]? = some (.cells #[.int .i64 1, .int .i64 2, .int .i64 4, .int .i64 8, .int .i64 16, .int .i64 32] 25 fr)) :
    Calls Try.prog 55 #[.slice (some ⟨g, 0, none⟩) 6 6, .int .i64 v] W fun e w' => e = .returned (.bool (atsB v)) ∧ W = w' := containsAt_lit W g fr v h
theorem frozenOf {W : World} {b : Nat} {cs : Array Value} {T : TypeId} (h : W.heap[b]? = some (.cells cs T (0, 0))) : ∀ j, W.frozen? ⟨b, j, none⟩ = false := fun j => by simp [World.frozen?, h]
def hereB (L : Nat) (pc : Int) : Bool := decide (0 ≤ pc) && decide (pc < L)
def rightI (R : List Rg → Bool) (L : Nat) (caps : Int) (x : In) : Bool :=
  if x.op = 1 ∨ x.op = 6 then (x.out == 0) && (x.arg == 0) && (x.at_ == 0) && ((x.set.length : Int) == 0)
  else if x.op = 2 then hereB L x.out && !((x.set.length : Int) == 0) && R x.set && (x.arg == 0) && (x.at_ == 0)
  else if x.op = 3 then hereB L x.out && hereB L x.arg && (x.at_ == 0) && ((x.set.length : Int) == 0)
  else if x.op = 4 then hereB L x.out && !decide (x.arg < 2) && !decide (caps ≤ x.arg) && (x.at_ == 0) && ((x.set.length : Int) == 0)
  else if x.op = 5 then hereB L x.out && atsB x.at_ && (x.arg == 0) && ((x.set.length : Int) == 0)
  else false
set_option maxHeartbeats 400000 in
theorem here_any (w : World) (b0 : Nat) (A : Option Addr) (L c : Nat) (st cp pc : Int) (hb : w.heap[b0]? = some (.cells #[.slice A L c, .int .i64 st, .int .i64 cp] 32 (0, 0))) (hL : L ≤ 140737488351232) :
    Calls Try.prog 58 #[.int .i64 pc, .pointer (some ⟨b0, 0, none⟩)] w fun e w' => e = .returned (.bool (hereB L pc)) ∧ w = w' := by
  obtain ⟨g0, g1, g2⟩ := cells3 hb
  have hn := heap_lt hb
  clear hb
  have hh : hereB L pc = (decide (0 ≤ pc) && decide (pc < L)) := rfl
  have HH := Lib.hid hh
  clear hh
  generalize hereB L pc = r at *
  by_cases h0 : 0 ≤ pc
  · have d0 : decide (0 ≤ pc) = true := decide_eq_true h0
    have H0 := Lib.hid h0
    clear h0
    go_enter Try.func58, Try.ntmps58
    go_wp2_with fail
    go_ret
    exact ⟨ret_bool (by rw [HH.out]; simp [H0.out]), rfl⟩
  · have d0 : decide (0 ≤ pc) = false := decide_eq_false h0
    have H0 := Lib.hid h0
    clear h0
    go_enter Try.func58, Try.ntmps58
    go_wp2_with fail
    go_ret
    exact ⟨ret_bool (by rw [HH.out]; simp [d0]), rfl⟩
theorem heap_new4 (w : World) (o1 o2 o3 o4 : Obj) : ((((w.alloc o1).alloc o2).alloc o3).alloc o4).heap[w.heap.size + 1 + 1 + 1]? = some o4 := by
  have := World.alloc_heap_new (((w.alloc o1).alloc o2).alloc o3) o4; rwa [World.size_alloc, World.size_alloc, World.size_alloc] at this
set_option maxRecDepth 100000 in
set_option maxHeartbeats 8000000 in
theorem right_pg1 (R : List Rg → Bool) (ok : Nat → Prop) (w : World) (p : Pg) (x : In) (ps xs : List Value) (hp : PgC ok w p ps) (hx : InO ok w x xs) (hR : x.op = 2 → RightOK R x.set) (hpl : p.ins.length ≤ 140737488351232) (ho : x.op = 1) :
    Calls Try.prog 32 #[.agg ps.toArray, .agg xs.toArray] w fun e w' => e = .returned (.bool (rightI R p.ins.length p.caps x)) ∧ Below w.heap.size w w' := by
  obtain ⟨A, c, rfl, p1, p2, _⟩ := hp
  obtain ⟨B, d, rfl, x1, x2, x3⟩ := hx
  have hRr : True := trivial
  clear hR x3
  have HO := Lib.hid ho
  have o1 : (x.op == 1) = true := (by rw [ho]; rfl)
  have o6 : (x.op == 6) = false := (by rw [ho]; rfl)
  have o2 : (x.op == 2) = false := (by rw [ho]; rfl)
  have o3 : (x.op == 3) = false := (by rw [ho]; rfl)
  have o4 : (x.op == 4) = false := (by rw [ho]; rfl)
  have o5 : (x.op == 5) = false := (by rw [ho]; rfl)
  clear ho
  have hb3 : (((w.alloc (.cells #[.slice A p.ins.length c, .int .i64 p.start, .int .i64 p.caps] 32)).alloc (.cells #[.int .i64 x.op, .int .i64 x.out, .int .i64 x.arg, .slice B x.set.length d, .int .i64 x.at_] 39)).alloc (.cells #[.int .i64 0, .int .i64 x.out, .int .i64 x.arg, .slice B x.set.length d, .int .i64 x.at_] 39)).heap[w.heap.size]? = some (.cells #[.slice A p.ins.length c, .int .i64 p.start, .int .i64 p.caps] 32 (0, 0)) := (Below.heap_alloc _ _ _ (by simp; omega)).trans ((Below.heap_alloc _ _ _ (by simp)).trans (heap_new1 _ _))
  have hbx : (((w.alloc (.cells #[.slice A p.ins.length c, .int .i64 p.start, .int .i64 p.caps] 32)).alloc (.cells #[.int .i64 x.op, .int .i64 x.out, .int .i64 x.arg, .slice B x.set.length d, .int .i64 x.at_] 39)).alloc (.cells #[.int .i64 0, .int .i64 x.out, .int .i64 x.arg, .slice B x.set.length d, .int .i64 x.at_] 39)).heap[w.heap.size + 1]? = some (.cells #[.int .i64 x.op, .int .i64 x.out, .int .i64 x.arg, .slice B x.set.length d, .int .i64 x.at_] 39 (0, 0)) := (Below.heap_alloc _ _ _ (by simp)).trans (heap_new2 _ _ _)
  have hb2 : (((w.alloc (.cells #[.slice A p.ins.length c, .int .i64 p.start, .int .i64 p.caps] 32)).alloc (.cells #[.int .i64 x.op, .int .i64 x.out, .int .i64 x.arg, .slice B x.set.length d, .int .i64 x.at_] 39)).alloc (.cells #[.int .i64 0, .int .i64 x.out, .int .i64 x.arg, .slice B x.set.length d, .int .i64 x.at_] 39)).heap[w.heap.size + 1 + 1]? = some (.cells #[.int .i64 0, .int .i64 x.out, .int .i64 x.arg, .slice B x.set.length d, .int .i64 x.at_] 39 (0, 0)) := heap_new3 _ _ _ _
  have hb4 : ∀ o, ((((w.alloc (.cells #[.slice A p.ins.length c, .int .i64 p.start, .int .i64 p.caps] 32)).alloc (.cells #[.int .i64 x.op, .int .i64 x.out, .int .i64 x.arg, .slice B x.set.length d, .int .i64 x.at_] 39)).alloc (.cells #[.int .i64 0, .int .i64 x.out, .int .i64 x.arg, .slice B x.set.length d, .int .i64 x.at_] 39)).alloc o).heap[w.heap.size]? = some (.cells #[.slice A p.ins.length c, .int .i64 p.start, .int .i64 p.caps] 32 (0, 0)) := fun o => (Below.heap_alloc _ _ _ (by simp; omega)).trans hb3
  have yb : Below w.heap.size w (((w.alloc (.cells #[.slice A p.ins.length c, .int .i64 p.start, .int .i64 p.caps] 32)).alloc (.cells #[.int .i64 x.op, .int .i64 x.out, .int .i64 x.arg, .slice B x.set.length d, .int .i64 x.at_] 39)).alloc (.cells #[.int .i64 0, .int .i64 x.out, .int .i64 x.arg, .slice B x.set.length d, .int .i64 x.at_] 39)) := below_al (below_al (below_al (Below.refl _ _) _) _) _
  have HH := Lib.hid (And.intro hb3 (And.intro hbx hb2))
  cases c1 : (x.out == 0) with
  | false =>
    go_enter Try.func32, Try.ntmps32
    go_wp2_with (first
          | (go_at_call 58; refine (here_any _ w.heap.size A p.ins.length c p.start p.caps _ (by first | exact hb3 | exact hb4 _) hpl).mono ?_; rintro e w' ⟨rfl, rfl⟩)
          | (go_at_call 55; refine (containsAtB _ _ _ _ (by first | exact heap_new4 _ _ _ _ _ | exact heap_new1 _ _)).mono ?_; rintro e w' ⟨rfl, rfl⟩)
          | (go_at_call 54; refine (hRr _ yb).mono ?_; clear hRr; rintro e w4 ⟨rfl, hb4⟩; have z := (hb4.block _ (heap_lt hb2)).trans hb2; obtain ⟨z0, z1, z2, z3, z4⟩ := cells5 z; have zx := (hb4.block _ (heap_lt hbx)).trans hbx; obtain ⟨v0, v1, v2, v3, v4⟩ := cells5 zx; have fz := frozenOf z; have ny := heap_lt z; have YB := Lib.hid (below_and hb4 yb); clear z zx hb4))
    go_ret
    exact ⟨ret_bool (by unfold rightI; simp [HO.out, c1]), by first | exact (((YB.out.setCell (by simp) _).setCell (by simp) _)) | exact YB.out | (repeat (first | exact Below.refl _ _ | apply below_al))⟩
  | true =>
    cases c2 : (x.arg == 0) with
    | false =>
      go_enter Try.func32, Try.ntmps32
      go_wp2_with (first
            | (go_at_call 58; refine (here_any _ w.heap.size A p.ins.length c p.start p.caps _ (by first | exact hb3 | exact hb4 _) hpl).mono ?_; rintro e w' ⟨rfl, rfl⟩)
            | (go_at_call 55; refine (containsAtB _ _ _ _ (by first | exact heap_new4 _ _ _ _ _ | exact heap_new1 _ _)).mono ?_; rintro e w' ⟨rfl, rfl⟩)
            | (go_at_call 54; refine (hRr _ yb).mono ?_; clear hRr; rintro e w4 ⟨rfl, hb4⟩; have z := (hb4.block _ (heap_lt hb2)).trans hb2; obtain ⟨z0, z1, z2, z3, z4⟩ := cells5 z; have zx := (hb4.block _ (heap_lt hbx)).trans hbx; obtain ⟨v0, v1, v2, v3, v4⟩ := cells5 zx; have fz := frozenOf z; have ny := heap_lt z; have YB := Lib.hid (below_and hb4 yb); clear z zx hb4))
      go_ret
      exact ⟨ret_bool (by unfold rightI; simp [HO.out, c1, c2]), by first | exact (((YB.out.setCell (by simp) _).setCell (by simp) _)) | exact YB.out | (repeat (first | exact Below.refl _ _ | apply below_al))⟩
    | true =>
      cases c3 : (x.at_ == 0) with
      | false =>
        go_enter Try.func32, Try.ntmps32
        go_wp2_with (first
              | (go_at_call 58; refine (here_any _ w.heap.size A p.ins.length c p.start p.caps _ (by first | exact hb3 | exact hb4 _) hpl).mono ?_; rintro e w' ⟨rfl, rfl⟩)
              | (go_at_call 55; refine (containsAtB _ _ _ _ (by first | exact heap_new4 _ _ _ _ _ | exact heap_new1 _ _)).mono ?_; rintro e w' ⟨rfl, rfl⟩)
              | (go_at_call 54; refine (hRr _ yb).mono ?_; clear hRr; rintro e w4 ⟨rfl, hb4⟩; have z := (hb4.block _ (heap_lt hb2)).trans hb2; obtain ⟨z0, z1, z2, z3, z4⟩ := cells5 z; have zx := (hb4.block _ (heap_lt hbx)).trans hbx; obtain ⟨v0, v1, v2, v3, v4⟩ := cells5 zx; have fz := frozenOf z; have ny := heap_lt z; have YB := Lib.hid (below_and hb4 yb); clear z zx hb4))
        go_ret
        exact ⟨ret_bool (by unfold rightI; simp [HO.out, c1, c2, c3]), by first | exact (((YB.out.setCell (by simp) _).setCell (by simp) _)) | exact YB.out | (repeat (first | exact Below.refl _ _ | apply below_al))⟩
      | true =>
        cases c4 : ((x.set.length : Int) == 0) with
        | false =>
          go_enter Try.func32, Try.ntmps32
          go_wp2_with (first
                | (go_at_call 58; refine (here_any _ w.heap.size A p.ins.length c p.start p.caps _ (by first | exact hb3 | exact hb4 _) hpl).mono ?_; rintro e w' ⟨rfl, rfl⟩)
                | (go_at_call 55; refine (containsAtB _ _ _ _ (by first | exact heap_new4 _ _ _ _ _ | exact heap_new1 _ _)).mono ?_; rintro e w' ⟨rfl, rfl⟩)
                | (go_at_call 54; refine (hRr _ yb).mono ?_; clear hRr; rintro e w4 ⟨rfl, hb4⟩; have z := (hb4.block _ (heap_lt hb2)).trans hb2; obtain ⟨z0, z1, z2, z3, z4⟩ := cells5 z; have zx := (hb4.block _ (heap_lt hbx)).trans hbx; obtain ⟨v0, v1, v2, v3, v4⟩ := cells5 zx; have fz := frozenOf z; have ny := heap_lt z; have YB := Lib.hid (below_and hb4 yb); clear z zx hb4))
          go_ret
          exact ⟨ret_bool (by unfold rightI; simp [HO.out, c1, c2, c3, c4]), by first | exact (((YB.out.setCell (by simp) _).setCell (by simp) _)) | exact YB.out | (repeat (first | exact Below.refl _ _ | apply below_al))⟩
        | true =>
          go_enter Try.func32, Try.ntmps32
          go_wp2_with (first
                | (go_at_call 58; refine (here_any _ w.heap.size A p.ins.length c p.start p.caps _ (by first | exact hb3 | exact hb4 _) hpl).mono ?_; rintro e w' ⟨rfl, rfl⟩)
                | (go_at_call 55; refine (containsAtB _ _ _ _ (by first | exact heap_new4 _ _ _ _ _ | exact heap_new1 _ _)).mono ?_; rintro e w' ⟨rfl, rfl⟩)
                | (go_at_call 54; refine (hRr _ yb).mono ?_; clear hRr; rintro e w4 ⟨rfl, hb4⟩; have z := (hb4.block _ (heap_lt hb2)).trans hb2; obtain ⟨z0, z1, z2, z3, z4⟩ := cells5 z; have zx := (hb4.block _ (heap_lt hbx)).trans hbx; obtain ⟨v0, v1, v2, v3, v4⟩ := cells5 zx; have fz := frozenOf z; have ny := heap_lt z; have YB := Lib.hid (below_and hb4 yb); clear z zx hb4))
          go_ret
          exact ⟨ret_bool (by unfold rightI; simp [HO.out, c1, c2, c3, c4]), by first | exact (((YB.out.setCell (by simp) _).setCell (by simp) _)) | exact YB.out | (repeat (first | exact Below.refl _ _ | apply below_al))⟩
set_option maxRecDepth 100000 in
set_option maxHeartbeats 8000000 in
theorem right_pg6 (R : List Rg → Bool) (ok : Nat → Prop) (w : World) (p : Pg) (x : In) (ps xs : List Value) (hp : PgC ok w p ps) (hx : InO ok w x xs) (hR : x.op = 2 → RightOK R x.set) (hpl : p.ins.length ≤ 140737488351232) (ho : x.op = 6) :
    Calls Try.prog 32 #[.agg ps.toArray, .agg xs.toArray] w fun e w' => e = .returned (.bool (rightI R p.ins.length p.caps x)) ∧ Below w.heap.size w w' := by
  obtain ⟨A, c, rfl, p1, p2, _⟩ := hp
  obtain ⟨B, d, rfl, x1, x2, x3⟩ := hx
  have hRr : True := trivial
  clear hR x3
  have HO := Lib.hid ho
  have o1 : (x.op == 1) = false := (by rw [ho]; rfl)
  have o6 : (x.op == 6) = true := (by rw [ho]; rfl)
  have o2 : (x.op == 2) = false := (by rw [ho]; rfl)
  have o3 : (x.op == 3) = false := (by rw [ho]; rfl)
  have o4 : (x.op == 4) = false := (by rw [ho]; rfl)
  have o5 : (x.op == 5) = false := (by rw [ho]; rfl)
  clear ho
  have hb3 : (((w.alloc (.cells #[.slice A p.ins.length c, .int .i64 p.start, .int .i64 p.caps] 32)).alloc (.cells #[.int .i64 x.op, .int .i64 x.out, .int .i64 x.arg, .slice B x.set.length d, .int .i64 x.at_] 39)).alloc (.cells #[.int .i64 0, .int .i64 x.out, .int .i64 x.arg, .slice B x.set.length d, .int .i64 x.at_] 39)).heap[w.heap.size]? = some (.cells #[.slice A p.ins.length c, .int .i64 p.start, .int .i64 p.caps] 32 (0, 0)) := (Below.heap_alloc _ _ _ (by simp; omega)).trans ((Below.heap_alloc _ _ _ (by simp)).trans (heap_new1 _ _))
  have hbx : (((w.alloc (.cells #[.slice A p.ins.length c, .int .i64 p.start, .int .i64 p.caps] 32)).alloc (.cells #[.int .i64 x.op, .int .i64 x.out, .int .i64 x.arg, .slice B x.set.length d, .int .i64 x.at_] 39)).alloc (.cells #[.int .i64 0, .int .i64 x.out, .int .i64 x.arg, .slice B x.set.length d, .int .i64 x.at_] 39)).heap[w.heap.size + 1]? = some (.cells #[.int .i64 x.op, .int .i64 x.out, .int .i64 x.arg, .slice B x.set.length d, .int .i64 x.at_] 39 (0, 0)) := (Below.heap_alloc _ _ _ (by simp)).trans (heap_new2 _ _ _)
  have hb2 : (((w.alloc (.cells #[.slice A p.ins.length c, .int .i64 p.start, .int .i64 p.caps] 32)).alloc (.cells #[.int .i64 x.op, .int .i64 x.out, .int .i64 x.arg, .slice B x.set.length d, .int .i64 x.at_] 39)).alloc (.cells #[.int .i64 0, .int .i64 x.out, .int .i64 x.arg, .slice B x.set.length d, .int .i64 x.at_] 39)).heap[w.heap.size + 1 + 1]? = some (.cells #[.int .i64 0, .int .i64 x.out, .int .i64 x.arg, .slice B x.set.length d, .int .i64 x.at_] 39 (0, 0)) := heap_new3 _ _ _ _
  have hb4 : ∀ o, ((((w.alloc (.cells #[.slice A p.ins.length c, .int .i64 p.start, .int .i64 p.caps] 32)).alloc (.cells #[.int .i64 x.op, .int .i64 x.out, .int .i64 x.arg, .slice B x.set.length d, .int .i64 x.at_] 39)).alloc (.cells #[.int .i64 0, .int .i64 x.out, .int .i64 x.arg, .slice B x.set.length d, .int .i64 x.at_] 39)).alloc o).heap[w.heap.size]? = some (.cells #[.slice A p.ins.length c, .int .i64 p.start, .int .i64 p.caps] 32 (0, 0)) := fun o => (Below.heap_alloc _ _ _ (by simp; omega)).trans hb3
  have yb : Below w.heap.size w (((w.alloc (.cells #[.slice A p.ins.length c, .int .i64 p.start, .int .i64 p.caps] 32)).alloc (.cells #[.int .i64 x.op, .int .i64 x.out, .int .i64 x.arg, .slice B x.set.length d, .int .i64 x.at_] 39)).alloc (.cells #[.int .i64 0, .int .i64 x.out, .int .i64 x.arg, .slice B x.set.length d, .int .i64 x.at_] 39)) := below_al (below_al (below_al (Below.refl _ _) _) _) _
  have HH := Lib.hid (And.intro hb3 (And.intro hbx hb2))
  cases c1 : (x.out == 0) with
  | false =>
    go_enter Try.func32, Try.ntmps32
    go_wp2_with (first
          | (go_at_call 58; refine (here_any _ w.heap.size A p.ins.length c p.start p.caps _ (by first | exact hb3 | exact hb4 _) hpl).mono ?_; rintro e w' ⟨rfl, rfl⟩)
          | (go_at_call 55; refine (containsAtB _ _ _ _ (by first | exact heap_new4 _ _ _ _ _ | exact heap_new1 _ _)).mono ?_; rintro e w' ⟨rfl, rfl⟩)
          | (go_at_call 54; refine (hRr _ yb).mono ?_; clear hRr; rintro e w4 ⟨rfl, hb4⟩; have z := (hb4.block _ (heap_lt hb2)).trans hb2; obtain ⟨z0, z1, z2, z3, z4⟩ := cells5 z; have zx := (hb4.block _ (heap_lt hbx)).trans hbx; obtain ⟨v0, v1, v2, v3, v4⟩ := cells5 zx; have fz := frozenOf z; have ny := heap_lt z; have YB := Lib.hid (below_and hb4 yb); clear z zx hb4))
    go_ret
    exact ⟨ret_bool (by unfold rightI; simp [HO.out, c1]), by first | exact (((YB.out.setCell (by simp) _).setCell (by simp) _)) | exact YB.out | (repeat (first | exact Below.refl _ _ | apply below_al))⟩
  | true =>
    cases c2 : (x.arg == 0) with
    | false =>
      go_enter Try.func32, Try.ntmps32
      go_wp2_with (first
            | (go_at_call 58; refine (here_any _ w.heap.size A p.ins.length c p.start p.caps _ (by first | exact hb3 | exact hb4 _) hpl).mono ?_; rintro e w' ⟨rfl, rfl⟩)
            | (go_at_call 55; refine (containsAtB _ _ _ _ (by first | exact heap_new4 _ _ _ _ _ | exact heap_new1 _ _)).mono ?_; rintro e w' ⟨rfl, rfl⟩)
            | (go_at_call 54; refine (hRr _ yb).mono ?_; clear hRr; rintro e w4 ⟨rfl, hb4⟩; have z := (hb4.block _ (heap_lt hb2)).trans hb2; obtain ⟨z0, z1, z2, z3, z4⟩ := cells5 z; have zx := (hb4.block _ (heap_lt hbx)).trans hbx; obtain ⟨v0, v1, v2, v3, v4⟩ := cells5 zx; have fz := frozenOf z; have ny := heap_lt z; have YB := Lib.hid (below_and hb4 yb); clear z zx hb4))
      go_ret
      exact ⟨ret_bool (by unfold rightI; simp [HO.out, c1, c2]), by first | exact (((YB.out.setCell (by simp) _).setCell (by simp) _)) | exact YB.out | (repeat (first | exact Below.refl _ _ | apply below_al))⟩
    | true =>
      cases c3 : (x.at_ == 0) with
      | false =>
        go_enter Try.func32, Try.ntmps32
        go_wp2_with (first
              | (go_at_call 58; refine (here_any _ w.heap.size A p.ins.length c p.start p.caps _ (by first | exact hb3 | exact hb4 _) hpl).mono ?_; rintro e w' ⟨rfl, rfl⟩)
              | (go_at_call 55; refine (containsAtB _ _ _ _ (by first | exact heap_new4 _ _ _ _ _ | exact heap_new1 _ _)).mono ?_; rintro e w' ⟨rfl, rfl⟩)
              | (go_at_call 54; refine (hRr _ yb).mono ?_; clear hRr; rintro e w4 ⟨rfl, hb4⟩; have z := (hb4.block _ (heap_lt hb2)).trans hb2; obtain ⟨z0, z1, z2, z3, z4⟩ := cells5 z; have zx := (hb4.block _ (heap_lt hbx)).trans hbx; obtain ⟨v0, v1, v2, v3, v4⟩ := cells5 zx; have fz := frozenOf z; have ny := heap_lt z; have YB := Lib.hid (below_and hb4 yb); clear z zx hb4))
        go_ret
        exact ⟨ret_bool (by unfold rightI; simp [HO.out, c1, c2, c3]), by first | exact (((YB.out.setCell (by simp) _).setCell (by simp) _)) | exact YB.out | (repeat (first | exact Below.refl _ _ | apply below_al))⟩
      | true =>
        cases c4 : ((x.set.length : Int) == 0) with
        | false =>
          go_enter Try.func32, Try.ntmps32
          go_wp2_with (first
                | (go_at_call 58; refine (here_any _ w.heap.size A p.ins.length c p.start p.caps _ (by first | exact hb3 | exact hb4 _) hpl).mono ?_; rintro e w' ⟨rfl, rfl⟩)
                | (go_at_call 55; refine (containsAtB _ _ _ _ (by first | exact heap_new4 _ _ _ _ _ | exact heap_new1 _ _)).mono ?_; rintro e w' ⟨rfl, rfl⟩)
                | (go_at_call 54; refine (hRr _ yb).mono ?_; clear hRr; rintro e w4 ⟨rfl, hb4⟩; have z := (hb4.block _ (heap_lt hb2)).trans hb2; obtain ⟨z0, z1, z2, z3, z4⟩ := cells5 z; have zx := (hb4.block _ (heap_lt hbx)).trans hbx; obtain ⟨v0, v1, v2, v3, v4⟩ := cells5 zx; have fz := frozenOf z; have ny := heap_lt z; have YB := Lib.hid (below_and hb4 yb); clear z zx hb4))
          go_ret
          exact ⟨ret_bool (by unfold rightI; simp [HO.out, c1, c2, c3, c4]), by first | exact (((YB.out.setCell (by simp) _).setCell (by simp) _)) | exact YB.out | (repeat (first | exact Below.refl _ _ | apply below_al))⟩
        | true =>
          go_enter Try.func32, Try.ntmps32
          go_wp2_with (first
                | (go_at_call 58; refine (here_any _ w.heap.size A p.ins.length c p.start p.caps _ (by first | exact hb3 | exact hb4 _) hpl).mono ?_; rintro e w' ⟨rfl, rfl⟩)
                | (go_at_call 55; refine (containsAtB _ _ _ _ (by first | exact heap_new4 _ _ _ _ _ | exact heap_new1 _ _)).mono ?_; rintro e w' ⟨rfl, rfl⟩)
                | (go_at_call 54; refine (hRr _ yb).mono ?_; clear hRr; rintro e w4 ⟨rfl, hb4⟩; have z := (hb4.block _ (heap_lt hb2)).trans hb2; obtain ⟨z0, z1, z2, z3, z4⟩ := cells5 z; have zx := (hb4.block _ (heap_lt hbx)).trans hbx; obtain ⟨v0, v1, v2, v3, v4⟩ := cells5 zx; have fz := frozenOf z; have ny := heap_lt z; have YB := Lib.hid (below_and hb4 yb); clear z zx hb4))
          go_ret
          exact ⟨ret_bool (by unfold rightI; simp [HO.out, c1, c2, c3, c4]), by first | exact (((YB.out.setCell (by simp) _).setCell (by simp) _)) | exact YB.out | (repeat (first | exact Below.refl _ _ | apply below_al))⟩
set_option maxRecDepth 100000 in
set_option maxHeartbeats 8000000 in
theorem right_pg2 (R : List Rg → Bool) (ok : Nat → Prop) (w : World) (p : Pg) (x : In) (ps xs : List Value) (hp : PgC ok w p ps) (hx : InO ok w x xs) (hR : x.op = 2 → RightOK R x.set) (hpl : p.ins.length ≤ 140737488351232) (ho : x.op = 2) :
    Calls Try.prog 32 #[.agg ps.toArray, .agg xs.toArray] w fun e w' => e = .returned (.bool (rightI R p.ins.length p.caps x)) ∧ Below w.heap.size w w' := by
  obtain ⟨A, c, rfl, p1, p2, _⟩ := hp
  obtain ⟨B, d, rfl, x1, x2, x3⟩ := hx
  have hRr := fun (W : World) (hW : Below w.heap.size w W) => hR ho ok W B d (x3.move (fun b hb hlt => ⟨hW.block b hlt, hb⟩) (by omega)) x1 x2
  clear hR x3
  have HO := Lib.hid ho
  have o1 : (x.op == 1) = false := (by rw [ho]; rfl)
  have o6 : (x.op == 6) = false := (by rw [ho]; rfl)
  have o2 : (x.op == 2) = true := (by rw [ho]; rfl)
  have o3 : (x.op == 3) = false := (by rw [ho]; rfl)
  have o4 : (x.op == 4) = false := (by rw [ho]; rfl)
  have o5 : (x.op == 5) = false := (by rw [ho]; rfl)
  clear ho
  have hb3 : (((w.alloc (.cells #[.slice A p.ins.length c, .int .i64 p.start, .int .i64 p.caps] 32)).alloc (.cells #[.int .i64 x.op, .int .i64 x.out, .int .i64 x.arg, .slice B x.set.length d, .int .i64 x.at_] 39)).alloc (.cells #[.int .i64 0, .int .i64 x.out, .int .i64 x.arg, .slice B x.set.length d, .int .i64 x.at_] 39)).heap[w.heap.size]? = some (.cells #[.slice A p.ins.length c, .int .i64 p.start, .int .i64 p.caps] 32 (0, 0)) := (Below.heap_alloc _ _ _ (by simp; omega)).trans ((Below.heap_alloc _ _ _ (by simp)).trans (heap_new1 _ _))
  have hbx : (((w.alloc (.cells #[.slice A p.ins.length c, .int .i64 p.start, .int .i64 p.caps] 32)).alloc (.cells #[.int .i64 x.op, .int .i64 x.out, .int .i64 x.arg, .slice B x.set.length d, .int .i64 x.at_] 39)).alloc (.cells #[.int .i64 0, .int .i64 x.out, .int .i64 x.arg, .slice B x.set.length d, .int .i64 x.at_] 39)).heap[w.heap.size + 1]? = some (.cells #[.int .i64 x.op, .int .i64 x.out, .int .i64 x.arg, .slice B x.set.length d, .int .i64 x.at_] 39 (0, 0)) := (Below.heap_alloc _ _ _ (by simp)).trans (heap_new2 _ _ _)
  have hb2 : (((w.alloc (.cells #[.slice A p.ins.length c, .int .i64 p.start, .int .i64 p.caps] 32)).alloc (.cells #[.int .i64 x.op, .int .i64 x.out, .int .i64 x.arg, .slice B x.set.length d, .int .i64 x.at_] 39)).alloc (.cells #[.int .i64 0, .int .i64 x.out, .int .i64 x.arg, .slice B x.set.length d, .int .i64 x.at_] 39)).heap[w.heap.size + 1 + 1]? = some (.cells #[.int .i64 0, .int .i64 x.out, .int .i64 x.arg, .slice B x.set.length d, .int .i64 x.at_] 39 (0, 0)) := heap_new3 _ _ _ _
  have hb4 : ∀ o, ((((w.alloc (.cells #[.slice A p.ins.length c, .int .i64 p.start, .int .i64 p.caps] 32)).alloc (.cells #[.int .i64 x.op, .int .i64 x.out, .int .i64 x.arg, .slice B x.set.length d, .int .i64 x.at_] 39)).alloc (.cells #[.int .i64 0, .int .i64 x.out, .int .i64 x.arg, .slice B x.set.length d, .int .i64 x.at_] 39)).alloc o).heap[w.heap.size]? = some (.cells #[.slice A p.ins.length c, .int .i64 p.start, .int .i64 p.caps] 32 (0, 0)) := fun o => (Below.heap_alloc _ _ _ (by simp; omega)).trans hb3
  have yb : Below w.heap.size w (((w.alloc (.cells #[.slice A p.ins.length c, .int .i64 p.start, .int .i64 p.caps] 32)).alloc (.cells #[.int .i64 x.op, .int .i64 x.out, .int .i64 x.arg, .slice B x.set.length d, .int .i64 x.at_] 39)).alloc (.cells #[.int .i64 0, .int .i64 x.out, .int .i64 x.arg, .slice B x.set.length d, .int .i64 x.at_] 39)) := below_al (below_al (below_al (Below.refl _ _) _) _) _
  have HH := Lib.hid (And.intro hb3 (And.intro hbx hb2))
  cases c1 : hereB p.ins.length x.out with
  | false =>
    go_enter Try.func32, Try.ntmps32
    go_wp2_with (first
          | (go_at_call 58; refine (here_any _ w.heap.size A p.ins.length c p.start p.caps _ (by first | exact hb3 | exact hb4 _) hpl).mono ?_; rintro e w' ⟨rfl, rfl⟩)
          | (go_at_call 55; refine (containsAtB _ _ _ _ (by first | exact heap_new4 _ _ _ _ _ | exact heap_new1 _ _)).mono ?_; rintro e w' ⟨rfl, rfl⟩)
          | (go_at_call 54; refine (hRr _ yb).mono ?_; clear hRr; rintro e w4 ⟨rfl, hb4⟩; have z := (hb4.block _ (heap_lt hb2)).trans hb2; obtain ⟨z0, z1, z2, z3, z4⟩ := cells5 z; have zx := (hb4.block _ (heap_lt hbx)).trans hbx; obtain ⟨v0, v1, v2, v3, v4⟩ := cells5 zx; have fz := frozenOf z; have ny := heap_lt z; have YB := Lib.hid (below_and hb4 yb); clear z zx hb4))
    go_ret
    exact ⟨ret_bool (by unfold rightI; simp [HO.out, c1]), by first | exact (((YB.out.setCell (by simp) _).setCell (by simp) _)) | exact YB.out | (repeat (first | exact Below.refl _ _ | apply below_al))⟩
  | true =>
    cases c2 : ((x.set.length : Int) == 0) with
    | true =>
      go_enter Try.func32, Try.ntmps32
      go_wp2_with (first
            | (go_at_call 58; refine (here_any _ w.heap.size A p.ins.length c p.start p.caps _ (by first | exact hb3 | exact hb4 _) hpl).mono ?_; rintro e w' ⟨rfl, rfl⟩)
            | (go_at_call 55; refine (containsAtB _ _ _ _ (by first | exact heap_new4 _ _ _ _ _ | exact heap_new1 _ _)).mono ?_; rintro e w' ⟨rfl, rfl⟩)
            | (go_at_call 54; refine (hRr _ yb).mono ?_; clear hRr; rintro e w4 ⟨rfl, hb4⟩; have z := (hb4.block _ (heap_lt hb2)).trans hb2; obtain ⟨z0, z1, z2, z3, z4⟩ := cells5 z; have zx := (hb4.block _ (heap_lt hbx)).trans hbx; obtain ⟨v0, v1, v2, v3, v4⟩ := cells5 zx; have fz := frozenOf z; have ny := heap_lt z; have YB := Lib.hid (below_and hb4 yb); clear z zx hb4))
      go_ret
      exact ⟨ret_bool (by unfold rightI; simp [HO.out, c1, c2]), by first | exact (((YB.out.setCell (by simp) _).setCell (by simp) _)) | exact YB.out | (repeat (first | exact Below.refl _ _ | apply below_al))⟩
    | false =>
      cases c3 : R x.set with
      | false =>
        go_enter Try.func32, Try.ntmps32
        go_wp2_with (first | (go_at_call 58; refine (here_any _ w.heap.size A p.ins.length c p.start p.caps _ (by first | exact hb3 | exact hb4 _) hpl).mono ?_; rintro e w' ⟨rfl, rfl⟩))
        refine (hRr _ yb).mono ?_
        clear hRr
        rintro e w4 ⟨rfl, hb5⟩
        dsimp only
        have z := (hb5.block _ (heap_lt hb2)).trans hb2
        obtain ⟨z0, z1, z2, z3, z4⟩ := cells5 z
        have zx := (hb5.block _ (heap_lt hbx)).trans hbx
        obtain ⟨v0, v1, v2, v3, v4⟩ := cells5 zx
        have fz := frozenOf z
        have ny := heap_lt z
        have YB := Lib.hid (below_and hb5 yb)
        clear z zx hb5 hb3 hbx hb2 hb4 yb
        go_wp2_with fail
        go_ret
        exact ⟨ret_bool (by unfold rightI; simp [HO.out, c1, c2, c3]), by first | exact YB.out | exact (((YB.out.setCell (by simp; omega) _).setCell (by simp; omega) _))⟩
      | true =>
        cases c4 : (x.arg == 0) with
        | false =>
          go_enter Try.func32, Try.ntmps32
          go_wp2_with (first | (go_at_call 58; refine (here_any _ w.heap.size A p.ins.length c p.start p.caps _ (by first | exact hb3 | exact hb4 _) hpl).mono ?_; rintro e w' ⟨rfl, rfl⟩))
          refine (hRr _ yb).mono ?_
          clear hRr
          rintro e w4 ⟨rfl, hb5⟩
          dsimp only
          have z := (hb5.block _ (heap_lt hb2)).trans hb2
          obtain ⟨z0, z1, z2, z3, z4⟩ := cells5 z
          have zx := (hb5.block _ (heap_lt hbx)).trans hbx
          obtain ⟨v0, v1, v2, v3, v4⟩ := cells5 zx
          have fz := frozenOf z
          have ny := heap_lt z
          have YB := Lib.hid (below_and hb5 yb)
          clear z zx hb5 hb3 hbx hb2 hb4 yb
          go_wp2_with fail
          go_ret
          exact ⟨ret_bool (by unfold rightI; simp [HO.out, c1, c2, c3, c4]), by first | exact YB.out | exact (((YB.out.setCell (by simp; omega) _).setCell (by simp; omega) _))⟩
        | true =>
          cases c5 : (x.at_ == 0) with
          | false =>
            go_enter Try.func32, Try.ntmps32
            go_wp2_with (first | (go_at_call 58; refine (here_any _ w.heap.size A p.ins.length c p.start p.caps _ (by first | exact hb3 | exact hb4 _) hpl).mono ?_; rintro e w' ⟨rfl, rfl⟩))
            refine (hRr _ yb).mono ?_
            clear hRr
            rintro e w4 ⟨rfl, hb5⟩
            dsimp only
            have z := (hb5.block _ (heap_lt hb2)).trans hb2
            obtain ⟨z0, z1, z2, z3, z4⟩ := cells5 z
            have zx := (hb5.block _ (heap_lt hbx)).trans hbx
            obtain ⟨v0, v1, v2, v3, v4⟩ := cells5 zx
            have fz := frozenOf z
            have ny := heap_lt z
            have YB := Lib.hid (below_and hb5 yb)
            clear z zx hb5 hb3 hbx hb2 hb4 yb
            go_wp2_with fail
            go_ret
            exact ⟨ret_bool (by unfold rightI; simp [HO.out, c1, c2, c3, c4, c5]), by first | exact YB.out | exact (((YB.out.setCell (by simp; omega) _).setCell (by simp; omega) _))⟩
          | true =>
            go_enter Try.func32, Try.ntmps32
            go_wp2_with (first | (go_at_call 58; refine (here_any _ w.heap.size A p.ins.length c p.start p.caps _ (by first | exact hb3 | exact hb4 _) hpl).mono ?_; rintro e w' ⟨rfl, rfl⟩))
            refine (hRr _ yb).mono ?_
            clear hRr
            rintro e w4 ⟨rfl, hb5⟩
            dsimp only
            have z := (hb5.block _ (heap_lt hb2)).trans hb2
            obtain ⟨z0, z1, z2, z3, z4⟩ := cells5 z
            have zx := (hb5.block _ (heap_lt hbx)).trans hbx
            obtain ⟨v0, v1, v2, v3, v4⟩ := cells5 zx
            have fz := frozenOf z
            have ny := heap_lt z
            have YB := Lib.hid (below_and hb5 yb)
            clear z zx hb5 hb3 hbx hb2 hb4 yb
            go_wp2_with fail
            go_ret
            exact ⟨ret_bool (by unfold rightI; simp [HO.out, c1, c2, c3, c4, c5]), by first | exact YB.out | exact (((YB.out.setCell (by simp; omega) _).setCell (by simp; omega) _))⟩
set_option maxRecDepth 100000 in
set_option maxHeartbeats 8000000 in
theorem right_pg3 (R : List Rg → Bool) (ok : Nat → Prop) (w : World) (p : Pg) (x : In) (ps xs : List Value) (hp : PgC ok w p ps) (hx : InO ok w x xs) (hR : x.op = 2 → RightOK R x.set) (hpl : p.ins.length ≤ 140737488351232) (ho : x.op = 3) :
    Calls Try.prog 32 #[.agg ps.toArray, .agg xs.toArray] w fun e w' => e = .returned (.bool (rightI R p.ins.length p.caps x)) ∧ Below w.heap.size w w' := by
  obtain ⟨A, c, rfl, p1, p2, _⟩ := hp
  obtain ⟨B, d, rfl, x1, x2, x3⟩ := hx
  have hRr : True := trivial
  clear hR x3
  have HO := Lib.hid ho
  have o1 : (x.op == 1) = false := (by rw [ho]; rfl)
  have o6 : (x.op == 6) = false := (by rw [ho]; rfl)
  have o2 : (x.op == 2) = false := (by rw [ho]; rfl)
  have o3 : (x.op == 3) = true := (by rw [ho]; rfl)
  have o4 : (x.op == 4) = false := (by rw [ho]; rfl)
  have o5 : (x.op == 5) = false := (by rw [ho]; rfl)
  clear ho
  have hb3 : (((w.alloc (.cells #[.slice A p.ins.length c, .int .i64 p.start, .int .i64 p.caps] 32)).alloc (.cells #[.int .i64 x.op, .int .i64 x.out, .int .i64 x.arg, .slice B x.set.length d, .int .i64 x.at_] 39)).alloc (.cells #[.int .i64 0, .int .i64 x.out, .int .i64 x.arg, .slice B x.set.length d, .int .i64 x.at_] 39)).heap[w.heap.size]? = some (.cells #[.slice A p.ins.length c, .int .i64 p.start, .int .i64 p.caps] 32 (0, 0)) := (Below.heap_alloc _ _ _ (by simp; omega)).trans ((Below.heap_alloc _ _ _ (by simp)).trans (heap_new1 _ _))
  have hbx : (((w.alloc (.cells #[.slice A p.ins.length c, .int .i64 p.start, .int .i64 p.caps] 32)).alloc (.cells #[.int .i64 x.op, .int .i64 x.out, .int .i64 x.arg, .slice B x.set.length d, .int .i64 x.at_] 39)).alloc (.cells #[.int .i64 0, .int .i64 x.out, .int .i64 x.arg, .slice B x.set.length d, .int .i64 x.at_] 39)).heap[w.heap.size + 1]? = some (.cells #[.int .i64 x.op, .int .i64 x.out, .int .i64 x.arg, .slice B x.set.length d, .int .i64 x.at_] 39 (0, 0)) := (Below.heap_alloc _ _ _ (by simp)).trans (heap_new2 _ _ _)
  have hb2 : (((w.alloc (.cells #[.slice A p.ins.length c, .int .i64 p.start, .int .i64 p.caps] 32)).alloc (.cells #[.int .i64 x.op, .int .i64 x.out, .int .i64 x.arg, .slice B x.set.length d, .int .i64 x.at_] 39)).alloc (.cells #[.int .i64 0, .int .i64 x.out, .int .i64 x.arg, .slice B x.set.length d, .int .i64 x.at_] 39)).heap[w.heap.size + 1 + 1]? = some (.cells #[.int .i64 0, .int .i64 x.out, .int .i64 x.arg, .slice B x.set.length d, .int .i64 x.at_] 39 (0, 0)) := heap_new3 _ _ _ _
  have hb4 : ∀ o, ((((w.alloc (.cells #[.slice A p.ins.length c, .int .i64 p.start, .int .i64 p.caps] 32)).alloc (.cells #[.int .i64 x.op, .int .i64 x.out, .int .i64 x.arg, .slice B x.set.length d, .int .i64 x.at_] 39)).alloc (.cells #[.int .i64 0, .int .i64 x.out, .int .i64 x.arg, .slice B x.set.length d, .int .i64 x.at_] 39)).alloc o).heap[w.heap.size]? = some (.cells #[.slice A p.ins.length c, .int .i64 p.start, .int .i64 p.caps] 32 (0, 0)) := fun o => (Below.heap_alloc _ _ _ (by simp; omega)).trans hb3
  have yb : Below w.heap.size w (((w.alloc (.cells #[.slice A p.ins.length c, .int .i64 p.start, .int .i64 p.caps] 32)).alloc (.cells #[.int .i64 x.op, .int .i64 x.out, .int .i64 x.arg, .slice B x.set.length d, .int .i64 x.at_] 39)).alloc (.cells #[.int .i64 0, .int .i64 x.out, .int .i64 x.arg, .slice B x.set.length d, .int .i64 x.at_] 39)) := below_al (below_al (below_al (Below.refl _ _) _) _) _
  have HH := Lib.hid (And.intro hb3 (And.intro hbx hb2))
  cases c1 : hereB p.ins.length x.out with
  | false =>
    go_enter Try.func32, Try.ntmps32
    go_wp2_with (first
          | (go_at_call 58; refine (here_any _ w.heap.size A p.ins.length c p.start p.caps _ (by first | exact hb3 | exact hb4 _) hpl).mono ?_; rintro e w' ⟨rfl, rfl⟩)
          | (go_at_call 55; refine (containsAtB _ _ _ _ (by first | exact heap_new4 _ _ _ _ _ | exact heap_new1 _ _)).mono ?_; rintro e w' ⟨rfl, rfl⟩)
          | (go_at_call 54; refine (hRr _ yb).mono ?_; clear hRr; rintro e w4 ⟨rfl, hb4⟩; have z := (hb4.block _ (heap_lt hb2)).trans hb2; obtain ⟨z0, z1, z2, z3, z4⟩ := cells5 z; have zx := (hb4.block _ (heap_lt hbx)).trans hbx; obtain ⟨v0, v1, v2, v3, v4⟩ := cells5 zx; have fz := frozenOf z; have ny := heap_lt z; have YB := Lib.hid (below_and hb4 yb); clear z zx hb4))
    go_ret
    exact ⟨ret_bool (by unfold rightI; simp [HO.out, c1]), by first | exact (((YB.out.setCell (by simp) _).setCell (by simp) _)) | exact YB.out | (repeat (first | exact Below.refl _ _ | apply below_al))⟩
  | true =>
    cases c2 : hereB p.ins.length x.arg with
    | false =>
      go_enter Try.func32, Try.ntmps32
      go_wp2_with (first
            | (go_at_call 58; refine (here_any _ w.heap.size A p.ins.length c p.start p.caps _ (by first | exact hb3 | exact hb4 _) hpl).mono ?_; rintro e w' ⟨rfl, rfl⟩)
            | (go_at_call 55; refine (containsAtB _ _ _ _ (by first | exact heap_new4 _ _ _ _ _ | exact heap_new1 _ _)).mono ?_; rintro e w' ⟨rfl, rfl⟩)
            | (go_at_call 54; refine (hRr _ yb).mono ?_; clear hRr; rintro e w4 ⟨rfl, hb4⟩; have z := (hb4.block _ (heap_lt hb2)).trans hb2; obtain ⟨z0, z1, z2, z3, z4⟩ := cells5 z; have zx := (hb4.block _ (heap_lt hbx)).trans hbx; obtain ⟨v0, v1, v2, v3, v4⟩ := cells5 zx; have fz := frozenOf z; have ny := heap_lt z; have YB := Lib.hid (below_and hb4 yb); clear z zx hb4))
      go_ret
      exact ⟨ret_bool (by unfold rightI; simp [HO.out, c1, c2]), by first | exact (((YB.out.setCell (by simp) _).setCell (by simp) _)) | exact YB.out | (repeat (first | exact Below.refl _ _ | apply below_al))⟩
    | true =>
      cases c3 : (x.at_ == 0) with
      | false =>
        go_enter Try.func32, Try.ntmps32
        go_wp2_with (first
              | (go_at_call 58; refine (here_any _ w.heap.size A p.ins.length c p.start p.caps _ (by first | exact hb3 | exact hb4 _) hpl).mono ?_; rintro e w' ⟨rfl, rfl⟩)
              | (go_at_call 55; refine (containsAtB _ _ _ _ (by first | exact heap_new4 _ _ _ _ _ | exact heap_new1 _ _)).mono ?_; rintro e w' ⟨rfl, rfl⟩)
              | (go_at_call 54; refine (hRr _ yb).mono ?_; clear hRr; rintro e w4 ⟨rfl, hb4⟩; have z := (hb4.block _ (heap_lt hb2)).trans hb2; obtain ⟨z0, z1, z2, z3, z4⟩ := cells5 z; have zx := (hb4.block _ (heap_lt hbx)).trans hbx; obtain ⟨v0, v1, v2, v3, v4⟩ := cells5 zx; have fz := frozenOf z; have ny := heap_lt z; have YB := Lib.hid (below_and hb4 yb); clear z zx hb4))
        go_ret
        exact ⟨ret_bool (by unfold rightI; simp [HO.out, c1, c2, c3]), by first | exact (((YB.out.setCell (by simp) _).setCell (by simp) _)) | exact YB.out | (repeat (first | exact Below.refl _ _ | apply below_al))⟩
      | true =>
        cases c4 : ((x.set.length : Int) == 0) with
        | false =>
          go_enter Try.func32, Try.ntmps32
          go_wp2_with (first
                | (go_at_call 58; refine (here_any _ w.heap.size A p.ins.length c p.start p.caps _ (by first | exact hb3 | exact hb4 _) hpl).mono ?_; rintro e w' ⟨rfl, rfl⟩)
                | (go_at_call 55; refine (containsAtB _ _ _ _ (by first | exact heap_new4 _ _ _ _ _ | exact heap_new1 _ _)).mono ?_; rintro e w' ⟨rfl, rfl⟩)
                | (go_at_call 54; refine (hRr _ yb).mono ?_; clear hRr; rintro e w4 ⟨rfl, hb4⟩; have z := (hb4.block _ (heap_lt hb2)).trans hb2; obtain ⟨z0, z1, z2, z3, z4⟩ := cells5 z; have zx := (hb4.block _ (heap_lt hbx)).trans hbx; obtain ⟨v0, v1, v2, v3, v4⟩ := cells5 zx; have fz := frozenOf z; have ny := heap_lt z; have YB := Lib.hid (below_and hb4 yb); clear z zx hb4))
          go_ret
          exact ⟨ret_bool (by unfold rightI; simp [HO.out, c1, c2, c3, c4]), by first | exact (((YB.out.setCell (by simp) _).setCell (by simp) _)) | exact YB.out | (repeat (first | exact Below.refl _ _ | apply below_al))⟩
        | true =>
          go_enter Try.func32, Try.ntmps32
          go_wp2_with (first
                | (go_at_call 58; refine (here_any _ w.heap.size A p.ins.length c p.start p.caps _ (by first | exact hb3 | exact hb4 _) hpl).mono ?_; rintro e w' ⟨rfl, rfl⟩)
                | (go_at_call 55; refine (containsAtB _ _ _ _ (by first | exact heap_new4 _ _ _ _ _ | exact heap_new1 _ _)).mono ?_; rintro e w' ⟨rfl, rfl⟩)
                | (go_at_call 54; refine (hRr _ yb).mono ?_; clear hRr; rintro e w4 ⟨rfl, hb4⟩; have z := (hb4.block _ (heap_lt hb2)).trans hb2; obtain ⟨z0, z1, z2, z3, z4⟩ := cells5 z; have zx := (hb4.block _ (heap_lt hbx)).trans hbx; obtain ⟨v0, v1, v2, v3, v4⟩ := cells5 zx; have fz := frozenOf z; have ny := heap_lt z; have YB := Lib.hid (below_and hb4 yb); clear z zx hb4))
          go_ret
          exact ⟨ret_bool (by unfold rightI; simp [HO.out, c1, c2, c3, c4]), by first | exact (((YB.out.setCell (by simp) _).setCell (by simp) _)) | exact YB.out | (repeat (first | exact Below.refl _ _ | apply below_al))⟩
set_option maxRecDepth 100000 in
set_option maxHeartbeats 8000000 in
theorem right_pg4 (R : List Rg → Bool) (ok : Nat → Prop) (w : World) (p : Pg) (x : In) (ps xs : List Value) (hp : PgC ok w p ps) (hx : InO ok w x xs) (hR : x.op = 2 → RightOK R x.set) (hpl : p.ins.length ≤ 140737488351232) (ho : x.op = 4) :
    Calls Try.prog 32 #[.agg ps.toArray, .agg xs.toArray] w fun e w' => e = .returned (.bool (rightI R p.ins.length p.caps x)) ∧ Below w.heap.size w w' := by
  obtain ⟨A, c, rfl, p1, p2, _⟩ := hp
  obtain ⟨B, d, rfl, x1, x2, x3⟩ := hx
  have hRr : True := trivial
  clear hR x3
  have HO := Lib.hid ho
  have o1 : (x.op == 1) = false := (by rw [ho]; rfl)
  have o6 : (x.op == 6) = false := (by rw [ho]; rfl)
  have o2 : (x.op == 2) = false := (by rw [ho]; rfl)
  have o3 : (x.op == 3) = false := (by rw [ho]; rfl)
  have o4 : (x.op == 4) = true := (by rw [ho]; rfl)
  have o5 : (x.op == 5) = false := (by rw [ho]; rfl)
  clear ho
  have hb3 : (((w.alloc (.cells #[.slice A p.ins.length c, .int .i64 p.start, .int .i64 p.caps] 32)).alloc (.cells #[.int .i64 x.op, .int .i64 x.out, .int .i64 x.arg, .slice B x.set.length d, .int .i64 x.at_] 39)).alloc (.cells #[.int .i64 0, .int .i64 x.out, .int .i64 x.arg, .slice B x.set.length d, .int .i64 x.at_] 39)).heap[w.heap.size]? = some (.cells #[.slice A p.ins.length c, .int .i64 p.start, .int .i64 p.caps] 32 (0, 0)) := (Below.heap_alloc _ _ _ (by simp; omega)).trans ((Below.heap_alloc _ _ _ (by simp)).trans (heap_new1 _ _))
  have hbx : (((w.alloc (.cells #[.slice A p.ins.length c, .int .i64 p.start, .int .i64 p.caps] 32)).alloc (.cells #[.int .i64 x.op, .int .i64 x.out, .int .i64 x.arg, .slice B x.set.length d, .int .i64 x.at_] 39)).alloc (.cells #[.int .i64 0, .int .i64 x.out, .int .i64 x.arg, .slice B x.set.length d, .int .i64 x.at_] 39)).heap[w.heap.size + 1]? = some (.cells #[.int .i64 x.op, .int .i64 x.out, .int .i64 x.arg, .slice B x.set.length d, .int .i64 x.at_] 39 (0, 0)) := (Below.heap_alloc _ _ _ (by simp)).trans (heap_new2 _ _ _)
  have hb2 : (((w.alloc (.cells #[.slice A p.ins.length c, .int .i64 p.start, .int .i64 p.caps] 32)).alloc (.cells #[.int .i64 x.op, .int .i64 x.out, .int .i64 x.arg, .slice B x.set.length d, .int .i64 x.at_] 39)).alloc (.cells #[.int .i64 0, .int .i64 x.out, .int .i64 x.arg, .slice B x.set.length d, .int .i64 x.at_] 39)).heap[w.heap.size + 1 + 1]? = some (.cells #[.int .i64 0, .int .i64 x.out, .int .i64 x.arg, .slice B x.set.length d, .int .i64 x.at_] 39 (0, 0)) := heap_new3 _ _ _ _
  have hb4 : ∀ o, ((((w.alloc (.cells #[.slice A p.ins.length c, .int .i64 p.start, .int .i64 p.caps] 32)).alloc (.cells #[.int .i64 x.op, .int .i64 x.out, .int .i64 x.arg, .slice B x.set.length d, .int .i64 x.at_] 39)).alloc (.cells #[.int .i64 0, .int .i64 x.out, .int .i64 x.arg, .slice B x.set.length d, .int .i64 x.at_] 39)).alloc o).heap[w.heap.size]? = some (.cells #[.slice A p.ins.length c, .int .i64 p.start, .int .i64 p.caps] 32 (0, 0)) := fun o => (Below.heap_alloc _ _ _ (by simp; omega)).trans hb3
  have yb : Below w.heap.size w (((w.alloc (.cells #[.slice A p.ins.length c, .int .i64 p.start, .int .i64 p.caps] 32)).alloc (.cells #[.int .i64 x.op, .int .i64 x.out, .int .i64 x.arg, .slice B x.set.length d, .int .i64 x.at_] 39)).alloc (.cells #[.int .i64 0, .int .i64 x.out, .int .i64 x.arg, .slice B x.set.length d, .int .i64 x.at_] 39)) := below_al (below_al (below_al (Below.refl _ _) _) _) _
  have HH := Lib.hid (And.intro hb3 (And.intro hbx hb2))
  cases c1 : hereB p.ins.length x.out with
  | false =>
    go_enter Try.func32, Try.ntmps32
    go_wp2_with (first
          | (go_at_call 58; refine (here_any _ w.heap.size A p.ins.length c p.start p.caps _ (by first | exact hb3 | exact hb4 _) hpl).mono ?_; rintro e w' ⟨rfl, rfl⟩)
          | (go_at_call 55; refine (containsAtB _ _ _ _ (by first | exact heap_new4 _ _ _ _ _ | exact heap_new1 _ _)).mono ?_; rintro e w' ⟨rfl, rfl⟩)
          | (go_at_call 54; refine (hRr _ yb).mono ?_; clear hRr; rintro e w4 ⟨rfl, hb4⟩; have z := (hb4.block _ (heap_lt hb2)).trans hb2; obtain ⟨z0, z1, z2, z3, z4⟩ := cells5 z; have zx := (hb4.block _ (heap_lt hbx)).trans hbx; obtain ⟨v0, v1, v2, v3, v4⟩ := cells5 zx; have fz := frozenOf z; have ny := heap_lt z; have YB := Lib.hid (below_and hb4 yb); clear z zx hb4))
    go_ret
    exact ⟨ret_bool (by unfold rightI; simp [HO.out, c1]), by first | exact (((YB.out.setCell (by simp) _).setCell (by simp) _)) | exact YB.out | (repeat (first | exact Below.refl _ _ | apply below_al))⟩
  | true =>
    cases c2 : decide (x.arg < 2) with
    | true =>
      go_enter Try.func32, Try.ntmps32
      go_wp2_with (first
            | (go_at_call 58; refine (here_any _ w.heap.size A p.ins.length c p.start p.caps _ (by first | exact hb3 | exact hb4 _) hpl).mono ?_; rintro e w' ⟨rfl, rfl⟩)
            | (go_at_call 55; refine (containsAtB _ _ _ _ (by first | exact heap_new4 _ _ _ _ _ | exact heap_new1 _ _)).mono ?_; rintro e w' ⟨rfl, rfl⟩)
            | (go_at_call 54; refine (hRr _ yb).mono ?_; clear hRr; rintro e w4 ⟨rfl, hb4⟩; have z := (hb4.block _ (heap_lt hb2)).trans hb2; obtain ⟨z0, z1, z2, z3, z4⟩ := cells5 z; have zx := (hb4.block _ (heap_lt hbx)).trans hbx; obtain ⟨v0, v1, v2, v3, v4⟩ := cells5 zx; have fz := frozenOf z; have ny := heap_lt z; have YB := Lib.hid (below_and hb4 yb); clear z zx hb4))
      go_ret
      exact ⟨ret_bool (by unfold rightI; simp [HO.out, c1, c2]), by first | exact (((YB.out.setCell (by simp) _).setCell (by simp) _)) | exact YB.out | (repeat (first | exact Below.refl _ _ | apply below_al))⟩
    | false =>
      cases c3 : decide (p.caps ≤ x.arg) with
      | true =>
        go_enter Try.func32, Try.ntmps32
        go_wp2_with (first
              | (go_at_call 58; refine (here_any _ w.heap.size A p.ins.length c p.start p.caps _ (by first | exact hb3 | exact hb4 _) hpl).mono ?_; rintro e w' ⟨rfl, rfl⟩)
              | (go_at_call 55; refine (containsAtB _ _ _ _ (by first | exact heap_new4 _ _ _ _ _ | exact heap_new1 _ _)).mono ?_; rintro e w' ⟨rfl, rfl⟩)
              | (go_at_call 54; refine (hRr _ yb).mono ?_; clear hRr; rintro e w4 ⟨rfl, hb4⟩; have z := (hb4.block _ (heap_lt hb2)).trans hb2; obtain ⟨z0, z1, z2, z3, z4⟩ := cells5 z; have zx := (hb4.block _ (heap_lt hbx)).trans hbx; obtain ⟨v0, v1, v2, v3, v4⟩ := cells5 zx; have fz := frozenOf z; have ny := heap_lt z; have YB := Lib.hid (below_and hb4 yb); clear z zx hb4))
        go_ret
        exact ⟨ret_bool (by unfold rightI; simp [HO.out, c1, c2, c3]), by first | exact (((YB.out.setCell (by simp) _).setCell (by simp) _)) | exact YB.out | (repeat (first | exact Below.refl _ _ | apply below_al))⟩
      | false =>
        cases c4 : (x.at_ == 0) with
        | false =>
          go_enter Try.func32, Try.ntmps32
          go_wp2_with (first
                | (go_at_call 58; refine (here_any _ w.heap.size A p.ins.length c p.start p.caps _ (by first | exact hb3 | exact hb4 _) hpl).mono ?_; rintro e w' ⟨rfl, rfl⟩)
                | (go_at_call 55; refine (containsAtB _ _ _ _ (by first | exact heap_new4 _ _ _ _ _ | exact heap_new1 _ _)).mono ?_; rintro e w' ⟨rfl, rfl⟩)
                | (go_at_call 54; refine (hRr _ yb).mono ?_; clear hRr; rintro e w4 ⟨rfl, hb4⟩; have z := (hb4.block _ (heap_lt hb2)).trans hb2; obtain ⟨z0, z1, z2, z3, z4⟩ := cells5 z; have zx := (hb4.block _ (heap_lt hbx)).trans hbx; obtain ⟨v0, v1, v2, v3, v4⟩ := cells5 zx; have fz := frozenOf z; have ny := heap_lt z; have YB := Lib.hid (below_and hb4 yb); clear z zx hb4))
          go_ret
          exact ⟨ret_bool (by unfold rightI; simp [HO.out, c1, c2, c3, c4]), by first | exact (((YB.out.setCell (by simp) _).setCell (by simp) _)) | exact YB.out | (repeat (first | exact Below.refl _ _ | apply below_al))⟩
        | true =>
          cases c5 : ((x.set.length : Int) == 0) with
          | false =>
            go_enter Try.func32, Try.ntmps32
            go_wp2_with (first
                  | (go_at_call 58; refine (here_any _ w.heap.size A p.ins.length c p.start p.caps _ (by first | exact hb3 | exact hb4 _) hpl).mono ?_; rintro e w' ⟨rfl, rfl⟩)
                  | (go_at_call 55; refine (containsAtB _ _ _ _ (by first | exact heap_new4 _ _ _ _ _ | exact heap_new1 _ _)).mono ?_; rintro e w' ⟨rfl, rfl⟩)
                  | (go_at_call 54; refine (hRr _ yb).mono ?_; clear hRr; rintro e w4 ⟨rfl, hb4⟩; have z := (hb4.block _ (heap_lt hb2)).trans hb2; obtain ⟨z0, z1, z2, z3, z4⟩ := cells5 z; have zx := (hb4.block _ (heap_lt hbx)).trans hbx; obtain ⟨v0, v1, v2, v3, v4⟩ := cells5 zx; have fz := frozenOf z; have ny := heap_lt z; have YB := Lib.hid (below_and hb4 yb); clear z zx hb4))
            go_ret
            exact ⟨ret_bool (by unfold rightI; simp [HO.out, c1, c2, c3, c4, c5]), by first | exact (((YB.out.setCell (by simp) _).setCell (by simp) _)) | exact YB.out | (repeat (first | exact Below.refl _ _ | apply below_al))⟩
          | true =>
            go_enter Try.func32, Try.ntmps32
            go_wp2_with (first
                  | (go_at_call 58; refine (here_any _ w.heap.size A p.ins.length c p.start p.caps _ (by first | exact hb3 | exact hb4 _) hpl).mono ?_; rintro e w' ⟨rfl, rfl⟩)
                  | (go_at_call 55; refine (containsAtB _ _ _ _ (by first | exact heap_new4 _ _ _ _ _ | exact heap_new1 _ _)).mono ?_; rintro e w' ⟨rfl, rfl⟩)
                  | (go_at_call 54; refine (hRr _ yb).mono ?_; clear hRr; rintro e w4 ⟨rfl, hb4⟩; have z := (hb4.block _ (heap_lt hb2)).trans hb2; obtain ⟨z0, z1, z2, z3, z4⟩ := cells5 z; have zx := (hb4.block _ (heap_lt hbx)).trans hbx; obtain ⟨v0, v1, v2, v3, v4⟩ := cells5 zx; have fz := frozenOf z; have ny := heap_lt z; have YB := Lib.hid (below_and hb4 yb); clear z zx hb4))
            go_ret
            exact ⟨ret_bool (by unfold rightI; simp [HO.out, c1, c2, c3, c4, c5]), by first | exact (((YB.out.setCell (by simp) _).setCell (by simp) _)) | exact YB.out | (repeat (first | exact Below.refl _ _ | apply below_al))⟩
set_option maxRecDepth 100000 in
set_option maxHeartbeats 8000000 in
theorem right_pg5 (R : List Rg → Bool) (ok : Nat → Prop) (w : World) (p : Pg) (x : In) (ps xs : List Value) (hp : PgC ok w p ps) (hx : InO ok w x xs) (hR : x.op = 2 → RightOK R x.set) (hpl : p.ins.length ≤ 140737488351232) (ho : x.op = 5) :
    Calls Try.prog 32 #[.agg ps.toArray, .agg xs.toArray] w fun e w' => e = .returned (.bool (rightI R p.ins.length p.caps x)) ∧ Below w.heap.size w w' := by
  obtain ⟨A, c, rfl, p1, p2, _⟩ := hp
  obtain ⟨B, d, rfl, x1, x2, x3⟩ := hx
  have hRr : True := trivial
  clear hR x3
  have HO := Lib.hid ho
  have o1 : (x.op == 1) = false := (by rw [ho]; rfl)
  have o6 : (x.op == 6) = false := (by rw [ho]; rfl)
  have o2 : (x.op == 2) = false := (by rw [ho]; rfl)
  have o3 : (x.op == 3) = false := (by rw [ho]; rfl)
  have o4 : (x.op == 4) = false := (by rw [ho]; rfl)
  have o5 : (x.op == 5) = true := (by rw [ho]; rfl)
  clear ho
  have hb3 : (((w.alloc (.cells #[.slice A p.ins.length c, .int .i64 p.start, .int .i64 p.caps] 32)).alloc (.cells #[.int .i64 x.op, .int .i64 x.out, .int .i64 x.arg, .slice B x.set.length d, .int .i64 x.at_] 39)).alloc (.cells #[.int .i64 0, .int .i64 x.out, .int .i64 x.arg, .slice B x.set.length d, .int .i64 x.at_] 39)).heap[w.heap.size]? = some (.cells #[.slice A p.ins.length c, .int .i64 p.start, .int .i64 p.caps] 32 (0, 0)) := (Below.heap_alloc _ _ _ (by simp; omega)).trans ((Below.heap_alloc _ _ _ (by simp)).trans (heap_new1 _ _))
  have hbx : (((w.alloc (.cells #[.slice A p.ins.length c, .int .i64 p.start, .int .i64 p.caps] 32)).alloc (.cells #[.int .i64 x.op, .int .i64 x.out, .int .i64 x.arg, .slice B x.set.length d, .int .i64 x.at_] 39)).alloc (.cells #[.int .i64 0, .int .i64 x.out, .int .i64 x.arg, .slice B x.set.length d, .int .i64 x.at_] 39)).heap[w.heap.size + 1]? = some (.cells #[.int .i64 x.op, .int .i64 x.out, .int .i64 x.arg, .slice B x.set.length d, .int .i64 x.at_] 39 (0, 0)) := (Below.heap_alloc _ _ _ (by simp)).trans (heap_new2 _ _ _)
  have hb2 : (((w.alloc (.cells #[.slice A p.ins.length c, .int .i64 p.start, .int .i64 p.caps] 32)).alloc (.cells #[.int .i64 x.op, .int .i64 x.out, .int .i64 x.arg, .slice B x.set.length d, .int .i64 x.at_] 39)).alloc (.cells #[.int .i64 0, .int .i64 x.out, .int .i64 x.arg, .slice B x.set.length d, .int .i64 x.at_] 39)).heap[w.heap.size + 1 + 1]? = some (.cells #[.int .i64 0, .int .i64 x.out, .int .i64 x.arg, .slice B x.set.length d, .int .i64 x.at_] 39 (0, 0)) := heap_new3 _ _ _ _
  have hb4 : ∀ o, ((((w.alloc (.cells #[.slice A p.ins.length c, .int .i64 p.start, .int .i64 p.caps] 32)).alloc (.cells #[.int .i64 x.op, .int .i64 x.out, .int .i64 x.arg, .slice B x.set.length d, .int .i64 x.at_] 39)).alloc (.cells #[.int .i64 0, .int .i64 x.out, .int .i64 x.arg, .slice B x.set.length d, .int .i64 x.at_] 39)).alloc o).heap[w.heap.size]? = some (.cells #[.slice A p.ins.length c, .int .i64 p.start, .int .i64 p.caps] 32 (0, 0)) := fun o => (Below.heap_alloc _ _ _ (by simp; omega)).trans hb3
  have yb : Below w.heap.size w (((w.alloc (.cells #[.slice A p.ins.length c, .int .i64 p.start, .int .i64 p.caps] 32)).alloc (.cells #[.int .i64 x.op, .int .i64 x.out, .int .i64 x.arg, .slice B x.set.length d, .int .i64 x.at_] 39)).alloc (.cells #[.int .i64 0, .int .i64 x.out, .int .i64 x.arg, .slice B x.set.length d, .int .i64 x.at_] 39)) := below_al (below_al (below_al (Below.refl _ _) _) _) _
  have HH := Lib.hid (And.intro hb3 (And.intro hbx hb2))
  cases c1 : hereB p.ins.length x.out with
  | false =>
    go_enter Try.func32, Try.ntmps32
    go_wp2_with (first
          | (go_at_call 58; refine (here_any _ w.heap.size A p.ins.length c p.start p.caps _ (by first | exact hb3 | exact hb4 _) hpl).mono ?_; rintro e w' ⟨rfl, rfl⟩)
          | (go_at_call 55; refine (containsAtB _ _ _ _ (by first | exact heap_new4 _ _ _ _ _ | exact heap_new1 _ _)).mono ?_; rintro e w' ⟨rfl, rfl⟩)
          | (go_at_call 54; refine (hRr _ yb).mono ?_; clear hRr; rintro e w4 ⟨rfl, hb4⟩; have z := (hb4.block _ (heap_lt hb2)).trans hb2; obtain ⟨z0, z1, z2, z3, z4⟩ := cells5 z; have zx := (hb4.block _ (heap_lt hbx)).trans hbx; obtain ⟨v0, v1, v2, v3, v4⟩ := cells5 zx; have fz := frozenOf z; have ny := heap_lt z; have YB := Lib.hid (below_and hb4 yb); clear z zx hb4))
    go_ret
    exact ⟨ret_bool (by unfold rightI; simp [HO.out, c1]), by first | exact (((YB.out.setCell (by simp) _).setCell (by simp) _)) | exact YB.out | (repeat (first | exact Below.refl _ _ | apply below_al))⟩
  | true =>
    cases c2 : atsB x.at_ with
    | false =>
      go_enter Try.func32, Try.ntmps32
      go_wp2_with (first
            | (go_at_call 58; refine (here_any _ w.heap.size A p.ins.length c p.start p.caps _ (by first | exact hb3 | exact hb4 _) hpl).mono ?_; rintro e w' ⟨rfl, rfl⟩)
            | (go_at_call 55; refine (containsAtB _ _ _ _ (by first | exact heap_new4 _ _ _ _ _ | exact heap_new1 _ _)).mono ?_; rintro e w' ⟨rfl, rfl⟩)
            | (go_at_call 54; refine (hRr _ yb).mono ?_; clear hRr; rintro e w4 ⟨rfl, hb4⟩; have z := (hb4.block _ (heap_lt hb2)).trans hb2; obtain ⟨z0, z1, z2, z3, z4⟩ := cells5 z; have zx := (hb4.block _ (heap_lt hbx)).trans hbx; obtain ⟨v0, v1, v2, v3, v4⟩ := cells5 zx; have fz := frozenOf z; have ny := heap_lt z; have YB := Lib.hid (below_and hb4 yb); clear z zx hb4))
      go_ret
      exact ⟨ret_bool (by unfold rightI; simp [HO.out, c1, c2]), by first | exact (((YB.out.setCell (by simp) _).setCell (by simp) _)) | exact YB.out | (repeat (first | exact Below.refl _ _ | apply below_al))⟩
    | true =>
      cases c3 : (x.arg == 0) with
      | false =>
        go_enter Try.func32, Try.ntmps32
        go_wp2_with (first
              | (go_at_call 58; refine (here_any _ w.heap.size A p.ins.length c p.start p.caps _ (by first | exact hb3 | exact hb4 _) hpl).mono ?_; rintro e w' ⟨rfl, rfl⟩)
              | (go_at_call 55; refine (containsAtB _ _ _ _ (by first | exact heap_new4 _ _ _ _ _ | exact heap_new1 _ _)).mono ?_; rintro e w' ⟨rfl, rfl⟩)
              | (go_at_call 54; refine (hRr _ yb).mono ?_; clear hRr; rintro e w4 ⟨rfl, hb4⟩; have z := (hb4.block _ (heap_lt hb2)).trans hb2; obtain ⟨z0, z1, z2, z3, z4⟩ := cells5 z; have zx := (hb4.block _ (heap_lt hbx)).trans hbx; obtain ⟨v0, v1, v2, v3, v4⟩ := cells5 zx; have fz := frozenOf z; have ny := heap_lt z; have YB := Lib.hid (below_and hb4 yb); clear z zx hb4))
        go_ret
        exact ⟨ret_bool (by unfold rightI; simp [HO.out, c1, c2, c3]), by first | exact (((YB.out.setCell (by simp) _).setCell (by simp) _)) | exact YB.out | (repeat (first | exact Below.refl _ _ | apply below_al))⟩
      | true =>
        cases c4 : ((x.set.length : Int) == 0) with
        | false =>
          go_enter Try.func32, Try.ntmps32
          go_wp2_with (first
                | (go_at_call 58; refine (here_any _ w.heap.size A p.ins.length c p.start p.caps _ (by first | exact hb3 | exact hb4 _) hpl).mono ?_; rintro e w' ⟨rfl, rfl⟩)
                | (go_at_call 55; refine (containsAtB _ _ _ _ (by first | exact heap_new4 _ _ _ _ _ | exact heap_new1 _ _)).mono ?_; rintro e w' ⟨rfl, rfl⟩)
                | (go_at_call 54; refine (hRr _ yb).mono ?_; clear hRr; rintro e w4 ⟨rfl, hb4⟩; have z := (hb4.block _ (heap_lt hb2)).trans hb2; obtain ⟨z0, z1, z2, z3, z4⟩ := cells5 z; have zx := (hb4.block _ (heap_lt hbx)).trans hbx; obtain ⟨v0, v1, v2, v3, v4⟩ := cells5 zx; have fz := frozenOf z; have ny := heap_lt z; have YB := Lib.hid (below_and hb4 yb); clear z zx hb4))
          go_ret
          exact ⟨ret_bool (by unfold rightI; simp [HO.out, c1, c2, c3, c4]), by first | exact (((YB.out.setCell (by simp) _).setCell (by simp) _)) | exact YB.out | (repeat (first | exact Below.refl _ _ | apply below_al))⟩
        | true =>
          go_enter Try.func32, Try.ntmps32
          go_wp2_with (first
                | (go_at_call 58; refine (here_any _ w.heap.size A p.ins.length c p.start p.caps _ (by first | exact hb3 | exact hb4 _) hpl).mono ?_; rintro e w' ⟨rfl, rfl⟩)
                | (go_at_call 55; refine (containsAtB _ _ _ _ (by first | exact heap_new4 _ _ _ _ _ | exact heap_new1 _ _)).mono ?_; rintro e w' ⟨rfl, rfl⟩)
                | (go_at_call 54; refine (hRr _ yb).mono ?_; clear hRr; rintro e w4 ⟨rfl, hb4⟩; have z := (hb4.block _ (heap_lt hb2)).trans hb2; obtain ⟨z0, z1, z2, z3, z4⟩ := cells5 z; have zx := (hb4.block _ (heap_lt hbx)).trans hbx; obtain ⟨v0, v1, v2, v3, v4⟩ := cells5 zx; have fz := frozenOf z; have ny := heap_lt z; have YB := Lib.hid (below_and hb4 yb); clear z zx hb4))
          go_ret
          exact ⟨ret_bool (by unfold rightI; simp [HO.out, c1, c2, c3, c4]), by first | exact (((YB.out.setCell (by simp) _).setCell (by simp) _)) | exact YB.out | (repeat (first | exact Below.refl _ _ | apply below_al))⟩
set_option maxRecDepth 100000 in
set_option maxHeartbeats 8000000 in
theorem right_pg0 (R : List Rg → Bool) (ok : Nat → Prop) (w : World) (p : Pg) (x : In) (ps xs : List Value) (hp : PgC ok w p ps) (hx : InO ok w x xs) (hR : x.op = 2 → RightOK R x.set) (hpl : p.ins.length ≤ 140737488351232) (ho : x.op ≠ 1 ∧ x.op ≠ 2 ∧ x.op ≠ 3 ∧ x.op ≠ 4 ∧ x.op ≠ 5 ∧ x.op ≠ 6) :
    Calls Try.prog 32 #[.agg ps.toArray, .agg xs.toArray] w fun e w' => e = .returned (.bool (rightI R p.ins.length p.caps x)) ∧ Below w.heap.size w w' := by
  obtain ⟨A, c, rfl, p1, p2, _⟩ := hp
  obtain ⟨B, d, rfl, x1, x2, x3⟩ := hx
  have hRr : True := trivial
  clear hR x3
  have HO := Lib.hid ho
  have o1 : (x.op == 1) = false := (by simp; omega)
  have o6 : (x.op == 6) = false := (by simp; omega)
  have o2 : (x.op == 2) = false := (by simp; omega)
  have o3 : (x.op == 3) = false := (by simp; omega)
  have o4 : (x.op == 4) = false := (by simp; omega)
  have o5 : (x.op == 5) = false := (by simp; omega)
  clear ho
  have hb3 : (((w.alloc (.cells #[.slice A p.ins.length c, .int .i64 p.start, .int .i64 p.caps] 32)).alloc (.cells #[.int .i64 x.op, .int .i64 x.out, .int .i64 x.arg, .slice B x.set.length d, .int .i64 x.at_] 39)).alloc (.cells #[.int .i64 0, .int .i64 x.out, .int .i64 x.arg, .slice B x.set.length d, .int .i64 x.at_] 39)).heap[w.heap.size]? = some (.cells #[.slice A p.ins.length c, .int .i64 p.start, .int .i64 p.caps] 32 (0, 0)) := (Below.heap_alloc _ _ _ (by simp; omega)).trans ((Below.heap_alloc _ _ _ (by simp)).trans (heap_new1 _ _))
  have hbx : (((w.alloc (.cells #[.slice A p.ins.length c, .int .i64 p.start, .int .i64 p.caps] 32)).alloc (.cells #[.int .i64 x.op, .int .i64 x.out, .int .i64 x.arg, .slice B x.set.length d, .int .i64 x.at_] 39)).alloc (.cells #[.int .i64 0, .int .i64 x.out, .int .i64 x.arg, .slice B x.set.length d, .int .i64 x.at_] 39)).heap[w.heap.size + 1]? = some (.cells #[.int .i64 x.op, .int .i64 x.out, .int .i64 x.arg, .slice B x.set.length d, .int .i64 x.at_] 39 (0, 0)) := (Below.heap_alloc _ _ _ (by simp)).trans (heap_new2 _ _ _)
  have hb2 : (((w.alloc (.cells #[.slice A p.ins.length c, .int .i64 p.start, .int .i64 p.caps] 32)).alloc (.cells #[.int .i64 x.op, .int .i64 x.out, .int .i64 x.arg, .slice B x.set.length d, .int .i64 x.at_] 39)).alloc (.cells #[.int .i64 0, .int .i64 x.out, .int .i64 x.arg, .slice B x.set.length d, .int .i64 x.at_] 39)).heap[w.heap.size + 1 + 1]? = some (.cells #[.int .i64 0, .int .i64 x.out, .int .i64 x.arg, .slice B x.set.length d, .int .i64 x.at_] 39 (0, 0)) := heap_new3 _ _ _ _
  have hb4 : ∀ o, ((((w.alloc (.cells #[.slice A p.ins.length c, .int .i64 p.start, .int .i64 p.caps] 32)).alloc (.cells #[.int .i64 x.op, .int .i64 x.out, .int .i64 x.arg, .slice B x.set.length d, .int .i64 x.at_] 39)).alloc (.cells #[.int .i64 0, .int .i64 x.out, .int .i64 x.arg, .slice B x.set.length d, .int .i64 x.at_] 39)).alloc o).heap[w.heap.size]? = some (.cells #[.slice A p.ins.length c, .int .i64 p.start, .int .i64 p.caps] 32 (0, 0)) := fun o => (Below.heap_alloc _ _ _ (by simp; omega)).trans hb3
  have yb : Below w.heap.size w (((w.alloc (.cells #[.slice A p.ins.length c, .int .i64 p.start, .int .i64 p.caps] 32)).alloc (.cells #[.int .i64 x.op, .int .i64 x.out, .int .i64 x.arg, .slice B x.set.length d, .int .i64 x.at_] 39)).alloc (.cells #[.int .i64 0, .int .i64 x.out, .int .i64 x.arg, .slice B x.set.length d, .int .i64 x.at_] 39)) := below_al (below_al (below_al (Below.refl _ _) _) _) _
  have HH := Lib.hid (And.intro hb3 (And.intro hbx hb2))
  go_enter Try.func32, Try.ntmps32
  go_wp2_with (first
        | (go_at_call 58; refine (here_any _ w.heap.size A p.ins.length c p.start p.caps _ (by first | exact hb3 | exact hb4 _) hpl).mono ?_; rintro e w' ⟨rfl, rfl⟩)
        | (go_at_call 55; refine (containsAtB _ _ _ _ (by first | exact heap_new4 _ _ _ _ _ | exact heap_new1 _ _)).mono ?_; rintro e w' ⟨rfl, rfl⟩)
        | (go_at_call 54; refine (hRr _ yb).mono ?_; clear hRr; rintro e w4 ⟨rfl, hb4⟩; have z := (hb4.block _ (heap_lt hb2)).trans hb2; obtain ⟨z0, z1, z2, z3, z4⟩ := cells5 z; have zx := (hb4.block _ (heap_lt hbx)).trans hbx; obtain ⟨v0, v1, v2, v3, v4⟩ := cells5 zx; have fz := frozenOf z; have ny := heap_lt z; have YB := Lib.hid (below_and hb4 yb); clear z zx hb4))
  go_ret
  exact ⟨ret_bool (by unfold rightI; simp [HO.out, ]), by first | exact (((YB.out.setCell (by simp) _).setCell (by simp) _)) | exact YB.out | (repeat (first | exact Below.refl _ _ | apply below_al))⟩
theorem right_pg (R : List Rg → Bool) (ok : Nat → Prop) (w : World) (p : Pg) (x : In) (ps xs : List Value) (hp : PgC ok w p ps) (hx : InO ok w x xs) (hR : x.op = 2 → RightOK R x.set) (hpl : p.ins.length ≤ 140737488351232) :
    Calls Try.prog 32 #[.agg ps.toArray, .agg xs.toArray] w fun e w' => e = .returned (.bool (rightI R p.ins.length p.caps x)) ∧ Below w.heap.size w w' := by
  by_cases h1 : x.op = 1
  · exact right_pg1 R ok w p x ps xs hp hx hR hpl h1
  by_cases h2 : x.op = 2
  · exact right_pg2 R ok w p x ps xs hp hx hR hpl h2
  by_cases h3 : x.op = 3
  · exact right_pg3 R ok w p x ps xs hp hx hR hpl h3
  by_cases h4 : x.op = 4
  · exact right_pg4 R ok w p x ps xs hp hx hR hpl h4
  by_cases h5 : x.op = 5
  · exact right_pg5 R ok w p x ps xs hp hx hR hpl h5
  by_cases h6 : x.op = 6
  · exact right_pg6 R ok w p x ps xs hp hx hR hpl h6
  exact right_pg0 R ok w p x ps xs hp hx hR hpl ⟨h1, h2, h3, h4, h5, h6⟩
end Go.Proofs.Ytdnbholiijgedaa
