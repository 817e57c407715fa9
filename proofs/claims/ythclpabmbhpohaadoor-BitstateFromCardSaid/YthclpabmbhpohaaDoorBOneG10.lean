/-
  (*onepass.runner).walk: the walk of a program that needs no choice. No condition but that the ways of it are told to need none.
  (*onepass.runner).walk, where it goes on. No condition but that the ways of it are told to need none.
  onepass.Match. No condition but bounds.
  martellolaw12.Long, martellolaw15.Long, Steps, martelloref11.SameInts: what the laws ask ahead of a walk, and behind. No condition but bounds.
  martellolaw15.OnepassAdmits: the walk: it tells true. No condition but that the program's fields are values of their types.
-/
import Derived.Test.YthclpabmbhpohaaDoorBOneG9
import Derived.Lib.SlBytesConst
import Derived.Deep.LoopGhost
set_option linter.unusedVariables false
set_option linter.unusedSimpArgs false
namespace Go.Proofs.YthclpabmbhpohaaDoor
open Go.RowKit
set_option linter.unusedVariables false
theorem grown_trans {A B C : World} {r : Option Nat} (h : A.grownBy B r) (k : B.grownBy C r) : A.grownBy C r :=
  ⟨k.os.trans h.os, k.tape.trans h.tape, k.output.trans h.output, Nat.le_trans h.size k.size, fun b hb hne => (k.block b (Nat.lt_of_lt_of_le hb h.size) hne).trans (h.block b hb hne)⟩
theorem grown_below {A B : World} (h : Below A.heap.size A B) (r : Option Nat) : A.grownBy B r := ⟨h.os, h.tape, h.output, h.size, fun b hb _ => h.block b hb⟩
theorem grown_al {A B : World} {r : Option Nat} (h : A.grownBy B r) (o : Obj) : A.grownBy (B.alloc o) r := grown_trans h (grown_below (below_al (Below.refl _ _) o) r)
theorem grown_set {A B : World} {G : Nat} (h : A.grownBy B (some G)) (j : Nat) (v : Value) : A.grownBy (B.setCell ⟨G, j, none⟩ v) (some G) := grown_trans h (grown_set0 B G j v)
/-- A store into a block that is new. -/
theorem grown_new {A B : World} {r : Option Nat} (h : A.grownBy B r) {g : Nat} (hg : A.heap.size ≤ g) (j : Nat) (v : Value) : A.grownBy (B.setCell ⟨g, j, none⟩ v) r :=
  ⟨h.os, h.tape, h.output, by have := h.size; simpa [World.setCell] using this, fun b hb hne => (set_ne0 B v (by show b ≠ g; omega)).trans (h.block b hb hne)⟩
theorem below_of_grown {A B : World} {G : Nat} (h : A.grownBy B (some G)) (hG : G ≤ A.heap.size) : Below G A B := ⟨h.os, h.tape, h.output, h.size, fun b hb => h.block b (by omega) (fun e => by cases e; omega)⟩
/-- A list of places, in blocks other than G. -/
def FitL (W : World) (G : Nat) (v : Value) (l : List Int) : Prop := ∃ A c, v = .slice A l.length c ∧ l.length ≤ c ∧ c ≤ maxLen ∧ Arr (fun k => k ≠ G) W 1 (IntC .i64) A l
theorem FitL.grown {W W' : World} {G : Nat} {v : Value} {l : List Int} (h : FitL W G v l) (hg : W.grownBy W' (some G)) : FitL W' G v l := by
  obtain ⟨A, c, h1, h2, h3, h4⟩ := h
  exact ⟨A, c, h1, h2, h3, h4.move (fun b hb hlt => ⟨hg.block b hlt (fun e => hb (by cases e; rfl)), hb⟩) (by omega)⟩
def BestV (W : World) (G : Nat) (v : Value) : Option (List Int) → Prop
  | none => v = .slice none 0 0
  | some l => FitL W G v l ∧ 2 ≤ l.length
theorem BestV.grown {W W' : World} {G : Nat} {v : Value} {b : Option (List Int)} (h : BestV W G v b) (hg : W.grownBy W' (some G)) : BestV W' G v b := by
  cases b with
  | none => exact h
  | some l => exact ⟨h.1.grown hg, h.2⟩
structure RnAt (W : World) (G : Nat) (u0 u1 u2 : Value) (ia : Addr) (lg : Bool) (bv nv : Value) (s : Rn) : Prop where
  blk : W.heap[G]? = some (.cells #[u0, u1, u2, .pointer (some ia), .bool lg, .int .i64 s.steps, bv, .int .i64 s.next, nv, .bool s.stop] 92 (0, 0))
  best : BestV W G bv s.best
  nf : FitL W G nv s.nf
section
variable {W W' : World} {G : Nat} {u0 u1 u2 : Value} {ia : Addr} {lg : Bool} {bv nv bv' nv' : Value} {s : Rn}
theorem RnAt.below (h : RnAt W G u0 u1 u2 ia lg bv nv s) (hb : Below W.heap.size W W') : RnAt W' G u0 u1 u2 ia lg bv nv s :=
  ⟨(hb.block _ (heap_lt h.blk)).trans h.blk, h.best.grown (grown_below hb _), h.nf.grown (grown_below hb _)⟩
theorem RnAt.setSteps (h : RnAt W G u0 u1 u2 ia lg bv nv s) (n : Int) : RnAt (W.setCell ⟨G, 5, none⟩ (.int .i64 n)) G u0 u1 u2 ia lg bv nv ⟨n, s.best, s.next, s.nf, s.stop⟩ :=
  ⟨by rw [heap_set0 h.blk 5]; simp, h.best.grown (grown_set0 W G 5 _), h.nf.grown (grown_set0 W G 5 _)⟩
theorem RnAt.setBest {b : Option (List Int)} (h : RnAt W G u0 u1 u2 ia lg bv nv s) (hb : BestV W G bv' b) : RnAt (W.setCell ⟨G, 6, none⟩ bv') G u0 u1 u2 ia lg bv' nv ⟨s.steps, b, s.next, s.nf, s.stop⟩ :=
  ⟨by rw [heap_set0 h.blk 6]; simp, hb.grown (grown_set0 W G 6 _), h.nf.grown (grown_set0 W G 6 _)⟩
theorem RnAt.setNext {l : List Int} (h : RnAt W G u0 u1 u2 ia lg bv nv s) (n : Int) (hb : FitL W G nv' l) : RnAt ((W.setCell ⟨G, 7, none⟩ (.int .i64 n)).setCell ⟨G, 8, none⟩ nv') G u0 u1 u2 ia lg bv nv' ⟨s.steps, s.best, n, l, s.stop⟩ :=
  ⟨by rw [heap_set0 (heap_set0 h.blk 7 _) 8]; simp, (h.best.grown (grown_set0 W G 7 _)).grown (grown_set0 _ G 8 _), (hb.grown (grown_set0 W G 7 _)).grown (grown_set0 _ G 8 _)⟩
theorem RnAt.setStop (h : RnAt W G u0 u1 u2 ia lg bv nv s) (b : Bool) : RnAt (W.setCell ⟨G, 9, none⟩ (.bool b)) G u0 u1 u2 ia lg bv nv ⟨s.steps, s.best, s.next, s.nf, b⟩ :=
  ⟨by rw [heap_set0 h.blk 9]; simp, h.best.grown (grown_set0 W G 9 _), h.nf.grown (grown_set0 W G 9 _)⟩
structure RnCells (W : World) (G : Nat) (u0 : Value) (ia : Addr) (lg : Bool) (bv nv : Value) (s : Rn) : Prop where
  c0 : W.cell? ⟨G, 0, none⟩ = some u0
  c3 : W.cell? ⟨G, 3, none⟩ = some (.pointer (some ia))
  c4 : W.cell? ⟨G, 4, none⟩ = some (.bool lg)
  c5 : W.cell? ⟨G, 5, none⟩ = some (.int .i64 s.steps)
  c6 : W.cell? ⟨G, 6, none⟩ = some bv
  c7 : W.cell? ⟨G, 7, none⟩ = some (.int .i64 s.next)
  c8 : W.cell? ⟨G, 8, none⟩ = some nv
  c9 : W.cell? ⟨G, 9, none⟩ = some (.bool s.stop)
  f : ∀ j, W.frozen? ⟨G, j, none⟩ = false
  n0 : G < W.heap.size
theorem RnAt.cells (h : RnAt W G u0 u1 u2 ia lg bv nv s) : RnCells W G u0 ia lg bv nv s :=
  ⟨by rw [cell_of_blk h.blk]; rfl, by rw [cell_of_blk h.blk]; rfl, by rw [cell_of_blk h.blk]; rfl, by rw [cell_of_blk h.blk]; rfl, by rw [cell_of_blk h.blk]; rfl, by rw [cell_of_blk h.blk]; rfl, by rw [cell_of_blk h.blk]; rfl, by rw [cell_of_blk h.blk]; rfl, frozenOf h.blk, heap_lt h.blk⟩
end
theorem owns_fit {W : World} {B G : Nat} {v : Value} {l : List Int} (h : Owns W B 3 1 v (l.map i64C)) (hB : G < B) : FitL W G v l := by
  have h5 := h
  obtain ⟨A, c, rfl, h1, h2⟩ := h.shape
  rw [List.length_map] at h1 h5 ⊢
  exact ⟨A, c, rfl, h1, h2, (ownI64_arr0 h5).move (fun k hk _ => ⟨rfl, by omega⟩) (by omega)⟩
def RnPost (G : Nat) (u0 u1 u2 : Value) (ia : Addr) (lg : Bool) (s' : Rn) (W : World) (e : Ending) (W' : World) : Prop := e = .returned (.tuple #[]) ∧ (∃ bv nv, RnAt W' G u0 u1 u2 ia lg bv nv s') ∧ W.grownBy W' (some G)
def BIG : Int := 1000000000000000000
/-- The walk's contract, for one fuel. -/
def WalkOK (p : Pg) (G : Nat) (u0 u1 u2 : Value) (ia : Addr) (rs : List (Int × Int)) (lg : Bool) (w0 : World) (n : Nat) : Prop :=
  ∀ (pc pl : Int) (fit : List Int) (fv : Value) (s : Rn) (s0 : Ow) (bv nv : Value) (W : World), (waysW meetB un2 p n pc s0).1 = true → Pc p pc → 0 ≤ pl → pl ≤ 1000000 → RnAt W G u0 u1 u2 ia lg bv nv s → FitL W G fv fit → (fit.length : Int) = p.caps → Below G w0 W → 0 ≤ s.steps → potR p (1 + fit.length) s0 s ≤ BIG →
    Calls Tryd.prog 42 #[.pointer (some ⟨G, 0, none⟩), .int .i64 pc, .int .i64 pl, fv] W (RnPost G u0 u1 u2 ia lg (walkS p (runeAt rs) (atOf rs) lg n pc pl fit s) W)
structure Ctx (p : Pg) (G : Nat) (u0 u1 u2 : Value) (ia : Addr) (rs : List (Int × Int)) (w0 : World) : Prop where
  pg : PgC (fun k => k < G) w0 p [u0, u1, u2]
  inp : InpC (fun k => k < G) w0 ia rs
  size : G ≤ w0.heap.size
  chk : checkS rightR p = 0
  len : rs.length ≤ 1000000
set_option maxRecDepth 100000 in
set_option maxHeartbeats 4000000 in
theorem walk_stop (p : Pg) (G : Nat) (u0 u1 u2 : Value) (ia : Addr) (rs : List (Int × Int)) (lg : Bool) (w0 : World) (C : Ctx p G u0 u1 u2 ia rs w0) (n : Nat)
    (i : Nat) (pl : Int) (fit : List Int) (fv : Value) (s : Rn) (s0 : Ow) (bv nv : Value) (W : World) (hws : (waysW meetB un2 p (n + 1) i s0).1 = true) (hp : Pc p i) (hpl : 0 ≤ pl) (hpl2 : pl ≤ 1000000) (h : RnAt W G u0 u1 u2 ia lg bv nv s) (hf : FitL W G fv fit) (hfl : (fit.length : Int) = p.caps) (hB : Below G w0 W) (hst : 0 ≤ s.steps) (hpot : potR p (1 + fit.length) s0 s ≤ BIG) (hs : s.stop = true) :
    Calls Tryd.prog 42 #[.pointer (some ⟨G, 0, none⟩), .int .i64 i, .int .i64 pl, fv] W (RnPost G u0 u1 u2 ia lg (walkS p (runeAt rs) (atOf rs) lg (n + 1) i pl fit s) W) := by
  obtain ⟨c0, c3, c4, c5, c6, c7, c8, c9, f, n0⟩ := h.cells
  have f5 := f 5
  have hi : i < p.ins.length := by have := hp.2; omega
  have hsb : s.steps ≤ 1000000000000000000 := by unfold potR BIG at hpot; omega
  obtain ⟨F, cf, rfl, hf1, hf2, hf3⟩ := hf
  rw [show walkS p (runeAt rs) (atOf rs) lg (n + 1) i pl fit s = ⟨s.steps + 1, s.best, s.next, s.nf, s.stop⟩ by rw [walkS, if_pos hs]]
  rw [hs] at c9
  have HA := Lib.hid h
  clear h hf3 f hB C hws hpot hs
  go_enter Tryd.func42, Tryd.ntmps42
  go_wp2_with fail
  go_end0
  exact ⟨rfl, ⟨_, _, HA.out.setSteps (s.steps + 1)⟩, grown_set0 _ _ _ _⟩
set_option maxRecDepth 100000 in
set_option maxHeartbeats 4000000 in
theorem walk_fail (p : Pg) (G : Nat) (u0 u1 u2 : Value) (ia : Addr) (rs : List (Int × Int)) (lg : Bool) (w0 : World) (C : Ctx p G u0 u1 u2 ia rs w0) (n : Nat)
    (i : Nat) (pl : Int) (fit : List Int) (fv : Value) (s : Rn) (s0 : Ow) (bv nv : Value) (W : World) (hws : (waysW meetB un2 p (n + 1) i s0).1 = true) (hp : Pc p i) (hpl : 0 ≤ pl) (hpl2 : pl ≤ 1000000) (h : RnAt W G u0 u1 u2 ia lg bv nv s) (hf : FitL W G fv fit) (hfl : (fit.length : Int) = p.caps) (hB : Below G w0 W) (hst : 0 ≤ s.steps) (hpot : potR p (1 + fit.length) s0 s ≤ BIG) (hs : s.stop = false) (ho : (p.get i).op ≠ 1 ∧ (p.get i).op ≠ 2 ∧ (p.get i).op ≠ 3 ∧ (p.get i).op ≠ 4 ∧ (p.get i).op ≠ 5) :
    Calls Tryd.prog 42 #[.pointer (some ⟨G, 0, none⟩), .int .i64 i, .int .i64 pl, fv] W (RnPost G u0 u1 u2 ia lg (walkS p (runeAt rs) (atOf rs) lg (n + 1) i pl fit s) W) := by
  obtain ⟨c0, c3, c4, c5, c6, c7, c8, c9, f, n0⟩ := h.cells
  have f5 := f 5
  have hi : i < p.ins.length := by have := hp.2; omega
  have hsb : s.steps ≤ 1000000000000000000 := by unfold potR BIG at hpot; omega
  obtain ⟨F, cf, rfl, hf1, hf2, hf3⟩ := hf
  have hB0 : ∀ {X : World}, W.grownBy X (some G) → Below G w0 X := fun hg => hB.trans (below_of_grown hg (by omega))
  obtain ⟨ad, c, B3, d3, hps, hc1, hcm, hd3, hd3m, hadb, hins⟩ := ins_at C.pg C.size i hi
  simp only [List.cons.injEq, and_true] at hps
  obtain ⟨rfl, rfl, rfl⟩ := hps
  have hge := get_eq p i hi
  have hg9 := check_good C.chk hp
  have hck := check_ok C.chk
  have hfl4 : fit.length ≤ 4002 ∧ 2 ≤ fit.length := by have := hck.2.2.2.1; have := hck.2.2.2.2.1; omega
  rw [hs] at c9
  have h1 := h.setSteps (s.steps + 1)
  have hgr1 := grown_set0 W G 5 (.int .i64 (s.steps + 1))
  have hB1 := hB.trans (below_of_grown hgr1 (by omega))
  obtain ⟨hset, g0, g1, g2, g3, g4⟩ := hins _ hB1
  obtain ⟨_, k0, k1, k2, k3, k4⟩ := hins _ hB
  have hnb : ((ad.add (i * 5)).block = G) = False := by rw [add_block]; simp; omega
  obtain ⟨q0, q3, q4, q5, q6, q7, q8, q9x, qf, m0⟩ := h1.cells
  have q9 : (W.setCell ⟨G, 5, none⟩ (.int .i64 (s.steps + 1))).cell? ⟨G, 9, none⟩ = some (.bool false) := by rw [← hs]; exact q9x
  clear q9x
  have qf6 := qf 6
  have qf7 := qf 7
  have qf8 := qf 8
  have qf9 := qf 9
  have qf5 := qf 5
  have hfit1 := FitL.grown ⟨F, cf, rfl, hf1, hf2, hf3⟩ hgr1
  rw [show walkS p (runeAt rs) (atOf rs) lg (n + 1) i pl fit s = ⟨s.steps + 1, s.best, s.next, s.nf, s.stop⟩ by rw [walkS_new hs hge]; rw [← hge, if_neg ho.1, if_neg ho.2.1, if_neg ho.2.2.1, if_neg ho.2.2.2.1, if_neg ho.2.2.2.2]]
  have H1 := Lib.hid (And.intro h1 (And.intro hgr1 (And.intro hB1 (And.intro hset (And.intro hfit1 hws)))))
  have hinp := C.inp.move (w' := W.setCell ⟨G, 5, none⟩ (.int .i64 (s.steps + 1))) (ok' := fun k => k < G) (fun k hk hlt => ⟨hB1.block k hk, hk⟩)
  clear h h1 hgr1 hB1 hset hfit1 hf3 f qf hB hws hpot hs hins hck
  try rw [hge] at ho
  try rw [hge] at hg9
  clear hge
  generalize p.ins[i] = x at *
  have o1 : (x.op == 1) = false := by simp; omega
  have o2 : (x.op == 2) = false := by simp; omega
  have o3 : (x.op == 3) = false := by simp; omega
  have o4 : (x.op == 4) = false := by simp; omega
  have o5 : (x.op == 5) = false := by simp; omega
  have HO := Lib.hid (And.intro ho hg9)
  clear ho hg9
  go_enter Tryd.func42, Tryd.ntmps42
  go_wp2_with fail
  go_end0
  exact ⟨rfl, ⟨_, _, H1.out.1.below (below_al (Below.refl _ _) _)⟩, grown_al H1.out.2.1 _⟩
set_option maxRecDepth 100000 in
set_option maxHeartbeats 4000000 in
theorem walk_match (p : Pg) (G : Nat) (u0 u1 u2 : Value) (ia : Addr) (rs : List (Int × Int)) (lg : Bool) (w0 : World) (C : Ctx p G u0 u1 u2 ia rs w0) (n : Nat)
    (i : Nat) (pl : Int) (fit : List Int) (fv : Value) (s : Rn) (s0 : Ow) (bv nv : Value) (W : World) (hws : (waysW meetB un2 p (n + 1) i s0).1 = true) (hp : Pc p i) (hpl : 0 ≤ pl) (hpl2 : pl ≤ 1000000) (h : RnAt W G u0 u1 u2 ia lg bv nv s) (hf : FitL W G fv fit) (hfl : (fit.length : Int) = p.caps) (hB : Below G w0 W) (hst : 0 ≤ s.steps) (hpot : potR p (1 + fit.length) s0 s ≤ BIG) (hs : s.stop = false) (ho : (p.get i).op = 1) :
    Calls Tryd.prog 42 #[.pointer (some ⟨G, 0, none⟩), .int .i64 i, .int .i64 pl, fv] W (RnPost G u0 u1 u2 ia lg (walkS p (runeAt rs) (atOf rs) lg (n + 1) i pl fit s) W) := by
  obtain ⟨c0, c3, c4, c5, c6, c7, c8, c9, f, n0⟩ := h.cells
  have f5 := f 5
  have hi : i < p.ins.length := by have := hp.2; omega
  have hsb : s.steps ≤ 1000000000000000000 := by unfold potR BIG at hpot; omega
  obtain ⟨F, cf, rfl, hf1, hf2, hf3⟩ := hf
  have hB0 : ∀ {X : World}, W.grownBy X (some G) → Below G w0 X := fun hg => hB.trans (below_of_grown hg (by omega))
  obtain ⟨ad, c, B3, d3, hps, hc1, hcm, hd3, hd3m, hadb, hins⟩ := ins_at C.pg C.size i hi
  simp only [List.cons.injEq, and_true] at hps
  obtain ⟨rfl, rfl, rfl⟩ := hps
  have hge := get_eq p i hi
  have hg9 := check_good C.chk hp
  have hck := check_ok C.chk
  have hfl4 : fit.length ≤ 4002 ∧ 2 ≤ fit.length := by have := hck.2.2.2.1; have := hck.2.2.2.2.1; omega
  rw [hs] at c9
  have h1 := h.setSteps (s.steps + 1)
  have hgr1 := grown_set0 W G 5 (.int .i64 (s.steps + 1))
  have hB1 := hB.trans (below_of_grown hgr1 (by omega))
  obtain ⟨hset, g0, g1, g2, g3, g4⟩ := hins _ hB1
  obtain ⟨_, k0, k1, k2, k3, k4⟩ := hins _ hB
  have hnb : ((ad.add (i * 5)).block = G) = False := by rw [add_block]; simp; omega
  obtain ⟨q0, q3, q4, q5, q6, q7, q8, q9x, qf, m0⟩ := h1.cells
  have q9 : (W.setCell ⟨G, 5, none⟩ (.int .i64 (s.steps + 1))).cell? ⟨G, 9, none⟩ = some (.bool false) := by rw [← hs]; exact q9x
  clear q9x
  have qf6 := qf 6
  have qf7 := qf 7
  have qf8 := qf 8
  have qf9 := qf 9
  have qf5 := qf 5
  have hfit1 := FitL.grown ⟨F, cf, rfl, hf1, hf2, hf3⟩ hgr1
  rw [show walkS p (runeAt rs) (atOf rs) lg (n + 1) i pl fit s = ⟨s.steps + 1, some (fit.set 1 pl), s.next, s.nf, !lg⟩ by rw [walkS_new hs hge]; rw [← hge, if_pos ho]]
  have H1 := Lib.hid (And.intro h1 (And.intro hgr1 (And.intro hB1 (And.intro hset (And.intro hfit1 hws)))))
  have hinp := C.inp.move (w' := W.setCell ⟨G, 5, none⟩ (.int .i64 (s.steps + 1))) (ok' := fun k => k < G) (fun k hk hlt => ⟨hB1.block k hk, hk⟩)
  clear h h1 hgr1 hB1 hset hfit1 hf3 f qf hB hws hpot hs hins hck
  try rw [hge] at ho
  try rw [hge] at hg9
  clear hge
  generalize p.ins[i] = x at *
  have o1 : (x.op == 1) = true := by rw [ho]; rfl
  have o2 : (x.op == 2) = false := by rw [ho]; rfl
  have o3 : (x.op == 3) = false := by rw [ho]; rfl
  have o4 : (x.op == 4) = false := by rw [ho]; rfl
  have o5 : (x.op == 5) = false := by rw [ho]; rfl
  have HO := Lib.hid (And.intro ho hg9)
  clear ho hg9
  have hcl := fun (X : World) (hX : (W.setCell ⟨G, 5, none⟩ (.int .i64 (s.steps + 1))).grownBy X (some G)) => cloneI_any (fun k => k ≠ G) X F cf fit (by
    obtain ⟨A9, c9, e9, _, _, h9⟩ := H1.out.2.2.2.2.1.grown hX
    cases e9; exact h9) (by omega) (by omega)
  go_enter Tryd.func42, Tryd.ntmps42
  go_wp2_with fail
  refine (hcl _ (grown_below (below_al (Below.refl _ _) _) _)).mono ?_
  clear hcl
  rintro e w2 ⟨g, cg, rfl, hown, hb2⟩
  dsimp only
  have h2 := (H1.out.1.below (below_al (Below.refl _ _) _)).below hb2
  have hgn : W.heap.size ≤ g := by have := (hown.lt g rfl).1; simp [World.setCell] at this; omega
  have hgY := grown_trans (grown_al (World.grownBy.refl (W.setCell ⟨G, 5, none⟩ (.int .i64 (s.steps + 1))) (some G)) _) (grown_below hb2 (some G))
  have hGg : G < g := by omega
  obtain ⟨cs2, hk2⟩ := own_blk hown rfl
  have hcell1 : ∃ u, w2.cell? ⟨g, 1, none⟩ = some u := by
    obtain ⟨ad9, e9, hc9⟩ := ints_at (ownI64_arr0 hown) 1 (by omega)
    cases e9
    exact ⟨_, by simpa [Addr.add] using hc9⟩
  obtain ⟨u9, hcell1⟩ := hcell1
  clear q0 q3 q4 q5 q6 q7 q8 q9 m0 qf6 qf7 qf8 qf9 qf5 g0 g1 g2 g3 g4 k0 k1 k2 k3 k4 c0 c3 c4 c5 c6 c7 c8 c9 f5
  obtain ⟨q0, q3, q4, q5, q6, q7, q8, q9, qf, m0⟩ := h2.cells
  have qf6 := qf 6
  have qf9 := qf 9
  have hgf : w2.frozen? ⟨g, 1, none⟩ = false := frozenOf hk2 1
  have hng := heap_lt hk2
  have hGg' : (g = G) = False := by simp; omega
  have hGg2 : (G = g) = False := by simp; omega
  have H2 := Lib.hid (And.intro h2 (And.intro hgY hown))
  clear h2 hgY hown hb2 hk2 qf
  go_wp2_with fail
  go_end0
  obtain ⟨h2, hgY, hown⟩ := H2.out
  have hgn' : (W.setCell ⟨G, 5, none⟩ (.int .i64 (s.steps + 1))).heap.size ≤ g := by simpa [World.setCell] using hgn
  have hX := grown_set (grown_new (grown_set hgY 6 (.slice (some ⟨g, 0, none⟩) fit.length cg)) hgn' 1 (.int .i64 pl)) 9 (.bool !lg)
  refine ⟨rfl, ⟨.slice (some ⟨g, 0, none⟩) fit.length cg, _, ⟨?_, ⟨?_, by rw [List.length_set]; omega⟩, H1.out.1.nf.grown hX⟩⟩, grown_trans H1.out.2.1 hX⟩
  · rw [heap_set0 ((set_ne0 _ _ (by show G ≠ g; omega)).trans (heap_set0 h2.blk 6 _)) 9]; simp
  · exact (owns_fit (owns_put (owns_grown0 hown (grown_set0 w2 G 6 _) (by simp [World.setCell]; omega)) 1 pl) (by simp [World.setCell]; omega)).grown (grown_set0 _ G 9 _)
set_option maxRecDepth 100000 in
set_option maxHeartbeats 4000000 in
theorem walk_setyes (p : Pg) (G : Nat) (u0 u1 u2 : Value) (ia : Addr) (rs : List (Int × Int)) (lg : Bool) (w0 : World) (C : Ctx p G u0 u1 u2 ia rs w0) (n : Nat)
    (i : Nat) (pl : Int) (fit : List Int) (fv : Value) (s : Rn) (s0 : Ow) (bv nv : Value) (W : World) (hws : (waysW meetB un2 p (n + 1) i s0).1 = true) (hp : Pc p i) (hpl : 0 ≤ pl) (hpl2 : pl ≤ 1000000) (h : RnAt W G u0 u1 u2 ia lg bv nv s) (hf : FitL W G fv fit) (hfl : (fit.length : Int) = p.caps) (hB : Below G w0 W) (hst : 0 ≤ s.steps) (hpot : potR p (1 + fit.length) s0 s ≤ BIG) (hs : s.stop = false) (ho : (p.get i).op = 2) (hh : hasB (p.get i).set (runeAt rs pl) = true) :
    Calls Tryd.prog 42 #[.pointer (some ⟨G, 0, none⟩), .int .i64 i, .int .i64 pl, fv] W (RnPost G u0 u1 u2 ia lg (walkS p (runeAt rs) (atOf rs) lg (n + 1) i pl fit s) W) := by
  obtain ⟨c0, c3, c4, c5, c6, c7, c8, c9, f, n0⟩ := h.cells
  have f5 := f 5
  have hi : i < p.ins.length := by have := hp.2; omega
  have hsb : s.steps ≤ 1000000000000000000 := by unfold potR BIG at hpot; omega
  obtain ⟨F, cf, rfl, hf1, hf2, hf3⟩ := hf
  have hB0 : ∀ {X : World}, W.grownBy X (some G) → Below G w0 X := fun hg => hB.trans (below_of_grown hg (by omega))
  obtain ⟨ad, c, B3, d3, hps, hc1, hcm, hd3, hd3m, hadb, hins⟩ := ins_at C.pg C.size i hi
  simp only [List.cons.injEq, and_true] at hps
  obtain ⟨rfl, rfl, rfl⟩ := hps
  have hge := get_eq p i hi
  have hg9 := check_good C.chk hp
  have hck := check_ok C.chk
  have hfl4 : fit.length ≤ 4002 ∧ 2 ≤ fit.length := by have := hck.2.2.2.1; have := hck.2.2.2.2.1; omega
  rw [hs] at c9
  have h1 := h.setSteps (s.steps + 1)
  have hgr1 := grown_set0 W G 5 (.int .i64 (s.steps + 1))
  have hB1 := hB.trans (below_of_grown hgr1 (by omega))
  obtain ⟨hset, g0, g1, g2, g3, g4⟩ := hins _ hB1
  obtain ⟨_, k0, k1, k2, k3, k4⟩ := hins _ hB
  have hnb : ((ad.add (i * 5)).block = G) = False := by rw [add_block]; simp; omega
  obtain ⟨q0, q3, q4, q5, q6, q7, q8, q9x, qf, m0⟩ := h1.cells
  have q9 : (W.setCell ⟨G, 5, none⟩ (.int .i64 (s.steps + 1))).cell? ⟨G, 9, none⟩ = some (.bool false) := by rw [← hs]; exact q9x
  clear q9x
  have qf6 := qf 6
  have qf7 := qf 7
  have qf8 := qf 8
  have qf9 := qf 9
  have qf5 := qf 5
  have hfit1 := FitL.grown ⟨F, cf, rfl, hf1, hf2, hf3⟩ hgr1
  rw [show walkS p (runeAt rs) (atOf rs) lg (n + 1) i pl fit s = ⟨s.steps + 1, s.best, (p.get i).out, fit, s.stop⟩ by rw [walkS_new hs hge]; rw [← hge, if_neg (by omega), if_pos ho, if_pos hh]]
  have H1 := Lib.hid (And.intro h1 (And.intro hgr1 (And.intro hB1 (And.intro hset (And.intro hfit1 hws)))))
  have hinp := C.inp.move (w' := W.setCell ⟨G, 5, none⟩ (.int .i64 (s.steps + 1))) (ok' := fun k => k < G) (fun k hk hlt => ⟨hB1.block k hk, hk⟩)
  clear h h1 hgr1 hB1 hset hfit1 hf3 f qf hB hws hpot hs hins hck
  try rw [hge] at ho
  try rw [hge] at hg9
  try rw [hge]
  rw [hge] at hh
  clear hge
  generalize p.ins[i] = x at *
  have o1 : (x.op == 1) = false := by rw [ho]; rfl
  have o2 : (x.op == 2) = true := by rw [ho]; rfl
  have o3 : (x.op == 3) = false := by rw [ho]; rfl
  have o4 : (x.op == 4) = false := by rw [ho]; rfl
  have o5 : (x.op == 5) = false := by rw [ho]; rfl
  have HO := Lib.hid (And.intro ho hg9)
  clear ho hg9
  have hsl := HO.out.2.set HO.out.1
  have hsl2 := setOK_len hsl.1 0 (fun y hy => (hsl.1.1 y hy).1) (by omega)
  clear hsl
  go_enter Tryd.func42, Tryd.ntmps42
  go_wp2_with fail
  obtain ⟨X, hX⟩ : ∃ X, ((W.setCell ⟨G, 5, none⟩ (.int .i64 (s.steps + 1))).alloc (.cells #[.int .i64 x.op, .int .i64 x.out, .int .i64 x.arg, .slice B3 x.set.length d3, .int .i64 x.at_] 64)) = X := ⟨_, rfl⟩
  have hsz : (W.setCell ⟨G, 5, none⟩ (.int .i64 (s.steps + 1))).heap.size = W.heap.size := by simp [World.setCell]
  have hx0 := heap_new1 (W.setCell ⟨G, 5, none⟩ (.int .i64 (s.steps + 1))) (.cells #[.int .i64 x.op, .int .i64 x.out, .int .i64 x.arg, .slice B3 x.set.length d3, .int .i64 x.at_] 64)
  rw [hsz, hX] at hx0
  have hxS := heap_lt hx0
  have hX1 := H1.out.1.below (below_al (Below.refl _ _) (.cells #[.int .i64 x.op, .int .i64 x.out, .int .i64 x.arg, .slice B3 x.set.length d3, .int .i64 x.at_] 64))
  have hXB : Below (W.setCell ⟨G, 5, none⟩ (.int .i64 (s.steps + 1))).heap.size (W.setCell ⟨G, 5, none⟩ (.int .i64 (s.steps + 1))) X := by rw [← hX]; exact below_al (Below.refl _ _) _
  rw [hX] at hX1
  obtain ⟨x0, x1, x2, x3, x4⟩ := cells5 hx0
  clear q0 q3 q4 q5 q6 q7 q8 q9 m0 qf6 qf7 qf8 qf9 qf5 g0 g1 g2 g3 g4 k0 k1 k2 k3 k4 c0 c3 c4 c5 c6 c7 c8 c9 f5 hnb hx0
  obtain ⟨q0, q3, q4, q5, q6, q7, q8, q9, qf, m0⟩ := hX1.cells
  have hin2 := hinp.move (w' := X) (ok' := fun k => k < G) (fun k hk hlt => ⟨hXB.block k hlt, hk⟩)
  have hset2 := H1.out.2.2.2.1.move (w' := X) (ok' := fun k => k < G) (fun k hk hlt => ⟨hXB.block k hlt, hk⟩) (by omega)
  have HX := Lib.hid (And.intro hX1 (And.intro hXB (And.intro hin2 hset2)))
  rw [hX]
  clear hX hX1 hXB hin2 hset2 hinp
  refine wp_region_scr (fun W' => Below X.heap.size X W') [(true, 0, 53), (true, 1, 54), (true, 2, 55), (true, 3, 56), (true, 4, 57), (true, 5, 58), (true, 6, 59), (true, 7, 60), (true, 8, 61), (false, 9, 62), (false, 10, 63)] (by kernel_rfl) (by kernel_rfl) (fun _ _ _ _ _ h => h) rfl (by kernel_rfl) ?_
  have HV := Lib.hid (show Below X.heap.size X X.drew from (Below.refl _ _).drew)
  refine Scr.take (v := .pointer (some ⟨W.heap.size, 3, none⟩)) rfl rfl (yw_pure (by rfl) (fun _ => by go_simp)) HV.out ?_
  simp only [Act.put, List.setIfInBounds_toArray, List.set_cons_zero, List.set_cons_succ]
  refine Scr.take (v := .slice B3 x.set.length d3) rfl rfl (yw_cell 61 _ rfl ⟨W.heap.size, 3, none⟩ (.slice B3 x.set.length d3) rfl (by rfl) _ Tryd.underlying61 rfl (fun W hS => (World.cell?_of_block (hS.block _ hxS)).trans x3)) HV.out ?_
  simp only [Act.put, List.setIfInBounds_toArray, List.set_cons_zero, List.set_cons_succ]
  refine Scr.take (v := .pointer (some ⟨G, 0, none⟩)) rfl rfl (yw_pure (by rfl) (fun _ => by go_simp)) HV.out ?_
  simp only [Act.put, List.setIfInBounds_toArray, List.set_cons_zero, List.set_cons_succ]
  refine Scr.take (v := .pointer (some ⟨G, 0, none⟩)) rfl rfl (yw_pure (by rfl) (fun _ => by go_simp)) HV.out ?_
  simp only [Act.put, List.setIfInBounds_toArray, List.set_cons_zero, List.set_cons_succ]
  refine Scr.take (v := .pointer (some ⟨G, 3, none⟩)) rfl rfl (yw_pure (by rfl) (fun _ => by go_simp)) HV.out ?_
  simp only [Act.put, List.setIfInBounds_toArray, List.set_cons_zero, List.set_cons_succ]
  refine Scr.take (v := .pointer (some ia)) rfl rfl (yw_cell 32 _ rfl ⟨G, 3, none⟩ (.pointer (some ia)) rfl (by rfl) _ Tryd.underlying32 rfl (fun W hS => (World.cell?_of_block (hS.block _ m0)).trans q3)) HV.out ?_
  simp only [Act.put, List.setIfInBounds_toArray, List.set_cons_zero, List.set_cons_succ]
  refine Scr.take (v := .pointer (some ia)) rfl rfl (yw_pure (by rfl) (fun _ => by go_simp)) HV.out ?_
  simp only [Act.put, List.setIfInBounds_toArray, List.set_cons_zero, List.set_cons_succ]
  refine Scr.take (v := .pointer (some ia)) rfl rfl (yw_pure (by rfl) (fun _ => by go_simp)) HV.out ?_
  simp only [Act.put, List.setIfInBounds_toArray, List.set_cons_zero, List.set_cons_succ]
  refine Scr.take (v := .int .i64 pl) rfl rfl (yw_pure (by rfl) (fun _ => by go_simp)) HV.out ?_
  simp only [Act.put, List.setIfInBounds_toArray, List.set_cons_zero, List.set_cons_succ]
  refine Scr.run rfl (by rfl) (fun K hK => ?_)
  go_simp
  refine (rune_any (fun k => k < G) X.drew ia rs (HX.out.2.2.1.move (fun k hk _ => ⟨rfl, hk⟩)) pl).mono ?_
  rintro e w3 ⟨rfl, rfl⟩
  dsimp only
  refine hK _ _ HV.out ?_
  clear hK K
  have hhas := has_any (fun k => k < G) X.drew (runeAt rs pl) x.set B3 d3 (HX.out.2.2.2.move (fun k hk _ => ⟨rfl, hk⟩) (by omega)) (by omega)
  refine Scr.run rfl (by rfl) (fun K hK => ?_)
  go_simp
  refine hhas.mono ?_
  clear hhas
  rintro e w4 ⟨rfl, hb4⟩
  dsimp only
  have hB4 : Below X.heap.size X w4 := below_and (w1 := X.drew) hb4 (Below.refl _ _).drew
  refine hK _ _ hB4 ?_
  clear hK K HV hb4
  simp only [Scr]
  rw [hh]
  have h4 := HX.out.1.below hB4
  have y1 := (World.cell?_of_block (hB4.block _ hxS)).trans x1
  have ny : W.heap.size < w4.heap.size := Nat.lt_of_lt_of_le hxS hB4.size
  clear q0 q3 q4 q5 q6 q7 q8 q9 qf m0 x0 x1 x2 x3 x4
  obtain ⟨q0, q3, q4, q5, q6, q7, q8, q9, qf, m0⟩ := h4.cells
  have qf7 := qf 7
  have qf8 := qf 8
  have hfitX := H1.out.2.2.2.2.1.grown (grown_trans (grown_below HX.out.2.1 (some G)) (grown_below hB4 (some G)))
  have hgX := grown_trans H1.out.2.1 (grown_trans (grown_below HX.out.2.1 (some G)) (grown_below hB4 (some G)))
  have H4 := Lib.hid (And.intro h4 (And.intro hfitX hgX))
  clear h4 hfitX hgX hB4 qf
  go_wp2_with fail
  go_end0
  exact ⟨rfl, ⟨_, _, H4.out.1.setNext x.out H4.out.2.1⟩, grown_set (grown_set H4.out.2.2 7 _) 8 _⟩
set_option maxRecDepth 100000 in
set_option maxHeartbeats 4000000 in
theorem walk_setno (p : Pg) (G : Nat) (u0 u1 u2 : Value) (ia : Addr) (rs : List (Int × Int)) (lg : Bool) (w0 : World) (C : Ctx p G u0 u1 u2 ia rs w0) (n : Nat)
    (i : Nat) (pl : Int) (fit : List Int) (fv : Value) (s : Rn) (s0 : Ow) (bv nv : Value) (W : World) (hws : (waysW meetB un2 p (n + 1) i s0).1 = true) (hp : Pc p i) (hpl : 0 ≤ pl) (hpl2 : pl ≤ 1000000) (h : RnAt W G u0 u1 u2 ia lg bv nv s) (hf : FitL W G fv fit) (hfl : (fit.length : Int) = p.caps) (hB : Below G w0 W) (hst : 0 ≤ s.steps) (hpot : potR p (1 + fit.length) s0 s ≤ BIG) (hs : s.stop = false) (ho : (p.get i).op = 2) (hh : hasB (p.get i).set (runeAt rs pl) = false) :
    Calls Tryd.prog 42 #[.pointer (some ⟨G, 0, none⟩), .int .i64 i, .int .i64 pl, fv] W (RnPost G u0 u1 u2 ia lg (walkS p (runeAt rs) (atOf rs) lg (n + 1) i pl fit s) W) := by
  obtain ⟨c0, c3, c4, c5, c6, c7, c8, c9, f, n0⟩ := h.cells
  have f5 := f 5
  have hi : i < p.ins.length := by have := hp.2; omega
  have hsb : s.steps ≤ 1000000000000000000 := by unfold potR BIG at hpot; omega
  obtain ⟨F, cf, rfl, hf1, hf2, hf3⟩ := hf
  have hB0 : ∀ {X : World}, W.grownBy X (some G) → Below G w0 X := fun hg => hB.trans (below_of_grown hg (by omega))
  obtain ⟨ad, c, B3, d3, hps, hc1, hcm, hd3, hd3m, hadb, hins⟩ := ins_at C.pg C.size i hi
  simp only [List.cons.injEq, and_true] at hps
  obtain ⟨rfl, rfl, rfl⟩ := hps
  have hge := get_eq p i hi
  have hg9 := check_good C.chk hp
  have hck := check_ok C.chk
  have hfl4 : fit.length ≤ 4002 ∧ 2 ≤ fit.length := by have := hck.2.2.2.1; have := hck.2.2.2.2.1; omega
  rw [hs] at c9
  have h1 := h.setSteps (s.steps + 1)
  have hgr1 := grown_set0 W G 5 (.int .i64 (s.steps + 1))
  have hB1 := hB.trans (below_of_grown hgr1 (by omega))
  obtain ⟨hset, g0, g1, g2, g3, g4⟩ := hins _ hB1
  obtain ⟨_, k0, k1, k2, k3, k4⟩ := hins _ hB
  have hnb : ((ad.add (i * 5)).block = G) = False := by rw [add_block]; simp; omega
  obtain ⟨q0, q3, q4, q5, q6, q7, q8, q9x, qf, m0⟩ := h1.cells
  have q9 : (W.setCell ⟨G, 5, none⟩ (.int .i64 (s.steps + 1))).cell? ⟨G, 9, none⟩ = some (.bool false) := by rw [← hs]; exact q9x
  clear q9x
  have qf6 := qf 6
  have qf7 := qf 7
  have qf8 := qf 8
  have qf9 := qf 9
  have qf5 := qf 5
  have hfit1 := FitL.grown ⟨F, cf, rfl, hf1, hf2, hf3⟩ hgr1
  rw [show walkS p (runeAt rs) (atOf rs) lg (n + 1) i pl fit s = ⟨s.steps + 1, s.best, s.next, s.nf, s.stop⟩ by rw [walkS_new hs hge]; rw [← hge, if_neg (by omega), if_pos ho, if_neg (by rw [hh]; simp)]]
  have H1 := Lib.hid (And.intro h1 (And.intro hgr1 (And.intro hB1 (And.intro hset (And.intro hfit1 hws)))))
  have hinp := C.inp.move (w' := W.setCell ⟨G, 5, none⟩ (.int .i64 (s.steps + 1))) (ok' := fun k => k < G) (fun k hk hlt => ⟨hB1.block k hk, hk⟩)
  clear h h1 hgr1 hB1 hset hfit1 hf3 f qf hB hws hpot hs hins hck
  try rw [hge] at ho
  try rw [hge] at hg9
  try rw [hge]
  rw [hge] at hh
  clear hge
  generalize p.ins[i] = x at *
  have o1 : (x.op == 1) = false := by rw [ho]; rfl
  have o2 : (x.op == 2) = true := by rw [ho]; rfl
  have o3 : (x.op == 3) = false := by rw [ho]; rfl
  have o4 : (x.op == 4) = false := by rw [ho]; rfl
  have o5 : (x.op == 5) = false := by rw [ho]; rfl
  have HO := Lib.hid (And.intro ho hg9)
  clear ho hg9
  have hsl := HO.out.2.set HO.out.1
  have hsl2 := setOK_len hsl.1 0 (fun y hy => (hsl.1.1 y hy).1) (by omega)
  clear hsl
  go_enter Tryd.func42, Tryd.ntmps42
  go_wp2_with fail
  obtain ⟨X, hX⟩ : ∃ X, ((W.setCell ⟨G, 5, none⟩ (.int .i64 (s.steps + 1))).alloc (.cells #[.int .i64 x.op, .int .i64 x.out, .int .i64 x.arg, .slice B3 x.set.length d3, .int .i64 x.at_] 64)) = X := ⟨_, rfl⟩
  have hsz : (W.setCell ⟨G, 5, none⟩ (.int .i64 (s.steps + 1))).heap.size = W.heap.size := by simp [World.setCell]
  have hx0 := heap_new1 (W.setCell ⟨G, 5, none⟩ (.int .i64 (s.steps + 1))) (.cells #[.int .i64 x.op, .int .i64 x.out, .int .i64 x.arg, .slice B3 x.set.length d3, .int .i64 x.at_] 64)
  rw [hsz, hX] at hx0
  have hxS := heap_lt hx0
  have hX1 := H1.out.1.below (below_al (Below.refl _ _) (.cells #[.int .i64 x.op, .int .i64 x.out, .int .i64 x.arg, .slice B3 x.set.length d3, .int .i64 x.at_] 64))
  have hXB : Below (W.setCell ⟨G, 5, none⟩ (.int .i64 (s.steps + 1))).heap.size (W.setCell ⟨G, 5, none⟩ (.int .i64 (s.steps + 1))) X := by rw [← hX]; exact below_al (Below.refl _ _) _
  rw [hX] at hX1
  obtain ⟨x0, x1, x2, x3, x4⟩ := cells5 hx0
  clear q0 q3 q4 q5 q6 q7 q8 q9 m0 qf6 qf7 qf8 qf9 qf5 g0 g1 g2 g3 g4 k0 k1 k2 k3 k4 c0 c3 c4 c5 c6 c7 c8 c9 f5 hnb hx0
  obtain ⟨q0, q3, q4, q5, q6, q7, q8, q9, qf, m0⟩ := hX1.cells
  have hin2 := hinp.move (w' := X) (ok' := fun k => k < G) (fun k hk hlt => ⟨hXB.block k hlt, hk⟩)
  have hset2 := H1.out.2.2.2.1.move (w' := X) (ok' := fun k => k < G) (fun k hk hlt => ⟨hXB.block k hlt, hk⟩) (by omega)
  have HX := Lib.hid (And.intro hX1 (And.intro hXB (And.intro hin2 hset2)))
  rw [hX]
  clear hX hX1 hXB hin2 hset2 hinp
  refine wp_region_scr (fun W' => Below X.heap.size X W') [(true, 0, 53), (true, 1, 54), (true, 2, 55), (true, 3, 56), (true, 4, 57), (true, 5, 58), (true, 6, 59), (true, 7, 60), (true, 8, 61), (false, 9, 62), (false, 10, 63)] (by kernel_rfl) (by kernel_rfl) (fun _ _ _ _ _ h => h) rfl (by kernel_rfl) ?_
  have HV := Lib.hid (show Below X.heap.size X X.drew from (Below.refl _ _).drew)
  refine Scr.take (v := .pointer (some ⟨W.heap.size, 3, none⟩)) rfl rfl (yw_pure (by rfl) (fun _ => by go_simp)) HV.out ?_
  simp only [Act.put, List.setIfInBounds_toArray, List.set_cons_zero, List.set_cons_succ]
  refine Scr.take (v := .slice B3 x.set.length d3) rfl rfl (yw_cell 61 _ rfl ⟨W.heap.size, 3, none⟩ (.slice B3 x.set.length d3) rfl (by rfl) _ Tryd.underlying61 rfl (fun W hS => (World.cell?_of_block (hS.block _ hxS)).trans x3)) HV.out ?_
  simp only [Act.put, List.setIfInBounds_toArray, List.set_cons_zero, List.set_cons_succ]
  refine Scr.take (v := .pointer (some ⟨G, 0, none⟩)) rfl rfl (yw_pure (by rfl) (fun _ => by go_simp)) HV.out ?_
  simp only [Act.put, List.setIfInBounds_toArray, List.set_cons_zero, List.set_cons_succ]
  refine Scr.take (v := .pointer (some ⟨G, 0, none⟩)) rfl rfl (yw_pure (by rfl) (fun _ => by go_simp)) HV.out ?_
  simp only [Act.put, List.setIfInBounds_toArray, List.set_cons_zero, List.set_cons_succ]
  refine Scr.take (v := .pointer (some ⟨G, 3, none⟩)) rfl rfl (yw_pure (by rfl) (fun _ => by go_simp)) HV.out ?_
  simp only [Act.put, List.setIfInBounds_toArray, List.set_cons_zero, List.set_cons_succ]
  refine Scr.take (v := .pointer (some ia)) rfl rfl (yw_cell 32 _ rfl ⟨G, 3, none⟩ (.pointer (some ia)) rfl (by rfl) _ Tryd.underlying32 rfl (fun W hS => (World.cell?_of_block (hS.block _ m0)).trans q3)) HV.out ?_
  simp only [Act.put, List.setIfInBounds_toArray, List.set_cons_zero, List.set_cons_succ]
  refine Scr.take (v := .pointer (some ia)) rfl rfl (yw_pure (by rfl) (fun _ => by go_simp)) HV.out ?_
  simp only [Act.put, List.setIfInBounds_toArray, List.set_cons_zero, List.set_cons_succ]
  refine Scr.take (v := .pointer (some ia)) rfl rfl (yw_pure (by rfl) (fun _ => by go_simp)) HV.out ?_
  simp only [Act.put, List.setIfInBounds_toArray, List.set_cons_zero, List.set_cons_succ]
  refine Scr.take (v := .int .i64 pl) rfl rfl (yw_pure (by rfl) (fun _ => by go_simp)) HV.out ?_
  simp only [Act.put, List.setIfInBounds_toArray, List.set_cons_zero, List.set_cons_succ]
  refine Scr.run rfl (by rfl) (fun K hK => ?_)
  go_simp
  refine (rune_any (fun k => k < G) X.drew ia rs (HX.out.2.2.1.move (fun k hk _ => ⟨rfl, hk⟩)) pl).mono ?_
  rintro e w3 ⟨rfl, rfl⟩
  dsimp only
  refine hK _ _ HV.out ?_
  clear hK K
  have hhas := has_any (fun k => k < G) X.drew (runeAt rs pl) x.set B3 d3 (HX.out.2.2.2.move (fun k hk _ => ⟨rfl, hk⟩) (by omega)) (by omega)
  refine Scr.run rfl (by rfl) (fun K hK => ?_)
  go_simp
  refine hhas.mono ?_
  clear hhas
  rintro e w4 ⟨rfl, hb4⟩
  dsimp only
  have hB4 : Below X.heap.size X w4 := below_and (w1 := X.drew) hb4 (Below.refl _ _).drew
  refine hK _ _ hB4 ?_
  clear hK K HV hb4
  simp only [Scr]
  rw [hh]
  have h4 := HX.out.1.below hB4
  have y1 := (World.cell?_of_block (hB4.block _ hxS)).trans x1
  have ny : W.heap.size < w4.heap.size := Nat.lt_of_lt_of_le hxS hB4.size
  clear q0 q3 q4 q5 q6 q7 q8 q9 qf m0 x0 x1 x2 x3 x4
  obtain ⟨q0, q3, q4, q5, q6, q7, q8, q9, qf, m0⟩ := h4.cells
  have qf7 := qf 7
  have qf8 := qf 8
  have hfitX := H1.out.2.2.2.2.1.grown (grown_trans (grown_below HX.out.2.1 (some G)) (grown_below hB4 (some G)))
  have hgX := grown_trans H1.out.2.1 (grown_trans (grown_below HX.out.2.1 (some G)) (grown_below hB4 (some G)))
  have H4 := Lib.hid (And.intro h4 (And.intro hfitX hgX))
  clear h4 hfitX hgX hB4 qf
  go_wp2_with fail
  go_end0
  exact ⟨rfl, ⟨_, _, H4.out.1⟩, H4.out.2.2⟩
end Go.Proofs.YthclpabmbhpohaaDoor
namespace Go.Proofs.YthclpabmbhpohaaDoor
open Go.RowKit
set_option linter.unusedVariables false
set_option maxRecDepth 100000 in
set_option maxHeartbeats 4000000 in
theorem walk_alt (p : Pg) (G : Nat) (u0 u1 u2 : Value) (ia : Addr) (rs : List (Int × Int)) (lg : Bool) (w0 : World) (C : Ctx p G u0 u1 u2 ia rs w0) (n : Nat) (ih : WalkOK p G u0 u1 u2 ia rs lg w0 n)
    (i : Nat) (pl : Int) (fit : List Int) (fv : Value) (s : Rn) (s0 : Ow) (bv nv : Value) (W : World) (hws : (waysW meetB un2 p (n + 1) i s0).1 = true) (hp : Pc p i) (hpl : 0 ≤ pl) (hpl2 : pl ≤ 1000000) (h : RnAt W G u0 u1 u2 ia lg bv nv s) (hf : FitL W G fv fit) (hfl : (fit.length : Int) = p.caps) (hB : Below G w0 W) (hst : 0 ≤ s.steps) (hpot : potR p (1 + fit.length) s0 s ≤ BIG) (hs : s.stop = false) (ho : (p.get i).op = 3) :
    Calls Tryd.prog 42 #[.pointer (some ⟨G, 0, none⟩), .int .i64 i, .int .i64 pl, fv] W (RnPost G u0 u1 u2 ia lg (walkS p (runeAt rs) (atOf rs) lg (n + 1) i pl fit s) W) := by
  have hon := ways_on hws
  have hlf := pot_mul (K := 1 + fit.length) (onW_left hp hon)
  obtain ⟨wa1, wa2, wa3⟩ := ways_alt hws rfl ho
  have hlead := check_leads C.chk i hp
  have hp1 := hlead.1 (by omega)
  have hp2 := hlead.2 ho
  have hpt1 : potR p (1 + fit.length) (onW meetB un2 p i s0).2 ⟨s.steps + 1, s.best, s.next, s.nf, s.stop⟩ ≤ BIG := by unfold potR at hpot ⊢; dsimp only; omega
  have hpt2 := walkS_pot (runeAt rs) (atOf rs) lg (check_leads C.chk) (1 + fit.length) n (p.get i).out pl fit ⟨s.steps + 1, s.best, s.next, s.nf, s.stop⟩ _ hp1 wa1 (Nat.le_refl _)
  have e2 : walkS p (runeAt rs) (atOf rs) lg (n + 1) i pl fit s = walkS p (runeAt rs) (atOf rs) lg n (p.get i).arg pl fit (walkS p (runeAt rs) (atOf rs) lg n (p.get i).out pl fit ⟨s.steps + 1, s.best, s.next, s.nf, s.stop⟩) := by rw [walkS_new hs rfl, if_neg (by omega), if_neg (by omega), if_pos ho]
  have ih1 := fun bv nv W => ih (p.get i).out pl fit fv ⟨s.steps + 1, s.best, s.next, s.nf, s.stop⟩ _ bv nv W wa1 hp1 hpl hpl2
  have ih2 := fun bv nv W => ih (p.get i).arg pl fit fv (walkS p (runeAt rs) (atOf rs) lg n (p.get i).out pl fit ⟨s.steps + 1, s.best, s.next, s.nf, s.stop⟩) _ bv nv W wa2 hp2 hpl hpl2
  clear wa3 hlead hlf hon
  obtain ⟨c0, c3, c4, c5, c6, c7, c8, c9, f, n0⟩ := h.cells
  have f5 := f 5
  have hi : i < p.ins.length := by have := hp.2; omega
  have hsb : s.steps ≤ 1000000000000000000 := by unfold potR BIG at hpot; omega
  obtain ⟨F, cf, rfl, hf1, hf2, hf3⟩ := hf
  have hB0 : ∀ {X : World}, W.grownBy X (some G) → Below G w0 X := fun hg => hB.trans (below_of_grown hg (by omega))
  obtain ⟨ad, c, B3, d3, hps, hc1, hcm, hd3, hd3m, hadb, hins⟩ := ins_at C.pg C.size i hi
  simp only [List.cons.injEq, and_true] at hps
  obtain ⟨rfl, rfl, rfl⟩ := hps
  have hge := get_eq p i hi
  have hg9 := check_good C.chk hp
  have hck := check_ok C.chk
  have hfl4 : fit.length ≤ 4002 ∧ 2 ≤ fit.length := by have := hck.2.2.2.1; have := hck.2.2.2.2.1; omega
  rw [hs] at c9
  have h1 := h.setSteps (s.steps + 1)
  have hgr1 := grown_set0 W G 5 (.int .i64 (s.steps + 1))
  have hB1 := hB.trans (below_of_grown hgr1 (by omega))
  obtain ⟨hset, g0, g1, g2, g3, g4⟩ := hins _ hB1
  obtain ⟨_, k0, k1, k2, k3, k4⟩ := hins _ hB
  have hnb : ((ad.add (i * 5)).block = G) = False := by rw [add_block]; simp; omega
  obtain ⟨q0, q3, q4, q5, q6, q7, q8, q9x, qf, m0⟩ := h1.cells
  have q9 : (W.setCell ⟨G, 5, none⟩ (.int .i64 (s.steps + 1))).cell? ⟨G, 9, none⟩ = some (.bool false) := by rw [← hs]; exact q9x
  clear q9x
  have qf6 := qf 6
  have qf7 := qf 7
  have qf8 := qf 8
  have qf9 := qf 9
  have qf5 := qf 5
  have hfit1 := FitL.grown ⟨F, cf, rfl, hf1, hf2, hf3⟩ hgr1
  rw [e2]
  clear e2
  rw [hge] at ih1 ih2 hpt2 wa1 wa2 ⊢
  have H1 := Lib.hid (And.intro h1 (And.intro hgr1 (And.intro hB1 (And.intro hset (And.intro hfit1 hws)))))
  have hinp := C.inp.move (w' := W.setCell ⟨G, 5, none⟩ (.int .i64 (s.steps + 1))) (ok' := fun k => k < G) (fun k hk hlt => ⟨hB1.block k hk, hk⟩)
  clear ih
  clear h h1 hgr1 hB1 hset hfit1 hf3 f qf hB hws hpot hs hins hck
  try rw [hge] at ho
  try rw [hge] at hg9
  clear hge
  generalize p.ins[i] = x at *
  have o1 : (x.op == 1) = false := by rw [ho]; rfl
  have o2 : (x.op == 2) = false := by rw [ho]; rfl
  have o3 : (x.op == 3) = true := by rw [ho]; rfl
  have o4 : (x.op == 4) = false := by rw [ho]; rfl
  have o5 : (x.op == 5) = false := by rw [ho]; rfl
  have HO := Lib.hid (And.intro ho hg9)
  clear ho hg9
  have HI := Lib.hid (And.intro ih1 (And.intro ih2 (And.intro hpt1 hpt2)))
  clear ih1 ih2 hpt1 hpt2 wa1 wa2 hp1 hp2
  generalize walkS p (runeAt rs) (atOf rs) lg n x.out pl fit ⟨s.steps + 1, s.best, s.next, s.nf, s.stop⟩ = s2 at *
  go_enter Tryd.func42, Tryd.ntmps42
  go_wp2_with fail
  obtain ⟨X, hX⟩ : ∃ X, ((W.setCell ⟨G, 5, none⟩ (.int .i64 (s.steps + 1))).alloc (.cells #[.int .i64 x.op, .int .i64 x.out, .int .i64 x.arg, .slice B3 x.set.length d3, .int .i64 x.at_] 64)) = X := ⟨_, rfl⟩
  have hsz : (W.setCell ⟨G, 5, none⟩ (.int .i64 (s.steps + 1))).heap.size = W.heap.size := by simp [World.setCell]
  have hx0 := heap_new1 (W.setCell ⟨G, 5, none⟩ (.int .i64 (s.steps + 1))) (.cells #[.int .i64 x.op, .int .i64 x.out, .int .i64 x.arg, .slice B3 x.set.length d3, .int .i64 x.at_] 64)
  rw [hsz, hX] at hx0
  have hxS := heap_lt hx0
  have hX1 := H1.out.1.below (below_al (Below.refl _ _) (.cells #[.int .i64 x.op, .int .i64 x.out, .int .i64 x.arg, .slice B3 x.set.length d3, .int .i64 x.at_] 64))
  have hXB : Below (W.setCell ⟨G, 5, none⟩ (.int .i64 (s.steps + 1))).heap.size (W.setCell ⟨G, 5, none⟩ (.int .i64 (s.steps + 1))) X := by rw [← hX]; exact below_al (Below.refl _ _) _
  rw [hX] at hX1
  obtain ⟨x0, x1, x2, x3, x4⟩ := cells5 hx0
  clear q0 q3 q4 q5 q6 q7 q8 q9 m0 qf6 qf7 qf8 qf9 qf5 g0 g1 g2 g3 g4 k0 k1 k2 k3 k4 c0 c3 c4 c5 c6 c7 c8 c9 f5 hnb hx0
  obtain ⟨q0, q3, q4, q5, q6, q7, q8, q9, qf, m0⟩ := hX1.cells
  have hfitX := H1.out.2.2.2.2.1.grown (grown_below hXB (some G))
  have hgX := grown_trans H1.out.2.1 (grown_below hXB (some G))
  have hi1 := HI.out.1 _ _ X hX1 hfitX hfl (hB0 hgX) (by show 0 ≤ s.steps + 1; omega) HI.out.2.2.1
  have HX := Lib.hid (And.intro hX1 (And.intro hfitX (And.intro hgX (And.intro hxS (by rw [← hX]; exact (show _ from by
    have := heap_new1 (W.setCell ⟨G, 5, none⟩ (.int .i64 (s.steps + 1))) (.cells #[.int .i64 x.op, .int .i64 x.out, .int .i64 x.arg, .slice B3 x.set.length d3, .int .i64 x.at_] 64)
    rwa [hsz] at this) : X.heap[W.heap.size]? = some (.cells #[.int .i64 x.op, .int .i64 x.out, .int .i64 x.arg, .slice B3 x.set.length d3, .int .i64 x.at_] 64 (0, 0)))))))
  rw [hX]
  clear hX hX1 hXB hfitX hgX qf
  refine hi1.mono ?_
  clear hi1
  rintro e w3 ⟨rfl, ⟨bv3, nv3, h3⟩, hg3⟩
  dsimp only
  have hb3 := (hg3.block W.heap.size hxS (fun e => by cases e; omega)).trans HX.out.2.2.2.2
  clear x0 x1 x2 x3 x4 q0 q3 q4 q5 q6 q7 q8 q9 m0
  obtain ⟨x0, x1, x2, x3, x4⟩ := cells5 hb3
  have nx := heap_lt hb3
  have hi2 := HI.out.2.1 _ _ w3 h3 (HX.out.2.1.grown hg3) hfl (hB0 (grown_trans HX.out.2.2.1 hg3)) (by have := HI.out.2.2.2.1; omega) (Int.le_trans HI.out.2.2.2.2 HI.out.2.2.1)
  have H3 := Lib.hid (grown_trans HX.out.2.2.1 hg3)
  clear h3 hg3 hb3
  go_wp2_with fail
  refine hi2.mono ?_
  clear hi2
  rintro e w4 ⟨rfl, h4, hg4⟩
  dsimp only
  have H4 := Lib.hid (And.intro h4 (grown_trans H3.out hg4))
  clear h4 hg4
  go_wp2_with fail
  go_end0
  exact ⟨rfl, H4.out.1, H4.out.2⟩
set_option maxRecDepth 100000 in
set_option maxHeartbeats 4000000 in
theorem walk_cap (p : Pg) (G : Nat) (u0 u1 u2 : Value) (ia : Addr) (rs : List (Int × Int)) (lg : Bool) (w0 : World) (C : Ctx p G u0 u1 u2 ia rs w0) (n : Nat) (ih : WalkOK p G u0 u1 u2 ia rs lg w0 n)
    (i : Nat) (pl : Int) (fit : List Int) (fv : Value) (s : Rn) (s0 : Ow) (bv nv : Value) (W : World) (hws : (waysW meetB un2 p (n + 1) i s0).1 = true) (hp : Pc p i) (hpl : 0 ≤ pl) (hpl2 : pl ≤ 1000000) (h : RnAt W G u0 u1 u2 ia lg bv nv s) (hf : FitL W G fv fit) (hfl : (fit.length : Int) = p.caps) (hB : Below G w0 W) (hst : 0 ≤ s.steps) (hpot : potR p (1 + fit.length) s0 s ≤ BIG) (hs : s.stop = false) (ho : (p.get i).op = 4) :
    Calls Tryd.prog 42 #[.pointer (some ⟨G, 0, none⟩), .int .i64 i, .int .i64 pl, fv] W (RnPost G u0 u1 u2 ia lg (walkS p (runeAt rs) (atOf rs) lg (n + 1) i pl fit s) W) := by
  have hon := ways_on hws
  have hlf := pot_mul (K := 1 + fit.length) (onW_left hp hon)
  obtain ⟨wa1, wa3⟩ := ways_one hws rfl (.inl ho)
  have hp1 := (check_leads C.chk i hp).1 (by omega)
  have hpt1 : potR p (1 + (fit.set (p.get i).arg.toNat pl).length) (onW meetB un2 p i s0).2 ⟨s.steps + 1 + fit.length, s.best, s.next, s.nf, s.stop⟩ ≤ BIG := by rw [List.length_set]; unfold potR at hpot ⊢; dsimp only; omega
  have e2 : walkS p (runeAt rs) (atOf rs) lg (n + 1) i pl fit s = walkS p (runeAt rs) (atOf rs) lg n (p.get i).out pl (fit.set (p.get i).arg.toNat pl) ⟨s.steps + 1 + fit.length, s.best, s.next, s.nf, s.stop⟩ := by rw [walkS_new hs rfl, if_neg (by omega), if_neg (by omega), if_neg (by omega), if_pos ho]
  have ih1 := fun fv bv nv W => ih (p.get i).out pl (fit.set (p.get i).arg.toNat pl) fv ⟨s.steps + 1 + fit.length, s.best, s.next, s.nf, s.stop⟩ _ bv nv W wa1 hp1 hpl hpl2
  clear wa3 hlf hon
  obtain ⟨c0, c3, c4, c5, c6, c7, c8, c9, f, n0⟩ := h.cells
  have f5 := f 5
  have hi : i < p.ins.length := by have := hp.2; omega
  have hsb : s.steps ≤ 1000000000000000000 := by unfold potR BIG at hpot; omega
  obtain ⟨F, cf, rfl, hf1, hf2, hf3⟩ := hf
  have hB0 : ∀ {X : World}, W.grownBy X (some G) → Below G w0 X := fun hg => hB.trans (below_of_grown hg (by omega))
  obtain ⟨ad, c, B3, d3, hps, hc1, hcm, hd3, hd3m, hadb, hins⟩ := ins_at C.pg C.size i hi
  simp only [List.cons.injEq, and_true] at hps
  obtain ⟨rfl, rfl, rfl⟩ := hps
  have hge := get_eq p i hi
  have hg9 := check_good C.chk hp
  have hck := check_ok C.chk
  have hfl4 : fit.length ≤ 4002 ∧ 2 ≤ fit.length := by have := hck.2.2.2.1; have := hck.2.2.2.2.1; omega
  rw [hs] at c9
  have h1 := h.setSteps (s.steps + 1)
  have hgr1 := grown_set0 W G 5 (.int .i64 (s.steps + 1))
  have hB1 := hB.trans (below_of_grown hgr1 (by omega))
  obtain ⟨hset, g0, g1, g2, g3, g4⟩ := hins _ hB1
  obtain ⟨_, k0, k1, k2, k3, k4⟩ := hins _ hB
  have hnb : ((ad.add (i * 5)).block = G) = False := by rw [add_block]; simp; omega
  obtain ⟨q0, q3, q4, q5, q6, q7, q8, q9x, qf, m0⟩ := h1.cells
  have q9 : (W.setCell ⟨G, 5, none⟩ (.int .i64 (s.steps + 1))).cell? ⟨G, 9, none⟩ = some (.bool false) := by rw [← hs]; exact q9x
  clear q9x
  have qf6 := qf 6
  have qf7 := qf 7
  have qf8 := qf 8
  have qf9 := qf 9
  have qf5 := qf 5
  have hfit1 := FitL.grown ⟨F, cf, rfl, hf1, hf2, hf3⟩ hgr1
  rw [e2]
  clear e2
  rw [hge] at ih1 wa1 hpt1 ⊢
  have H1 := Lib.hid (And.intro h1 (And.intro hgr1 (And.intro hB1 (And.intro hset (And.intro hfit1 hws)))))
  have hinp := C.inp.move (w' := W.setCell ⟨G, 5, none⟩ (.int .i64 (s.steps + 1))) (ok' := fun k => k < G) (fun k hk hlt => ⟨hB1.block k hk, hk⟩)
  clear ih
  clear h h1 hgr1 hB1 hset hfit1 hf3 f qf hB hws hpot hs hins hck
  try rw [hge] at ho
  try rw [hge] at hg9
  clear hge
  generalize p.ins[i] = x at *
  have o1 : (x.op == 1) = false := by rw [ho]; rfl
  have o2 : (x.op == 2) = false := by rw [ho]; rfl
  have o3 : (x.op == 3) = false := by rw [ho]; rfl
  have o4 : (x.op == 4) = true := by rw [ho]; rfl
  have o5 : (x.op == 5) = false := by rw [ho]; rfl
  have HO := Lib.hid (And.intro ho hg9)
  clear ho hg9
  have HI := Lib.hid (And.intro ih1 hpt1)
  clear ih1 hpt1 wa1 hp1
  have hcp := HO.out.2.cap HO.out.1
  obtain ⟨m, hm⟩ := Int.eq_ofNat_of_zero_le (show 0 ≤ x.arg by omega)
  have hcl := fun (X : World) (hX : (W.setCell ⟨G, 5, none⟩ (.int .i64 (s.steps + 1))).grownBy X (some G)) => cloneI_any (fun k => k ≠ G) X F cf fit (by
    obtain ⟨A9, c9, e9, _, _, h9⟩ := H1.out.2.2.2.2.1.grown hX
    cases e9; exact h9) (by omega) (by omega)
  have HM := Lib.hid hm
  have HFL := Lib.hid hfl
  have harg := hcp
  clear hm hfl
  go_enter Tryd.func42, Tryd.ntmps42
  go_wp2_with fail
  obtain ⟨X, hX⟩ : ∃ X, ((W.setCell ⟨G, 5, none⟩ (.int .i64 (s.steps + 1))).alloc (.cells #[.int .i64 x.op, .int .i64 x.out, .int .i64 x.arg, .slice B3 x.set.length d3, .int .i64 x.at_] 64)) = X := ⟨_, rfl⟩
  have hsz : (W.setCell ⟨G, 5, none⟩ (.int .i64 (s.steps + 1))).heap.size = W.heap.size := by simp [World.setCell]
  have hx0 := heap_new1 (W.setCell ⟨G, 5, none⟩ (.int .i64 (s.steps + 1))) (.cells #[.int .i64 x.op, .int .i64 x.out, .int .i64 x.arg, .slice B3 x.set.length d3, .int .i64 x.at_] 64)
  rw [hsz, hX] at hx0
  have hxS := heap_lt hx0
  have hX1 := H1.out.1.below (below_al (Below.refl _ _) (.cells #[.int .i64 x.op, .int .i64 x.out, .int .i64 x.arg, .slice B3 x.set.length d3, .int .i64 x.at_] 64))
  have hXB : Below (W.setCell ⟨G, 5, none⟩ (.int .i64 (s.steps + 1))).heap.size (W.setCell ⟨G, 5, none⟩ (.int .i64 (s.steps + 1))) X := by rw [← hX]; exact below_al (Below.refl _ _) _
  rw [hX] at hX1
  obtain ⟨x0, x1, x2, x3, x4⟩ := cells5 hx0
  clear q0 q3 q4 q5 q6 q7 q8 q9 m0 qf6 qf7 qf8 qf9 qf5 g0 g1 g2 g3 g4 k0 k1 k2 k3 k4 c0 c3 c4 c5 c6 c7 c8 c9 f5 hnb hx0
  obtain ⟨q0, q3, q4, q5, q6, q7, q8, q9, qf, m0⟩ := hX1.cells
  have hxc : X.heap[W.heap.size]? = some (.cells #[.int .i64 x.op, .int .i64 x.out, .int .i64 x.arg, .slice B3 x.set.length d3, .int .i64 x.at_] 64 (0, 0)) := by
    rw [← hX]
    have := heap_new1 (W.setCell ⟨G, 5, none⟩ (.int .i64 (s.steps + 1))) (.cells #[.int .i64 x.op, .int .i64 x.out, .int .i64 x.arg, .slice B3 x.set.length d3, .int .i64 x.at_] 64)
    rwa [hsz] at this
  have hcl := hcl X (grown_below hXB _)
  have hgX := grown_trans H1.out.2.1 (grown_below hXB (some G))
  have HX := Lib.hid (And.intro hX1 (And.intro hgX (And.intro hXB hxc)))
  rw [hX]
  clear hX hX1 hXB hgX qf hxc
  refine hcl.mono ?_
  clear hcl
  rintro e w2 ⟨g, cg, rfl, hown, hb2⟩
  dsimp only
  have h2 := HX.out.1.below hb2
  have hbX := hb2
  have hgn : X.heap.size ≤ g := (hown.lt g rfl).1
  have hgr2 := grown_trans HX.out.2.1 (grown_below hb2 (some G))
  obtain ⟨cs2, hk2⟩ := own_blk hown rfl
  have hb3 := (hb2.block W.heap.size hxS).trans HX.out.2.2.2
  clear x0 x1 x2 x3 x4 q0 q3 q4 q5 q6 q7 q8 q9
  obtain ⟨x0, x1, x2, x3, x4⟩ := cells5 hb3
  have nx := heap_lt hb3
  have hml : m < fit.length := by have := HM.out; have := HFL.out; omega
  have hcell1 : ∃ u, w2.cell? ⟨g, m, none⟩ = some u := by
    obtain ⟨ad9, e9, hc9⟩ := ints_at (ownI64_arr0 hown) m hml
    cases e9
    have hadd : (⟨g, 0, none⟩ : Addr).add m = ⟨g, m, none⟩ := by unfold Addr.add; split <;> simp_all
    rw [hadd] at hc9
    exact ⟨_, hc9⟩
  obtain ⟨u9, hcell1⟩ := hcell1
  obtain ⟨q0, q3, q4, q5, q6, q7, q8, q9, qf, m1⟩ := h2.cells
  have qf5 := qf 5
  have hgf : w2.frozen? ⟨g, m, none⟩ = false := frozenOf hk2 m
  have hng := heap_lt hk2
  have hGg' : (g = G) = False := by simp; omega
  have hGg2 : (G = g) = False := by simp; omega
  have hgx : (g = W.heap.size) = False := by simp; omega
  have hgx2 : (W.heap.size = g) = False := by simp; omega
  have hGx : (G = W.heap.size) = False := by simp; omega
  have hGx2 : (W.heap.size = G) = False := by simp; omega
  have H2 := Lib.hid (And.intro h2 (And.intro hgr2 (And.intro hown hb3)))
  clear h2 hgr2 hown hb2 hk2 qf hb3
  rw [HM.out] at x2
  go_wp2_with fail
  obtain ⟨h2, hgr2, hown, hb3⟩ := H2.out
  have hz1 : RnAt (w2.setCell ⟨g, m, none⟩ (.int .i64 pl)) G (.slice (some ad) p.ins.length c) (.int .i64 p.start) (.int .i64 p.caps) ia lg bv nv ⟨s.steps + 1, s.best, s.next, s.nf, s.stop⟩ := by
    have hgx9 : X.grownBy (w2.setCell ⟨g, m, none⟩ (.int .i64 pl)) (some G) := grown_new (grown_below hbX _) hgn m _
    exact ⟨(set_ne0 _ _ (by show G ≠ g; omega)).trans h2.blk, HX.out.1.best.grown hgx9, HX.out.1.nf.grown hgx9⟩
  have hz2 := hz1.setSteps (s.steps + 1 + fit.length)
  have hgZ : W.grownBy ((w2.setCell ⟨g, m, none⟩ (.int .i64 pl)).setCell ⟨G, 5, none⟩ (.int .i64 (s.steps + 1 + fit.length))) (some G) := grown_set (grown_new hgr2 (by have := HX.out.2.1.size; omega) m _) 5 _
  have hfZ : FitL ((w2.setCell ⟨g, m, none⟩ (.int .i64 pl)).setCell ⟨G, 5, none⟩ (.int .i64 (s.steps + 1 + fit.length))) G (.slice (some ⟨g, 0, none⟩) fit.length cg) (fit.set x.arg.toNat pl) := by
    rw [show x.arg.toNat = m by rw [HM.out]; rfl]
    exact (owns_fit (owns_put hown m pl) (by omega)).grown (grown_set0 _ G 5 _)
  refine (HI.out.1 _ _ _ _ hz2 hfZ (by rw [List.length_set]; exact HFL.out) (hB0 hgZ) (by omega) HI.out.2).mono ?_
  rintro e w4 ⟨rfl, h4, hg4⟩
  dsimp only
  have H4 := Lib.hid (And.intro h4 (grown_trans hgZ hg4))
  clear h4 hg4 hz1 hz2 hgZ hfZ h2 hgr2 hown hb3
  go_wp2_with fail
  go_end0
  exact ⟨rfl, H4.out.1, H4.out.2⟩
set_option maxRecDepth 100000 in
set_option maxHeartbeats 4000000 in
theorem walk_atyes (p : Pg) (G : Nat) (u0 u1 u2 : Value) (ia : Addr) (rs : List (Int × Int)) (lg : Bool) (w0 : World) (C : Ctx p G u0 u1 u2 ia rs w0) (n : Nat) (ih : WalkOK p G u0 u1 u2 ia rs lg w0 n)
    (i : Nat) (pl : Int) (fit : List Int) (fv : Value) (s : Rn) (s0 : Ow) (bv nv : Value) (W : World) (hws : (waysW meetB un2 p (n + 1) i s0).1 = true) (hp : Pc p i) (hpl : 0 ≤ pl) (hpl2 : pl ≤ 1000000) (h : RnAt W G u0 u1 u2 ia lg bv nv s) (hf : FitL W G fv fit) (hfl : (fit.length : Int) = p.caps) (hB : Below G w0 W) (hst : 0 ≤ s.steps) (hpot : potR p (1 + fit.length) s0 s ≤ BIG) (hs : s.stop = false) (ho : (p.get i).op = 5) (hh : hitB (atOf rs pl) (p.get i).at_ = true) :
    Calls Tryd.prog 42 #[.pointer (some ⟨G, 0, none⟩), .int .i64 i, .int .i64 pl, fv] W (RnPost G u0 u1 u2 ia lg (walkS p (runeAt rs) (atOf rs) lg (n + 1) i pl fit s) W) := by
  have hon := ways_on hws
  have hlf := pot_mul (K := 1 + fit.length) (onW_left hp hon)
  obtain ⟨wa1, wa3⟩ := ways_one hws rfl (.inr ho)
  have hp1 := (check_leads C.chk i hp).1 (by omega)
  have hpt1 : potR p (1 + fit.length) (onW meetB un2 p i s0).2 ⟨s.steps + 1, s.best, s.next, s.nf, s.stop⟩ ≤ BIG := by unfold potR at hpot ⊢; dsimp only; omega
  have e2 : walkS p (runeAt rs) (atOf rs) lg (n + 1) i pl fit s = walkS p (runeAt rs) (atOf rs) lg n (p.get i).out pl fit ⟨s.steps + 1, s.best, s.next, s.nf, s.stop⟩ := by rw [walkS_new hs rfl, if_neg (by omega), if_neg (by omega), if_neg (by omega), if_neg (by omega), if_pos ho, if_pos hh]
  have ih1 := fun bv nv W => ih (p.get i).out pl fit fv ⟨s.steps + 1, s.best, s.next, s.nf, s.stop⟩ _ bv nv W wa1 hp1 hpl hpl2
  clear wa3 hlf hon
  obtain ⟨c0, c3, c4, c5, c6, c7, c8, c9, f, n0⟩ := h.cells
  have f5 := f 5
  have hi : i < p.ins.length := by have := hp.2; omega
  have hsb : s.steps ≤ 1000000000000000000 := by unfold potR BIG at hpot; omega
  obtain ⟨F, cf, rfl, hf1, hf2, hf3⟩ := hf
  have hB0 : ∀ {X : World}, W.grownBy X (some G) → Below G w0 X := fun hg => hB.trans (below_of_grown hg (by omega))
  obtain ⟨ad, c, B3, d3, hps, hc1, hcm, hd3, hd3m, hadb, hins⟩ := ins_at C.pg C.size i hi
  simp only [List.cons.injEq, and_true] at hps
  obtain ⟨rfl, rfl, rfl⟩ := hps
  have hge := get_eq p i hi
  have hg9 := check_good C.chk hp
  have hck := check_ok C.chk
  have hfl4 : fit.length ≤ 4002 ∧ 2 ≤ fit.length := by have := hck.2.2.2.1; have := hck.2.2.2.2.1; omega
  rw [hs] at c9
  have h1 := h.setSteps (s.steps + 1)
  have hgr1 := grown_set0 W G 5 (.int .i64 (s.steps + 1))
  have hB1 := hB.trans (below_of_grown hgr1 (by omega))
  obtain ⟨hset, g0, g1, g2, g3, g4⟩ := hins _ hB1
  obtain ⟨_, k0, k1, k2, k3, k4⟩ := hins _ hB
  have hnb : ((ad.add (i * 5)).block = G) = False := by rw [add_block]; simp; omega
  obtain ⟨q0, q3, q4, q5, q6, q7, q8, q9x, qf, m0⟩ := h1.cells
  have q9 : (W.setCell ⟨G, 5, none⟩ (.int .i64 (s.steps + 1))).cell? ⟨G, 9, none⟩ = some (.bool false) := by rw [← hs]; exact q9x
  clear q9x
  have qf6 := qf 6
  have qf7 := qf 7
  have qf8 := qf 8
  have qf9 := qf 9
  have qf5 := qf 5
  have hfit1 := FitL.grown ⟨F, cf, rfl, hf1, hf2, hf3⟩ hgr1
  rw [e2]
  clear e2
  rw [hge] at ih1 wa1 ⊢
  have H1 := Lib.hid (And.intro h1 (And.intro hgr1 (And.intro hB1 (And.intro hset (And.intro hfit1 hws)))))
  have hinp := C.inp.move (w' := W.setCell ⟨G, 5, none⟩ (.int .i64 (s.steps + 1))) (ok' := fun k => k < G) (fun k hk hlt => ⟨hB1.block k hk, hk⟩)
  clear ih
  clear h h1 hgr1 hB1 hset hfit1 hf3 f qf hB hws hpot hs hins hck
  try rw [hge] at ho
  try rw [hge] at hg9
  rw [hge] at hh
  clear hge
  generalize p.ins[i] = x at *
  have o1 : (x.op == 1) = false := by rw [ho]; rfl
  have o2 : (x.op == 2) = false := by rw [ho]; rfl
  have o3 : (x.op == 3) = false := by rw [ho]; rfl
  have o4 : (x.op == 4) = false := by rw [ho]; rfl
  have o5 : (x.op == 5) = true := by rw [ho]; rfl
  have HO := Lib.hid (And.intro ho hg9)
  clear ho hg9
  have HI := Lib.hid (And.intro ih1 hpt1)
  clear ih1 hpt1 wa1 hp1
  generalize hwk : walkS p (runeAt rs) (atOf rs) lg n x.out pl fit ⟨s.steps + 1, s.best, s.next, s.nf, s.stop⟩ = s2 at *
  clear hwk
  go_enter Tryd.func42, Tryd.ntmps42
  go_wp2_with fail
  obtain ⟨X, hX⟩ : ∃ X, ((W.setCell ⟨G, 5, none⟩ (.int .i64 (s.steps + 1))).alloc (.cells #[.int .i64 x.op, .int .i64 x.out, .int .i64 x.arg, .slice B3 x.set.length d3, .int .i64 x.at_] 64)) = X := ⟨_, rfl⟩
  have hsz : (W.setCell ⟨G, 5, none⟩ (.int .i64 (s.steps + 1))).heap.size = W.heap.size := by simp [World.setCell]
  have hx0 := heap_new1 (W.setCell ⟨G, 5, none⟩ (.int .i64 (s.steps + 1))) (.cells #[.int .i64 x.op, .int .i64 x.out, .int .i64 x.arg, .slice B3 x.set.length d3, .int .i64 x.at_] 64)
  rw [hsz, hX] at hx0
  have hxS := heap_lt hx0
  have hX1 := H1.out.1.below (below_al (Below.refl _ _) (.cells #[.int .i64 x.op, .int .i64 x.out, .int .i64 x.arg, .slice B3 x.set.length d3, .int .i64 x.at_] 64))
  have hXB : Below (W.setCell ⟨G, 5, none⟩ (.int .i64 (s.steps + 1))).heap.size (W.setCell ⟨G, 5, none⟩ (.int .i64 (s.steps + 1))) X := by rw [← hX]; exact below_al (Below.refl _ _) _
  rw [hX] at hX1
  obtain ⟨x0, x1, x2, x3, x4⟩ := cells5 hx0
  clear q0 q3 q4 q5 q6 q7 q8 q9 m0 qf6 qf7 qf8 qf9 qf5 g0 g1 g2 g3 g4 k0 k1 k2 k3 k4 c0 c3 c4 c5 c6 c7 c8 c9 f5 hnb hx0
  obtain ⟨q0, q3, q4, q5, q6, q7, q8, q9, qf, m0⟩ := hX1.cells
  have hxc : X.heap[W.heap.size]? = some (.cells #[.int .i64 x.op, .int .i64 x.out, .int .i64 x.arg, .slice B3 x.set.length d3, .int .i64 x.at_] 64 (0, 0)) := by
    rw [← hX]
    have := heap_new1 (W.setCell ⟨G, 5, none⟩ (.int .i64 (s.steps + 1))) (.cells #[.int .i64 x.op, .int .i64 x.out, .int .i64 x.arg, .slice B3 x.set.length d3, .int .i64 x.at_] 64)
    rwa [hsz] at this
  have hin2 := hinp.move (w' := X) (ok' := fun k => k < G) (fun k hk hlt => ⟨hXB.block k hlt, hk⟩)
  have HX := Lib.hid (And.intro hX1 (And.intro hXB (And.intro hin2 hxc)))
  rw [hX]
  clear hX hX1 hXB hin2 hinp hxc
  refine wp_region_scr (fun W' => Below X.heap.size X W') [(true, 0, 113), (true, 1, 114), (true, 2, 115), (true, 3, 116), (true, 4, 117), (true, 6, 119), (true, 7, 120), (false, 5, 118), (true, 8, 121), (true, 9, 122)] (by kernel_rfl) (by kernel_rfl) (fun _ _ _ _ _ h => h) rfl (by kernel_rfl) ?_
  have HV := Lib.hid (show Below X.heap.size X X.drew from (Below.refl _ _).drew)
  refine Scr.take (v := .pointer (some ⟨G, 0, none⟩)) rfl rfl (yw_pure (by rfl) (fun _ => by go_simp)) HV.out ?_
  simp only [Act.put, List.setIfInBounds_toArray, List.set_cons_zero, List.set_cons_succ]
  refine Scr.take (v := .pointer (some ⟨G, 0, none⟩)) rfl rfl (yw_pure (by rfl) (fun _ => by go_simp)) HV.out ?_
  simp only [Act.put, List.setIfInBounds_toArray, List.set_cons_zero, List.set_cons_succ]
  refine Scr.take (v := .pointer (some ⟨G, 3, none⟩)) rfl rfl (yw_pure (by rfl) (fun _ => by go_simp)) HV.out ?_
  simp only [Act.put, List.setIfInBounds_toArray, List.set_cons_zero, List.set_cons_succ]
  refine Scr.take (v := .pointer (some ia)) rfl rfl (yw_cell 32 _ rfl ⟨G, 3, none⟩ (.pointer (some ia)) rfl (by rfl) _ Tryd.underlying32 rfl (fun W hS => (World.cell?_of_block (hS.block _ m0)).trans q3)) HV.out ?_
  simp only [Act.put, List.setIfInBounds_toArray, List.set_cons_zero, List.set_cons_succ]
  refine Scr.take (v := .int .i64 pl) rfl rfl (yw_pure (by rfl) (fun _ => by go_simp)) HV.out ?_
  simp only [Act.put, List.setIfInBounds_toArray, List.set_cons_zero, List.set_cons_succ]
  refine Scr.take (v := .pointer (some ⟨W.heap.size, 4, none⟩)) rfl rfl (yw_pure (by rfl) (fun _ => by go_simp)) HV.out ?_
  simp only [Act.put, List.setIfInBounds_toArray, List.set_cons_zero, List.set_cons_succ]
  refine Scr.take (v := .int .i64 x.at_) rfl rfl (yw_cell 62 _ rfl ⟨W.heap.size, 4, none⟩ (.int .i64 x.at_) rfl (by rfl) _ Tryd.underlying62 rfl (fun W hS => (World.cell?_of_block (hS.block _ hxS)).trans x4)) HV.out ?_
  simp only [Act.put, List.setIfInBounds_toArray, List.set_cons_zero, List.set_cons_succ]
  have hat := at_any (fun k => k < G) X.drew ia rs (HX.out.2.2.1.move (fun k hk _ => ⟨rfl, hk⟩)) pl (by omega)
  refine Scr.run rfl (by rfl) (fun K hK => ?_)
  go_simp
  refine hat.mono ?_
  clear hat
  rintro e w4 ⟨rfl, nq, hw4⟩
  dsimp only
  have hB4 : Below X.heap.size X w4 := by rw [hw4]; exact below_drewN (Below.refl _ _).drew nq
  refine hK _ _ hB4 ?_
  clear hK K HV hw4
  have HV := Lib.hid hB4
  have hh' : (bits .and .i64 (atOf rs pl) x.at_ != 0) = true := hh
  generalize atOf rs pl = av at *
  refine Scr.take (v := .int .i64 (bits .and .i64 av x.at_)) rfl rfl (yw_pure (by rfl) (fun _ => by go_simp)) HV.out ?_
  simp only [Act.put, List.setIfInBounds_toArray, List.set_cons_zero, List.set_cons_succ]
  refine Scr.take (v := .bool (bits .and .i64 av x.at_ != 0)) rfl rfl (yw_pure (by rfl) (fun _ => by go_simp)) HV.out ?_
  simp only [Act.put, List.setIfInBounds_toArray, List.set_cons_zero, List.set_cons_succ]
  simp only [Scr]
  rw [hh']
  clear hh' hh
  have h4 := HX.out.1.below hB4
  have hb3 := (hB4.block W.heap.size hxS).trans HX.out.2.2.2
  clear x0 x1 x2 x3 x4
  obtain ⟨x0, x1, x2, x3, x4⟩ := cells5 hb3
  have ny : W.heap.size < w4.heap.size := heap_lt hb3
  clear q0 q3 q4 q5 q6 q7 q8 q9 qf m0
  have hfitX := H1.out.2.2.2.2.1.grown (grown_trans (grown_below HX.out.2.1 (some G)) (grown_below hB4 (some G)))
  have hgX := grown_trans H1.out.2.1 (grown_trans (grown_below HX.out.2.1 (some G)) (grown_below hB4 (some G)))
  have H4 := Lib.hid (And.intro h4 (And.intro hfitX hgX))
  clear h4 hfitX hgX hB4 hb3
  go_wp2_with fail
  refine (HI.out.1 _ _ w4 H4.out.1 H4.out.2.1 hfl (hB0 H4.out.2.2) (by show 0 ≤ s.steps + 1; omega) HI.out.2).mono ?_
  rintro e w5 ⟨rfl, h5, hg5⟩
  dsimp only
  have H5 := Lib.hid (And.intro h5 (grown_trans H4.out.2.2 hg5))
  clear h5 hg5
  go_wp2_with fail
  go_end0
  exact ⟨rfl, H5.out.1, H5.out.2⟩
set_option maxRecDepth 100000 in
set_option maxHeartbeats 4000000 in
theorem walk_atno (p : Pg) (G : Nat) (u0 u1 u2 : Value) (ia : Addr) (rs : List (Int × Int)) (lg : Bool) (w0 : World) (C : Ctx p G u0 u1 u2 ia rs w0) (n : Nat)
    (i : Nat) (pl : Int) (fit : List Int) (fv : Value) (s : Rn) (s0 : Ow) (bv nv : Value) (W : World) (hws : (waysW meetB un2 p (n + 1) i s0).1 = true) (hp : Pc p i) (hpl : 0 ≤ pl) (hpl2 : pl ≤ 1000000) (h : RnAt W G u0 u1 u2 ia lg bv nv s) (hf : FitL W G fv fit) (hfl : (fit.length : Int) = p.caps) (hB : Below G w0 W) (hst : 0 ≤ s.steps) (hpot : potR p (1 + fit.length) s0 s ≤ BIG) (hs : s.stop = false) (ho : (p.get i).op = 5) (hh : hitB (atOf rs pl) (p.get i).at_ = false) :
    Calls Tryd.prog 42 #[.pointer (some ⟨G, 0, none⟩), .int .i64 i, .int .i64 pl, fv] W (RnPost G u0 u1 u2 ia lg (walkS p (runeAt rs) (atOf rs) lg (n + 1) i pl fit s) W) := by
  obtain ⟨c0, c3, c4, c5, c6, c7, c8, c9, f, n0⟩ := h.cells
  have f5 := f 5
  have hi : i < p.ins.length := by have := hp.2; omega
  have hsb : s.steps ≤ 1000000000000000000 := by unfold potR BIG at hpot; omega
  obtain ⟨F, cf, rfl, hf1, hf2, hf3⟩ := hf
  have hB0 : ∀ {X : World}, W.grownBy X (some G) → Below G w0 X := fun hg => hB.trans (below_of_grown hg (by omega))
  obtain ⟨ad, c, B3, d3, hps, hc1, hcm, hd3, hd3m, hadb, hins⟩ := ins_at C.pg C.size i hi
  simp only [List.cons.injEq, and_true] at hps
  obtain ⟨rfl, rfl, rfl⟩ := hps
  have hge := get_eq p i hi
  have hg9 := check_good C.chk hp
  have hck := check_ok C.chk
  have hfl4 : fit.length ≤ 4002 ∧ 2 ≤ fit.length := by have := hck.2.2.2.1; have := hck.2.2.2.2.1; omega
  rw [hs] at c9
  have h1 := h.setSteps (s.steps + 1)
  have hgr1 := grown_set0 W G 5 (.int .i64 (s.steps + 1))
  have hB1 := hB.trans (below_of_grown hgr1 (by omega))
  obtain ⟨hset, g0, g1, g2, g3, g4⟩ := hins _ hB1
  obtain ⟨_, k0, k1, k2, k3, k4⟩ := hins _ hB
  have hnb : ((ad.add (i * 5)).block = G) = False := by rw [add_block]; simp; omega
  obtain ⟨q0, q3, q4, q5, q6, q7, q8, q9x, qf, m0⟩ := h1.cells
  have q9 : (W.setCell ⟨G, 5, none⟩ (.int .i64 (s.steps + 1))).cell? ⟨G, 9, none⟩ = some (.bool false) := by rw [← hs]; exact q9x
  clear q9x
  have qf6 := qf 6
  have qf7 := qf 7
  have qf8 := qf 8
  have qf9 := qf 9
  have qf5 := qf 5
  have hfit1 := FitL.grown ⟨F, cf, rfl, hf1, hf2, hf3⟩ hgr1
  rw [show walkS p (runeAt rs) (atOf rs) lg (n + 1) i pl fit s = ⟨s.steps + 1, s.best, s.next, s.nf, s.stop⟩ by rw [walkS_new hs hge]; rw [← hge, if_neg (by omega), if_neg (by omega), if_neg (by omega), if_neg (by omega), if_pos ho, if_neg (by rw [hh]; simp)]]
  have H1 := Lib.hid (And.intro h1 (And.intro hgr1 (And.intro hB1 (And.intro hset (And.intro hfit1 hws)))))
  have hinp := C.inp.move (w' := W.setCell ⟨G, 5, none⟩ (.int .i64 (s.steps + 1))) (ok' := fun k => k < G) (fun k hk hlt => ⟨hB1.block k hk, hk⟩)
  clear h h1 hgr1 hB1 hset hfit1 hf3 f qf hB hws hpot hs hins hck
  try rw [hge] at ho
  try rw [hge] at hg9
  rw [hge] at hh
  clear hge
  generalize p.ins[i] = x at *
  have o1 : (x.op == 1) = false := by rw [ho]; rfl
  have o2 : (x.op == 2) = false := by rw [ho]; rfl
  have o3 : (x.op == 3) = false := by rw [ho]; rfl
  have o4 : (x.op == 4) = false := by rw [ho]; rfl
  have o5 : (x.op == 5) = true := by rw [ho]; rfl
  have HO := Lib.hid (And.intro ho hg9)
  clear ho hg9
  go_enter Tryd.func42, Tryd.ntmps42
  go_wp2_with fail
  obtain ⟨X, hX⟩ : ∃ X, ((W.setCell ⟨G, 5, none⟩ (.int .i64 (s.steps + 1))).alloc (.cells #[.int .i64 x.op, .int .i64 x.out, .int .i64 x.arg, .slice B3 x.set.length d3, .int .i64 x.at_] 64)) = X := ⟨_, rfl⟩
  have hsz : (W.setCell ⟨G, 5, none⟩ (.int .i64 (s.steps + 1))).heap.size = W.heap.size := by simp [World.setCell]
  have hx0 := heap_new1 (W.setCell ⟨G, 5, none⟩ (.int .i64 (s.steps + 1))) (.cells #[.int .i64 x.op, .int .i64 x.out, .int .i64 x.arg, .slice B3 x.set.length d3, .int .i64 x.at_] 64)
  rw [hsz, hX] at hx0
  have hxS := heap_lt hx0
  have hX1 := H1.out.1.below (below_al (Below.refl _ _) (.cells #[.int .i64 x.op, .int .i64 x.out, .int .i64 x.arg, .slice B3 x.set.length d3, .int .i64 x.at_] 64))
  have hXB : Below (W.setCell ⟨G, 5, none⟩ (.int .i64 (s.steps + 1))).heap.size (W.setCell ⟨G, 5, none⟩ (.int .i64 (s.steps + 1))) X := by rw [← hX]; exact below_al (Below.refl _ _) _
  rw [hX] at hX1
  obtain ⟨x0, x1, x2, x3, x4⟩ := cells5 hx0
  clear q0 q3 q4 q5 q6 q7 q8 q9 m0 qf6 qf7 qf8 qf9 qf5 g0 g1 g2 g3 g4 k0 k1 k2 k3 k4 c0 c3 c4 c5 c6 c7 c8 c9 f5 hnb hx0
  obtain ⟨q0, q3, q4, q5, q6, q7, q8, q9, qf, m0⟩ := hX1.cells
  have hxc : X.heap[W.heap.size]? = some (.cells #[.int .i64 x.op, .int .i64 x.out, .int .i64 x.arg, .slice B3 x.set.length d3, .int .i64 x.at_] 64 (0, 0)) := by
    rw [← hX]
    have := heap_new1 (W.setCell ⟨G, 5, none⟩ (.int .i64 (s.steps + 1))) (.cells #[.int .i64 x.op, .int .i64 x.out, .int .i64 x.arg, .slice B3 x.set.length d3, .int .i64 x.at_] 64)
    rwa [hsz] at this
  have hin2 := hinp.move (w' := X) (ok' := fun k => k < G) (fun k hk hlt => ⟨hXB.block k hlt, hk⟩)
  have HX := Lib.hid (And.intro hX1 (And.intro hXB (And.intro hin2 hxc)))
  rw [hX]
  clear hX hX1 hXB hin2 hinp hxc
  refine wp_region_scr (fun W' => Below X.heap.size X W') [(true, 0, 113), (true, 1, 114), (true, 2, 115), (true, 3, 116), (true, 4, 117), (true, 6, 119), (true, 7, 120), (false, 5, 118), (true, 8, 121), (true, 9, 122)] (by kernel_rfl) (by kernel_rfl) (fun _ _ _ _ _ h => h) rfl (by kernel_rfl) ?_
  have HV := Lib.hid (show Below X.heap.size X X.drew from (Below.refl _ _).drew)
  refine Scr.take (v := .pointer (some ⟨G, 0, none⟩)) rfl rfl (yw_pure (by rfl) (fun _ => by go_simp)) HV.out ?_
  simp only [Act.put, List.setIfInBounds_toArray, List.set_cons_zero, List.set_cons_succ]
  refine Scr.take (v := .pointer (some ⟨G, 0, none⟩)) rfl rfl (yw_pure (by rfl) (fun _ => by go_simp)) HV.out ?_
  simp only [Act.put, List.setIfInBounds_toArray, List.set_cons_zero, List.set_cons_succ]
  refine Scr.take (v := .pointer (some ⟨G, 3, none⟩)) rfl rfl (yw_pure (by rfl) (fun _ => by go_simp)) HV.out ?_
  simp only [Act.put, List.setIfInBounds_toArray, List.set_cons_zero, List.set_cons_succ]
  refine Scr.take (v := .pointer (some ia)) rfl rfl (yw_cell 32 _ rfl ⟨G, 3, none⟩ (.pointer (some ia)) rfl (by rfl) _ Tryd.underlying32 rfl (fun W hS => (World.cell?_of_block (hS.block _ m0)).trans q3)) HV.out ?_
  simp only [Act.put, List.setIfInBounds_toArray, List.set_cons_zero, List.set_cons_succ]
  refine Scr.take (v := .int .i64 pl) rfl rfl (yw_pure (by rfl) (fun _ => by go_simp)) HV.out ?_
  simp only [Act.put, List.setIfInBounds_toArray, List.set_cons_zero, List.set_cons_succ]
  refine Scr.take (v := .pointer (some ⟨W.heap.size, 4, none⟩)) rfl rfl (yw_pure (by rfl) (fun _ => by go_simp)) HV.out ?_
  simp only [Act.put, List.setIfInBounds_toArray, List.set_cons_zero, List.set_cons_succ]
  refine Scr.take (v := .int .i64 x.at_) rfl rfl (yw_cell 62 _ rfl ⟨W.heap.size, 4, none⟩ (.int .i64 x.at_) rfl (by rfl) _ Tryd.underlying62 rfl (fun W hS => (World.cell?_of_block (hS.block _ hxS)).trans x4)) HV.out ?_
  simp only [Act.put, List.setIfInBounds_toArray, List.set_cons_zero, List.set_cons_succ]
  have hat := at_any (fun k => k < G) X.drew ia rs (HX.out.2.2.1.move (fun k hk _ => ⟨rfl, hk⟩)) pl (by omega)
  refine Scr.run rfl (by rfl) (fun K hK => ?_)
  go_simp
  refine hat.mono ?_
  clear hat
  rintro e w4 ⟨rfl, nq, hw4⟩
  dsimp only
  have hB4 : Below X.heap.size X w4 := by rw [hw4]; exact below_drewN (Below.refl _ _).drew nq
  refine hK _ _ hB4 ?_
  clear hK K HV hw4
  have HV := Lib.hid hB4
  have hh' : (bits .and .i64 (atOf rs pl) x.at_ != 0) = false := hh
  generalize atOf rs pl = av at *
  refine Scr.take (v := .int .i64 (bits .and .i64 av x.at_)) rfl rfl (yw_pure (by rfl) (fun _ => by go_simp)) HV.out ?_
  simp only [Act.put, List.setIfInBounds_toArray, List.set_cons_zero, List.set_cons_succ]
  refine Scr.take (v := .bool (bits .and .i64 av x.at_ != 0)) rfl rfl (yw_pure (by rfl) (fun _ => by go_simp)) HV.out ?_
  simp only [Act.put, List.setIfInBounds_toArray, List.set_cons_zero, List.set_cons_succ]
  simp only [Scr]
  rw [hh']
  clear hh' hh
  have h4 := HX.out.1.below hB4
  have hb3 := (hB4.block W.heap.size hxS).trans HX.out.2.2.2
  clear x0 x1 x2 x3 x4
  obtain ⟨x0, x1, x2, x3, x4⟩ := cells5 hb3
  have ny : W.heap.size < w4.heap.size := heap_lt hb3
  clear q0 q3 q4 q5 q6 q7 q8 q9 qf m0
  have hfitX := H1.out.2.2.2.2.1.grown (grown_trans (grown_below HX.out.2.1 (some G)) (grown_below hB4 (some G)))
  have hgX := grown_trans H1.out.2.1 (grown_trans (grown_below HX.out.2.1 (some G)) (grown_below hB4 (some G)))
  have H4 := Lib.hid (And.intro h4 (And.intro hfitX hgX))
  clear h4 hfitX hgX hB4 hb3
  go_wp2_with fail
  go_end0
  exact ⟨rfl, ⟨_, _, H4.out.1⟩, H4.out.2.2⟩
theorem walk_all (p : Pg) (G : Nat) (u0 u1 u2 : Value) (ia : Addr) (rs : List (Int × Int)) (lg : Bool) (w0 : World) (C : Ctx p G u0 u1 u2 ia rs w0) : ∀ n, WalkOK p G u0 u1 u2 ia rs lg w0 n
  | 0 => fun pc pl fit fv s s0 bv nv W hws => by simp [waysW] at hws
  | n + 1 => fun pc pl fit fv s s0 bv nv W hws hp hpl hpl2 h hf hfl hB hst hpot => by
    have ih := walk_all p G u0 u1 u2 ia rs lg w0 C n
    obtain ⟨i, rfl⟩ := Int.eq_ofNat_of_zero_le hp.1
    cases hs : s.stop with
    | true => exact walk_stop p G u0 u1 u2 ia rs lg w0 C n i pl fit fv s s0 bv nv W hws hp hpl hpl2 h hf hfl hB hst hpot hs
    | false =>
      by_cases c1 : (p.get i).op = 1
      · exact walk_match p G u0 u1 u2 ia rs lg w0 C n i pl fit fv s s0 bv nv W hws hp hpl hpl2 h hf hfl hB hst hpot hs c1
      by_cases c2 : (p.get i).op = 2
      · cases hh : hasB (p.get i).set (runeAt rs pl) with
        | true => exact walk_setyes p G u0 u1 u2 ia rs lg w0 C n i pl fit fv s s0 bv nv W hws hp hpl hpl2 h hf hfl hB hst hpot hs c2 hh
        | false => exact walk_setno p G u0 u1 u2 ia rs lg w0 C n i pl fit fv s s0 bv nv W hws hp hpl hpl2 h hf hfl hB hst hpot hs c2 hh
      by_cases c3 : (p.get i).op = 3
      · exact walk_alt p G u0 u1 u2 ia rs lg w0 C n ih i pl fit fv s s0 bv nv W hws hp hpl hpl2 h hf hfl hB hst hpot hs c3
      by_cases c4 : (p.get i).op = 4
      · exact walk_cap p G u0 u1 u2 ia rs lg w0 C n ih i pl fit fv s s0 bv nv W hws hp hpl hpl2 h hf hfl hB hst hpot hs c4
      by_cases c5 : (p.get i).op = 5
      · cases hh : hitB (atOf rs pl) (p.get i).at_ with
        | true => exact walk_atyes p G u0 u1 u2 ia rs lg w0 C n ih i pl fit fv s s0 bv nv W hws hp hpl hpl2 h hf hfl hB hst hpot hs c5 hh
        | false => exact walk_atno p G u0 u1 u2 ia rs lg w0 C n i pl fit fv s s0 bv nv W hws hp hpl hpl2 h hf hfl hB hst hpot hs c5 hh
      · exact walk_fail p G u0 u1 u2 ia rs lg w0 C n i pl fit fv s s0 bv nv W hws hp hpl hpl2 h hf hfl hB hst hpot hs ⟨c1, c2, c3, c4, c5⟩
end Go.Proofs.YthclpabmbhpohaaDoor
namespace Go.Proofs.YthclpabmbhpohaaDoor
open Go.RowKit
set_option linter.unusedVariables false
/-- What Match tells: the best match, is there one, the steps. -/
def MatchPost (s : Rn) (w : World) (e : Ending) (w' : World) : Prop :=
  ∃ v, e = .returned (.tuple #[v, .bool s.best.isSome, .int .i64 s.steps]) ∧ (∃ A c, v = .slice A (s.best.getD []).length c ∧ (s.best.getD []).length ≤ c ∧ c ≤ maxLen ∧ Arr (fun _ => True) w' 1 (IntC .i64) A (s.best.getD [])) ∧ Below w.heap.size w w'
def noRn : Rn := ⟨0, none, 0, [], false⟩
/-- What Match tells of any program. -/
def matchOf (p : Pg) (rs : List (Int × Int)) (lg : Bool) : Rn := if admitsB p = true then matchS p rs lg else noRn
theorem noRn_post (w w' : World) (h : Below w.heap.size w w') : MatchPost noRn w (.returned (.tuple #[.slice none 0 0, .bool false, .int .i64 0])) w' := ⟨_, rfl, ⟨none, 0, rfl, Nat.le_refl _, Nat.zero_le _, Arr.nil⟩, h⟩
set_option maxRecDepth 100000 in
set_option maxHeartbeats 1000000 in
theorem match_no (ok : Nat → Prop) (w : World) (p : Pg) (ps : List Value) (hp : PgC ok w p ps) (hN : p.ins.length ≤ 140737488351232) (hset : ∀ x ∈ p.ins, x.set.length ≤ 1000000000) (ia : Addr) (lg : Bool) (hA : admitsB p = false) :
    Calls Tryd.prog 25 #[.agg ps.toArray, .pointer (some ia), .bool lg] w (MatchPost noRn w) := by
  have hB := below_al (Below.refl w.heap.size w) (.cells ps.toArray 28)
  have had := admits_any ok _ p ps (hp.below hB) hN hset
  rw [hA] at had
  obtain ⟨A, c, rfl, p1, p2, _⟩ := hp
  have HB := Lib.hid hB
  clear hB
  go_enter Tryd.func25, Tryd.ntmps25
  go_wp2_with fail
  refine had.mono ?_
  clear had
  rintro e w1 ⟨rfl, hb1⟩
  dsimp only
  have H1 := Lib.hid (below_and hb1 HB.out)
  clear hb1
  go_wp2_with fail
  go_ret3
  exact noRn_post _ _ H1.out
theorem RnAt.setNx {W : World} {G : Nat} {u0 u1 u2 : Value} {ia : Addr} {lg : Bool} {bv nv : Value} {s : Rn} (h : RnAt W G u0 u1 u2 ia lg bv nv s) (n : Int) : RnAt (W.setCell ⟨G, 7, none⟩ (.int .i64 n)) G u0 u1 u2 ia lg bv nv ⟨s.steps, s.best, n, s.nf, s.stop⟩ :=
  ⟨by rw [heap_set0 h.blk 7]; simp, h.best.grown (grown_set0 W G 7 _), h.nf.grown (grown_set0 W G 7 _)⟩
theorem hC_in {p : Pg} {G : Nat} {u0 u1 u2 : Value} {ia : Addr} {rs : List (Int × Int)} {w0 wr : World} (C : Ctx p G u0 u1 u2 ia rs w0) (h : Below G w0 wr) : InpC (fun k => k < G) wr ia rs := C.inp.move (fun b hb _ => ⟨h.block b hb, hb⟩)
set_option maxRecDepth 100000 in
set_option maxHeartbeats 4000000 in
theorem match_yes (ok : Nat → Prop) (w : World) (p : Pg) (ps : List Value) (hp : PgC ok w p ps) (hset : ∀ x ∈ p.ins, x.set.length ≤ 1000000000) (ia : Addr) (rs : List (Int × Int)) (hin : InpC ok w ia rs) (hrs : rs.length ≤ 1000000) (hr1 : 1 ≤ rs.length) (lg : Bool) (hA : admitsB p = true) :
    Calls Tryd.prog 25 #[.agg ps.toArray, .pointer (some ia), .bool lg] w (MatchPost (matchS p rs lg) w) := by
  have h0 : checkS rightR p = 0 := by unfold admitsB at hA; simp only [Bool.and_eq_true, beq_iff_eq] at hA; exact hA.1
  have hAdm : admG p (simpleW meetB un2 p) (p.ins.length + 1) 0 [p.start] = true := by unfold admitsB admW at hA; simp only [Bool.and_eq_true] at hA; exact hA.2.2
  have hk := check_ok h0
  have hl := check_leads h0
  have hT := adm_leads hl hk.2.2.1 hAdm
  obtain ⟨T, hTs, hTc⟩ := hT
  have hB := below_al (Below.refl w.heap.size w) (.cells ps.toArray 28)
  have had := admits_any ok _ p ps (hp.below hB) (by omega) hset
  rw [hA] at had
  have hpg : PgC (fun k => k < w.heap.size) w p ps := hp.old.move fun b hb hlt => ⟨rfl, hb.2⟩
  have hinp : InpC (fun k => k < w.heap.size) w ia rs := hin.move fun b hb hlt => ⟨rfl, hlt⟩
  obtain ⟨A, c, rfl, p1, p2, _⟩ := hp
  have hx := heap_new1 w (.cells #[.slice A p.ins.length c, .int .i64 p.start, .int .i64 p.caps] 28)
  obtain ⟨R, hR⟩ : ∃ R, matchS p rs lg = R := ⟨_, rfl⟩
  rw [hR]
  obtain ⟨n, hn⟩ := Int.eq_ofNat_of_zero_le (show 0 ≤ p.caps by omega)
  have HH := Lib.hid (And.intro hB (And.intro hx (And.intro hpg (And.intro hinp (And.intro hR (And.intro hk (And.intro hTs (And.intro hTc (And.intro h0 hn)))))))))
  have hn2 : n ≤ 4002 ∧ 2 ≤ n := by omega
  clear hB hx hpg hinp hR hk hTs hTc hAdm hl h0 hA hin hn
  go_enter Tryd.func25, Tryd.ntmps25
  go_wp2_with fail
  refine had.mono ?_
  clear had
  rintro e w1 ⟨rfl, hb1⟩
  dsimp only
  have h1 := (hb1.block w.heap.size (by simp)).trans HH.out.2.1
  obtain ⟨q0, q1, q2⟩ := cells3 h1
  rw [HH.out.2.2.2.2.2.2.2.2.2] at q2
  have hsz := heap_lt h1
  have H1 := Lib.hid (And.intro (below_and hb1 HH.out.1) h1)
  clear hb1 h1
  go_wp2_with fail
  have hrep := repInt ((w1.alloc (.cells #[.slice A p.ins.length c, .int .i64 p.start, .int .i64 n, .pointer (some ia), .bool lg, .int .i64 0, .slice none 0 0, .int .i64 0, .slice none 0 0, .bool false] 92)).alloc (.cells #[.int .i64 (-1)] 3)) (w1.heap.size + 1) n [.int .i64 (-1)] rfl (one_i64 _) (heap_new2 w1 _ _) (by omega)
  refine hrep.mono ?_
  clear hrep
  rintro e w2 ⟨v2, rfl, hown, hb2⟩
  dsimp only
  have hrepl : List.replicate n [Value.int .i64 (-1)] = (List.replicate n (-1 : Int)).map i64C := by simp [i64C]
  rw [hrepl] at hown
  have hcap : p.caps = (n : Int) := HH.out.2.2.2.2.2.2.2.2.2
  have hG2 : w2.heap[w1.heap.size]? = some (.cells #[.slice A p.ins.length c, .int .i64 p.start, .int .i64 n, .pointer (some ia), .bool lg, .int .i64 0, .slice none 0 0, .int .i64 0, .slice none 0 0, .bool false] 92 (0, 0)) := (hb2.block _ (by simp; omega)).trans ((Below.heap_alloc _ _ _ (by simp)).trans (heap_new1 w1 _))
  obtain ⟨g, cg, rfl⟩ : ∃ g cg, v2 = .slice (some ⟨g, 0, none⟩) n cg := by
    rcases hown.1.2 with ⟨rfl, h9⟩ | ⟨g, cap, cur, rfl, _⟩
    · exfalso
      obtain ⟨A3, c3, he, _⟩ := hown.shape
      simp only [Value.slice.injEq, List.length_map, List.length_replicate] at he
      omega
    · exact ⟨g, cap, by rw [List.length_map, List.length_replicate]⟩
  have hgn := (hown.lt g rfl).1
  simp only [World.size_alloc] at hgn
  obtain ⟨cs2, hk2⟩ := own_blk hown rfl
  have hcell0 : ∃ u, w2.cell? ⟨g, 0, none⟩ = some u := by
    obtain ⟨ad9, e9, hc9⟩ := ints_at (ownI64_arr0 hown) 0 (by simp; omega)
    cases e9
    exact ⟨_, by simpa [Addr.add] using hc9⟩
  obtain ⟨u9, hcell0⟩ := hcell0
  have hgf : w2.frozen? ⟨g, 0, none⟩ = false := frozenOf hk2 0
  have hng := heap_lt hk2
  have hGg : (g = w1.heap.size) = False := by simp; omega
  have hGg2 : (w1.heap.size = g) = False := by simp; omega
  have hwG : w.heap.size < w1.heap.size := hsz
  have hgw : (g = w.heap.size) = False := by simp; omega
  have hgw2 : (w.heap.size = g) = False := by simp; omega
  have hB2 : Below w1.heap.size w1 w2 := (below_al (below_al (Below.refl _ _) _) _).trans (hb2.mono (by simp; omega))
  have hb3 := (hB2.block w.heap.size hsz).trans H1.out.2
  clear q0 q1 q2
  obtain ⟨q0, q1, q2⟩ := cells3 hb3
  have ny := heap_lt hb3
  have y7 : w2.cell? ⟨w1.heap.size, 7, none⟩ = some (.int .i64 0) := by rw [cell_of_blk hG2]; rfl
  have y8 : w2.cell? ⟨w1.heap.size, 8, none⟩ = some (.slice none 0 0) := by rw [cell_of_blk hG2]; rfl
  have yf7 := frozenOf hG2 7
  have yf8 := frozenOf hG2 8
  have hGl := heap_lt hG2
  have H2 := Lib.hid (And.intro hown (And.intro hB2 (And.intro hG2 (And.intro hb3 hcap))))
  clear hown hB2 hG2 hb3 hb2 hk2 hcap hrepl
  go_wp2_with fail
  have hZ : ∃ bv nv, RnAt (((w2.setCell ⟨g, 0, none⟩ (.int .i64 0)).setCell ⟨w1.heap.size, 7, none⟩ (.int .i64 p.start)).setCell ⟨w1.heap.size, 8, none⟩ (.slice (some ⟨g, 0, none⟩) n cg)) w1.heap.size (.slice A p.ins.length c) (.int .i64 p.start) (.int .i64 p.caps) ia lg bv nv ⟨0, none, p.start, fit0 p, false⟩ := by
    obtain ⟨hown, hB2, hG2, hb3, hcap⟩ := H2.out
    have h8 : RnAt (w2.setCell ⟨g, 0, none⟩ (.int .i64 0)) w1.heap.size (.slice A p.ins.length c) (.int .i64 p.start) (.int .i64 p.caps) ia lg (.slice none 0 0) (.slice none 0 0) ⟨0, none, 0, [], false⟩ :=
      ⟨by rw [hcap]; exact (set_ne0 _ _ (by show w1.heap.size ≠ g; omega)).trans hG2, rfl, ⟨none, 0, rfl, Nat.le_refl _, Nat.zero_le _, Arr.nil⟩⟩
    have h9 := owns_put (l := List.replicate n (-1 : Int)) (g := g) (c := cg) (by simpa using hown) 0 0
    have h10 : FitL (w2.setCell ⟨g, 0, none⟩ (.int .i64 0)) w1.heap.size (.slice (some ⟨g, 0, none⟩) n cg) (fit0 p) := by
      have e : fit0 p = (List.replicate n (-1 : Int)).set 0 0 := by unfold fit0; rw [hcap]; rfl
      rw [e]
      have := owns_fit (G := w1.heap.size) h9 (by first | omega | (simp only [World.size_alloc]; omega))
      simpa using this
    exact ⟨_, _, h8.setNext p.start h10⟩
  have hBZ : Below w1.heap.size w1 (((w2.setCell ⟨g, 0, none⟩ (.int .i64 0)).setCell ⟨w1.heap.size, 7, none⟩ (.int .i64 p.start)).setCell ⟨w1.heap.size, 8, none⟩ (.slice (some ⟨g, 0, none⟩) n cg)) :=
    (((H2.out.2.1.setCell (p := ⟨g, 0, none⟩) (by show w1.heap.size ≤ g; omega) _).setCell (p := ⟨w1.heap.size, 7, none⟩) (Nat.le_refl _) _).setCell (p := ⟨w1.heap.size, 8, none⟩) (Nat.le_refl _) _)
  have hC : Ctx p w1.heap.size (.slice A p.ins.length c) (.int .i64 p.start) (.int .i64 p.caps) ia rs w1 :=
    ⟨HH.out.2.2.1.move (fun b hb hlt => ⟨H1.out.1.block b hb, by omega⟩), HH.out.2.2.2.1.move (fun b hb hlt => ⟨H1.out.1.block b hb, by omega⟩), Nat.le_refl _, HH.out.2.2.2.2.2.2.2.2.1, hrs⟩
  have hwalk := walk_all p w1.heap.size _ _ _ ia rs lg w1 hC (p.ins.length + 1)
  obtain ⟨D, hD⟩ : ∃ D, p.ins.length * (1 + n) = D := ⟨_, rfl⟩
  have hDl : D ≤ 40030000 := by rw [← hD]; exact Nat.le_trans (Nat.mul_le_mul HH.out.2.2.2.2.2.1.2.1 (show 1 + n ≤ 4003 by omega)) (by omega)
  have HD := Lib.hid hD
  have HC := Lib.hid (And.intro hC hwalk)
  have HZ := Lib.hid (And.intro hZ hBZ)
  have hcapn : p.caps = (n : Int) := H2.out.2.2.2.2
  have HCN := Lib.hid hcapn
  clear hD hC hwalk hZ hBZ q0 q1 q2 y7 y8 yf7 yf8 hcell0 hgf hng hGg hGg2 hgw hgw2 hcapn
  go_loopg [11] (rs.length + 1) (fun gm s11 wr => ∃ (j : Nat) (s : Rn) (bv nv : Value), s11 = .int .i64 j ∧ j ≤ rs.length ∧ rs.length + 1 - j ≤ gm ∧ RnAt wr w1.heap.size (.slice A p.ins.length c) (.int .i64 p.start) (.int .i64 p.caps) ia lg bv nv s ∧ Below w1.heap.size w1 wr ∧ (s.next < 0 ∨ s.next ∈ T) ∧ 0 ≤ s.steps ∧ s.steps ≤ ((j * D : Nat) : Int) ∧ (s.nf.length : Int) = p.caps ∧ (∀ b, s.best = some b → (b.length : Int) = p.caps) ∧ runL p (runeAt rs) (atOf rs) lg ((rs.length : Int) - 1) (rs.length - j) j s = R)
  case atStart =>
    obtain ⟨⟨bv, nv, hz⟩, hbz⟩ := HZ.out
    refine ⟨0, _, bv, nv, rfl, by omega, by omega, hz, hbz, .inr HH.out.2.2.2.2.2.2.1, Int.le_refl _, by simp, ?_, fun b hb => (by cases hb), HH.out.2.2.2.2.1⟩
    have := HCN.out
    simp [fit0]; omega
  case round =>
    obtain ⟨j, s, bv, nv, rfl, hj, hgm, hrn, hBr, hnx, hs0, hs1, hnf, hbst, hrun⟩ := hrel
    have hjD : j * D ≤ 1000000 * 40030000 := Nat.mul_le_mul (by omega) hDl
    obtain ⟨c0, c3, c4, c5, c6, c7, c8, c9, fz, ng⟩ := hrn.cells
    have hinr := hC_in HC.out.1 hBr
    have hlen := len_any (fun _ => True) wr ia rs (hinr.move (fun b _ _ => ⟨rfl, trivial⟩))
    have fz7 := fz 7
    have fz9 := fz 9
    have HJ := Lib.hid (And.intro hrn (And.intro hBr (And.intro hnx (And.intro hs1 (And.intro hnf (And.intro hbst (And.intro hrun hgm)))))))
    by_cases hneg : s.next < 0
    · have hRs : s = R := by
        rw [← hrun]
        cases hm : rs.length - j with
        | zero => rfl
        | succ m => rw [runL, if_pos (.inl hneg)]
      have HRS := Lib.hid hRs
      clear hrn hBr hnx hs1 hnf hbst hrun hgm hinr hRs
      have hd : decide (0 ≤ s.next) = false := by simp; omega
      clear hlen fz7 fz9 fz
      have hbv := HJ.out.1.best
      cases hbb : s.best with
      | none =>
        rw [hbb] at hbv
        obtain rfl : bv = .slice none 0 0 := hbv
        have HBB := Lib.hid hbb
        clear hbb
        go_wp2_with fail
        go_quiet (fail)
        go_wp2_with fail
        go_ret3
        rw [← HRS.out]
        exact ⟨.slice none 0 0, by rw [HBB.out]; rfl, ⟨none, 0, by rw [HBB.out]; rfl, by rw [HBB.out]; exact Nat.le_refl _, Nat.zero_le _, by rw [HBB.out]; exact Arr.nil⟩, below_drewN (H1.out.1.trans (HJ.out.2.1.mono H1.out.1.size)) _⟩
      | some l =>
        rw [hbb] at hbv
        obtain ⟨⟨A9, c9, rfl, hb1, hb2, hb3⟩, hb4⟩ := hbv
        obtain ⟨ad9, rfl, _⟩ := ints_at hb3 0 (by omega)
        have HBB := Lib.hid (And.intro hbb hb3)
        clear hbb hb3
        go_wp2_with fail
        go_quiet (fail)
        go_wp2_with fail
        go_ret3
        rw [← HRS.out]
        exact ⟨.slice (some ad9) l.length c9, by rw [HBB.out.1]; rfl, ⟨some ad9, c9, by rw [HBB.out.1]; rfl, by rw [HBB.out.1]; exact hb1, hb2, by rw [HBB.out.1]; exact HBB.out.2.move (fun b _ _ => ⟨rfl, trivial⟩) (by omega)⟩, below_drewN (H1.out.1.trans (HJ.out.2.1.mono H1.out.1.size)) _⟩
    · have hd : decide (0 ≤ s.next) = true := by simp; omega
      by_cases hlast : (rs.length : Int) - 1 < j
      · have hRs : s = R := by
          rw [← hrun]
          rw [show rs.length - j = 0 by omega]; rfl
        have HRS := Lib.hid hRs
        clear hrn hBr hnx hs1 hnf hbst hrun hgm hinr hRs fz7 fz9 fz
        have hle2 : decide ((j : Int) ≤ (rs.length : Int) - 1) = false := by simp; omega
        go_wp2_with (go_at_call 15; refine hlen.mono ?_; clear hlen; rintro e w' ⟨rfl, rfl⟩)
        have hbv := HJ.out.1.best
        cases hbb : s.best with
        | none =>
          rw [hbb] at hbv
          obtain rfl : bv = .slice none 0 0 := hbv
          have HBB := Lib.hid hbb
          clear hbb
          go_wp2_with fail
          go_quiet (fail)
          go_wp2_with fail
          go_ret3
          rw [← HRS.out]
          exact ⟨.slice none 0 0, by rw [HBB.out]; rfl, ⟨none, 0, by rw [HBB.out]; rfl, by rw [HBB.out]; exact Nat.le_refl _, Nat.zero_le _, by rw [HBB.out]; exact Arr.nil⟩, below_drewN (H1.out.1.trans (HJ.out.2.1.mono H1.out.1.size)) _⟩
        | some l =>
          rw [hbb] at hbv
          obtain ⟨⟨A9, c9, rfl, hb1, hb2, hb3⟩, hb4⟩ := hbv
          obtain ⟨ad9, rfl, _⟩ := ints_at hb3 0 (by omega)
          have HBB := Lib.hid (And.intro hbb hb3)
          clear hbb hb3
          go_wp2_with fail
          go_quiet (fail)
          go_wp2_with fail
          go_ret3
          rw [← HRS.out]
          exact ⟨.slice (some ad9) l.length c9, by rw [HBB.out.1]; rfl, ⟨some ad9, c9, by rw [HBB.out.1]; rfl, by rw [HBB.out.1]; exact hb1, hb2, by rw [HBB.out.1]; exact HBB.out.2.move (fun b _ _ => ⟨rfl, trivial⟩) (by omega)⟩, below_drewN (H1.out.1.trans (HJ.out.2.1.mono H1.out.1.size)) _⟩
      · have hle2 : decide ((j : Int) ≤ (rs.length : Int) - 1) = true := by simp; omega
        have hpcT : s.next ∈ T := hnx.resolve_left hneg
        obtain ⟨hpc, hsimp, houts⟩ := HH.out.2.2.2.2.2.2.2.1 _ hpcT
        have hrun2 : runL p (runeAt rs) (atOf rs) lg ((rs.length : Int) - 1) (rs.length - (j + 1)) ((j + 1 : Nat) : Int) (placeS p (runeAt rs) (atOf rs) lg j s) = R := by
          rw [← hrun, show rs.length - j = (rs.length - (j + 1)) + 1 by omega, runL, if_neg (by omega)]; rfl
        have hgood := walkS_good (me := meetB) (un := un2) (p := p) (rn := runeAt rs) (av := atOf rs) (lg := lg) (p.ins.length + 1) s.next j s.nf ⟨s.steps, s.best, -1, s.nf, false⟩ ⟨[], [], [], 0⟩ hsimp hnf hnf hbst
        have hpot := walkS_pot (me := meetB) (un := un2) (runeAt rs) (atOf rs) lg (check_leads HC.out.1.chk) (1 + n) (p.ins.length + 1) s.next j s.nf ⟨s.steps, s.best, -1, s.nf, false⟩ ⟨[], [], [], 0⟩ hpc hsimp (by have := HCN.out; omega)
        have HG := Lib.hid (And.intro hrun2 (And.intro hgood (And.intro hpot (And.intro hpc (And.intro hsimp houts)))))
        clear hrn hBr hnx hs1 hnf hbst hrun hgm hinr hrun2 hgood hpot hpc hsimp houts hpcT
        go_wp2_with (go_at_call 15; refine hlen.mono ?_; clear hlen; rintro e w' ⟨rfl, rfl⟩)
        go_quiet (fail)
        have hr2 := HJ.out.1.below (below_drewN (Below.refl _ _) nq)
        have hB2 := below_drewN HJ.out.2.1 nq
        generalize wr.drewN nq = wq at *
        clear c0 c3 c4 c5 c6 c7 c8 c9 fz ng fz7 fz9
        obtain ⟨c0, c3, c4, c5, c6, c7, c8, c9, fz, ng⟩ := hr2.cells
        have fz7 := fz 7
        have fz9 := fz 9
        have HQ := Lib.hid (And.intro hr2 hB2)
        clear hr2 hB2 fz
        go_wp2_with fail
        have hY := (HQ.out.1.setNx (-1)).setStop false
        have hBY := (HQ.out.2.setCell (p := ⟨w1.heap.size, 7, none⟩) (Nat.le_refl _) (.int .i64 (-1))).setCell (p := ⟨w1.heap.size, 9, none⟩) (Nat.le_refl _) (.bool false)
        have hfY := HQ.out.1.nf.grown (grown_set (grown_set0 wq w1.heap.size 7 (.int .i64 (-1))) 9 (.bool false))
        have hpt : potR p (1 + s.nf.length) ⟨[], [], [], 0⟩ ⟨s.steps, s.best, -1, s.nf, false⟩ ≤ BIG := by
          unfold potR BIG
          simp only [leftN_nil]
          have e1 : 1 + s.nf.length = 1 + n := by have := HJ.out.2.2.2.2.1; have := HCN.out; omega
          rw [e1, HD.out]
          have := HJ.out.2.2.2.1
          omega
        refine (HC.out.2 s.next j s.nf nv ⟨s.steps, s.best, -1, s.nf, false⟩ ⟨[], [], [], 0⟩ _ _ _ HG.out.2.2.2.2.1 HG.out.2.2.2.1 (by omega) (by omega) hY hfY HJ.out.2.2.2.2.1 hBY hs0 hpt).mono ?_
        rintro e w5 ⟨rfl, ⟨bv5, nv5, h5⟩, hg5⟩
        dsimp only
        have HL := Lib.hid (And.intro h5 (hBY.trans (below_of_grown hg5 (by simp [World.setCell]; omega))))
        clear hY hBY hfY hpt h5 hg5
        go_wp2_with fail
        go_roundg (gk - 1)
        case measure => have := HJ.out.2.2.2.2.2.2.2; omega
        case rel =>
          obtain ⟨hrun2, hgood, hpot, hpc, hsimp, houts⟩ := HG.out
          refine ⟨j + 1, placeS p (runeAt rs) (atOf rs) lg j s, bv5, nv5, by go_num, by omega, by have := HJ.out.2.2.2.2.2.2.2; omega, HL.out.1, HL.out.2, ?_, Int.le_trans hs0 hpot.1, ?_, hgood.nf, hgood.best, hrun2⟩
          · rcases hgood.next with e | ⟨x, hx, e⟩
            · exact .inl (by show (walkS _ _ _ _ _ _ _ _ _).next < 0; rw [e]; show (-1 : Int) < 0; omega)
            · exact .inr (by show (walkS _ _ _ _ _ _ _ _ _).next ∈ T; rw [e]; exact houts x hx)
          · have h9 := hpot.2
            unfold potR at h9
            have h9 := Int.le_trans (Int.le_add_of_nonneg_right (Int.natCast_nonneg _)) h9
            simp only [leftN_nil] at h9
            rw [HD.out] at h9
            have h10 := HJ.out.2.2.2.1
            show (walkS _ _ _ _ _ _ _ _ _).steps ≤ _
            rw [Nat.add_mul, Nat.one_mul]
            omega
theorem match_any (ok : Nat → Prop) (w : World) (p : Pg) (ps : List Value) (hp : PgC ok w p ps) (hN : p.ins.length ≤ 140737488351232) (hset : ∀ x ∈ p.ins, x.set.length ≤ 1000000000) (ia : Addr) (rs : List (Int × Int)) (hin : InpC ok w ia rs) (hrs : rs.length ≤ 1000000) (hr1 : 1 ≤ rs.length) (lg : Bool) :
    Calls Tryd.prog 25 #[.agg ps.toArray, .pointer (some ia), .bool lg] w (MatchPost (matchOf p rs lg) w) := by
  unfold matchOf
  cases hA : admitsB p with
  | true => rw [if_pos rfl]; exact match_yes ok w p ps hp hset ia rs hin hrs hr1 lg hA
  | false => rw [if_neg (by simp)]; exact match_no ok w p ps hp hN hset ia lg hA
end Go.Proofs.YthclpabmbhpohaaDoor
namespace Go.Proofs.YthclpabmbhpohaaDoor
open Go.RowKit
set_option linter.unusedVariables false
/-- How much a program weighs. -/
def heftP (l : List In) : Nat := (l.map fun x => x.set.length).sum
def longB (p : Pg) : Bool := decide (2000 < p.ins.length + heftP p.ins)
theorem heft_take {l : List In} {i : Nat} (h : i < l.length) : heftP (l.take (i + 1)) = heftP (l.take i) + l[i].set.length := by
  unfold heftP
  rw [List.take_succ_eq_append_getElem h, List.map_append, List.sum_append]
  rfl
theorem heft_le (l : List In) (i : Nat) : heftP (l.take i) ≤ heftP l := by
  have : l = l.take i ++ l.drop i := (List.take_append_drop i l).symm
  conv => rhs; rw [this]
  unfold heftP
  rw [List.map_append, List.sum_append]
  omega
set_option maxRecDepth 100000 in
set_option maxHeartbeats 1000000 in
theorem long12_any (w : World) (p : Pg) (A : Option Addr) (c : Nat) (hp : PgC (fun k => k < w.heap.size) w p [.slice A p.ins.length c, .int .i64 p.start, .int .i64 p.caps]) (hN : p.ins.length ≤ 140737488351232) (hs : ∀ x ∈ p.ins, x.set.length ≤ 140737488351232) :
    Calls Tryd.prog 22 #[.agg #[.slice A p.ins.length c, .int .i64 p.start, .int .i64 p.caps]] w fun e w' => e = .returned (.bool (longB p)) ∧ Below w.heap.size w w' := by
  have hB := below_al (Below.refl w.heap.size w) (.cells #[.slice A p.ins.length c, .int .i64 p.start, .int .i64 p.caps] 28)
  have hx := heap_new1 w (.cells #[.slice A p.ins.length c, .int .i64 p.start, .int .i64 p.caps] 28)
  have hxn := heap_lt hx
  obtain ⟨q0, q1, q2⟩ := cells3 hx
  have HP := Lib.hid (And.intro hp (And.intro hs hB))
  clear hp hs hB hx
  go_enter Tryd.func22, Tryd.ntmps22
  go_wp2_with fail
  go_loopg [3, 4] (p.ins.length + 1) (fun g s3 s4 wr => wr = w.alloc (.cells #[.slice A p.ins.length c, .int .i64 p.start, .int .i64 p.caps] 28) ∧ ∃ (i n : Nat), s3 = .int .i64 n ∧ s4 = .int .i64 i ∧ i ≤ p.ins.length ∧ p.ins.length + 1 - i ≤ g ∧ n = p.ins.length + heftP (p.ins.take i) ∧ n ≤ 140737488351232 + 2000)
  case atStart => exact ⟨rfl, 0, p.ins.length, rfl, rfl, Nat.zero_le _, by omega, by simp [heftP], by omega⟩
  case round =>
    obtain ⟨rfl, i, n, rfl, rfl, hi, hg, hn, hnb⟩ := hrel
    by_cases hil : i < p.ins.length
    · have hd : decide ((i : Int) < (p.ins.length : Int)) = true := decide_eq_true (by omega)
      by_cases hn2 : n ≤ 2000
      · have hd2 : decide ((n : Int) ≤ 2000) = true := decide_eq_true (by omega)
        obtain ⟨ad, c', B, d, he, _, _, _, _, _, hk⟩ := ins_at HP.out.1 (Nat.le_refl _) i hil
        simp only [List.cons.injEq, Value.slice.injEq] at he
        obtain ⟨⟨rfl, _, rfl⟩, _⟩ := he
        obtain ⟨_, _, _, _, k3, _⟩ := hk _ HP.out.2.2
        have hsl := HP.out.2.1 _ (List.getElem_mem hil)
        have htk := heft_take hil
        generalize p.ins[i] = x at *
        obtain ⟨m, hm⟩ : ∃ m, x.set.length = m := ⟨_, rfl⟩
        rw [hm] at k3 hsl htk
        have HN := Lib.hid (And.intro hn htk)
        clear hn htk hk
        go_wp2_with fail
        go_roundg (gk - 1)
        case measure => omega
        case rel => exact ⟨rfl, i + 1, n + m, by go_num, by go_num, by omega, by omega, by have := HN.out.1; have := HN.out.2; omega, by omega⟩
      · have hd2 : decide ((n : Int) ≤ 2000) = false := decide_eq_false (by omega)
        have hd3 : decide ((2000 : Int) < (n : Int)) = true := decide_eq_true (by omega)
        have HR : Hid (longB p = true) := Lib.hid (decide_eq_true (by have := heft_le p.ins i; omega))
        go_wp2_with fail
        go_ret
        exact ⟨by rw [HR.out]; rfl, HP.out.2.2⟩
    · have hd : decide ((i : Int) < (p.ins.length : Int)) = false := decide_eq_false (by omega)
      have hie : p.ins.take i = p.ins := List.take_of_length_le (by omega)
      have HR : Hid (longB p = decide (2000 < n)) := Lib.hid (by rw [hie] at hn; unfold longB; rw [hn])
      have hd3 : decide ((2000 : Int) < (n : Int)) = decide (2000 < n) := decide_eq_decide.2 (by omega)
      clear hie hn
      go_wp2_with fail
      go_ret
      exact ⟨by rw [HR.out]; rfl, HP.out.2.2⟩
def longB2 (p : Pg) (n : Nat) : Bool := longB p || (decide (3000 < n) || decide (100000 < p.ins.length * (n + 1)))
set_option maxRecDepth 100000 in
set_option maxHeartbeats 1000000 in
theorem long15_any (w : World) (p : Pg) (A T : Option Addr) (c n tc : Nat) (hp : PgC (fun k => k < w.heap.size) w p [.slice A p.ins.length c, .int .i64 p.start, .int .i64 p.caps]) (hN : p.ins.length ≤ 140737488351232) (hs : ∀ x ∈ p.ins, x.set.length ≤ 140737488351232) (hn : n ≤ 140737488351232) :
    Calls Tryd.prog 12 #[.agg #[.slice A p.ins.length c, .int .i64 p.start, .int .i64 p.caps], .slice T n tc] w fun e w' => e = .returned (.bool (longB2 p n)) ∧ Below w.heap.size w w' := by
  have hB := below_al (Below.refl w.heap.size w) (.cells #[.slice A p.ins.length c, .int .i64 p.start, .int .i64 p.caps] 28)
  have hx := heap_new1 w (.cells #[.slice A p.ins.length c, .int .i64 p.start, .int .i64 p.caps] 28)
  have hxn := heap_lt hx
  obtain ⟨q0, q1, q2⟩ := cells3 hx
  have hl := long12_any _ p A c ((hp.below hB).move (fun k hk _ => ⟨rfl, by simp; omega⟩)) hN hs
  have hll : longB p = false → p.ins.length ≤ 2000 := fun h => by unfold longB at h; simp at h; omega
  have HP := Lib.hid (And.intro hB (And.intro hx hll))
  clear hp hs hB hx hll
  go_enter Tryd.func12, Tryd.ntmps12
  cases hlb : longB p with
  | true =>
    have HR : Hid (longB2 p n = true) := Lib.hid (by unfold longB2; rw [hlb]; rfl)
    rw [hlb] at hl
    clear hlb
    go_wp2_with (go_at_call 22; refine hl.mono ?_; clear hl; rintro e w1 ⟨rfl, hb1⟩; have HB1 := Lib.hid (below_and hb1 HP.out.1); clear hb1)
    go_ret
    exact ⟨by rw [HR.out]; rfl, HB1.out⟩
  | false =>
    have hN2 := HP.out.2.2 hlb
    rw [hlb] at hl
    by_cases hn3 : 3000 < n
    · have hd : decide ((3000 : Int) < (n : Int)) = true := decide_eq_true (by omega)
      have HR : Hid (longB2 p n = true) := Lib.hid (by unfold longB2; rw [hlb, decide_eq_true hn3]; rfl)
      clear hlb
      go_wp2_with (go_at_call 22; refine hl.mono ?_; clear hl; rintro e w1 ⟨rfl, hb1⟩; have HB1 := Lib.hid (below_and hb1 HP.out.1); clear hb1)
      go_ret
      exact ⟨by rw [HR.out]; rfl, HB1.out⟩
    · have hd : decide ((3000 : Int) < (n : Int)) = false := decide_eq_false (by omega)
      have hmul : p.ins.length * (n + 1) ≤ 2000 * 3001 := Nat.mul_le_mul hN2 (by omega)
      have hw : IntKind.i64.wrap ((p.ins.length : Int) * ((n : Int) + 1)) = ((p.ins.length * (n + 1) : Nat) : Int) := by
        rw [IntWalk.i64_in]
        · simp
        · have : ((p.ins.length : Int) * ((n : Int) + 1)) = ((p.ins.length * (n + 1) : Nat) : Int) := by simp
          omega
      obtain ⟨M, hM⟩ : ∃ M, p.ins.length * (n + 1) = M := ⟨_, rfl⟩
      rw [hM] at hw hmul
      have HR : Hid (longB2 p n = decide (100000 < M)) := Lib.hid (by unfold longB2; rw [hlb, decide_eq_false hn3, hM]; rfl)
      have hd3 : decide ((100000 : Int) < (M : Int)) = decide (100000 < M) := decide_eq_decide.2 (by omega)
      clear hlb hM
      go_wp2_with (go_at_call 22; refine hl.mono ?_; clear hl; rintro e w1 ⟨rfl, hb1⟩; have k1 := (hb1.block _ hxn).trans HP.out.2.1; obtain ⟨z0, z1, z2⟩ := cells3 k1; have zn := heap_lt k1; have HB1 := Lib.hid (below_and hb1 HP.out.1); clear hb1 k1)
      go_ret
      exact ⟨by rw [HR.out]; rfl, HB1.out⟩
theorem take_snoc_eq {a b : List Int} {i : Nat} (ha : i < a.length) (hb : i < b.length) (h : a.take i = b.take i) (he : a[i] = b[i]) : a.take (i + 1) = b.take (i + 1) := by
  rw [List.take_succ_eq_append_getElem ha, List.take_succ_eq_append_getElem hb, h, he]
theorem take_ne {a b : List Int} {i : Nat} (ha : i < a.length) (hb : i < b.length) (he : a[i] ≠ b[i]) : a ≠ b := by
  rintro rfl; exact he rfl
set_option maxRecDepth 100000 in
set_option maxHeartbeats 1000000 in
theorem sameInts_any (w : World) (A B : Option Addr) (ca cb : Nat) (a b : List Int) (ha : Arr (fun _ => True) w 1 (IntC .i64) A a) (hb : Arr (fun _ => True) w 1 (IntC .i64) B b) (hla : a.length ≤ 140737488351232) (hlb : b.length ≤ 140737488351232) :
    Calls Tryd.prog 19 #[.slice A a.length ca, .slice B b.length cb] w fun e w' => e = .returned (.bool (a == b)) ∧ Below w.heap.size w w' := by
  have HA := Lib.hid (And.intro ha hb)
  clear ha hb
  go_enter Tryd.func19, Tryd.ntmps19
  by_cases hl : a.length = b.length
  · have hd : (((a.length : Nat) : Int) != ((b.length : Nat) : Int)) = false := by simp; omega
    have HL := Lib.hid hl
    clear hl
    go_wp2_with fail
    go_loopg [5] (a.length + 1) (fun g s5 wr => ∃ i : Nat, s5 = .int .i64 i ∧ i ≤ a.length ∧ a.length + 1 - i ≤ g ∧ Hid (a.take i = b.take i) ∧ Below w.heap.size w wr)
    case atStart => exact ⟨0, rfl, Nat.zero_le _, by omega, Lib.hid (by simp), Below.refl _ _⟩
    case round =>
      obtain ⟨i, rfl, hi, hg, HT, hBi⟩ := hrel
      by_cases hil : i < a.length
      · have hdi : decide ((i : Int) < (a.length : Int)) = true := decide_eq_true (by omega)
        have hib : i < b.length := by have := HL.out; omega
        obtain ⟨l1, rfl, hc1⟩ := ints_at HA.out.1 i hil
        obtain ⟨l2, rfl, hc2⟩ := ints_at HA.out.2 i hib
        have HC : Hid (∀ W', Below wr.heap.size wr W' → W'.cell? (l1.add i) = some (.int .i64 a[i]) ∧ W'.cell? (l2.add i) = some (.int .i64 b[i])) := Lib.hid (fun W' hW => by
          have h9 := hBi.trans (hW.mono hBi.size)
          exact ⟨(h9.cell (World.block_lt_of_cell? _ _ hc1)).trans hc1, (h9.cell (World.block_lt_of_cell? _ _ hc2)).trans hc2⟩)
        clear hc1 hc2
        have HBi := Lib.hid hBi
        clear hBi
        have HE : Hid ((a[i] = b[i] → a.take (i + 1) = b.take (i + 1)) ∧ (a[i] ≠ b[i] → (a == b) = false)) := Lib.hid ⟨take_snoc_eq hil hib HT.out, fun h => by simpa using take_ne hil hib h⟩
        generalize a[i] = x at *
        generalize b[i] = y at *
        obtain ⟨r, hr, hr2⟩ : ∃ r, (x != y) = r ∧ (x == y) = !r := ⟨x != y, rfl, by simp [bne]⟩
        go_wp2_with fail
        refine wp_region_scr (fun W' => Below wr.heap.size wr W') [(true, 0, 17), (true, 1, 18), (true, 2, 19), (true, 3, 20), (true, 4, 21), (true, 5, 22), (true, 6, 23), (true, 7, 24), (true, 8, 25)] (by kernel_rfl) (by kernel_rfl) (fun _ _ _ _ _ h => h) rfl (by kernel_rfl) ?_
        have HV := Lib.hid (show Below wr.heap.size wr wr.drew from (Below.refl _ _).drew)
        refine Scr.take (v := .slice (some l1) a.length ca) rfl rfl (yw_pure (by rfl) (fun _ => by go_simp)) HV.out ?_
        simp only [Act.put, List.setIfInBounds_toArray, List.set_cons_zero, List.set_cons_succ]
        refine Scr.take (v := .int .i64 i) rfl rfl (yw_pure (by rfl) (fun _ => by go_simp)) HV.out ?_
        simp only [Act.put, List.setIfInBounds_toArray, List.set_cons_zero, List.set_cons_succ]
        refine Scr.take (v := .pointer (some (l1.add i))) rfl rfl (yw_pure (by rfl) (fun _ => by go_simp)) HV.out ?_
        simp only [Act.put, List.setIfInBounds_toArray, List.set_cons_zero, List.set_cons_succ]
        refine Scr.take (v := .int .i64 x) rfl rfl (yw_cell 3 _ rfl (l1.add i) (.int .i64 x) rfl (by rfl) _ Tryd.underlying3 rfl (fun W hS => (HC.out W hS).1)) HV.out ?_
        simp only [Act.put, List.setIfInBounds_toArray, List.set_cons_zero, List.set_cons_succ]
        refine Scr.take (v := .slice (some l2) b.length cb) rfl rfl (yw_pure (by rfl) (fun _ => by go_simp)) HV.out ?_
        simp only [Act.put, List.setIfInBounds_toArray, List.set_cons_zero, List.set_cons_succ]
        refine Scr.take (v := .int .i64 i) rfl rfl (yw_pure (by rfl) (fun _ => by go_simp)) HV.out ?_
        simp only [Act.put, List.setIfInBounds_toArray, List.set_cons_zero, List.set_cons_succ]
        refine Scr.take (v := .pointer (some (l2.add i))) rfl rfl (yw_pure (by rfl) (fun _ => by go_simp)) HV.out ?_
        simp only [Act.put, List.setIfInBounds_toArray, List.set_cons_zero, List.set_cons_succ]
        refine Scr.take (v := .int .i64 y) rfl rfl (yw_cell 3 _ rfl (l2.add i) (.int .i64 y) rfl (by rfl) _ Tryd.underlying3 rfl (fun W hS => (HC.out W hS).2)) HV.out ?_
        simp only [Act.put, List.setIfInBounds_toArray, List.set_cons_zero, List.set_cons_succ]
        refine Scr.take (v := .bool r) rfl rfl (yw_pure (by rfl) (fun _ => by go_simp)) HV.out ?_
        simp only [Act.put, List.setIfInBounds_toArray, List.set_cons_zero, List.set_cons_succ]
        simp only [Scr]
        cases r with
        | true =>
          have HR := Lib.hid (HE.out.2 (by simpa using hr))
          clear hr hr2
          go_wp2_with fail
          go_ret
          exact ⟨by rw [HR.out]; rfl, HBi.out.trans (HV.out.mono HBi.out.size)⟩
        | false =>
          have HR := Lib.hid (HE.out.1 (by simpa using hr))
          clear hr hr2
          go_wp2_with fail
          go_roundg (gk - 1)
          case measure => omega
          case rel => exact ⟨i + 1, by go_num, by omega, by omega, HR, HBi.out.trans (HV.out.mono HBi.out.size)⟩
      · have hdi : decide ((i : Int) < (a.length : Int)) = false := decide_eq_false (by omega)
        have HR : Hid ((a == b) = true) := Lib.hid (by
          have h9 := HT.out
          rw [List.take_of_length_le (by omega), List.take_of_length_le (by have := HL.out; omega)] at h9
          simpa using h9)
        go_wp2_with fail
        go_ret
        exact ⟨by rw [HR.out]; rfl, hBi⟩
  · have hd : (((a.length : Nat) : Int) != ((b.length : Nat) : Int)) = true := by simp; omega
    have HR : Hid ((a == b) = false) := Lib.hid (by
      rw [Bool.eq_false_iff]
      intro e
      exact hl (by rw [eq_of_beq e]))
    clear hl
    go_wp2_with fail
    go_ret
    exact ⟨by rw [HR.out]; rfl, Below.refl _ _⟩
end Go.Proofs.YthclpabmbhpohaaDoor
namespace Go.Proofs.YthclpabmbhpohaaDoor
open Go.RowKit
set_option linter.unusedVariables false
theorem heft_mem {l : List In} {x : In} (h : x ∈ l) : x.set.length ≤ heftP l := by
  unfold heftP
  induction l with
  | nil => cases h
  | cons y l ih =>
    rw [List.map_cons, List.sum_cons]
    rcases List.mem_cons.1 h with rfl | h
    · omega
    · have := ih h; omega
end Go.Proofs.YthclpabmbhpohaaDoor
