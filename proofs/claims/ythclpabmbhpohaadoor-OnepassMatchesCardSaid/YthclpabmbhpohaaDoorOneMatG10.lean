/-
  (*onepass.runner).walk, where it goes on. No condition but that the ways of it are told to need none.
  slices.Repeat of one element, at each element type. No condition but on the size.
  onepass.Match. No condition but bounds.
  martellolaw15.head: what is asked of one program and one text. No condition.
  martellolaw12.Long, martellolaw15.Long, Steps, martelloref11.SameInts: what the laws ask ahead of a walk, and behind. No condition but bounds.
  martellolaw15.OnepassAdmits: the walk: it tells true. No condition but that the program's fields are values of their types.
  A walk with bits, in plain words: depth first, never twice to a state. No program here, no condition.
  A walk with bits, from a list of things to do. No program here, no condition.
-/
import Derived.Test.YthclpabmbhpohaaDoorOneMatG9
import Derived.Lib.SlBytesConst
import Derived.Deep.LoopGhost
namespace Go.Proofs.YthclpabmbhpohaaDoor
open Go.RowKit
set_option linter.unusedVariables false
set_option maxRecDepth 100000 in
set_option maxHeartbeats 4000000 in
theorem walk_alt (p : Pg) (G : Nat) (u0 u1 u2 : Value) (ia : Addr) (rs : List (Int × Int)) (lg : Bool) (w0 : World) (C : Ctx p G u0 u1 u2 ia rs w0) (n : Nat) (ih : WalkOK p G u0 u1 u2 ia rs lg w0 n)
    (i : Nat) (pl : Int) (fit : List Int) (fv : Value) (s : Rn) (s0 : Ow) (bv nv : Value) (W : World) (hws : (waysW meetB un2 p (n + 1) i s0).1 = true) (hp : Pc p i) (hpl : 0 ≤ pl) (hpl2 : pl ≤ 1000000) (h : RnAt W G u0 u1 u2 ia lg bv nv s) (hf : FitL W G fv fit) (hfl : (fit.length : Int) = p.caps) (hB : Below G w0 W) (hst : 0 ≤ s.steps) (hpot : potR p (1 + fit.length) s0 s ≤ BIG) (hs : s.stop = false) (ho : (p.get i).op = 3) :
    Calls Tryd.prog 42 #[.pointer (some ⟨G, 0, none⟩), .int .i64 i, .int .i64 pl, fv] W (RnPost G u0 u1 u2 ia lg (walkS p (runeAt rs) (atOf rs) lg (n + 1) i pl fit s) W) := by
  have hon := ways_on hws
  have hlf := pot_mul (K := 1 + fit.length) (onW_left hp hon)
  obtain ⟨wa1, wa2, wa3⟩ := ways_alt hws rfl ho
  have hlead := check_leads C.chk i hp
  have hp1 := hlead.1 (by omega)
  have hp2 := hlead.2 ho
  have hpt1 : potR p (1 + fit.length) (onW meetB un2 p i s0).2 ⟨s.steps + 1, s.best, s.next, s.nf, s.stop⟩ ≤ BIG := by unfold potR at hpot ⊢; dsimp only; omega
  have hpt2 := walkS_pot (runeAt rs) (atOf rs) lg (check_leads C.chk) (1 + fit.length) n (p.get i).out pl fit ⟨s.steps + 1, s.best, s.next, s.nf, s.stop⟩ _ hp1 wa1 (Nat.le_refl _)
  have e2 : walkS p (runeAt rs) (atOf rs) lg (n + 1) i pl fit s = walkS p (runeAt rs) (atOf rs) lg n (p.get i).arg pl fit (walkS p (runeAt rs) (atOf rs) lg n (p.get i).out pl fit ⟨s.steps + 1, s.best, s.next, s.nf, s.stop⟩) := by rw [walkS_new hs rfl, if_neg (by omega), if_neg (by omega), if_pos ho]
  have ih1 := fun bv nv W => ih (p.get i).out pl fit fv ⟨s.steps + 1, s.best, s.next, s.nf, s.stop⟩ _ bv nv W wa1 hp1 hpl hpl2
  have ih2 := fun bv nv W => ih (p.get i).arg pl fit fv (walkS p (runeAt rs) (atOf rs) lg n (p.get i).out pl fit ⟨s.steps + 1, s.best, s.next, s.nf, s.stop⟩) _ bv nv W wa2 hp2 hpl hpl2
  clear wa3 hlead hlf hon
  obtain ⟨c0, c3, c4, c5, c6, c7, c8, c9, f, n0⟩ := h.cells
  have f5 := f 5
  have hi : i < p.ins.length := by have := hp.2; omega
  have hsb : s.steps ≤ 1000000000000000000 := by unfold potR BIG at hpot; omega
  obtain ⟨F, cf, rfl, hf1, hf2, hf3⟩ := hf
  have hB0 : ∀ {X : World}, W.grownBy X (some G) → Below G w0 X := fun hg => hB.trans (below_of_grown hg (by omega))
  obtain ⟨ad, c, B3, d3, hps, hc1, hcm, hd3, hd3m, hadb, hins⟩ := ins_at C.pg C.size i hi
  simp only [List.cons.injEq, and_true] at hps
  obtain ⟨rfl, rfl, rfl⟩ := hps
  have hge := get_eq p i hi
  have hg9 := check_good C.chk hp
  have hck := check_ok C.chk
  have hfl4 : fit.length ≤ 4002 ∧ 2 ≤ fit.length := by have := hck.2.2.2.1; have := hck.2.2.2.2.1; omega
  rw [hs] at c9
  have h1 := h.setSteps (s.steps + 1)
  have hgr1 := grown_set0 W G 5 (.int .i64 (s.steps + 1))
  have hB1 := hB.trans (below_of_grown hgr1 (by omega))
  obtain ⟨hset, g0, g1, g2, g3, g4⟩ := hins _ hB1
  obtain ⟨_, k0, k1, k2, k3, k4⟩ := hins _ hB
  have hnb : ((ad.add (i * 5)).block = G) = False := by rw [add_block]; simp; omega
  obtain ⟨q0, q3, q4, q5, q6, q7, q8, q9x, qf, m0⟩ := h1.cells
  have q9 : (W.setCell ⟨G, 5, none⟩ (.int .i64 (s.steps + 1))).cell? ⟨G, 9, none⟩ = some (.bool false) := by rw [← hs]; exact q9x
  clear q9x
  have qf6 := qf 6
  have qf7 := qf 7
  have qf8 := qf 8
  have qf9 := qf 9
  have qf5 := qf 5
  have hfit1 := FitL.grown ⟨F, cf, rfl, hf1, hf2, hf3⟩ hgr1
  rw [e2]
  clear e2
  rw [hge] at ih1 ih2 hpt2 wa1 wa2 ⊢
  have H1 := Lib.hid (And.intro h1 (And.intro hgr1 (And.intro hB1 (And.intro hset (And.intro hfit1 hws)))))
  have hinp := C.inp.move (w' := W.setCell ⟨G, 5, none⟩ (.int .i64 (s.steps + 1))) (ok' := fun k => k < G) (fun k hk hlt => ⟨hB1.block k hk, hk⟩)
  clear ih
  clear h h1 hgr1 hB1 hset hfit1 hf3 f qf hB hws hpot hs hins hck
  try rw [hge] at ho
  try rw [hge] at hg9
  clear hge
  generalize p.ins[i] = x at *
  have o1 : (x.op == 1) = false := by rw [ho]; rfl
  have o2 : (x.op == 2) = false := by rw [ho]; rfl
  have o3 : (x.op == 3) = true := by rw [ho]; rfl
  have o4 : (x.op == 4) = false := by rw [ho]; rfl
  have o5 : (x.op == 5) = false := by rw [ho]; rfl
  have HO := Lib.hid (And.intro ho hg9)
  clear ho hg9
  have HI := Lib.hid (And.intro ih1 (And.intro ih2 (And.intro hpt1 hpt2)))
  clear ih1 ih2 hpt1 hpt2 wa1 wa2 hp1 hp2
  generalize walkS p (runeAt rs) (atOf rs) lg n x.out pl fit ⟨s.steps + 1, s.best, s.next, s.nf, s.stop⟩ = s2 at *
  go_enter Tryd.func42, Tryd.ntmps42
  go_wp2_with fail
  obtain ⟨X, hX⟩ : ∃ X, ((W.setCell ⟨G, 5, none⟩ (.int .i64 (s.steps + 1))).alloc (.cells #[.int .i64 x.op, .int .i64 x.out, .int .i64 x.arg, .slice B3 x.set.length d3, .int .i64 x.at_] 64)) = X := ⟨_, rfl⟩
  have hsz : (W.setCell ⟨G, 5, none⟩ (.int .i64 (s.steps + 1))).heap.size = W.heap.size := by simp [World.setCell]
  have hx0 := heap_new1 (W.setCell ⟨G, 5, none⟩ (.int .i64 (s.steps + 1))) (.cells #[.int .i64 x.op, .int .i64 x.out, .int .i64 x.arg, .slice B3 x.set.length d3, .int .i64 x.at_] 64)
  rw [hsz, hX] at hx0
  have hxS := heap_lt hx0
  have hX1 := H1.out.1.below (below_al (Below.refl _ _) (.cells #[.int .i64 x.op, .int .i64 x.out, .int .i64 x.arg, .slice B3 x.set.length d3, .int .i64 x.at_] 64))
  have hXB : Below (W.setCell ⟨G, 5, none⟩ (.int .i64 (s.steps + 1))).heap.size (W.setCell ⟨G, 5, none⟩ (.int .i64 (s.steps + 1))) X := by rw [← hX]; exact below_al (Below.refl _ _) _
  rw [hX] at hX1
  obtain ⟨x0, x1, x2, x3, x4⟩ := cells5 hx0
  clear q0 q3 q4 q5 q6 q7 q8 q9 m0 qf6 qf7 qf8 qf9 qf5 g0 g1 g2 g3 g4 k0 k1 k2 k3 k4 c0 c3 c4 c5 c6 c7 c8 c9 f5 hnb hx0
  obtain ⟨q0, q3, q4, q5, q6, q7, q8, q9, qf, m0⟩ := hX1.cells
  have hfitX := H1.out.2.2.2.2.1.grown (grown_below hXB (some G))
  have hgX := grown_trans H1.out.2.1 (grown_below hXB (some G))
  have hi1 := HI.out.1 _ _ X hX1 hfitX hfl (hB0 hgX) (by show 0 ≤ s.steps + 1; omega) HI.out.2.2.1
  have HX := Lib.hid (And.intro hX1 (And.intro hfitX (And.intro hgX (And.intro hxS (by rw [← hX]; exact (show _ from by
    have := heap_new1 (W.setCell ⟨G, 5, none⟩ (.int .i64 (s.steps + 1))) (.cells #[.int .i64 x.op, .int .i64 x.out, .int .i64 x.arg, .slice B3 x.set.length d3, .int .i64 x.at_] 64)
    rwa [hsz] at this) : X.heap[W.heap.size]? = some (.cells #[.int .i64 x.op, .int .i64 x.out, .int .i64 x.arg, .slice B3 x.set.length d3, .int .i64 x.at_] 64 (0, 0)))))))
  rw [hX]
  clear hX hX1 hXB hfitX hgX qf
  refine hi1.mono ?_
  clear hi1
  rintro e w3 ⟨rfl, ⟨bv3, nv3, h3⟩, hg3⟩
  dsimp only
  have hb3 := (hg3.block W.heap.size hxS (fun e => by cases e; omega)).trans HX.out.2.2.2.2
  clear x0 x1 x2 x3 x4 q0 q3 q4 q5 q6 q7 q8 q9 m0
  obtain ⟨x0, x1, x2, x3, x4⟩ := cells5 hb3
  have nx := heap_lt hb3
  have hi2 := HI.out.2.1 _ _ w3 h3 (HX.out.2.1.grown hg3) hfl (hB0 (grown_trans HX.out.2.2.1 hg3)) (by have := HI.out.2.2.2.1; omega) (Int.le_trans HI.out.2.2.2.2 HI.out.2.2.1)
  have H3 := Lib.hid (grown_trans HX.out.2.2.1 hg3)
  clear h3 hg3 hb3
  go_wp2_with fail
  refine hi2.mono ?_
  clear hi2
  rintro e w4 ⟨rfl, h4, hg4⟩
  dsimp only
  have H4 := Lib.hid (And.intro h4 (grown_trans H3.out hg4))
  clear h4 hg4
  go_wp2_with fail
  go_end0
  exact ⟨rfl, H4.out.1, H4.out.2⟩
set_option maxRecDepth 100000 in
set_option maxHeartbeats 4000000 in
theorem walk_cap (p : Pg) (G : Nat) (u0 u1 u2 : Value) (ia : Addr) (rs : List (Int × Int)) (lg : Bool) (w0 : World) (C : Ctx p G u0 u1 u2 ia rs w0) (n : Nat) (ih : WalkOK p G u0 u1 u2 ia rs lg w0 n)
    (i : Nat) (pl : Int) (fit : List Int) (fv : Value) (s : Rn) (s0 : Ow) (bv nv : Value) (W : World) (hws : (waysW meetB un2 p (n + 1) i s0).1 = true) (hp : Pc p i) (hpl : 0 ≤ pl) (hpl2 : pl ≤ 1000000) (h : RnAt W G u0 u1 u2 ia lg bv nv s) (hf : FitL W G fv fit) (hfl : (fit.length : Int) = p.caps) (hB : Below G w0 W) (hst : 0 ≤ s.steps) (hpot : potR p (1 + fit.length) s0 s ≤ BIG) (hs : s.stop = false) (ho : (p.get i).op = 4) :
    Calls Tryd.prog 42 #[.pointer (some ⟨G, 0, none⟩), .int .i64 i, .int .i64 pl, fv] W (RnPost G u0 u1 u2 ia lg (walkS p (runeAt rs) (atOf rs) lg (n + 1) i pl fit s) W) := by
  have hon := ways_on hws
  have hlf := pot_mul (K := 1 + fit.length) (onW_left hp hon)
  obtain ⟨wa1, wa3⟩ := ways_one hws rfl (.inl ho)
  have hp1 := (check_leads C.chk i hp).1 (by omega)
  have hpt1 : potR p (1 + (fit.set (p.get i).arg.toNat pl).length) (onW meetB un2 p i s0).2 ⟨s.steps + 1 + fit.length, s.best, s.next, s.nf, s.stop⟩ ≤ BIG := by rw [List.length_set]; unfold potR at hpot ⊢; dsimp only; omega
  have e2 : walkS p (runeAt rs) (atOf rs) lg (n + 1) i pl fit s = walkS p (runeAt rs) (atOf rs) lg n (p.get i).out pl (fit.set (p.get i).arg.toNat pl) ⟨s.steps + 1 + fit.length, s.best, s.next, s.nf, s.stop⟩ := by rw [walkS_new hs rfl, if_neg (by omega), if_neg (by omega), if_neg (by omega), if_pos ho]
  have ih1 := fun fv bv nv W => ih (p.get i).out pl (fit.set (p.get i).arg.toNat pl) fv ⟨s.steps + 1 + fit.length, s.best, s.next, s.nf, s.stop⟩ _ bv nv W wa1 hp1 hpl hpl2
  clear wa3 hlf hon
  obtain ⟨c0, c3, c4, c5, c6, c7, c8, c9, f, n0⟩ := h.cells
  have f5 := f 5
  have hi : i < p.ins.length := by have := hp.2; omega
  have hsb : s.steps ≤ 1000000000000000000 := by unfold potR BIG at hpot; omega
  obtain ⟨F, cf, rfl, hf1, hf2, hf3⟩ := hf
  have hB0 : ∀ {X : World}, W.grownBy X (some G) → Below G w0 X := fun hg => hB.trans (below_of_grown hg (by omega))
  obtain ⟨ad, c, B3, d3, hps, hc1, hcm, hd3, hd3m, hadb, hins⟩ := ins_at C.pg C.size i hi
  simp only [List.cons.injEq, and_true] at hps
  obtain ⟨rfl, rfl, rfl⟩ := hps
  have hge := get_eq p i hi
  have hg9 := check_good C.chk hp
  have hck := check_ok C.chk
  have hfl4 : fit.length ≤ 4002 ∧ 2 ≤ fit.length := by have := hck.2.2.2.1; have := hck.2.2.2.2.1; omega
  rw [hs] at c9
  have h1 := h.setSteps (s.steps + 1)
  have hgr1 := grown_set0 W G 5 (.int .i64 (s.steps + 1))
  have hB1 := hB.trans (below_of_grown hgr1 (by omega))
  obtain ⟨hset, g0, g1, g2, g3, g4⟩ := hins _ hB1
  obtain ⟨_, k0, k1, k2, k3, k4⟩ := hins _ hB
  have hnb : ((ad.add (i * 5)).block = G) = False := by rw [add_block]; simp; omega
  obtain ⟨q0, q3, q4, q5, q6, q7, q8, q9x, qf, m0⟩ := h1.cells
  have q9 : (W.setCell ⟨G, 5, none⟩ (.int .i64 (s.steps + 1))).cell? ⟨G, 9, none⟩ = some (.bool false) := by rw [← hs]; exact q9x
  clear q9x
  have qf6 := qf 6
  have qf7 := qf 7
  have qf8 := qf 8
  have qf9 := qf 9
  have qf5 := qf 5
  have hfit1 := FitL.grown ⟨F, cf, rfl, hf1, hf2, hf3⟩ hgr1
  rw [e2]
  clear e2
  rw [hge] at ih1 wa1 hpt1 ⊢
  have H1 := Lib.hid (And.intro h1 (And.intro hgr1 (And.intro hB1 (And.intro hset (And.intro hfit1 hws)))))
  have hinp := C.inp.move (w' := W.setCell ⟨G, 5, none⟩ (.int .i64 (s.steps + 1))) (ok' := fun k => k < G) (fun k hk hlt => ⟨hB1.block k hk, hk⟩)
  clear ih
  clear h h1 hgr1 hB1 hset hfit1 hf3 f qf hB hws hpot hs hins hck
  try rw [hge] at ho
  try rw [hge] at hg9
  clear hge
  generalize p.ins[i] = x at *
  have o1 : (x.op == 1) = false := by rw [ho]; rfl
  have o2 : (x.op == 2) = false := by rw [ho]; rfl
  have o3 : (x.op == 3) = false := by rw [ho]; rfl
  have o4 : (x.op == 4) = true := by rw [ho]; rfl
  have o5 : (x.op == 5) = false := by rw [ho]; rfl
  have HO := Lib.hid (And.intro ho hg9)
  clear ho hg9
  have HI := Lib.hid (And.intro ih1 hpt1)
  clear ih1 hpt1 wa1 hp1
  have hcp := HO.out.2.cap HO.out.1
  obtain ⟨m, hm⟩ := Int.eq_ofNat_of_zero_le (show 0 ≤ x.arg by omega)
  have hcl := fun (X : World) (hX : (W.setCell ⟨G, 5, none⟩ (.int .i64 (s.steps + 1))).grownBy X (some G)) => cloneI_any (fun k => k ≠ G) X F cf fit (by
    obtain ⟨A9, c9, e9, _, _, h9⟩ := H1.out.2.2.2.2.1.grown hX
    cases e9; exact h9) (by omega) (by omega)
  have HM := Lib.hid hm
  have HFL := Lib.hid hfl
  have harg := hcp
  clear hm hfl
  go_enter Tryd.func42, Tryd.ntmps42
  go_wp2_with fail
  obtain ⟨X, hX⟩ : ∃ X, ((W.setCell ⟨G, 5, none⟩ (.int .i64 (s.steps + 1))).alloc (.cells #[.int .i64 x.op, .int .i64 x.out, .int .i64 x.arg, .slice B3 x.set.length d3, .int .i64 x.at_] 64)) = X := ⟨_, rfl⟩
  have hsz : (W.setCell ⟨G, 5, none⟩ (.int .i64 (s.steps + 1))).heap.size = W.heap.size := by simp [World.setCell]
  have hx0 := heap_new1 (W.setCell ⟨G, 5, none⟩ (.int .i64 (s.steps + 1))) (.cells #[.int .i64 x.op, .int .i64 x.out, .int .i64 x.arg, .slice B3 x.set.length d3, .int .i64 x.at_] 64)
  rw [hsz, hX] at hx0
  have hxS := heap_lt hx0
  have hX1 := H1.out.1.below (below_al (Below.refl _ _) (.cells #[.int .i64 x.op, .int .i64 x.out, .int .i64 x.arg, .slice B3 x.set.length d3, .int .i64 x.at_] 64))
  have hXB : Below (W.setCell ⟨G, 5, none⟩ (.int .i64 (s.steps + 1))).heap.size (W.setCell ⟨G, 5, none⟩ (.int .i64 (s.steps + 1))) X := by rw [← hX]; exact below_al (Below.refl _ _) _
  rw [hX] at hX1
  obtain ⟨x0, x1, x2, x3, x4⟩ := cells5 hx0
  clear q0 q3 q4 q5 q6 q7 q8 q9 m0 qf6 qf7 qf8 qf9 qf5 g0 g1 g2 g3 g4 k0 k1 k2 k3 k4 c0 c3 c4 c5 c6 c7 c8 c9 f5 hnb hx0
  obtain ⟨q0, q3, q4, q5, q6, q7, q8, q9, qf, m0⟩ := hX1.cells
  have hxc : X.heap[W.heap.size]? = some (.cells #[.int .i64 x.op, .int .i64 x.out, .int .i64 x.arg, .slice B3 x.set.length d3, .int .i64 x.at_] 64 (0, 0)) := by
    rw [← hX]
    have := heap_new1 (W.setCell ⟨G, 5, none⟩ (.int .i64 (s.steps + 1))) (.cells #[.int .i64 x.op, .int .i64 x.out, .int .i64 x.arg, .slice B3 x.set.length d3, .int .i64 x.at_] 64)
    rwa [hsz] at this
  have hcl := hcl X (grown_below hXB _)
  have hgX := grown_trans H1.out.2.1 (grown_below hXB (some G))
  have HX := Lib.hid (And.intro hX1 (And.intro hgX (And.intro hXB hxc)))
  rw [hX]
  clear hX hX1 hXB hgX qf hxc
  refine hcl.mono ?_
  clear hcl
  rintro e w2 ⟨g, cg, rfl, hown, hb2⟩
  dsimp only
  have h2 := HX.out.1.below hb2
  have hbX := hb2
  have hgn : X.heap.size ≤ g := (hown.lt g rfl).1
  have hgr2 := grown_trans HX.out.2.1 (grown_below hb2 (some G))
  obtain ⟨cs2, hk2⟩ := own_blk hown rfl
  have hb3 := (hb2.block W.heap.size hxS).trans HX.out.2.2.2
  clear x0 x1 x2 x3 x4 q0 q3 q4 q5 q6 q7 q8 q9
  obtain ⟨x0, x1, x2, x3, x4⟩ := cells5 hb3
  have nx := heap_lt hb3
  have hml : m < fit.length := by have := HM.out; have := HFL.out; omega
  have hcell1 : ∃ u, w2.cell? ⟨g, m, none⟩ = some u := by
    obtain ⟨ad9, e9, hc9⟩ := ints_at (ownI64_arr0 hown) m hml
    cases e9
    have hadd : (⟨g, 0, none⟩ : Addr).add m = ⟨g, m, none⟩ := by unfold Addr.add; split <;> simp_all
    rw [hadd] at hc9
    exact ⟨_, hc9⟩
  obtain ⟨u9, hcell1⟩ := hcell1
  obtain ⟨q0, q3, q4, q5, q6, q7, q8, q9, qf, m1⟩ := h2.cells
  have qf5 := qf 5
  have hgf : w2.frozen? ⟨g, m, none⟩ = false := frozenOf hk2 m
  have hng := heap_lt hk2
  have hGg' : (g = G) = False := by simp; omega
  have hGg2 : (G = g) = False := by simp; omega
  have hgx : (g = W.heap.size) = False := by simp; omega
  have hgx2 : (W.heap.size = g) = False := by simp; omega
  have hGx : (G = W.heap.size) = False := by simp; omega
  have hGx2 : (W.heap.size = G) = False := by simp; omega
  have H2 := Lib.hid (And.intro h2 (And.intro hgr2 (And.intro hown hb3)))
  clear h2 hgr2 hown hb2 hk2 qf hb3
  rw [HM.out] at x2
  go_wp2_with fail
  obtain ⟨h2, hgr2, hown, hb3⟩ := H2.out
  have hz1 : RnAt (w2.setCell ⟨g, m, none⟩ (.int .i64 pl)) G (.slice (some ad) p.ins.length c) (.int .i64 p.start) (.int .i64 p.caps) ia lg bv nv ⟨s.steps + 1, s.best, s.next, s.nf, s.stop⟩ := by
    have hgx9 : X.grownBy (w2.setCell ⟨g, m, none⟩ (.int .i64 pl)) (some G) := grown_new (grown_below hbX _) hgn m _
    exact ⟨(set_ne0 _ _ (by show G ≠ g; omega)).trans h2.blk, HX.out.1.best.grown hgx9, HX.out.1.nf.grown hgx9⟩
  have hz2 := hz1.setSteps (s.steps + 1 + fit.length)
  have hgZ : W.grownBy ((w2.setCell ⟨g, m, none⟩ (.int .i64 pl)).setCell ⟨G, 5, none⟩ (.int .i64 (s.steps + 1 + fit.length))) (some G) := grown_set (grown_new hgr2 (by have := HX.out.2.1.size; omega) m _) 5 _
  have hfZ : FitL ((w2.setCell ⟨g, m, none⟩ (.int .i64 pl)).setCell ⟨G, 5, none⟩ (.int .i64 (s.steps + 1 + fit.length))) G (.slice (some ⟨g, 0, none⟩) fit.length cg) (fit.set x.arg.toNat pl) := by
    rw [show x.arg.toNat = m by rw [HM.out]; rfl]
    exact (owns_fit (owns_put hown m pl) (by omega)).grown (grown_set0 _ G 5 _)
  refine (HI.out.1 _ _ _ _ hz2 hfZ (by rw [List.length_set]; exact HFL.out) (hB0 hgZ) (by omega) HI.out.2).mono ?_
  rintro e w4 ⟨rfl, h4, hg4⟩
  dsimp only
  have H4 := Lib.hid (And.intro h4 (grown_trans hgZ hg4))
  clear h4 hg4 hz1 hz2 hgZ hfZ h2 hgr2 hown hb3
  go_wp2_with fail
  go_end0
  exact ⟨rfl, H4.out.1, H4.out.2⟩
set_option maxRecDepth 100000 in
set_option maxHeartbeats 4000000 in
theorem walk_atyes (p : Pg) (G : Nat) (u0 u1 u2 : Value) (ia : Addr) (rs : List (Int × Int)) (lg : Bool) (w0 : World) (C : Ctx p G u0 u1 u2 ia rs w0) (n : Nat) (ih : WalkOK p G u0 u1 u2 ia rs lg w0 n)
    (i : Nat) (pl : Int) (fit : List Int) (fv : Value) (s : Rn) (s0 : Ow) (bv nv : Value) (W : World) (hws : (waysW meetB un2 p (n + 1) i s0).1 = true) (hp : Pc p i) (hpl : 0 ≤ pl) (hpl2 : pl ≤ 1000000) (h : RnAt W G u0 u1 u2 ia lg bv nv s) (hf : FitL W G fv fit) (hfl : (fit.length : Int) = p.caps) (hB : Below G w0 W) (hst : 0 ≤ s.steps) (hpot : potR p (1 + fit.length) s0 s ≤ BIG) (hs : s.stop = false) (ho : (p.get i).op = 5) (hh : hitB (atOf rs pl) (p.get i).at_ = true) :
    Calls Tryd.prog 42 #[.pointer (some ⟨G, 0, none⟩), .int .i64 i, .int .i64 pl, fv] W (RnPost G u0 u1 u2 ia lg (walkS p (runeAt rs) (atOf rs) lg (n + 1) i pl fit s) W) := by
  have hon := ways_on hws
  have hlf := pot_mul (K := 1 + fit.length) (onW_left hp hon)
  obtain ⟨wa1, wa3⟩ := ways_one hws rfl (.inr ho)
  have hp1 := (check_leads C.chk i hp).1 (by omega)
  have hpt1 : potR p (1 + fit.length) (onW meetB un2 p i s0).2 ⟨s.steps + 1, s.best, s.next, s.nf, s.stop⟩ ≤ BIG := by unfold potR at hpot ⊢; dsimp only; omega
  have e2 : walkS p (runeAt rs) (atOf rs) lg (n + 1) i pl fit s = walkS p (runeAt rs) (atOf rs) lg n (p.get i).out pl fit ⟨s.steps + 1, s.best, s.next, s.nf, s.stop⟩ := by rw [walkS_new hs rfl, if_neg (by omega), if_neg (by omega), if_neg (by omega), if_neg (by omega), if_pos ho, if_pos hh]
  have ih1 := fun bv nv W => ih (p.get i).out pl fit fv ⟨s.steps + 1, s.best, s.next, s.nf, s.stop⟩ _ bv nv W wa1 hp1 hpl hpl2
  clear wa3 hlf hon
  obtain ⟨c0, c3, c4, c5, c6, c7, c8, c9, f, n0⟩ := h.cells
  have f5 := f 5
  have hi : i < p.ins.length := by have := hp.2; omega
  have hsb : s.steps ≤ 1000000000000000000 := by unfold potR BIG at hpot; omega
  obtain ⟨F, cf, rfl, hf1, hf2, hf3⟩ := hf
  have hB0 : ∀ {X : World}, W.grownBy X (some G) → Below G w0 X := fun hg => hB.trans (below_of_grown hg (by omega))
  obtain ⟨ad, c, B3, d3, hps, hc1, hcm, hd3, hd3m, hadb, hins⟩ := ins_at C.pg C.size i hi
  simp only [List.cons.injEq, and_true] at hps
  obtain ⟨rfl, rfl, rfl⟩ := hps
  have hge := get_eq p i hi
  have hg9 := check_good C.chk hp
  have hck := check_ok C.chk
  have hfl4 : fit.length ≤ 4002 ∧ 2 ≤ fit.length := by have := hck.2.2.2.1; have := hck.2.2.2.2.1; omega
  rw [hs] at c9
  have h1 := h.setSteps (s.steps + 1)
  have hgr1 := grown_set0 W G 5 (.int .i64 (s.steps + 1))
  have hB1 := hB.trans (below_of_grown hgr1 (by omega))
  obtain ⟨hset, g0, g1, g2, g3, g4⟩ := hins _ hB1
  obtain ⟨_, k0, k1, k2, k3, k4⟩ := hins _ hB
  have hnb : ((ad.add (i * 5)).block = G) = False := by rw [add_block]; simp; omega
  obtain ⟨q0, q3, q4, q5, q6, q7, q8, q9x, qf, m0⟩ := h1.cells
  have q9 : (W.setCell ⟨G, 5, none⟩ (.int .i64 (s.steps + 1))).cell? ⟨G, 9, none⟩ = some (.bool false) := by rw [← hs]; exact q9x
  clear q9x
  have qf6 := qf 6
  have qf7 := qf 7
  have qf8 := qf 8
  have qf9 := qf 9
  have qf5 := qf 5
  have hfit1 := FitL.grown ⟨F, cf, rfl, hf1, hf2, hf3⟩ hgr1
  rw [e2]
  clear e2
  rw [hge] at ih1 wa1 ⊢
  have H1 := Lib.hid (And.intro h1 (And.intro hgr1 (And.intro hB1 (And.intro hset (And.intro hfit1 hws)))))
  have hinp := C.inp.move (w' := W.setCell ⟨G, 5, none⟩ (.int .i64 (s.steps + 1))) (ok' := fun k => k < G) (fun k hk hlt => ⟨hB1.block k hk, hk⟩)
  clear ih
  clear h h1 hgr1 hB1 hset hfit1 hf3 f qf hB hws hpot hs hins hck
  try rw [hge] at ho
  try rw [hge] at hg9
  rw [hge] at hh
  clear hge
  generalize p.ins[i] = x at *
  have o1 : (x.op == 1) = false := by rw [ho]; rfl
  have o2 : (x.op == 2) = false := by rw [ho]; rfl
  have o3 : (x.op == 3) = false := by rw [ho]; rfl
  have o4 : (x.op == 4) = false := by rw [ho]; rfl
  have o5 : (x.op == 5) = true := by rw [ho]; rfl
  have HO := Lib.hid (And.intro ho hg9)
  clear ho hg9
  have HI := Lib.hid (And.intro ih1 hpt1)
  clear ih1 hpt1 wa1 hp1
  generalize hwk : walkS p (runeAt rs) (atOf rs) lg n x.out pl fit ⟨s.steps + 1, s.best, s.next, s.nf, s.stop⟩ = s2 at *
  clear hwk
  go_enter Tryd.func42, Tryd.ntmps42
  go_wp2_with fail
  obtain ⟨X, hX⟩ : ∃ X, ((W.setCell ⟨G, 5, none⟩ (.int .i64 (s.steps + 1))).alloc (.cells #[.int .i64 x.op, .int .i64 x.out, .int .i64 x.arg, .slice B3 x.set.length d3, .int .i64 x.at_] 64)) = X := ⟨_, rfl⟩
  have hsz : (W.setCell ⟨G, 5, none⟩ (.int .i64 (s.steps + 1))).heap.size = W.heap.size := by simp [World.setCell]
  have hx0 := heap_new1 (W.setCell ⟨G, 5, none⟩ (.int .i64 (s.steps + 1))) (.cells #[.int .i64 x.op, .int .i64 x.out, .int .i64 x.arg, .slice B3 x.set.length d3, .int .i64 x.at_] 64)
  rw [hsz, hX] at hx0
  have hxS := heap_lt hx0
  have hX1 := H1.out.1.below (below_al (Below.refl _ _) (.cells #[.int .i64 x.op, .int .i64 x.out, .int .i64 x.arg, .slice B3 x.set.length d3, .int .i64 x.at_] 64))
  have hXB : Below (W.setCell ⟨G, 5, none⟩ (.int .i64 (s.steps + 1))).heap.size (W.setCell ⟨G, 5, none⟩ (.int .i64 (s.steps + 1))) X := by rw [← hX]; exact below_al (Below.refl _ _) _
  rw [hX] at hX1
  obtain ⟨x0, x1, x2, x3, x4⟩ := cells5 hx0
  clear q0 q3 q4 q5 q6 q7 q8 q9 m0 qf6 qf7 qf8 qf9 qf5 g0 g1 g2 g3 g4 k0 k1 k2 k3 k4 c0 c3 c4 c5 c6 c7 c8 c9 f5 hnb hx0
  obtain ⟨q0, q3, q4, q5, q6, q7, q8, q9, qf, m0⟩ := hX1.cells
  have hxc : X.heap[W.heap.size]? = some (.cells #[.int .i64 x.op, .int .i64 x.out, .int .i64 x.arg, .slice B3 x.set.length d3, .int .i64 x.at_] 64 (0, 0)) := by
    rw [← hX]
    have := heap_new1 (W.setCell ⟨G, 5, none⟩ (.int .i64 (s.steps + 1))) (.cells #[.int .i64 x.op, .int .i64 x.out, .int .i64 x.arg, .slice B3 x.set.length d3, .int .i64 x.at_] 64)
    rwa [hsz] at this
  have hin2 := hinp.move (w' := X) (ok' := fun k => k < G) (fun k hk hlt => ⟨hXB.block k hlt, hk⟩)
  have HX := Lib.hid (And.intro hX1 (And.intro hXB (And.intro hin2 hxc)))
  rw [hX]
  clear hX hX1 hXB hin2 hinp hxc
  refine wp_region_scr (fun W' => Below X.heap.size X W') [(true, 0, 113), (true, 1, 114), (true, 2, 115), (true, 3, 116), (true, 4, 117), (true, 6, 119), (true, 7, 120), (false, 5, 118), (true, 8, 121), (true, 9, 122)] (by kernel_rfl) (by kernel_rfl) (fun _ _ _ _ _ h => h) rfl (by kernel_rfl) ?_
  have HV := Lib.hid (show Below X.heap.size X X.drew from (Below.refl _ _).drew)
  refine Scr.take (v := .pointer (some ⟨G, 0, none⟩)) rfl rfl (yw_pure (by rfl) (fun _ => by go_simp)) HV.out ?_
  simp only [Act.put, List.setIfInBounds_toArray, List.set_cons_zero, List.set_cons_succ]
  refine Scr.take (v := .pointer (some ⟨G, 0, none⟩)) rfl rfl (yw_pure (by rfl) (fun _ => by go_simp)) HV.out ?_
  simp only [Act.put, List.setIfInBounds_toArray, List.set_cons_zero, List.set_cons_succ]
  refine Scr.take (v := .pointer (some ⟨G, 3, none⟩)) rfl rfl (yw_pure (by rfl) (fun _ => by go_simp)) HV.out ?_
  simp only [Act.put, List.setIfInBounds_toArray, List.set_cons_zero, List.set_cons_succ]
  refine Scr.take (v := .pointer (some ia)) rfl rfl (yw_cell 32 _ rfl ⟨G, 3, none⟩ (.pointer (some ia)) rfl (by rfl) _ Tryd.underlying32 rfl (fun W hS => (World.cell?_of_block (hS.block _ m0)).trans q3)) HV.out ?_
  simp only [Act.put, List.setIfInBounds_toArray, List.set_cons_zero, List.set_cons_succ]
  refine Scr.take (v := .int .i64 pl) rfl rfl (yw_pure (by rfl) (fun _ => by go_simp)) HV.out ?_
  simp only [Act.put, List.setIfInBounds_toArray, List.set_cons_zero, List.set_cons_succ]
  refine Scr.take (v := .pointer (some ⟨W.heap.size, 4, none⟩)) rfl rfl (yw_pure (by rfl) (fun _ => by go_simp)) HV.out ?_
  simp only [Act.put, List.setIfInBounds_toArray, List.set_cons_zero, List.set_cons_succ]
  refine Scr.take (v := .int .i64 x.at_) rfl rfl (yw_cell 62 _ rfl ⟨W.heap.size, 4, none⟩ (.int .i64 x.at_) rfl (by rfl) _ Tryd.underlying62 rfl (fun W hS => (World.cell?_of_block (hS.block _ hxS)).trans x4)) HV.out ?_
  simp only [Act.put, List.setIfInBounds_toArray, List.set_cons_zero, List.set_cons_succ]
  have hat := at_any (fun k => k < G) X.drew ia rs (HX.out.2.2.1.move (fun k hk _ => ⟨rfl, hk⟩)) pl (by omega)
  refine Scr.run rfl (by rfl) (fun K hK => ?_)
  go_simp
  refine hat.mono ?_
  clear hat
  rintro e w4 ⟨rfl, nq, hw4⟩
  dsimp only
  have hB4 : Below X.heap.size X w4 := by rw [hw4]; exact below_drewN (Below.refl _ _).drew nq
  refine hK _ _ hB4 ?_
  clear hK K HV hw4
  have HV := Lib.hid hB4
  have hh' : (bits .and .i64 (atOf rs pl) x.at_ != 0) = true := hh
  generalize atOf rs pl = av at *
  refine Scr.take (v := .int .i64 (bits .and .i64 av x.at_)) rfl rfl (yw_pure (by rfl) (fun _ => by go_simp)) HV.out ?_
  simp only [Act.put, List.setIfInBounds_toArray, List.set_cons_zero, List.set_cons_succ]
  refine Scr.take (v := .bool (bits .and .i64 av x.at_ != 0)) rfl rfl (yw_pure (by rfl) (fun _ => by go_simp)) HV.out ?_
  simp only [Act.put, List.setIfInBounds_toArray, List.set_cons_zero, List.set_cons_succ]
  simp only [Scr]
  rw [hh']
  clear hh' hh
  have h4 := HX.out.1.below hB4
  have hb3 := (hB4.block W.heap.size hxS).trans HX.out.2.2.2
  clear x0 x1 x2 x3 x4
  obtain ⟨x0, x1, x2, x3, x4⟩ := cells5 hb3
  have ny : W.heap.size < w4.heap.size := heap_lt hb3
  clear q0 q3 q4 q5 q6 q7 q8 q9 qf m0
  have hfitX := H1.out.2.2.2.2.1.grown (grown_trans (grown_below HX.out.2.1 (some G)) (grown_below hB4 (some G)))
  have hgX := grown_trans H1.out.2.1 (grown_trans (grown_below HX.out.2.1 (some G)) (grown_below hB4 (some G)))
  have H4 := Lib.hid (And.intro h4 (And.intro hfitX hgX))
  clear h4 hfitX hgX hB4 hb3
  go_wp2_with fail
  refine (HI.out.1 _ _ w4 H4.out.1 H4.out.2.1 hfl (hB0 H4.out.2.2) (by show 0 ≤ s.steps + 1; omega) HI.out.2).mono ?_
  rintro e w5 ⟨rfl, h5, hg5⟩
  dsimp only
  have H5 := Lib.hid (And.intro h5 (grown_trans H4.out.2.2 hg5))
  clear h5 hg5
  go_wp2_with fail
  go_end0
  exact ⟨rfl, H5.out.1, H5.out.2⟩
set_option maxRecDepth 100000 in
set_option maxHeartbeats 4000000 in
theorem walk_atno (p : Pg) (G : Nat) (u0 u1 u2 : Value) (ia : Addr) (rs : List (Int × Int)) (lg : Bool) (w0 : World) (C : Ctx p G u0 u1 u2 ia rs w0) (n : Nat)
    (i : Nat) (pl : Int) (fit : List Int) (fv : Value) (s : Rn) (s0 : Ow) (bv nv : Value) (W : World) (hws : (waysW meetB un2 p (n + 1) i s0).1 = true) (hp : Pc p i) (hpl : 0 ≤ pl) (hpl2 : pl ≤ 1000000) (h : RnAt W G u0 u1 u2 ia lg bv nv s) (hf : FitL W G fv fit) (hfl : (fit.length : Int) = p.caps) (hB : Below G w0 W) (hst : 0 ≤ s.steps) (hpot : potR p (1 + fit.length) s0 s ≤ BIG) (hs : s.stop = false) (ho : (p.get i).op = 5) (hh : hitB (atOf rs pl) (p.get i).at_ = false) :
    Calls Tryd.prog 42 #[.pointer (some ⟨G, 0, none⟩), .int .i64 i, .int .i64 pl, fv] W (RnPost G u0 u1 u2 ia lg (walkS p (runeAt rs) (atOf rs) lg (n + 1) i pl fit s) W) := by
  obtain ⟨c0, c3, c4, c5, c6, c7, c8, c9, f, n0⟩ := h.cells
  have f5 := f 5
  have hi : i < p.ins.length := by have := hp.2; omega
  have hsb : s.steps ≤ 1000000000000000000 := by unfold potR BIG at hpot; omega
  obtain ⟨F, cf, rfl, hf1, hf2, hf3⟩ := hf
  have hB0 : ∀ {X : World}, W.grownBy X (some G) → Below G w0 X := fun hg => hB.trans (below_of_grown hg (by omega))
  obtain ⟨ad, c, B3, d3, hps, hc1, hcm, hd3, hd3m, hadb, hins⟩ := ins_at C.pg C.size i hi
  simp only [List.cons.injEq, and_true] at hps
  obtain ⟨rfl, rfl, rfl⟩ := hps
  have hge := get_eq p i hi
  have hg9 := check_good C.chk hp
  have hck := check_ok C.chk
  have hfl4 : fit.length ≤ 4002 ∧ 2 ≤ fit.length := by have := hck.2.2.2.1; have := hck.2.2.2.2.1; omega
  rw [hs] at c9
  have h1 := h.setSteps (s.steps + 1)
  have hgr1 := grown_set0 W G 5 (.int .i64 (s.steps + 1))
  have hB1 := hB.trans (below_of_grown hgr1 (by omega))
  obtain ⟨hset, g0, g1, g2, g3, g4⟩ := hins _ hB1
  obtain ⟨_, k0, k1, k2, k3, k4⟩ := hins _ hB
  have hnb : ((ad.add (i * 5)).block = G) = False := by rw [add_block]; simp; omega
  obtain ⟨q0, q3, q4, q5, q6, q7, q8, q9x, qf, m0⟩ := h1.cells
  have q9 : (W.setCell ⟨G, 5, none⟩ (.int .i64 (s.steps + 1))).cell? ⟨G, 9, none⟩ = some (.bool false) := by rw [← hs]; exact q9x
  clear q9x
  have qf6 := qf 6
  have qf7 := qf 7
  have qf8 := qf 8
  have qf9 := qf 9
  have qf5 := qf 5
  have hfit1 := FitL.grown ⟨F, cf, rfl, hf1, hf2, hf3⟩ hgr1
  rw [show walkS p (runeAt rs) (atOf rs) lg (n + 1) i pl fit s = ⟨s.steps + 1, s.best, s.next, s.nf, s.stop⟩ by rw [walkS_new hs hge]; rw [← hge, if_neg (by omega), if_neg (by omega), if_neg (by omega), if_neg (by omega), if_pos ho, if_neg (by rw [hh]; simp)]]
  have H1 := Lib.hid (And.intro h1 (And.intro hgr1 (And.intro hB1 (And.intro hset (And.intro hfit1 hws)))))
  have hinp := C.inp.move (w' := W.setCell ⟨G, 5, none⟩ (.int .i64 (s.steps + 1))) (ok' := fun k => k < G) (fun k hk hlt => ⟨hB1.block k hk, hk⟩)
  clear h h1 hgr1 hB1 hset hfit1 hf3 f qf hB hws hpot hs hins hck
  try rw [hge] at ho
  try rw [hge] at hg9
  rw [hge] at hh
  clear hge
  generalize p.ins[i] = x at *
  have o1 : (x.op == 1) = false := by rw [ho]; rfl
  have o2 : (x.op == 2) = false := by rw [ho]; rfl
  have o3 : (x.op == 3) = false := by rw [ho]; rfl
  have o4 : (x.op == 4) = false := by rw [ho]; rfl
  have o5 : (x.op == 5) = true := by rw [ho]; rfl
  have HO := Lib.hid (And.intro ho hg9)
  clear ho hg9
  go_enter Tryd.func42, Tryd.ntmps42
  go_wp2_with fail
  obtain ⟨X, hX⟩ : ∃ X, ((W.setCell ⟨G, 5, none⟩ (.int .i64 (s.steps + 1))).alloc (.cells #[.int .i64 x.op, .int .i64 x.out, .int .i64 x.arg, .slice B3 x.set.length d3, .int .i64 x.at_] 64)) = X := ⟨_, rfl⟩
  have hsz : (W.setCell ⟨G, 5, none⟩ (.int .i64 (s.steps + 1))).heap.size = W.heap.size := by simp [World.setCell]
  have hx0 := heap_new1 (W.setCell ⟨G, 5, none⟩ (.int .i64 (s.steps + 1))) (.cells #[.int .i64 x.op, .int .i64 x.out, .int .i64 x.arg, .slice B3 x.set.length d3, .int .i64 x.at_] 64)
  rw [hsz, hX] at hx0
  have hxS := heap_lt hx0
  have hX1 := H1.out.1.below (below_al (Below.refl _ _) (.cells #[.int .i64 x.op, .int .i64 x.out, .int .i64 x.arg, .slice B3 x.set.length d3, .int .i64 x.at_] 64))
  have hXB : Below (W.setCell ⟨G, 5, none⟩ (.int .i64 (s.steps + 1))).heap.size (W.setCell ⟨G, 5, none⟩ (.int .i64 (s.steps + 1))) X := by rw [← hX]; exact below_al (Below.refl _ _) _
  rw [hX] at hX1
  obtain ⟨x0, x1, x2, x3, x4⟩ := cells5 hx0
  clear q0 q3 q4 q5 q6 q7 q8 q9 m0 qf6 qf7 qf8 qf9 qf5 g0 g1 g2 g3 g4 k0 k1 k2 k3 k4 c0 c3 c4 c5 c6 c7 c8 c9 f5 hnb hx0
  obtain ⟨q0, q3, q4, q5, q6, q7, q8, q9, qf, m0⟩ := hX1.cells
  have hxc : X.heap[W.heap.size]? = some (.cells #[.int .i64 x.op, .int .i64 x.out, .int .i64 x.arg, .slice B3 x.set.length d3, .int .i64 x.at_] 64 (0, 0)) := by
    rw [← hX]
    have := heap_new1 (W.setCell ⟨G, 5, none⟩ (.int .i64 (s.steps + 1))) (.cells #[.int .i64 x.op, .int .i64 x.out, .int .i64 x.arg, .slice B3 x.set.length d3, .int .i64 x.at_] 64)
    rwa [hsz] at this
  have hin2 := hinp.move (w' := X) (ok' := fun k => k < G) (fun k hk hlt => ⟨hXB.block k hlt, hk⟩)
  have HX := Lib.hid (And.intro hX1 (And.intro hXB (And.intro hin2 hxc)))
  rw [hX]
  clear hX hX1 hXB hin2 hinp hxc
  refine wp_region_scr (fun W' => Below X.heap.size X W') [(true, 0, 113), (true, 1, 114), (true, 2, 115), (true, 3, 116), (true, 4, 117), (true, 6, 119), (true, 7, 120), (false, 5, 118), (true, 8, 121), (true, 9, 122)] (by kernel_rfl) (by kernel_rfl) (fun _ _ _ _ _ h => h) rfl (by kernel_rfl) ?_
  have HV := Lib.hid (show Below X.heap.size X X.drew from (Below.refl _ _).drew)
  refine Scr.take (v := .pointer (some ⟨G, 0, none⟩)) rfl rfl (yw_pure (by rfl) (fun _ => by go_simp)) HV.out ?_
  simp only [Act.put, List.setIfInBounds_toArray, List.set_cons_zero, List.set_cons_succ]
  refine Scr.take (v := .pointer (some ⟨G, 0, none⟩)) rfl rfl (yw_pure (by rfl) (fun _ => by go_simp)) HV.out ?_
  simp only [Act.put, List.setIfInBounds_toArray, List.set_cons_zero, List.set_cons_succ]
  refine Scr.take (v := .pointer (some ⟨G, 3, none⟩)) rfl rfl (yw_pure (by rfl) (fun _ => by go_simp)) HV.out ?_
  simp only [Act.put, List.setIfInBounds_toArray, List.set_cons_zero, List.set_cons_succ]
  refine Scr.take (v := .pointer (some ia)) rfl rfl (yw_cell 32 _ rfl ⟨G, 3, none⟩ (.pointer (some ia)) rfl (by rfl) _ Tryd.underlying32 rfl (fun W hS => (World.cell?_of_block (hS.block _ m0)).trans q3)) HV.out ?_
  simp only [Act.put, List.setIfInBounds_toArray, List.set_cons_zero, List.set_cons_succ]
  refine Scr.take (v := .int .i64 pl) rfl rfl (yw_pure (by rfl) (fun _ => by go_simp)) HV.out ?_
  simp only [Act.put, List.setIfInBounds_toArray, List.set_cons_zero, List.set_cons_succ]
  refine Scr.take (v := .pointer (some ⟨W.heap.size, 4, none⟩)) rfl rfl (yw_pure (by rfl) (fun _ => by go_simp)) HV.out ?_
  simp only [Act.put, List.setIfInBounds_toArray, List.set_cons_zero, List.set_cons_succ]
  refine Scr.take (v := .int .i64 x.at_) rfl rfl (yw_cell 62 _ rfl ⟨W.heap.size, 4, none⟩ (.int .i64 x.at_) rfl (by rfl) _ Tryd.underlying62 rfl (fun W hS => (World.cell?_of_block (hS.block _ hxS)).trans x4)) HV.out ?_
  simp only [Act.put, List.setIfInBounds_toArray, List.set_cons_zero, List.set_cons_succ]
  have hat := at_any (fun k => k < G) X.drew ia rs (HX.out.2.2.1.move (fun k hk _ => ⟨rfl, hk⟩)) pl (by omega)
  refine Scr.run rfl (by rfl) (fun K hK => ?_)
  go_simp
  refine hat.mono ?_
  clear hat
  rintro e w4 ⟨rfl, nq, hw4⟩
  dsimp only
  have hB4 : Below X.heap.size X w4 := by rw [hw4]; exact below_drewN (Below.refl _ _).drew nq
  refine hK _ _ hB4 ?_
  clear hK K HV hw4
  have HV := Lib.hid hB4
  have hh' : (bits .and .i64 (atOf rs pl) x.at_ != 0) = false := hh
  generalize atOf rs pl = av at *
  refine Scr.take (v := .int .i64 (bits .and .i64 av x.at_)) rfl rfl (yw_pure (by rfl) (fun _ => by go_simp)) HV.out ?_
  simp only [Act.put, List.setIfInBounds_toArray, List.set_cons_zero, List.set_cons_succ]
  refine Scr.take (v := .bool (bits .and .i64 av x.at_ != 0)) rfl rfl (yw_pure (by rfl) (fun _ => by go_simp)) HV.out ?_
  simp only [Act.put, List.setIfInBounds_toArray, List.set_cons_zero, List.set_cons_succ]
  simp only [Scr]
  rw [hh']
  clear hh' hh
  have h4 := HX.out.1.below hB4
  have hb3 := (hB4.block W.heap.size hxS).trans HX.out.2.2.2
  clear x0 x1 x2 x3 x4
  obtain ⟨x0, x1, x2, x3, x4⟩ := cells5 hb3
  have ny : W.heap.size < w4.heap.size := heap_lt hb3
  clear q0 q3 q4 q5 q6 q7 q8 q9 qf m0
  have hfitX := H1.out.2.2.2.2.1.grown (grown_trans (grown_below HX.out.2.1 (some G)) (grown_below hB4 (some G)))
  have hgX := grown_trans H1.out.2.1 (grown_trans (grown_below HX.out.2.1 (some G)) (grown_below hB4 (some G)))
  have H4 := Lib.hid (And.intro h4 (And.intro hfitX hgX))
  clear h4 hfitX hgX hB4 hb3
  go_wp2_with fail
  go_end0
  exact ⟨rfl, ⟨_, _, H4.out.1⟩, H4.out.2.2⟩
theorem walk_all (p : Pg) (G : Nat) (u0 u1 u2 : Value) (ia : Addr) (rs : List (Int × Int)) (lg : Bool) (w0 : World) (C : Ctx p G u0 u1 u2 ia rs w0) : ∀ n, WalkOK p G u0 u1 u2 ia rs lg w0 n
  | 0 => fun pc pl fit fv s s0 bv nv W hws => by simp [waysW] at hws
  | n + 1 => fun pc pl fit fv s s0 bv nv W hws hp hpl hpl2 h hf hfl hB hst hpot => by
    have ih := walk_all p G u0 u1 u2 ia rs lg w0 C n
    obtain ⟨i, rfl⟩ := Int.eq_ofNat_of_zero_le hp.1
    cases hs : s.stop with
    | true => exact walk_stop p G u0 u1 u2 ia rs lg w0 C n i pl fit fv s s0 bv nv W hws hp hpl hpl2 h hf hfl hB hst hpot hs
    | false =>
      by_cases c1 : (p.get i).op = 1
      · exact walk_match p G u0 u1 u2 ia rs lg w0 C n i pl fit fv s s0 bv nv W hws hp hpl hpl2 h hf hfl hB hst hpot hs c1
      by_cases c2 : (p.get i).op = 2
      · cases hh : hasB (p.get i).set (runeAt rs pl) with
        | true => exact walk_setyes p G u0 u1 u2 ia rs lg w0 C n i pl fit fv s s0 bv nv W hws hp hpl hpl2 h hf hfl hB hst hpot hs c2 hh
        | false => exact walk_setno p G u0 u1 u2 ia rs lg w0 C n i pl fit fv s s0 bv nv W hws hp hpl hpl2 h hf hfl hB hst hpot hs c2 hh
      by_cases c3 : (p.get i).op = 3
      · exact walk_alt p G u0 u1 u2 ia rs lg w0 C n ih i pl fit fv s s0 bv nv W hws hp hpl hpl2 h hf hfl hB hst hpot hs c3
      by_cases c4 : (p.get i).op = 4
      · exact walk_cap p G u0 u1 u2 ia rs lg w0 C n ih i pl fit fv s s0 bv nv W hws hp hpl hpl2 h hf hfl hB hst hpot hs c4
      by_cases c5 : (p.get i).op = 5
      · cases hh : hitB (atOf rs pl) (p.get i).at_ with
        | true => exact walk_atyes p G u0 u1 u2 ia rs lg w0 C n ih i pl fit fv s s0 bv nv W hws hp hpl hpl2 h hf hfl hB hst hpot hs c5 hh
        | false => exact walk_atno p G u0 u1 u2 ia rs lg w0 C n i pl fit fv s s0 bv nv W hws hp hpl hpl2 h hf hfl hB hst hpot hs c5 hh
      · exact walk_fail p G u0 u1 u2 ia rs lg w0 C n i pl fit fv s s0 bv nv W hws hp hpl hpl2 h hf hfl hB hst hpot hs ⟨c1, c2, c3, c4, c5⟩
end Go.Proofs.YthclpabmbhpohaaDoor
namespace Go.Proofs.YthclpabmbhpohaaDoor
open Go.RowKit
set_option linter.unusedVariables false
def RepRel (w : World) (e : TypeId) (sz n : Nat) (X : List Value) (s8 : Value) (wr : World) : Prop :=
  ∃ (m : Nat) (R : List Value), s8 = .int .i64 m ∧ m ≤ n ∧ (0 < n → 0 < m) ∧ Below w.heap.size w wr ∧ wr.heap[w.heap.size]? = some (.cells ((List.replicate m X).flatten ++ R).toArray e (0, 0)) ∧ R.length = (n - m) * sz
def RepPost (e : TypeId) (sz n : Nat) (X : List Value) (w : World) (en : Ending) (w' : World) : Prop :=
  ∃ v', en = .returned v' ∧ Owns w' w.heap.size e sz v' (List.replicate n X) ∧ Below w.heap.size w w'
theorem flat_rep {X : List Value} {sz : Nat} (hX : X.length = sz) (n : Nat) : (List.replicate n X).flatten.length = n * sz := by
  induction n with
  | zero => simp
  | succ n ih => rw [List.replicate_succ, List.flatten_cons, List.length_append, ih, hX, Nat.succ_mul]; omega
theorem rep_splice {X : List Value} {sz : Nat} (hX : X.length = sz) {m k n : Nat} {R : List Value} (hR : R.length = (n - m) * sz) (hk : k ≤ n - m) :
    ∃ R', splice ((List.replicate m X).flatten ++ R) (m * sz) (List.replicate k X).flatten = (List.replicate (m + k) X).flatten ++ R' ∧ R'.length = (n - (m + k)) * sz := by
  refine ⟨R.drop (k * sz), ?_, ?_⟩
  · have h1 := flat_rep hX m
    have h2 := flat_rep hX k
    unfold splice
    rw [h2, List.take_left' h1, ← Nat.add_mul, ← List.replicate_append_replicate, List.flatten_append, List.append_assoc, List.drop_append, h1, List.drop_eq_nil_of_le (by rw [h1]; exact Nat.mul_le_mul_right _ (by omega)), List.nil_append, show (m + k) * sz - m * sz = k * sz by rw [Nat.add_mul]; omega]
  · rw [List.length_drop, hR, ← Nat.sub_mul]
    congr 1
    omega
theorem rep_pre {X : List Value} {m k : Nat} (hk : k ≤ m) (R : List Value) {j : Nat} {v : Value} (h : (List.replicate k X).flatten[j]? = some v) : ((List.replicate m X).flatten ++ R)[j]? = some v := by
  obtain ⟨d, rfl⟩ : ∃ d, m = k + d := ⟨m - k, by omega⟩
  rw [← List.replicate_append_replicate, List.flatten_append, List.append_assoc, List.getElem?_append_left (List.getElem?_eq_some_iff.1 h).1]
  exact h
theorem copy_src (gx : Nat) (X : List Value) (k m : Nat) (hk : k ≤ m) (R : List Value) (w : World) {T : TypeId} (h : w.heap[gx]? = some (.cells ((List.replicate m X).flatten ++ R).toArray T (0, 0))) : ∀ j v, (List.replicate k X).flatten[j]? = some v → w.cell? ((⟨gx, 0, none⟩ : Addr).add j) = some v := by
  intro j v hj
  have h9 := rep_pre (X := X) (m := m) hk R hj
  rw [show (⟨gx, 0, none⟩ : Addr).add j = ⟨gx, j, none⟩ by unfold Addr.add; split <;> simp_all, cell_of_blk h]
  simpa using h9
theorem infoRInt : (Tryd.prog.info? 3).map (fun i => (i.zero, i.size, i.bytes)) = some (some (.int .i64 0), 1, 8) := by kernel_rfl
theorem infoRsInt : (Tryd.prog.info? 3).map (·.size) = some 1 := by kernel_rfl
set_option maxRecDepth 100000 in
set_option maxHeartbeats 2000000 in
theorem repInt (w : World) (gx n : Nat) (X : List Value) (hX : X.length = 1) (h1 : ∀ u ∈ X, u.oneCell' = true) (hg : w.heap[gx]? = some (.cells X.toArray 3 (0, 0))) (hn : n ≤ 1000000) :
    Calls Tryd.prog 41 #[.slice (some ⟨gx, 0, none⟩) 1 1, .int .i64 n] w (RepPost 3 1 n X w) := by
  obtain ⟨i0, hi, hz0, hz1, hz2⟩ := info_parts infoRInt
  have hmul := fun W => mul_one n (by omega) W
  have hone : ∀ k, ∀ u ∈ (List.replicate k X).flatten, u.oneCell' = true := fun k u hu => by
    obtain ⟨c', hc', hu'⟩ := List.mem_flatten.1 hu
    rw [(List.mem_replicate.1 hc').2] at hu'
    exact h1 u hu'
  have H := Lib.hid (And.intro hX (And.intro hg hone))
  clear hX hg hone h1
  have hsz : gx < w.heap.size := heap_lt H.out.2.1
  obtain ⟨m0, hm0⟩ : ∃ m0, Nat.min 1 n = m0 := ⟨_, rfl⟩
  have HM := Lib.hid hm0
  clear hm0
  go_enter Tryd.func41, Tryd.ntmps41
  go_wp2_with (first | (go_at_call 63; refine (hmul _).mono ?_; clear hmul; rintro e w' ⟨rfl, rfl⟩) | (at_make; refine wpList_make_full _ rfl _ _ 35 rfl w.heap.size 3 i0 (.int .i64 0) 1 Tryd.underlying35 hi hz0 hz1 _ _ _ _ n rfl rfl rfl rfl (by rw [hz2]; omega) (by unfold maxLen; omega) (Nat.le_refl _) ?_))
  intro w1 hown hgr
  have hs1 : w1.heap.size = w1.heap.size := rfl
  rcases hown.2 with ⟨hv, _⟩ | ⟨g, cap, cur, hv, _, hcur, _, _, hcs, _⟩
  · simp at hv
  simp only [Value.slice.injEq, Option.some.injEq, Addr.mk.injEq, and_true, true_and] at hv
  obtain ⟨rfl, rfl⟩ := hv
  have hb1 : Below w.heap.size w w1 := (Below.refl _ _).grown hgr (Nat.le_refl _) (fun k e => by cases e)
  have hgx1 := (hb1.block gx hsz).trans H.out.2.1
  have H1 := Lib.hid (And.intro hb1 (And.intro hcur (And.intro (show cur.toList.length = n * 1 by simpa using hcs) hgx1)))
  clear hown hgr hb1 hcur hcs hgx1 hs1
  have hc1 := copy_src gx X m0 1 (by rw [← HM.out]; exact Nat.min_le_left 1 n) [] w1 (by simpa using H1.out.2.2.2)
  have hc2 : 0 + (List.replicate m0 X).flatten.length ≤ cur.toList.length := by
    rw [flat_rep H.out.1, H1.out.2.2.1, Nat.zero_add]
    exact Nat.mul_le_mul_right _ (by rw [← HM.out]; exact Nat.min_le_right 1 n)
  have HC := Lib.hid (And.intro hc1 hc2)
  clear hc1 hc2
  go_wp2_with ((refine wpList_copyS rfl _ _ 35 35 rfl 3 1 Tryd.underlying35 infoRsInt _ _ _ _ _ _ rfl rfl w.heap.size 0 cur.toList 3 (by simpa using H1.out.2.1) (List.replicate m0 X).flatten (by rw [HM.out]; exact flat_rep H.out.1 _) (fun _ => ⟨rfl, _, rfl, HC.out.1⟩) (by decide) HC.out.2 (H.out.2.2 _) m0 HM.out ?_))
  intro w2 HG2 hgr2 hs2
  have hm : m0 ≤ n := by rw [← HM.out]; exact Nat.min_le_right 1 n
  have hm0 : 0 < n → 0 < m0 := fun h => by rw [← HM.out]; show 0 < min 1 n; omega
  obtain ⟨R, hR1, hR2⟩ := rep_splice (X := X) H.out.1 (m := 0) (n := n) (R := cur.toList) (by rw [H1.out.2.2.1, Nat.sub_zero]) hm
  simp only [List.replicate_zero, List.flatten_nil, List.nil_append, Nat.zero_mul, Nat.zero_add] at hR1 hR2
  have hb2 : Below w.heap.size w w2 := H1.out.1.grown hgr2 H1.out.1.size (fun k e => by cases e; exact Nat.le_refl _)
  have hc2 := HG2.out
  rw [hR1] at hc2
  have H2 := Lib.hid (And.intro hb2 (And.intro hc2 hR2))
  clear HG2 hgr2 hs2 hR1 hR2 hb2 hc2
  go_wp2_with fail
  go_loopw [8] (fun s8 wr => RepRel w 3 1 n X s8 wr) (fun s8 _ => n - (intOf s8).toNat)
  case atStart => exact ⟨m0, R, rfl, hm, hm0, H2.out.1, H2.out.2.1, H2.out.2.2⟩
  case round =>
    obtain ⟨m, R, rfl, hmn, hmp, hBr, hcr, hRl⟩ := hrel
    have HR := Lib.hid (And.intro hBr (And.intro hcr (And.intro hRl hmp)))
    clear hBr hcr hRl hmp H2 H1 hm hm0
    by_cases hlt : m < n
    · obtain ⟨k, hk⟩ : ∃ k, k = Nat.min m (n - m) := ⟨_, rfl⟩
      have hmp := HR.out.2.2.2 (by omega)
      have hkb : 0 < k ∧ k ≤ m ∧ k ≤ n - m := by have hk' : k = min m (n - m) := hk; omega
      obtain ⟨hk1, hk2, hk3⟩ := hkb
      have HK := Lib.hid hk
      clear hk
      have hi1 : (0 : Int) ≤ (m : Int) := by omega
      have hi2 : (m : Int) ≤ (n : Int) := by omega
      have hw9 : IntKind.i64.wrap ((m : Int) + (k : Int)) = (m : Int) + (k : Int) := IntWalk.i64_in _ (by omega)
      go_wp2_with fail
      have hsrc := copy_src w.heap.size X k m hk2 R wr.drew HR.out.2.1
      have hfit : m * 1 + (List.replicate k X).flatten.length ≤ ((List.replicate m X).flatten ++ R).length := by
        rw [List.length_append, flat_rep H.out.1, flat_rep H.out.1, HR.out.2.2.1]
        exact Nat.add_le_add_left (Nat.mul_le_mul_right _ hk3) _
      have HS := Lib.hid (And.intro hsrc hfit)
      clear hsrc hfit
      go_region_law ((refine step_copyS (by rfl) (.tmp 41) (.tmp 44) 35 35 (by rfl) 3 1 Tryd.underlying35 infoRsInt (if n = m then some ⟨w.heap.size, 0, none⟩ else some ⟨w.heap.size, m, none⟩) (some ⟨w.heap.size, 0, none⟩) (n - m) (n - m) m n (by simp [Act.eval, Act.put]) (by simp [Act.eval, Act.put]) w.heap.size (m * 1) ((List.replicate m X).flatten ++ R) 3 HR.out.2.1 (List.replicate k X).flatten (by rw [← HK.out]; exact flat_rep H.out.1 _) (fun _ => ⟨by rw [if_neg (by omega)] <;> simp, _, rfl, HS.out.1⟩) (by decide) HS.out.2 (H.out.2.2 _) k HK.out.symm ?_; intro w3 HG3 hgr3 hs3))
      obtain ⟨R', hR1, hR2⟩ := rep_splice (X := X) H.out.1 (m := m) (n := n) (R := R) HR.out.2.2.1 hk3
      have hc3 := HG3.out
      rw [hR1] at hc3
      have hb3 : Below w.heap.size w w3 := (HR.out.1.drew).grown hgr3 HR.out.1.size (fun k e => by cases e; exact Nat.le_refl _)
      have H3 := Lib.hid (And.intro hb3 (And.intro hc3 hR2))
      clear HG3 hgr3 hs3 hR1 hR2 hb3 hc3
      go_wp2_with fail
      go_roundw
      case rel => exact ⟨m + k, R', by go_num, by omega, fun _ => by omega, H3.out.1, H3.out.2.1, H3.out.2.2⟩
      case measure => simp [intOf]; omega
    · obtain rfl : m = n := by omega
      go_wp2_with fail
      go_ret
      refine ⟨.slice (some ⟨w.heap.size, 0, none⟩) m m, rfl, ⟨⟨?_, .inr ⟨w.heap.size, m, ((List.replicate m X).flatten ++ R).toArray, by rw [List.length_replicate], Nat.le_refl _, HR.out.2.1, by rw [List.length_replicate]; exact Nat.le_refl _, by unfold maxLen; omega, ?_, ?_⟩⟩, fun c hc => by rw [(List.mem_replicate.1 hc).2]; exact H.out.1⟩, HR.out.1⟩
      · rw [List.length_replicate]; exact flat_rep H.out.1 _
      · have h9 := flat_rep H.out.1 m
        have h8 := HR.out.2.2.1
        rw [List.size_toArray, List.length_append, h9, h8]; omega
      · rw [List.length_replicate]
        exact List.take_left' (flat_rep H.out.1 m)
end Go.Proofs.YthclpabmbhpohaaDoor
namespace Go.Proofs.YthclpabmbhpohaaDoor
open Go.RowKit
set_option linter.unusedVariables false
/-- What Match tells: the best match, is there one, the steps. -/
def MatchPost (s : Rn) (w : World) (e : Ending) (w' : World) : Prop :=
  ∃ v, e = .returned (.tuple #[v, .bool s.best.isSome, .int .i64 s.steps]) ∧ (∃ A c, v = .slice A (s.best.getD []).length c ∧ (s.best.getD []).length ≤ c ∧ c ≤ maxLen ∧ Arr (fun _ => True) w' 1 (IntC .i64) A (s.best.getD [])) ∧ Below w.heap.size w w'
def noRn : Rn := ⟨0, none, 0, [], false⟩
/-- What Match tells of any program. -/
def matchOf (p : Pg) (rs : List (Int × Int)) (lg : Bool) : Rn := if admitsB p = true then matchS p rs lg else noRn
theorem noRn_post (w w' : World) (h : Below w.heap.size w w') : MatchPost noRn w (.returned (.tuple #[.slice none 0 0, .bool false, .int .i64 0])) w' := ⟨_, rfl, ⟨none, 0, rfl, Nat.le_refl _, Nat.zero_le _, Arr.nil⟩, h⟩
set_option maxRecDepth 100000 in
set_option maxHeartbeats 1000000 in
theorem match_nil (w : World) (p : Pg) (ps : List Value) (ok : Nat → Prop) (hp : PgC ok w p ps) (lg : Bool) :
    Calls Tryd.prog 25 #[.agg ps.toArray, .pointer none, .bool lg] w (MatchPost noRn w) := by
  obtain ⟨A, c, rfl, p1, p2, _⟩ := hp
  go_enter Tryd.func25, Tryd.ntmps25
  go_wp2_with fail
  go_ret3
  exact noRn_post _ _ (below_al (Below.refl _ _) _)
set_option maxRecDepth 100000 in
set_option maxHeartbeats 1000000 in
theorem match_no (ok : Nat → Prop) (w : World) (p : Pg) (ps : List Value) (hp : PgC ok w p ps) (hN : p.ins.length ≤ 140737488351232) (hset : ∀ x ∈ p.ins, x.set.length ≤ 1000000000) (ia : Addr) (lg : Bool) (hA : admitsB p = false) :
    Calls Tryd.prog 25 #[.agg ps.toArray, .pointer (some ia), .bool lg] w (MatchPost noRn w) := by
  have hB := below_al (Below.refl w.heap.size w) (.cells ps.toArray 28)
  have had := admits_any ok _ p ps (hp.below hB) hN hset
  rw [hA] at had
  obtain ⟨A, c, rfl, p1, p2, _⟩ := hp
  have HB := Lib.hid hB
  clear hB
  go_enter Tryd.func25, Tryd.ntmps25
  go_wp2_with fail
  refine had.mono ?_
  clear had
  rintro e w1 ⟨rfl, hb1⟩
  dsimp only
  have H1 := Lib.hid (below_and hb1 HB.out)
  clear hb1
  go_wp2_with fail
  go_ret3
  exact noRn_post _ _ H1.out
theorem RnAt.setNx {W : World} {G : Nat} {u0 u1 u2 : Value} {ia : Addr} {lg : Bool} {bv nv : Value} {s : Rn} (h : RnAt W G u0 u1 u2 ia lg bv nv s) (n : Int) : RnAt (W.setCell ⟨G, 7, none⟩ (.int .i64 n)) G u0 u1 u2 ia lg bv nv ⟨s.steps, s.best, n, s.nf, s.stop⟩ :=
  ⟨by rw [heap_set0 h.blk 7]; simp, h.best.grown (grown_set0 W G 7 _), h.nf.grown (grown_set0 W G 7 _)⟩
theorem hC_in {p : Pg} {G : Nat} {u0 u1 u2 : Value} {ia : Addr} {rs : List (Int × Int)} {w0 wr : World} (C : Ctx p G u0 u1 u2 ia rs w0) (h : Below G w0 wr) : InpC (fun k => k < G) wr ia rs := C.inp.move (fun b hb _ => ⟨h.block b hb, hb⟩)
set_option maxRecDepth 100000 in
set_option maxHeartbeats 4000000 in
theorem match_yes (ok : Nat → Prop) (w : World) (p : Pg) (ps : List Value) (hp : PgC ok w p ps) (hset : ∀ x ∈ p.ins, x.set.length ≤ 1000000000) (ia : Addr) (rs : List (Int × Int)) (hin : InpC ok w ia rs) (hrs : rs.length ≤ 1000000) (hr1 : 1 ≤ rs.length) (lg : Bool) (hA : admitsB p = true) :
    Calls Tryd.prog 25 #[.agg ps.toArray, .pointer (some ia), .bool lg] w (MatchPost (matchS p rs lg) w) := by
  have h0 : checkS rightR p = 0 := by unfold admitsB at hA; simp only [Bool.and_eq_true, beq_iff_eq] at hA; exact hA.1
  have hAdm : admG p (simpleW meetB un2 p) (p.ins.length + 1) 0 [p.start] = true := by unfold admitsB admW at hA; simp only [Bool.and_eq_true] at hA; exact hA.2.2
  have hk := check_ok h0
  have hl := check_leads h0
  have hT := adm_leads hl hk.2.2.1 hAdm
  obtain ⟨T, hTs, hTc⟩ := hT
  have hB := below_al (Below.refl w.heap.size w) (.cells ps.toArray 28)
  have had := admits_any ok _ p ps (hp.below hB) (by omega) hset
  rw [hA] at had
  have hpg : PgC (fun k => k < w.heap.size) w p ps := hp.old.move fun b hb hlt => ⟨rfl, hb.2⟩
  have hinp : InpC (fun k => k < w.heap.size) w ia rs := hin.move fun b hb hlt => ⟨rfl, hlt⟩
  obtain ⟨A, c, rfl, p1, p2, _⟩ := hp
  have hx := heap_new1 w (.cells #[.slice A p.ins.length c, .int .i64 p.start, .int .i64 p.caps] 28)
  obtain ⟨R, hR⟩ : ∃ R, matchS p rs lg = R := ⟨_, rfl⟩
  rw [hR]
  obtain ⟨n, hn⟩ := Int.eq_ofNat_of_zero_le (show 0 ≤ p.caps by omega)
  have HH := Lib.hid (And.intro hB (And.intro hx (And.intro hpg (And.intro hinp (And.intro hR (And.intro hk (And.intro hTs (And.intro hTc (And.intro h0 hn)))))))))
  have hn2 : n ≤ 4002 ∧ 2 ≤ n := by omega
  clear hB hx hpg hinp hR hk hTs hTc hAdm hl h0 hA hin hn
  go_enter Tryd.func25, Tryd.ntmps25
  go_wp2_with fail
  refine had.mono ?_
  clear had
  rintro e w1 ⟨rfl, hb1⟩
  dsimp only
  have h1 := (hb1.block w.heap.size (by simp)).trans HH.out.2.1
  obtain ⟨q0, q1, q2⟩ := cells3 h1
  rw [HH.out.2.2.2.2.2.2.2.2.2] at q2
  have hsz := heap_lt h1
  have H1 := Lib.hid (And.intro (below_and hb1 HH.out.1) h1)
  clear hb1 h1
  go_wp2_with fail
  have hrep := repInt ((w1.alloc (.cells #[.slice A p.ins.length c, .int .i64 p.start, .int .i64 n, .pointer (some ia), .bool lg, .int .i64 0, .slice none 0 0, .int .i64 0, .slice none 0 0, .bool false] 92)).alloc (.cells #[.int .i64 (-1)] 3)) (w1.heap.size + 1) n [.int .i64 (-1)] rfl (one_i64 _) (heap_new2 w1 _ _) (by omega)
  refine hrep.mono ?_
  clear hrep
  rintro e w2 ⟨v2, rfl, hown, hb2⟩
  dsimp only
  have hrepl : List.replicate n [Value.int .i64 (-1)] = (List.replicate n (-1 : Int)).map i64C := by simp [i64C]
  rw [hrepl] at hown
  have hcap : p.caps = (n : Int) := HH.out.2.2.2.2.2.2.2.2.2
  have hG2 : w2.heap[w1.heap.size]? = some (.cells #[.slice A p.ins.length c, .int .i64 p.start, .int .i64 n, .pointer (some ia), .bool lg, .int .i64 0, .slice none 0 0, .int .i64 0, .slice none 0 0, .bool false] 92 (0, 0)) := (hb2.block _ (by simp; omega)).trans ((Below.heap_alloc _ _ _ (by simp)).trans (heap_new1 w1 _))
  obtain ⟨g, cg, rfl⟩ : ∃ g cg, v2 = .slice (some ⟨g, 0, none⟩) n cg := by
    rcases hown.1.2 with ⟨rfl, h9⟩ | ⟨g, cap, cur, rfl, _⟩
    · exfalso
      obtain ⟨A3, c3, he, _⟩ := hown.shape
      simp only [Value.slice.injEq, List.length_map, List.length_replicate] at he
      omega
    · exact ⟨g, cap, by rw [List.length_map, List.length_replicate]⟩
  have hgn := (hown.lt g rfl).1
  simp only [World.size_alloc] at hgn
  obtain ⟨cs2, hk2⟩ := own_blk hown rfl
  have hcell0 : ∃ u, w2.cell? ⟨g, 0, none⟩ = some u := by
    obtain ⟨ad9, e9, hc9⟩ := ints_at (ownI64_arr0 hown) 0 (by simp; omega)
    cases e9
    exact ⟨_, by simpa [Addr.add] using hc9⟩
  obtain ⟨u9, hcell0⟩ := hcell0
  have hgf : w2.frozen? ⟨g, 0, none⟩ = false := frozenOf hk2 0
  have hng := heap_lt hk2
  have hGg : (g = w1.heap.size) = False := by simp; omega
  have hGg2 : (w1.heap.size = g) = False := by simp; omega
  have hwG : w.heap.size < w1.heap.size := hsz
  have hgw : (g = w.heap.size) = False := by simp; omega
  have hgw2 : (w.heap.size = g) = False := by simp; omega
  have hB2 : Below w1.heap.size w1 w2 := (below_al (below_al (Below.refl _ _) _) _).trans (hb2.mono (by simp; omega))
  have hb3 := (hB2.block w.heap.size hsz).trans H1.out.2
  clear q0 q1 q2
  obtain ⟨q0, q1, q2⟩ := cells3 hb3
  have ny := heap_lt hb3
  have y7 : w2.cell? ⟨w1.heap.size, 7, none⟩ = some (.int .i64 0) := by rw [cell_of_blk hG2]; rfl
  have y8 : w2.cell? ⟨w1.heap.size, 8, none⟩ = some (.slice none 0 0) := by rw [cell_of_blk hG2]; rfl
  have yf7 := frozenOf hG2 7
  have yf8 := frozenOf hG2 8
  have hGl := heap_lt hG2
  have H2 := Lib.hid (And.intro hown (And.intro hB2 (And.intro hG2 (And.intro hb3 hcap))))
  clear hown hB2 hG2 hb3 hb2 hk2 hcap hrepl
  go_wp2_with fail
  have hZ : ∃ bv nv, RnAt (((w2.setCell ⟨g, 0, none⟩ (.int .i64 0)).setCell ⟨w1.heap.size, 7, none⟩ (.int .i64 p.start)).setCell ⟨w1.heap.size, 8, none⟩ (.slice (some ⟨g, 0, none⟩) n cg)) w1.heap.size (.slice A p.ins.length c) (.int .i64 p.start) (.int .i64 p.caps) ia lg bv nv ⟨0, none, p.start, fit0 p, false⟩ := by
    obtain ⟨hown, hB2, hG2, hb3, hcap⟩ := H2.out
    have h8 : RnAt (w2.setCell ⟨g, 0, none⟩ (.int .i64 0)) w1.heap.size (.slice A p.ins.length c) (.int .i64 p.start) (.int .i64 p.caps) ia lg (.slice none 0 0) (.slice none 0 0) ⟨0, none, 0, [], false⟩ :=
      ⟨by rw [hcap]; exact (set_ne0 _ _ (by show w1.heap.size ≠ g; omega)).trans hG2, rfl, ⟨none, 0, rfl, Nat.le_refl _, Nat.zero_le _, Arr.nil⟩⟩
    have h9 := owns_put (l := List.replicate n (-1 : Int)) (g := g) (c := cg) (by simpa using hown) 0 0
    have h10 : FitL (w2.setCell ⟨g, 0, none⟩ (.int .i64 0)) w1.heap.size (.slice (some ⟨g, 0, none⟩) n cg) (fit0 p) := by
      have e : fit0 p = (List.replicate n (-1 : Int)).set 0 0 := by unfold fit0; rw [hcap]; rfl
      rw [e]
      have := owns_fit (G := w1.heap.size) h9 (by first | omega | (simp only [World.size_alloc]; omega))
      simpa using this
    exact ⟨_, _, h8.setNext p.start h10⟩
  have hBZ : Below w1.heap.size w1 (((w2.setCell ⟨g, 0, none⟩ (.int .i64 0)).setCell ⟨w1.heap.size, 7, none⟩ (.int .i64 p.start)).setCell ⟨w1.heap.size, 8, none⟩ (.slice (some ⟨g, 0, none⟩) n cg)) :=
    (((H2.out.2.1.setCell (p := ⟨g, 0, none⟩) (by show w1.heap.size ≤ g; omega) _).setCell (p := ⟨w1.heap.size, 7, none⟩) (Nat.le_refl _) _).setCell (p := ⟨w1.heap.size, 8, none⟩) (Nat.le_refl _) _)
  have hC : Ctx p w1.heap.size (.slice A p.ins.length c) (.int .i64 p.start) (.int .i64 p.caps) ia rs w1 :=
    ⟨HH.out.2.2.1.move (fun b hb hlt => ⟨H1.out.1.block b hb, by omega⟩), HH.out.2.2.2.1.move (fun b hb hlt => ⟨H1.out.1.block b hb, by omega⟩), Nat.le_refl _, HH.out.2.2.2.2.2.2.2.2.1, hrs⟩
  have hwalk := walk_all p w1.heap.size _ _ _ ia rs lg w1 hC (p.ins.length + 1)
  obtain ⟨D, hD⟩ : ∃ D, p.ins.length * (1 + n) = D := ⟨_, rfl⟩
  have hDl : D ≤ 40030000 := by rw [← hD]; exact Nat.le_trans (Nat.mul_le_mul HH.out.2.2.2.2.2.1.2.1 (show 1 + n ≤ 4003 by omega)) (by omega)
  have HD := Lib.hid hD
  have HC := Lib.hid (And.intro hC hwalk)
  have HZ := Lib.hid (And.intro hZ hBZ)
  have hcapn : p.caps = (n : Int) := H2.out.2.2.2.2
  have HCN := Lib.hid hcapn
  clear hD hC hwalk hZ hBZ q0 q1 q2 y7 y8 yf7 yf8 hcell0 hgf hng hGg hGg2 hgw hgw2 hcapn
  go_loopg [11] (rs.length + 1) (fun gm s11 wr => ∃ (j : Nat) (s : Rn) (bv nv : Value), s11 = .int .i64 j ∧ j ≤ rs.length ∧ rs.length + 1 - j ≤ gm ∧ RnAt wr w1.heap.size (.slice A p.ins.length c) (.int .i64 p.start) (.int .i64 p.caps) ia lg bv nv s ∧ Below w1.heap.size w1 wr ∧ (s.next < 0 ∨ s.next ∈ T) ∧ 0 ≤ s.steps ∧ s.steps ≤ ((j * D : Nat) : Int) ∧ (s.nf.length : Int) = p.caps ∧ (∀ b, s.best = some b → (b.length : Int) = p.caps) ∧ runL p (runeAt rs) (atOf rs) lg ((rs.length : Int) - 1) (rs.length - j) j s = R)
  case atStart =>
    obtain ⟨⟨bv, nv, hz⟩, hbz⟩ := HZ.out
    refine ⟨0, _, bv, nv, rfl, by omega, by omega, hz, hbz, .inr HH.out.2.2.2.2.2.2.1, Int.le_refl _, by simp, ?_, fun b hb => (by cases hb), HH.out.2.2.2.2.1⟩
    have := HCN.out
    simp [fit0]; omega
  case round =>
    obtain ⟨j, s, bv, nv, rfl, hj, hgm, hrn, hBr, hnx, hs0, hs1, hnf, hbst, hrun⟩ := hrel
    have hjD : j * D ≤ 1000000 * 40030000 := Nat.mul_le_mul (by omega) hDl
    obtain ⟨c0, c3, c4, c5, c6, c7, c8, c9, fz, ng⟩ := hrn.cells
    have hinr := hC_in HC.out.1 hBr
    have hlen := len_any (fun _ => True) wr ia rs (hinr.move (fun b _ _ => ⟨rfl, trivial⟩))
    have fz7 := fz 7
    have fz9 := fz 9
    have HJ := Lib.hid (And.intro hrn (And.intro hBr (And.intro hnx (And.intro hs1 (And.intro hnf (And.intro hbst (And.intro hrun hgm)))))))
    by_cases hneg : s.next < 0
    · have hRs : s = R := by
        rw [← hrun]
        cases hm : rs.length - j with
        | zero => rfl
        | succ m => rw [runL, if_pos (.inl hneg)]
      have HRS := Lib.hid hRs
      clear hrn hBr hnx hs1 hnf hbst hrun hgm hinr hRs
      have hd : decide (0 ≤ s.next) = false := by simp; omega
      clear hlen fz7 fz9 fz
      have hbv := HJ.out.1.best
      cases hbb : s.best with
      | none =>
        rw [hbb] at hbv
        obtain rfl : bv = .slice none 0 0 := hbv
        have HBB := Lib.hid hbb
        clear hbb
        go_wp2_with fail
        go_quiet (fail)
        go_wp2_with fail
        go_ret3
        rw [← HRS.out]
        exact ⟨.slice none 0 0, by rw [HBB.out]; rfl, ⟨none, 0, by rw [HBB.out]; rfl, by rw [HBB.out]; exact Nat.le_refl _, Nat.zero_le _, by rw [HBB.out]; exact Arr.nil⟩, below_drewN (H1.out.1.trans (HJ.out.2.1.mono H1.out.1.size)) _⟩
      | some l =>
        rw [hbb] at hbv
        obtain ⟨⟨A9, c9, rfl, hb1, hb2, hb3⟩, hb4⟩ := hbv
        obtain ⟨ad9, rfl, _⟩ := ints_at hb3 0 (by omega)
        have HBB := Lib.hid (And.intro hbb hb3)
        clear hbb hb3
        go_wp2_with fail
        go_quiet (fail)
        go_wp2_with fail
        go_ret3
        rw [← HRS.out]
        exact ⟨.slice (some ad9) l.length c9, by rw [HBB.out.1]; rfl, ⟨some ad9, c9, by rw [HBB.out.1]; rfl, by rw [HBB.out.1]; exact hb1, hb2, by rw [HBB.out.1]; exact HBB.out.2.move (fun b _ _ => ⟨rfl, trivial⟩) (by omega)⟩, below_drewN (H1.out.1.trans (HJ.out.2.1.mono H1.out.1.size)) _⟩
    · have hd : decide (0 ≤ s.next) = true := by simp; omega
      by_cases hlast : (rs.length : Int) - 1 < j
      · have hRs : s = R := by
          rw [← hrun]
          rw [show rs.length - j = 0 by omega]; rfl
        have HRS := Lib.hid hRs
        clear hrn hBr hnx hs1 hnf hbst hrun hgm hinr hRs fz7 fz9 fz
        have hle2 : decide ((j : Int) ≤ (rs.length : Int) - 1) = false := by simp; omega
        go_wp2_with (go_at_call 15; refine hlen.mono ?_; clear hlen; rintro e w' ⟨rfl, rfl⟩)
        have hbv := HJ.out.1.best
        cases hbb : s.best with
        | none =>
          rw [hbb] at hbv
          obtain rfl : bv = .slice none 0 0 := hbv
          have HBB := Lib.hid hbb
          clear hbb
          go_wp2_with fail
          go_quiet (fail)
          go_wp2_with fail
          go_ret3
          rw [← HRS.out]
          exact ⟨.slice none 0 0, by rw [HBB.out]; rfl, ⟨none, 0, by rw [HBB.out]; rfl, by rw [HBB.out]; exact Nat.le_refl _, Nat.zero_le _, by rw [HBB.out]; exact Arr.nil⟩, below_drewN (H1.out.1.trans (HJ.out.2.1.mono H1.out.1.size)) _⟩
        | some l =>
          rw [hbb] at hbv
          obtain ⟨⟨A9, c9, rfl, hb1, hb2, hb3⟩, hb4⟩ := hbv
          obtain ⟨ad9, rfl, _⟩ := ints_at hb3 0 (by omega)
          have HBB := Lib.hid (And.intro hbb hb3)
          clear hbb hb3
          go_wp2_with fail
          go_quiet (fail)
          go_wp2_with fail
          go_ret3
          rw [← HRS.out]
          exact ⟨.slice (some ad9) l.length c9, by rw [HBB.out.1]; rfl, ⟨some ad9, c9, by rw [HBB.out.1]; rfl, by rw [HBB.out.1]; exact hb1, hb2, by rw [HBB.out.1]; exact HBB.out.2.move (fun b _ _ => ⟨rfl, trivial⟩) (by omega)⟩, below_drewN (H1.out.1.trans (HJ.out.2.1.mono H1.out.1.size)) _⟩
      · have hle2 : decide ((j : Int) ≤ (rs.length : Int) - 1) = true := by simp; omega
        have hpcT : s.next ∈ T := hnx.resolve_left hneg
        obtain ⟨hpc, hsimp, houts⟩ := HH.out.2.2.2.2.2.2.2.1 _ hpcT
        have hrun2 : runL p (runeAt rs) (atOf rs) lg ((rs.length : Int) - 1) (rs.length - (j + 1)) ((j + 1 : Nat) : Int) (placeS p (runeAt rs) (atOf rs) lg j s) = R := by
          rw [← hrun, show rs.length - j = (rs.length - (j + 1)) + 1 by omega, runL, if_neg (by omega)]; rfl
        have hgood := walkS_good (me := meetB) (un := un2) (p := p) (rn := runeAt rs) (av := atOf rs) (lg := lg) (p.ins.length + 1) s.next j s.nf ⟨s.steps, s.best, -1, s.nf, false⟩ ⟨[], [], [], 0⟩ hsimp hnf hnf hbst
        have hpot := walkS_pot (me := meetB) (un := un2) (runeAt rs) (atOf rs) lg (check_leads HC.out.1.chk) (1 + n) (p.ins.length + 1) s.next j s.nf ⟨s.steps, s.best, -1, s.nf, false⟩ ⟨[], [], [], 0⟩ hpc hsimp (by have := HCN.out; omega)
        have HG := Lib.hid (And.intro hrun2 (And.intro hgood (And.intro hpot (And.intro hpc (And.intro hsimp houts)))))
        clear hrn hBr hnx hs1 hnf hbst hrun hgm hinr hrun2 hgood hpot hpc hsimp houts hpcT
        go_wp2_with (go_at_call 15; refine hlen.mono ?_; clear hlen; rintro e w' ⟨rfl, rfl⟩)
        go_quiet (fail)
        have hr2 := HJ.out.1.below (below_drewN (Below.refl _ _) nq)
        have hB2 := below_drewN HJ.out.2.1 nq
        generalize wr.drewN nq = wq at *
        clear c0 c3 c4 c5 c6 c7 c8 c9 fz ng fz7 fz9
        obtain ⟨c0, c3, c4, c5, c6, c7, c8, c9, fz, ng⟩ := hr2.cells
        have fz7 := fz 7
        have fz9 := fz 9
        have HQ := Lib.hid (And.intro hr2 hB2)
        clear hr2 hB2 fz
        go_wp2_with fail
        have hY := (HQ.out.1.setNx (-1)).setStop false
        have hBY := (HQ.out.2.setCell (p := ⟨w1.heap.size, 7, none⟩) (Nat.le_refl _) (.int .i64 (-1))).setCell (p := ⟨w1.heap.size, 9, none⟩) (Nat.le_refl _) (.bool false)
        have hfY := HQ.out.1.nf.grown (grown_set (grown_set0 wq w1.heap.size 7 (.int .i64 (-1))) 9 (.bool false))
        have hpt : potR p (1 + s.nf.length) ⟨[], [], [], 0⟩ ⟨s.steps, s.best, -1, s.nf, false⟩ ≤ BIG := by
          unfold potR BIG
          simp only [leftN_nil]
          have e1 : 1 + s.nf.length = 1 + n := by have := HJ.out.2.2.2.2.1; have := HCN.out; omega
          rw [e1, HD.out]
          have := HJ.out.2.2.2.1
          omega
        refine (HC.out.2 s.next j s.nf nv ⟨s.steps, s.best, -1, s.nf, false⟩ ⟨[], [], [], 0⟩ _ _ _ HG.out.2.2.2.2.1 HG.out.2.2.2.1 (by omega) (by omega) hY hfY HJ.out.2.2.2.2.1 hBY hs0 hpt).mono ?_
        rintro e w5 ⟨rfl, ⟨bv5, nv5, h5⟩, hg5⟩
        dsimp only
        have HL := Lib.hid (And.intro h5 (hBY.trans (below_of_grown hg5 (by simp [World.setCell]; omega))))
        clear hY hBY hfY hpt h5 hg5
        go_wp2_with fail
        go_roundg (gk - 1)
        case measure => have := HJ.out.2.2.2.2.2.2.2; omega
        case rel =>
          obtain ⟨hrun2, hgood, hpot, hpc, hsimp, houts⟩ := HG.out
          refine ⟨j + 1, placeS p (runeAt rs) (atOf rs) lg j s, bv5, nv5, by go_num, by omega, by have := HJ.out.2.2.2.2.2.2.2; omega, HL.out.1, HL.out.2, ?_, Int.le_trans hs0 hpot.1, ?_, hgood.nf, hgood.best, hrun2⟩
          · rcases hgood.next with e | ⟨x, hx, e⟩
            · exact .inl (by show (walkS _ _ _ _ _ _ _ _ _).next < 0; rw [e]; show (-1 : Int) < 0; omega)
            · exact .inr (by show (walkS _ _ _ _ _ _ _ _ _).next ∈ T; rw [e]; exact houts x hx)
          · have h9 := hpot.2
            unfold potR at h9
            have h9 := Int.le_trans (Int.le_add_of_nonneg_right (Int.natCast_nonneg _)) h9
            simp only [leftN_nil] at h9
            rw [HD.out] at h9
            have h10 := HJ.out.2.2.2.1
            show (walkS _ _ _ _ _ _ _ _ _).steps ≤ _
            rw [Nat.add_mul, Nat.one_mul]
            omega
theorem match_any (ok : Nat → Prop) (w : World) (p : Pg) (ps : List Value) (hp : PgC ok w p ps) (hN : p.ins.length ≤ 140737488351232) (hset : ∀ x ∈ p.ins, x.set.length ≤ 1000000000) (ia : Addr) (rs : List (Int × Int)) (hin : InpC ok w ia rs) (hrs : rs.length ≤ 1000000) (hr1 : 1 ≤ rs.length) (lg : Bool) :
    Calls Tryd.prog 25 #[.agg ps.toArray, .pointer (some ia), .bool lg] w (MatchPost (matchOf p rs lg) w) := by
  unfold matchOf
  cases hA : admitsB p with
  | true => rw [if_pos rfl]; exact match_yes ok w p ps hp hset ia rs hin hrs hr1 lg hA
  | false => rw [if_neg (by simp)]; exact match_no ok w p ps hp hN hset ia lg hA
end Go.Proofs.YthclpabmbhpohaaDoor
namespace Go.Proofs.YthclpabmbhpohaaDoor
open Go.RowKit
set_option linter.unusedVariables false
def pHd : Pg := ⟨[⟨1, 0, 0, [], 0⟩, ⟨5, 0, 0, [], 1⟩], 1, 2⟩
def txA : ByteArray := ⟨#[97]⟩
theorem symsA : symsOf txA = [(97, 0), (-1, 1)] := by kernel_rfl
theorem adm_hd : admitsB pHd = true := by kernel_rfl
theorem adm_nil : admitsB ⟨[], 0, 0⟩ = false := by kernel_rfl
theorem match_hd : matchS pHd [(97, 0), (-1, 1)] false = ⟨2, some [0, 0], -1, [0, -1], true⟩ := by kernel_rfl
theorem matchOf_hd : matchOf pHd (symsOf txA) false = ⟨2, some [0, 0], -1, [0, -1], true⟩ := by unfold matchOf; rw [if_pos adm_hd, symsA, match_hd]
def insHd : List Value := [.int .i64 1, .int .i64 0, .int .i64 0, .slice none 0 0, .int .i64 0, .int .i64 5, .int .i64 0, .int .i64 0, .slice none 0 0, .int .i64 1]
theorem pg_hd (W : World) (b : Nat) (fr : Nat × Nat) (h : W.heap[b]? = some (.cells insHd.toArray 64 fr)) : PgC (fun k => k = b) W pHd [.slice (some ⟨b, 0, none⟩) 2 2, .int .i64 1, .int .i64 2] := by
  refine ⟨some ⟨b, 0, none⟩, 2, rfl, Nat.le_refl _, by unfold maxLen; omega, fun i x hx => ?_⟩
  have hadd : ∀ n, (⟨b, 0, none⟩ : Addr).add n = ⟨b, n, none⟩ := fun n => by unfold Addr.add; split <;> simp_all
  match i, hx with
  | 0, hx =>
    simp [pHd] at hx
    subst hx
    refine ⟨_, [.int .i64 1, .int .i64 0, .int .i64 0, .slice none 0 0, .int .i64 0], rfl, rfl, ⟨none, 0, rfl, Nat.le_refl _, Nat.zero_le _, Arr.nil⟩, rfl, fun j u hu => ?_⟩
    rw [hadd, cell_of_blk h]
    match j, hu with
    | 0, hu => exact hu
    | 1, hu => exact hu
    | 2, hu => exact hu
    | 3, hu => exact hu
    | 4, hu => exact hu
  | 1, hx =>
    simp [pHd] at hx
    subst hx
    refine ⟨_, [.int .i64 5, .int .i64 0, .int .i64 0, .slice none 0 0, .int .i64 1], rfl, rfl, ⟨none, 0, rfl, Nat.le_refl _, Nat.zero_le _, Arr.nil⟩, rfl, fun j u hu => ?_⟩
    rw [hadd, cell_of_blk h]
    match j, hu with
    | 0, hu => exact hu
    | 1, hu => exact hu
    | 2, hu => exact hu
    | 3, hu => exact hu
    | 4, hu => exact hu
theorem set_hd : ∀ x ∈ pHd.ins, x.set.length ≤ 1000000000 := by intro x hx; simp [pHd] at hx; rcases hx with rfl | rfl <;> simp
theorem textA (W : World) (b : Nat) (fr : Nat × Nat) (hb : W.heap[b]? = some (.cells #[.int .u8 97] 5 fr)) : TextC (fun _ => True) W (some ⟨b, 0, none⟩) txA := by
  intro i x hi
  have hadd : ∀ n, (⟨b, 0, none⟩ : Addr).add n = ⟨b, n, none⟩ := fun n => by unfold Addr.add; split <;> simp_all
  refine ⟨_, _, rfl, trivial, rfl, rfl, fun j u hj => ?_⟩
  rw [hadd, cell_of_blk hb]
  simp only [List.getElem?_singleton] at hj
  split at hj
  · rename_i h0
    subst h0
    cases hj
    change ([97] : List UInt8)[i]? = some x at hi
    rcases i with _ | i <;> simp at hi <;> subst hi <;> rfl
  · cases hj
def HeadPost15 (w : World) (e : Ending) (w' : World) : Prop := e = .returned (.bool true) ∧ Below w.heap.size w w'
set_option maxRecDepth 100000 in
set_option maxHeartbeats 2000000 in
theorem head15_any (w : World) : Calls Tryd.prog 21 #[] w (HeadPost15 w) := by
  have kc := fun (w : World) (C : Array Value) (n c : Nat) => Lib.run_convert_bytes_const (P := Tryd.prog) w 29 5 C n c Tryd.underlying29 Tryd.underlying5
  go_enter Tryd.func21, Tryd.ntmps21
  go_wp2_with fail
  obtain ⟨X, hX⟩ : ∃ X, ((w.alloc (.cells #[.int .i64 1, .int .i64 0, .int .i64 0, .slice none 0 0, .int .i64 0, .int .i64 5, .int .i64 0, .int .i64 0, .slice none 0 0, .int .i64 1] 64)).alloc (.cells #[.slice (some ⟨w.heap.size, 0, none⟩) 2 2, .int .i64 1, .int .i64 2] 28)) = X := ⟨_, rfl⟩
  have hXb : Below w.heap.size w X := by rw [← hX]; exact below_al (below_al (Below.refl _ _) _) _
  have hX0 : X.heap[w.heap.size]? = some (.cells insHd.toArray 64 (0, 0)) := by rw [← hX, Below.heap_alloc _ _ _ (by simp)]; exact heap_new1 _ _
  have hX1 : X.heap[w.heap.size + 1]? = some (.cells #[.slice (some ⟨w.heap.size, 0, none⟩) 2 2, .int .i64 1, .int .i64 2] 28 (0, 0)) := by rw [← hX]; exact heap_new2 _ _ _
  rw [hX]
  have HX := Lib.hid (And.intro hXb (And.intro hX0 hX1))
  clear hX hXb hX0 hX1
  refine wp_region_scr (fun W' => Below X.heap.size X W') [(true, 0, 10), (false, 1, 11), (false, 2, 12), (false, 3, 13), (false, 4, 14), (true, 5, 9), (true, 6, 15), (true, 7, 16), (true, 8, 17), (true, 9, 2), (true, 10, 3), (true, 11, 4)] (by kernel_rfl) (by kernel_rfl) (fun _ _ _ _ _ h => h) rfl (by kernel_rfl) ?_
  have HV := Lib.hid (show Below X.heap.size X X.drew from (Below.refl _ _).drew)
  refine Scr.take (v := .agg ([.slice (some ⟨w.heap.size, 0, none⟩) 2 2, .int .i64 1, .int .i64 2] : List Value).toArray) rfl rfl (yw_row 28 _ rfl (w.heap.size + 1) [.slice (some ⟨w.heap.size, 0, none⟩) 2 2, .int .i64 1, .int .i64 2] 28 rfl (by rfl) _ Tryd.underlying28 rfl (by kernel_rfl) (fun W hS => (hS.block _ (heap_lt HX.out.2.2)).trans HX.out.2.2)) HV.out ?_
  simp only [Act.put, List.setIfInBounds_toArray, List.set_cons_zero, List.set_cons_succ]
  refine Scr.run rfl (by rfl) (fun K hK => ?_)
  go_simp
  have hB1 : Below X.heap.size X (X.drew.alloc (.cells #[.int .u8 97] 5)) := (below_al (Below.refl _ X.drew) _ |> fun h => (Below.refl X.heap.size X).drew.trans h)
  refine hK _ _ hB1 ?_
  clear hK K HV
  have HV := Lib.hid hB1
  have kd : Sem.run Tryd.prog (convert 29 29 (.slice (some ⟨X.heap.size, 0, none⟩) 1 1)) (X.alloc (.cells #[.int .u8 97] 5)).drew = .ok (.slice (some ⟨X.heap.size, 0, none⟩) 1 1) (X.alloc (.cells #[.int .u8 97] 5 (1, 2))).drew := kc X.drew #[.int .u8 97] 1 1
  refine Scr.run rfl (by rfl) (fun K hK => ?_)
  go_simp
  have hB2 : Below X.heap.size X (X.alloc (.cells #[.int .u8 97] 5 (1, 2))).drew := (below_al (Below.refl _ X) _).drew
  refine hK _ _ hB2 ?_
  clear hK K HV kd
  have htx := text_small (fun _ => True) (X.alloc (.cells #[.int .u8 97] 5 (1, 2))).drew (some ⟨X.heap.size, 0, none⟩) 1 txA (textA _ _ _ (heap_new1 X _)) (by decide)
  have HB2 := Lib.hid hB2
  refine Scr.run rfl (by rfl) (fun K hK => ?_)
  go_simp
  refine htx.mono ?_
  clear htx
  rintro e w3 ⟨b3, rfl, hI, hb3⟩
  dsimp only
  have hB3 : Below X.heap.size X w3 := HB2.out.trans (hb3.mono HB2.out.size)
  refine hK _ _ hB3 ?_
  clear hK K hB2
  have hm := match_any (fun _ => True) w3 pHd _ ((pg_hd X _ _ HX.out.2.1).move (fun b hb hlt => ⟨hB3.block b hlt, trivial⟩)) (by decide) set_hd ⟨b3, 0, none⟩ (symsOf txA) (hI.move (fun b hb _ => ⟨rfl, trivial⟩)) (by rw [symsA]; decide) (by rw [symsA]; decide) false
  rw [matchOf_hd] at hm
  have HB3 := Lib.hid hB3
  clear hI hb3 hB3
  refine Scr.run rfl (by rfl) (fun K hK => ?_)
  go_simp
  refine hm.mono ?_
  clear hm
  rintro e w4 ⟨v4, rfl, ⟨A4, c4, rfl, h41, h42, h43⟩, hb4⟩
  dsimp only
  have hB4 : Below X.heap.size X w4 := HB3.out.trans (hb4.mono HB3.out.size)
  refine hK _ _ hB4 ?_
  clear hK K
  have HV := Lib.hid hB4
  simp only [Option.getD_some, List.length_cons, List.length_nil, Nat.zero_add, Nat.reduceAdd] at h41 h42 h43 ⊢
  obtain ⟨ad, rfl, z0⟩ := ints_at h43 0 (by decide)
  obtain ⟨ad', e', z1⟩ := ints_at h43 1 (by decide)
  cases e'
  have z0 : w4.cell? ad = some (.int .i64 0) := by simpa [Addr.add] using z0
  have z1 : w4.cell? ⟨ad.block, ad.off + 1, none⟩ = some (.int .i64 0) := by
    have h9 : ad.add 1 = ⟨ad.block, ad.off + 1, none⟩ := by unfold Addr.add; rw [if_neg (by decide)]
    rw [← h9]; exact z1
  have H4 := Lib.hid hB4
  clear h41 h42 h43 hb4 hB4
  refine Scr.take (v := .tuple #[.slice (some ad) 2 c4, .bool true, .int .i64 2]) rfl rfl (yw_pure (by rfl) (fun _ => by go_simp)) HV.out ?_
  simp only [Act.put, List.setIfInBounds_toArray, List.set_cons_zero, List.set_cons_succ]
  refine Scr.take (v := .slice (some ad) 2 c4) rfl rfl (yw_pure (by rfl) (fun _ => by go_simp)) HV.out ?_
  simp only [Act.put, List.setIfInBounds_toArray, List.set_cons_zero, List.set_cons_succ]
  refine Scr.take (v := .bool true) rfl rfl (yw_pure (by rfl) (fun _ => by go_simp)) HV.out ?_
  simp only [Act.put, List.setIfInBounds_toArray, List.set_cons_zero, List.set_cons_succ]
  refine Scr.take (v := .int .i64 2) rfl rfl (yw_pure (by rfl) (fun _ => by go_simp)) HV.out ?_
  simp only [Act.put, List.setIfInBounds_toArray, List.set_cons_zero, List.set_cons_succ]
  refine Scr.take (v := .slice (some ad) 2 c4) rfl rfl (yw_pure (by rfl) (fun _ => by go_simp)) HV.out ?_
  simp only [Act.put, List.setIfInBounds_toArray, List.set_cons_zero, List.set_cons_succ]
  refine Scr.take (v := .bool true) rfl rfl (yw_pure (by rfl) (fun _ => by go_simp)) HV.out ?_
  simp only [Act.put, List.setIfInBounds_toArray, List.set_cons_zero, List.set_cons_succ]
  refine Scr.take (v := .int .i64 2) rfl rfl (yw_pure (by rfl) (fun _ => by go_simp)) HV.out ?_
  simp only [Act.put, List.setIfInBounds_toArray, List.set_cons_zero, List.set_cons_succ]
  simp only [Scr]
  have ha1 := fun (W : World) (hW : Below X.heap.size X W) => admits_any (fun _ => True) W pHd _ ((pg_hd X _ _ HX.out.2.1).move (fun b hb hlt => ⟨hW.block b hlt, trivial⟩)) (by decide) set_hd
  have ha2 := fun (W : World) => admits_any (fun _ => True) W ⟨[], 0, 0⟩ [.slice none 0 0, .int .i64 0, .int .i64 0] ⟨none, 0, rfl, Nat.le_refl _, Nat.zero_le _, Arr.nil⟩ (by decide) (fun x hx => by simp at hx)
  rw [adm_hd] at ha1
  rw [adm_nil] at ha2
  have hb9 := (H4.out.block _ (heap_lt HX.out.2.2)).trans HX.out.2.2
  obtain ⟨q0, q1, q2⟩ := cells3 hb9
  have nq := heap_lt hb9
  have ha1 := ha1 w4 H4.out
  clear hb9
  go_wp2_with fail
  refine ha1.mono ?_
  clear ha1
  rintro e w5 ⟨rfl, hb5⟩
  dsimp only
  have hc5 : ∀ p : Addr, p.block < w4.heap.size → w5.cell? p = w4.cell? p := fun p hp => hb5.cell hp
  have z0 := (hc5 _ (World.block_lt_of_cell? w4 _ z0)).trans z0
  have z1 := (hc5 _ (World.block_lt_of_cell? w4 _ z1)).trans z1
  have H5 := Lib.hid (below_and hb5 (below_then HX.out.1 HX.out.1.size H4.out))
  clear hb5 hc5 q0 q1 q2 nq
  go_wp2_with fail
  refine (ha2 _).mono ?_
  rintro e w6 ⟨rfl, hb6⟩
  dsimp only
  have H6 := Lib.hid (below_and hb6 H5.out)
  clear hb6
  go_wp2_with fail
  go_ret
  exact ⟨rfl, H6.out⟩
end Go.Proofs.YthclpabmbhpohaaDoor
namespace Go.Proofs.YthclpabmbhpohaaDoor
open Go.RowKit
set_option linter.unusedVariables false
/-- How much a program weighs. -/
def heftP (l : List In) : Nat := (l.map fun x => x.set.length).sum
def longB (p : Pg) : Bool := decide (2000 < p.ins.length + heftP p.ins)
theorem heft_take {l : List In} {i : Nat} (h : i < l.length) : heftP (l.take (i + 1)) = heftP (l.take i) + l[i].set.length := by
  unfold heftP
  rw [List.take_succ_eq_append_getElem h, List.map_append, List.sum_append]
  rfl
theorem heft_le (l : List In) (i : Nat) : heftP (l.take i) ≤ heftP l := by
  have : l = l.take i ++ l.drop i := (List.take_append_drop i l).symm
  conv => rhs; rw [this]
  unfold heftP
  rw [List.map_append, List.sum_append]
  omega
set_option maxRecDepth 100000 in
set_option maxHeartbeats 1000000 in
theorem long12_any (w : World) (p : Pg) (A : Option Addr) (c : Nat) (hp : PgC (fun k => k < w.heap.size) w p [.slice A p.ins.length c, .int .i64 p.start, .int .i64 p.caps]) (hN : p.ins.length ≤ 140737488351232) (hs : ∀ x ∈ p.ins, x.set.length ≤ 140737488351232) :
    Calls Tryd.prog 22 #[.agg #[.slice A p.ins.length c, .int .i64 p.start, .int .i64 p.caps]] w fun e w' => e = .returned (.bool (longB p)) ∧ Below w.heap.size w w' := by
  have hB := below_al (Below.refl w.heap.size w) (.cells #[.slice A p.ins.length c, .int .i64 p.start, .int .i64 p.caps] 28)
  have hx := heap_new1 w (.cells #[.slice A p.ins.length c, .int .i64 p.start, .int .i64 p.caps] 28)
  have hxn := heap_lt hx
  obtain ⟨q0, q1, q2⟩ := cells3 hx
  have HP := Lib.hid (And.intro hp (And.intro hs hB))
  clear hp hs hB hx
  go_enter Tryd.func22, Tryd.ntmps22
  go_wp2_with fail
  go_loopg [3, 4] (p.ins.length + 1) (fun g s3 s4 wr => wr = w.alloc (.cells #[.slice A p.ins.length c, .int .i64 p.start, .int .i64 p.caps] 28) ∧ ∃ (i n : Nat), s3 = .int .i64 n ∧ s4 = .int .i64 i ∧ i ≤ p.ins.length ∧ p.ins.length + 1 - i ≤ g ∧ n = p.ins.length + heftP (p.ins.take i) ∧ n ≤ 140737488351232 + 2000)
  case atStart => exact ⟨rfl, 0, p.ins.length, rfl, rfl, Nat.zero_le _, by omega, by simp [heftP], by omega⟩
  case round =>
    obtain ⟨rfl, i, n, rfl, rfl, hi, hg, hn, hnb⟩ := hrel
    by_cases hil : i < p.ins.length
    · have hd : decide ((i : Int) < (p.ins.length : Int)) = true := decide_eq_true (by omega)
      by_cases hn2 : n ≤ 2000
      · have hd2 : decide ((n : Int) ≤ 2000) = true := decide_eq_true (by omega)
        obtain ⟨ad, c', B, d, he, _, _, _, _, _, hk⟩ := ins_at HP.out.1 (Nat.le_refl _) i hil
        simp only [List.cons.injEq, Value.slice.injEq] at he
        obtain ⟨⟨rfl, _, rfl⟩, _⟩ := he
        obtain ⟨_, _, _, _, k3, _⟩ := hk _ HP.out.2.2
        have hsl := HP.out.2.1 _ (List.getElem_mem hil)
        have htk := heft_take hil
        generalize p.ins[i] = x at *
        obtain ⟨m, hm⟩ : ∃ m, x.set.length = m := ⟨_, rfl⟩
        rw [hm] at k3 hsl htk
        have HN := Lib.hid (And.intro hn htk)
        clear hn htk hk
        go_wp2_with fail
        go_roundg (gk - 1)
        case measure => omega
        case rel => exact ⟨rfl, i + 1, n + m, by go_num, by go_num, by omega, by omega, by have := HN.out.1; have := HN.out.2; omega, by omega⟩
      · have hd2 : decide ((n : Int) ≤ 2000) = false := decide_eq_false (by omega)
        have hd3 : decide ((2000 : Int) < (n : Int)) = true := decide_eq_true (by omega)
        have HR : Hid (longB p = true) := Lib.hid (decide_eq_true (by have := heft_le p.ins i; omega))
        go_wp2_with fail
        go_ret
        exact ⟨by rw [HR.out]; rfl, HP.out.2.2⟩
    · have hd : decide ((i : Int) < (p.ins.length : Int)) = false := decide_eq_false (by omega)
      have hie : p.ins.take i = p.ins := List.take_of_length_le (by omega)
      have HR : Hid (longB p = decide (2000 < n)) := Lib.hid (by rw [hie] at hn; unfold longB; rw [hn])
      have hd3 : decide ((2000 : Int) < (n : Int)) = decide (2000 < n) := decide_eq_decide.2 (by omega)
      clear hie hn
      go_wp2_with fail
      go_ret
      exact ⟨by rw [HR.out]; rfl, HP.out.2.2⟩
def longB2 (p : Pg) (n : Nat) : Bool := longB p || (decide (3000 < n) || decide (100000 < p.ins.length * (n + 1)))
set_option maxRecDepth 100000 in
set_option maxHeartbeats 1000000 in
theorem long15_any (w : World) (p : Pg) (A T : Option Addr) (c n tc : Nat) (hp : PgC (fun k => k < w.heap.size) w p [.slice A p.ins.length c, .int .i64 p.start, .int .i64 p.caps]) (hN : p.ins.length ≤ 140737488351232) (hs : ∀ x ∈ p.ins, x.set.length ≤ 140737488351232) (hn : n ≤ 140737488351232) :
    Calls Tryd.prog 12 #[.agg #[.slice A p.ins.length c, .int .i64 p.start, .int .i64 p.caps], .slice T n tc] w fun e w' => e = .returned (.bool (longB2 p n)) ∧ Below w.heap.size w w' := by
  have hB := below_al (Below.refl w.heap.size w) (.cells #[.slice A p.ins.length c, .int .i64 p.start, .int .i64 p.caps] 28)
  have hx := heap_new1 w (.cells #[.slice A p.ins.length c, .int .i64 p.start, .int .i64 p.caps] 28)
  have hxn := heap_lt hx
  obtain ⟨q0, q1, q2⟩ := cells3 hx
  have hl := long12_any _ p A c ((hp.below hB).move (fun k hk _ => ⟨rfl, by simp; omega⟩)) hN hs
  have hll : longB p = false → p.ins.length ≤ 2000 := fun h => by unfold longB at h; simp at h; omega
  have HP := Lib.hid (And.intro hB (And.intro hx hll))
  clear hp hs hB hx hll
  go_enter Tryd.func12, Tryd.ntmps12
  cases hlb : longB p with
  | true =>
    have HR : Hid (longB2 p n = true) := Lib.hid (by unfold longB2; rw [hlb]; rfl)
    rw [hlb] at hl
    clear hlb
    go_wp2_with (go_at_call 22; refine hl.mono ?_; clear hl; rintro e w1 ⟨rfl, hb1⟩; have HB1 := Lib.hid (below_and hb1 HP.out.1); clear hb1)
    go_ret
    exact ⟨by rw [HR.out]; rfl, HB1.out⟩
  | false =>
    have hN2 := HP.out.2.2 hlb
    rw [hlb] at hl
    by_cases hn3 : 3000 < n
    · have hd : decide ((3000 : Int) < (n : Int)) = true := decide_eq_true (by omega)
      have HR : Hid (longB2 p n = true) := Lib.hid (by unfold longB2; rw [hlb, decide_eq_true hn3]; rfl)
      clear hlb
      go_wp2_with (go_at_call 22; refine hl.mono ?_; clear hl; rintro e w1 ⟨rfl, hb1⟩; have HB1 := Lib.hid (below_and hb1 HP.out.1); clear hb1)
      go_ret
      exact ⟨by rw [HR.out]; rfl, HB1.out⟩
    · have hd : decide ((3000 : Int) < (n : Int)) = false := decide_eq_false (by omega)
      have hmul : p.ins.length * (n + 1) ≤ 2000 * 3001 := Nat.mul_le_mul hN2 (by omega)
      have hw : IntKind.i64.wrap ((p.ins.length : Int) * ((n : Int) + 1)) = ((p.ins.length * (n + 1) : Nat) : Int) := by
        rw [IntWalk.i64_in]
        · simp
        · have : ((p.ins.length : Int) * ((n : Int) + 1)) = ((p.ins.length * (n + 1) : Nat) : Int) := by simp
          omega
      obtain ⟨M, hM⟩ : ∃ M, p.ins.length * (n + 1) = M := ⟨_, rfl⟩
      rw [hM] at hw hmul
      have HR : Hid (longB2 p n = decide (100000 < M)) := Lib.hid (by unfold longB2; rw [hlb, decide_eq_false hn3, hM]; rfl)
      have hd3 : decide ((100000 : Int) < (M : Int)) = decide (100000 < M) := decide_eq_decide.2 (by omega)
      clear hlb hM
      go_wp2_with (go_at_call 22; refine hl.mono ?_; clear hl; rintro e w1 ⟨rfl, hb1⟩; have k1 := (hb1.block _ hxn).trans HP.out.2.1; obtain ⟨z0, z1, z2⟩ := cells3 k1; have zn := heap_lt k1; have HB1 := Lib.hid (below_and hb1 HP.out.1); clear hb1 k1)
      go_ret
      exact ⟨by rw [HR.out]; rfl, HB1.out⟩
/-- Steps, where nothing is too great. -/
theorem steps_any (w : World) (p : Pg) (A : Option Addr) (c : Nat) (pl n : Int) (hN : p.ins.length ≤ 10000) (hc0 : 0 ≤ p.caps) (hc : p.caps ≤ 5000) (hp0 : 0 ≤ pl) (hp1 : pl ≤ 5000) (h0 : 0 ≤ n) (h1 : n ≤ pl * (p.ins.length * (p.caps + 1))) :
    Calls Tryd.prog 20 #[.agg #[.slice A p.ins.length c, .int .i64 p.start, .int .i64 p.caps], .int .i64 pl, .int .i64 n] w fun e w' => e = .returned (.bool true) ∧ Below w.heap.size w w' := by
  have hB := below_al (Below.refl w.heap.size w) (.cells #[.slice A p.ins.length c, .int .i64 p.start, .int .i64 p.caps] 28)
  have hx := heap_new1 w (.cells #[.slice A p.ins.length c, .int .i64 p.start, .int .i64 p.caps] 28)
  have hxn := heap_lt hx
  obtain ⟨q0, q1, q2⟩ := cells3 hx
  obtain ⟨N, hNn⟩ : ∃ N : Int, (p.ins.length : Int) = N := ⟨_, rfl⟩
  have hm1 : N * (p.caps + 1) ≤ 10000 * 5001 := Int.mul_le_mul (by omega) (by omega) (by omega) (by omega)
  have hm0 : 0 ≤ N * (p.caps + 1) := Int.mul_nonneg (by omega) (by omega)
  obtain ⟨Z, hZ⟩ : ∃ Z, N * (p.caps + 1) = Z := ⟨_, rfl⟩
  have e1 : 8 * N * (p.caps + 1) = 8 * Z := by rw [Int.mul_assoc, hZ]
  have hm2 : pl * Z ≤ 5000 * 50010000 := Int.mul_le_mul hp1 (by omega) (by omega) (by omega)
  have hm3 : 0 ≤ pl * Z := Int.mul_nonneg hp0 (by omega)
  have e2 : 8 * Z * pl = 8 * (pl * Z) := by rw [Int.mul_assoc, Int.mul_comm Z pl]
  have w1 : IntKind.i64.wrap (8 * (p.ins.length : Int)) = 8 * N := by rw [hNn]; exact IntWalk.i64_in _ (by omega)
  have w2 : IntKind.i64.wrap (p.caps + 1) = p.caps + 1 := IntWalk.i64_in _ (by omega)
  have w3 : IntKind.i64.wrap (8 * N * (p.caps + 1)) = 8 * Z := by rw [e1]; exact IntWalk.i64_in _ (by omega)
  have w4 : IntKind.i64.wrap (8 * Z * pl) = 8 * (pl * Z) := by rw [e2]; exact IntWalk.i64_in _ (by omega)
  rw [hNn, hZ] at h1
  have d1 : decide (n ≤ 8 * (pl * Z)) = true := decide_eq_true (by omega)
  have d0 : decide (0 ≤ n) = true := decide_eq_true h0
  have HB := Lib.hid hB
  have HN := Lib.hid hNn
  clear hB hx hm1 hm0 hZ e1 hm2 hm3 e2 h1 hNn
  go_enter Tryd.func20, Tryd.ntmps20
  go_wp2_with fail
  go_ret
  exact ⟨rfl, HB.out⟩
theorem take_snoc_eq {a b : List Int} {i : Nat} (ha : i < a.length) (hb : i < b.length) (h : a.take i = b.take i) (he : a[i] = b[i]) : a.take (i + 1) = b.take (i + 1) := by
  rw [List.take_succ_eq_append_getElem ha, List.take_succ_eq_append_getElem hb, h, he]
theorem take_ne {a b : List Int} {i : Nat} (ha : i < a.length) (hb : i < b.length) (he : a[i] ≠ b[i]) : a ≠ b := by
  rintro rfl; exact he rfl
set_option maxRecDepth 100000 in
set_option maxHeartbeats 1000000 in
theorem sameInts_any (w : World) (A B : Option Addr) (ca cb : Nat) (a b : List Int) (ha : Arr (fun _ => True) w 1 (IntC .i64) A a) (hb : Arr (fun _ => True) w 1 (IntC .i64) B b) (hla : a.length ≤ 140737488351232) (hlb : b.length ≤ 140737488351232) :
    Calls Tryd.prog 19 #[.slice A a.length ca, .slice B b.length cb] w fun e w' => e = .returned (.bool (a == b)) ∧ Below w.heap.size w w' := by
  have HA := Lib.hid (And.intro ha hb)
  clear ha hb
  go_enter Tryd.func19, Tryd.ntmps19
  by_cases hl : a.length = b.length
  · have hd : (((a.length : Nat) : Int) != ((b.length : Nat) : Int)) = false := by simp; omega
    have HL := Lib.hid hl
    clear hl
    go_wp2_with fail
    go_loopg [5] (a.length + 1) (fun g s5 wr => ∃ i : Nat, s5 = .int .i64 i ∧ i ≤ a.length ∧ a.length + 1 - i ≤ g ∧ Hid (a.take i = b.take i) ∧ Below w.heap.size w wr)
    case atStart => exact ⟨0, rfl, Nat.zero_le _, by omega, Lib.hid (by simp), Below.refl _ _⟩
    case round =>
      obtain ⟨i, rfl, hi, hg, HT, hBi⟩ := hrel
      by_cases hil : i < a.length
      · have hdi : decide ((i : Int) < (a.length : Int)) = true := decide_eq_true (by omega)
        have hib : i < b.length := by have := HL.out; omega
        obtain ⟨l1, rfl, hc1⟩ := ints_at HA.out.1 i hil
        obtain ⟨l2, rfl, hc2⟩ := ints_at HA.out.2 i hib
        have HC : Hid (∀ W', Below wr.heap.size wr W' → W'.cell? (l1.add i) = some (.int .i64 a[i]) ∧ W'.cell? (l2.add i) = some (.int .i64 b[i])) := Lib.hid (fun W' hW => by
          have h9 := hBi.trans (hW.mono hBi.size)
          exact ⟨(h9.cell (World.block_lt_of_cell? _ _ hc1)).trans hc1, (h9.cell (World.block_lt_of_cell? _ _ hc2)).trans hc2⟩)
        clear hc1 hc2
        have HBi := Lib.hid hBi
        clear hBi
        have HE : Hid ((a[i] = b[i] → a.take (i + 1) = b.take (i + 1)) ∧ (a[i] ≠ b[i] → (a == b) = false)) := Lib.hid ⟨take_snoc_eq hil hib HT.out, fun h => by simpa using take_ne hil hib h⟩
        generalize a[i] = x at *
        generalize b[i] = y at *
        obtain ⟨r, hr, hr2⟩ : ∃ r, (x != y) = r ∧ (x == y) = !r := ⟨x != y, rfl, by simp [bne]⟩
        go_wp2_with fail
        refine wp_region_scr (fun W' => Below wr.heap.size wr W') [(true, 0, 17), (true, 1, 18), (true, 2, 19), (true, 3, 20), (true, 4, 21), (true, 5, 22), (true, 6, 23), (true, 7, 24), (true, 8, 25)] (by kernel_rfl) (by kernel_rfl) (fun _ _ _ _ _ h => h) rfl (by kernel_rfl) ?_
        have HV := Lib.hid (show Below wr.heap.size wr wr.drew from (Below.refl _ _).drew)
        refine Scr.take (v := .slice (some l1) a.length ca) rfl rfl (yw_pure (by rfl) (fun _ => by go_simp)) HV.out ?_
        simp only [Act.put, List.setIfInBounds_toArray, List.set_cons_zero, List.set_cons_succ]
        refine Scr.take (v := .int .i64 i) rfl rfl (yw_pure (by rfl) (fun _ => by go_simp)) HV.out ?_
        simp only [Act.put, List.setIfInBounds_toArray, List.set_cons_zero, List.set_cons_succ]
        refine Scr.take (v := .pointer (some (l1.add i))) rfl rfl (yw_pure (by rfl) (fun _ => by go_simp)) HV.out ?_
        simp only [Act.put, List.setIfInBounds_toArray, List.set_cons_zero, List.set_cons_succ]
        refine Scr.take (v := .int .i64 x) rfl rfl (yw_cell 3 _ rfl (l1.add i) (.int .i64 x) rfl (by rfl) _ Tryd.underlying3 rfl (fun W hS => (HC.out W hS).1)) HV.out ?_
        simp only [Act.put, List.setIfInBounds_toArray, List.set_cons_zero, List.set_cons_succ]
        refine Scr.take (v := .slice (some l2) b.length cb) rfl rfl (yw_pure (by rfl) (fun _ => by go_simp)) HV.out ?_
        simp only [Act.put, List.setIfInBounds_toArray, List.set_cons_zero, List.set_cons_succ]
        refine Scr.take (v := .int .i64 i) rfl rfl (yw_pure (by rfl) (fun _ => by go_simp)) HV.out ?_
        simp only [Act.put, List.setIfInBounds_toArray, List.set_cons_zero, List.set_cons_succ]
        refine Scr.take (v := .pointer (some (l2.add i))) rfl rfl (yw_pure (by rfl) (fun _ => by go_simp)) HV.out ?_
        simp only [Act.put, List.setIfInBounds_toArray, List.set_cons_zero, List.set_cons_succ]
        refine Scr.take (v := .int .i64 y) rfl rfl (yw_cell 3 _ rfl (l2.add i) (.int .i64 y) rfl (by rfl) _ Tryd.underlying3 rfl (fun W hS => (HC.out W hS).2)) HV.out ?_
        simp only [Act.put, List.setIfInBounds_toArray, List.set_cons_zero, List.set_cons_succ]
        refine Scr.take (v := .bool r) rfl rfl (yw_pure (by rfl) (fun _ => by go_simp)) HV.out ?_
        simp only [Act.put, List.setIfInBounds_toArray, List.set_cons_zero, List.set_cons_succ]
        simp only [Scr]
        cases r with
        | true =>
          have HR := Lib.hid (HE.out.2 (by simpa using hr))
          clear hr hr2
          go_wp2_with fail
          go_ret
          exact ⟨by rw [HR.out]; rfl, HBi.out.trans (HV.out.mono HBi.out.size)⟩
        | false =>
          have HR := Lib.hid (HE.out.1 (by simpa using hr))
          clear hr hr2
          go_wp2_with fail
          go_roundg (gk - 1)
          case measure => omega
          case rel => exact ⟨i + 1, by go_num, by omega, by omega, HR, HBi.out.trans (HV.out.mono HBi.out.size)⟩
      · have hdi : decide ((i : Int) < (a.length : Int)) = false := decide_eq_false (by omega)
        have HR : Hid ((a == b) = true) := Lib.hid (by
          have h9 := HT.out
          rw [List.take_of_length_le (by omega), List.take_of_length_le (by have := HL.out; omega)] at h9
          simpa using h9)
        go_wp2_with fail
        go_ret
        exact ⟨by rw [HR.out]; rfl, hBi⟩
  · have hd : (((a.length : Nat) : Int) != ((b.length : Nat) : Int)) = true := by simp; omega
    have HR : Hid ((a == b) = false) := Lib.hid (by
      rw [Bool.eq_false_iff]
      intro e
      exact hl (by rw [eq_of_beq e]))
    clear hl
    go_wp2_with fail
    go_ret
    exact ⟨by rw [HR.out]; rfl, Below.refl _ _⟩
end Go.Proofs.YthclpabmbhpohaaDoor
namespace Go.Proofs.YthclpabmbhpohaaDoor
open Go.RowKit
set_option linter.unusedVariables false
theorem heft_mem {l : List In} {x : In} (h : x ∈ l) : x.set.length ≤ heftP l := by
  unfold heftP
  induction l with
  | nil => cases h
  | cons y l ih =>
    rw [List.map_cons, List.sum_cons]
    rcases List.mem_cons.1 h with rfl | h
    · omega
    · have := ih h; omega
theorem adms_same (p : Pg) : admitsB p = admB15 p := by
  unfold admitsB admB15
  by_cases h0 : checkS rightR p = 0
  · have hk := check_ok h0
    rw [adm_same (me := meetB) (me' := meetB) (un := un2) (has := hasB) (check_leads h0) hk.2.2.1 meetB_iff meetB_iff (fun a b c => has_union a b c) has_nil]
  · rw [show (checkS rightR p == 0) = false by simpa using h0]; rfl
end Go.Proofs.YthclpabmbhpohaaDoor
namespace Go.Proofs.YthclpabmbhpohaaDoor
set_option linter.unusedVariables false
set_option linter.unusedSectionVars false
/-- A graph with places: what follows a state, is it a match, its place, what a fit becomes there; all to the end? -/
structure Gr (Q : Type) where
  nexts : Q → List Q
  mat : Q → Bool
  pl : Q → Int
  upd : Q → List Int → List Int
  longest : Bool
/-- What was come to; the best match. -/
structure Wk (Q : Type) where
  seen : Q → Bool
  best : Option (List Int)
variable {Q : Type} [DecidableEq Q]
def halts (g : Gr Q) (s : Wk Q) : Bool := s.best.isSome && !g.longest
def bestOf (g : Gr Q) (q : Q) (c : List Int) (b : Option (List Int)) : Option (List Int) :=
  match b with
  | none => some (c.set 1 (g.pl q))
  | some b => if b.getD 1 0 < g.pl q then some (c.set 1 (g.pl q)) else some b
def markW (q : Q) (s : Wk Q) : Wk Q := ⟨fun r => decide (r = q) || s.seen r, s.best⟩
def come (g : Gr Q) : Nat → Q → List Int → Wk Q → Wk Q
  | 0, _, _, s => s
  | n + 1, q, c, s =>
    if halts g s = true then s else
    if s.seen q = true then s else
    if g.mat q = true then ⟨(markW q s).seen, bestOf g q c s.best⟩ else
    (g.nexts q).foldl (fun s r => come g n r (g.upd q c) s) (markW q s)
def comes (g : Gr Q) (n : Nat) (c : List Int) (l : List Q) (s : Wk Q) : Wk Q := l.foldl (fun s r => come g n r c s) s
theorem comes_nil (g : Gr Q) (n : Nat) (c : List Int) (s : Wk Q) : comes g n c [] s = s := rfl
theorem comes_cons (g : Gr Q) (n : Nat) (c : List Int) (q : Q) (l : List Q) (s : Wk Q) : comes g n c (q :: l) s = comes g n c l (come g n q c s) := rfl
theorem come_succ (g : Gr Q) (n : Nat) (q : Q) (c : List Int) (s : Wk Q) : come g (n + 1) q c s =
    if halts g s = true then s else if s.seen q = true then s else if g.mat q = true then ⟨(markW q s).seen, bestOf g q c s.best⟩ else comes g n (g.upd q c) (g.nexts q) (markW q s) := by rw [come]; rfl
theorem come_halts {g : Gr Q} {s : Wk Q} (h : halts g s = true) (n : Nat) (q : Q) (c : List Int) : come g n q c s = s := by
  cases n with
  | zero => rfl
  | succ n => rw [come_succ, if_pos h]
theorem come_seen {g : Gr Q} {s : Wk Q} {q : Q} (h : s.seen q = true) (n : Nat) (c : List Int) : come g n q c s = s := by
  cases n with
  | zero => rfl
  | succ n => rw [come_succ]; split <;> first | rfl | rw [if_pos h]
/-- What holds of a state and is kept by a step holds behind all. -/
theorem come_keep (g : Gr Q) (P : Wk Q → Prop) (R : Q → List Int → Prop) (hR : ∀ q c, R q c → g.mat q = false → ∀ r ∈ g.nexts q, R r (g.upd q c))
    (hP : ∀ s q c, P s → R q c → halts g s = false → s.seen q = false → g.mat q = true → P ⟨(markW q s).seen, bestOf g q c s.best⟩)
    (hM : ∀ s q c, P s → R q c → halts g s = false → s.seen q = false → g.mat q = false → P (markW q s)) :
    ∀ (n : Nat) (q : Q) (c : List Int) (s : Wk Q), P s → R q c → P (come g n q c s) := by
  intro n
  induction n with
  | zero => intro q c s h _; exact h
  | succ n ih =>
    intro q c s h hq
    rw [come_succ]
    by_cases h1 : halts g s = true
    · rw [if_pos h1]; exact h
    rw [if_neg h1]
    by_cases h2 : s.seen q = true
    · rw [if_pos h2]; exact h
    rw [if_neg h2]
    have h1' : halts g s = false := by simpa using h1
    have h2' : s.seen q = false := by simpa using h2
    by_cases h3 : g.mat q = true
    · rw [if_pos h3]; exact hP s q c h hq h1' h2' h3
    rw [if_neg h3]
    have h3' : g.mat q = false := by simpa using h3
    have hl : ∀ (l : List Q) (s : Wk Q), (∀ r ∈ l, R r (g.upd q c)) → P s → P (comes g n (g.upd q c) l s) := by
      intro l
      induction l with
      | nil => intro s _ h; exact h
      | cons r l ihl => intro s hr h; rw [comes_cons]; exact ihl _ (fun x hx => hr x (by simp [hx])) (ih r _ s h (hr r (by simp)))
    exact hl _ _ (hR q c hq h3') (hM s q c h hq h1' h2' h3')
def Sub (s s' : Wk Q) : Prop := ∀ r, s.seen r = true → s'.seen r = true
theorem mark_seen (q : Q) (s : Wk Q) (r : Q) : (markW q s).seen r = (decide (r = q) || s.seen r) := rfl
theorem mark_sub (q : Q) (s : Wk Q) : Sub s (markW q s) := fun r h => by rw [mark_seen, h]; simp
theorem come_sub (g : Gr Q) (n : Nat) (q : Q) (c : List Int) (s : Wk Q) : Sub s (come g n q c s) :=
  come_keep g (Sub s) (fun _ _ => True) (fun _ _ _ _ _ _ => trivial) (fun s' q' _ h _ _ _ _ r hr => mark_sub q' s' r (h r hr)) (fun s' q' _ h _ _ _ _ r hr => mark_sub q' s' r (h r hr)) n q c s (fun r h => h) trivial
def left (U : List Q) (s : Wk Q) : Nat := (U.filter (fun r => !s.seen r)).length
theorem left_sub {s s' : Wk Q} (h : Sub s s') : ∀ U : List Q, left U s' ≤ left U s
  | [] => Nat.le_refl _
  | x :: U => by
    have h1 := left_sub h U
    unfold left at h1 ⊢
    rw [List.filter_cons, List.filter_cons]
    by_cases hx : s.seen x = true
    · rw [hx, h x hx]; simpa using h1
    · have hx' : s.seen x = false := by simpa using hx
      rw [hx']
      cases s'.seen x <;> simp <;> omega
theorem left_mark {s : Wk Q} {q : Q} (hq : s.seen q = false) : ∀ U : List Q, q ∈ U → left U (markW q s) + 1 ≤ left U s
  | [], h => by simp at h
  | x :: U, h => by
    have h1 := left_sub (mark_sub q s) U
    by_cases hx : x = q
    · subst hx
      unfold left at h1 ⊢
      rw [List.filter_cons, List.filter_cons, mark_seen, hq]
      simp
      omega
    · have h2 := left_mark hq U (by rcases List.mem_cons.1 h with rfl | h; · exact absurd rfl hx
                                    · exact h)
      unfold left at h2 ⊢
      rw [List.filter_cons, List.filter_cons, mark_seen, decide_eq_false hx, Bool.false_or]
      split <;> simp <;> omega
/-- All that follows lies in U. -/
def Within (g : Gr Q) (U : List Q) : Prop := ∀ q ∈ U, ∀ r ∈ g.nexts q, r ∈ U
theorem come_fuel (g : Gr Q) (U : List Q) (hU : Within g U) : ∀ (n m : Nat) (q : Q) (c : List Int) (s : Wk Q), q ∈ U → left U s < n → n ≤ m → come g m q c s = come g n q c s := by
  intro n
  induction n with
  | zero => intro m q c s _ h _; omega
  | succ n ih =>
    intro m q c s hq h hm
    obtain ⟨m, rfl⟩ : ∃ k, m = k + 1 := ⟨m - 1, by omega⟩
    rw [come_succ, come_succ]
    by_cases h1 : halts g s = true
    · rw [if_pos h1, if_pos h1]
    rw [if_neg h1, if_neg h1]
    by_cases h2 : s.seen q = true
    · rw [if_pos h2, if_pos h2]
    rw [if_neg h2, if_neg h2]
    by_cases h3 : g.mat q = true
    · rw [if_pos h3, if_pos h3]
    rw [if_neg h3, if_neg h3]
    have h4 := left_mark (by simpa using h2) U hq
    have hl : ∀ (l : List Q) (s : Wk Q), (∀ r ∈ l, r ∈ U) → left U s < n → comes g m (g.upd q c) l s = comes g n (g.upd q c) l s := by
      intro l
      induction l with
      | nil => intro s _ _; rfl
      | cons r l ihl =>
        intro s hr hs
        rw [comes_cons, comes_cons, ih m r _ s (hr r (by simp)) hs (by omega)]
        exact ihl _ (fun x hx => hr x (by simp [hx])) (by have := left_sub (come_sub g n r (g.upd q c) s) U; omega)
    exact hl _ _ (hU q hq) (by omega)
inductive Reach (g : Gr Q) : Q → Q → Prop
  | here (q : Q) : Reach g q q
  | step {q r t : Q} : g.mat q = false → r ∈ g.nexts q → Reach g r t → Reach g q t
theorem Reach.snoc {g : Gr Q} {q r t : Q} (h : Reach g q r) (hm : g.mat r = false) (ht : t ∈ g.nexts r) : Reach g q t := by
  induction h with
  | here q => exact .step hm ht (.here t)
  | step a b _ ih => exact .step a b (ih hm ht)
theorem bestOf_some (g : Gr Q) (q : Q) (c : List Int) (b : Option (List Int)) : ∃ b', bestOf g q c b = some b' ∧ (b' = c.set 1 (g.pl q) ∨ b = some b') := by
  unfold bestOf
  split
  · exact ⟨_, rfl, .inl rfl⟩
  · split
    · exact ⟨_, rfl, .inl rfl⟩
    · exact ⟨_, rfl, .inr rfl⟩
structure Alike (D : Q → Bool) (s t : Wk Q) : Prop where
  best : s.best = t.best
  out : ∀ r, D r = false → s.seen r = t.seen r
  inn : ∀ r, D r = true → t.seen r = true
theorem Alike.sub {D : Q → Bool} {s t : Wk Q} (h : Alike D s t) : Sub s t := fun r hr => by
  by_cases e : D r = true
  · exact h.inn r e
  · rw [← h.out r (by simpa using e)]; exact hr
theorem Alike.markIn {D : Q → Bool} {s t : Wk Q} (h : Alike D s t) {q : Q} (hq : D q = true) : Alike D (markW q s) t :=
  ⟨h.best, fun r hr => by rw [mark_seen, decide_eq_false (by rintro rfl; rw [hq] at hr; cases hr), Bool.false_or]; exact h.out r hr, h.inn⟩
theorem Alike.mark {D : Q → Bool} {s t : Wk Q} (h : Alike D s t) (q : Q) : Alike D (markW q s) (markW q t) :=
  ⟨h.best, fun r hr => by rw [mark_seen, mark_seen, h.out r hr], fun r hr => by rw [mark_seen, h.inn r hr]; simp⟩
end Go.Proofs.YthclpabmbhpohaaDoor
namespace Go.Proofs.YthclpabmbhpohaaDoor
set_option linter.unusedVariables false
set_option linter.unusedSectionVars false
variable {Q : Type} [DecidableEq Q]
theorem comes_fuel (g : Gr Q) (U : List Q) (hU : Within g U) {n m : Nat} (hm : n ≤ m) (c : List Int) : ∀ (l : List Q) (s : Wk Q), (∀ r ∈ l, r ∈ U) → left U s < n → comes g m c l s = comes g n c l s
  | [], s, _, _ => rfl
  | q :: l, s, hr, hs => by
    rw [comes_cons, comes_cons, come_fuel g U hU n m q c s (hr q (by simp)) hs hm]
    exact comes_fuel g U hU hm c l _ (fun x hx => hr x (by simp [hx])) (by have := left_sub (come_sub g n q c s) U; omega)
theorem come_on {g : Gr Q} {U : List Q} (hU : Within g U) {n : Nat} {s : Wk Q} {q : Q} (hq : q ∈ U) (hn : left U s < n) (h0 : halts g s = false) (h1 : s.seen q = false) (h2 : g.mat q = false) (c : List Int) :
    come g n q c s = comes g n (g.upd q c) (g.nexts q) (markW q s) := by
  obtain ⟨m, rfl⟩ : ∃ m, n = m + 1 := ⟨n - 1, by omega⟩
  rw [come_succ, if_neg (by rw [h0]; simp), if_neg (by rw [h1]; simp), if_neg (by rw [h2]; simp)]
  have := left_mark h1 U hq
  exact (comes_fuel g U hU (by omega) _ _ _ (hU q hq) (by omega)).symm
end Go.Proofs.YthclpabmbhpohaaDoor
