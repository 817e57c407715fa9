/-
  (*martelloref12.Through).come, where it goes on at a place. No condition but that the program is right.
  (*martelloref12.Through).come, at a match and at a group's place. No condition but that the program is right.
  (*martelloref12.Through).come: the document's walk, all of it. No condition but that the program is right.
-/
import Derived.Test.YthclpabmbhpohaaDoorOneMatG12
namespace Go.Proofs.YthclpabmbhpohaaDoor
open Go.RowKit
set_option linter.unusedVariables false
set_option maxRecDepth 100000 in
set_option maxHeartbeats 4000000 in
theorem tw_alt_n (p : Pg) (b L : Nat) (u0 u1 u2 : Value) (ib : Nat) (cs : List Int) (to : Int) (lg : Bool) (w0 : World) (C : CtxT p b L u0 u1 u2 ib cs w0) (n : Nat) (ih : ThroughOK p b L u0 u1 u2 ib cs to lg w0 n) (hto : to ≤ cs.length)
    (i j : Nat) (c : List Int) (fv : Value) (S : Wk (Int × Int)) (bv : Value) (W : World) (hi : i < p.ins.length) (hj : (j : Int) ≤ to) (h : TwAt W b p.ins.length (cs.length + 1) L u0 u1 u2 ib to lg bv S) (hf : FitT W b fv c) (hcl : (c.length : Int) = p.caps) (hB : Below b w0 W) (hlt : left (allP p (cs.length + 1)) S < n + 1) (hns : S.seen ((i : Int), (j : Int)) = false) (hbn : S.best = none) (ho : (p.get i).op = 3) :
    Calls Tryd.prog 43 #[.pointer (some ⟨b + 1, 0, none⟩), .int .i64 i, .int .i64 j, fv] W (TwPost b p.ins.length (cs.length + 1) L u0 u1 u2 ib to lg (come (grP p (codeAt cs) (docAt cs) to lg) (n + 1) ((i : Int), (j : Int)) c S) W) := by
  have hck := check_ok C.chk
  have hN : p.ins.length ≤ 10000 := hck.2.1
  have hcsl : cs.length ≤ 1000000 := by obtain ⟨_, _, _, _, h9, _⟩ := C.inp; exact h9
  obtain ⟨Z, hZ⟩ : ∃ Z, j * p.ins.length = Z := ⟨_, rfl⟩
  obtain ⟨q, hq⟩ : ∃ q, Z + i = q := ⟨_, rfl⟩
  have hZb : Z ≤ 1000001 * 10000 := by rw [← hZ]; exact Nat.mul_le_mul (by omega) hN
  have hw1 : IntKind.i64.wrap ((j : Int) * (p.ins.length : Int)) = (Z : Int) := by rw [show (j : Int) * (p.ins.length : Int) = (Z : Int) by rw [← hZ]; simp]; exact IntWalk.i64_in _ (by omega)
  have hw2 : IntKind.i64.wrap ((Z : Int) + (i : Int)) = (q : Int) := by rw [show (Z : Int) + (i : Int) = (q : Int) by omega]; exact IntWalk.i64_in _ (by omega)
  obtain ⟨F, cf, rfl, hf1, hf2, hf3⟩ := hf
  obtain ⟨ad, ci, B3, d3, hps, hc1, hcm, hd3, hd3m, hadb, hins⟩ := ins_at C.pg C.size i hi
  simp only [List.cons.injEq, and_true] at hps
  obtain ⟨rfl, rfl, rfl⟩ := hps
  have hjM : j < cs.length + 1 := by omega
  have hqe : j * p.ins.length + i = q := by omega
  have hqL : q < L := by rw [C.len, ← hqe]; exact place_lt hi hjM
  have dj : decide (to < (j : Int)) = false := decide_eq_false (by omega)
  obtain ⟨s0, sf, c0, c3, c4, c5, c6, c7, f7, n0, n1⟩ := h.cells hi hjM hqe
  obtain rfl : bv = .slice none 0 0 := by have h9 := h.best; rw [hbn] at h9; exact h9
  have hh0 : halts (grP p (codeAt cs) (docAt cs) to lg) S = false := by unfold halts; rw [hbn]; rfl
  obtain ⟨SR, hSR⟩ : ∃ SR, come (grP p (codeAt cs) (docAt cs) to lg) (n + 1) ((i : Int), (j : Int)) c S = SR := ⟨_, rfl⟩
  rw [hSR]
  rw [come_alt hh0 hns ho] at hSR
  rw [hns] at s0
  have h1 := h.mark (S := S) hi hjM
  rw [hqe] at h1
  have hK1 := (Kp.refl b W).set0 q (.bool true)
  have hB1 := hB.trans (hK1.below (by have := hB.size; have := C.size; omega))
  obtain ⟨hset, g0, g1, g2, g3, g4⟩ := hins _ hB1
  obtain ⟨_, k0, k1, k2, k3, k4⟩ := hins _ hB
  have hnb : ((ad.add (i * 5)).block = b) = False := by rw [add_block]; simp; omega
  have hge := get_eq p i hi
  have hgd := check_good C.chk (⟨by omega, by omega⟩ : Pc p i)
  obtain ⟨qs, qsf, q0, q3, q4, q5, q6, q7, qf7, m0, m1⟩ := h1.cells hi hjM hqe
  have hinp := C.inp.move (w' := W.setCell ⟨b, q, none⟩ (.bool true)) (ok' := fun k => k < b) (fun k hk hlt => ⟨hB1.block k hk, hk⟩)
  have hfit1 : FitT (W.setCell ⟨b, q, none⟩ (.bool true)) b (.slice F c.length cf) c := FitT.kp ⟨F, cf, rfl, hf1, hf2, hf3⟩ hK1
  have hcap : p.caps ≤ 4002 ∧ 2 ≤ p.caps := ⟨hck.2.2.2.2.1, hck.2.2.2.1⟩
  have hl1 : left (allP p (cs.length + 1)) (markW ((i : Int), (j : Int)) S) < n := by have h9 := left_mark hns (allP p (cs.length + 1)) (allP_iff.2 ⟨⟨by omega, by omega⟩, by omega, by omega⟩); omega
  have HS := Lib.hid (And.intro hB1 (And.intro hK1 (And.intro hset (And.intro hl1 C.chk))))
  have H1 := Lib.hid h1
  have HFT := Lib.hid hfit1
  have HIN := Lib.hid hinp
  have HQE := Lib.hid hqe
  have hout := (check_leads HS.out.2.2.2.2 (i : Int) ⟨by omega, by omega⟩).1 (by omega)
  rw [get_eq p i hi] at hout
  have harg := (check_leads HS.out.2.2.2.2 (i : Int) ⟨by omega, by omega⟩).2 ho
  rw [get_eq p i hi] at harg
  have ih1 := fun fv W => ih p.ins[i].out.toNat j c fv (markW ((i : Int), (j : Int)) S) (.slice none 0 0) W (by have := hout.1; have := hout.2; omega) (by omega)
  have ih2 := fun fv S bv W => ih p.ins[i].arg.toNat j c fv S bv W (by have := harg.1; have := harg.2; omega) (by omega)
  have HI := Lib.hid (And.intro ih1 ih2)
  have HOU := Lib.hid hout
  have HAR := Lib.hid harg
  clear ih1 ih2 hout harg
  clear h h1 hK1 hB1 hset hinp hfit1 hB hlt hns hck hl1 hins hqe hZ hq hh0 hbn ih
  try rw [hge] at ho
  try rw [hge] at hgd
  try rw [hge] at hh
  try dsimp only at hSR
  try rw [hge] at hSR
  have HSR := Lib.hid hSR
  clear hSR hge C hf3
  generalize p.ins[i] = x at *
  have o1 : (x.op == 1) = false := by rw [ho]; rfl
  have o2 : (x.op == 2) = false := by rw [ho]; rfl
  have o3 : (x.op == 3) = true := by rw [ho]; rfl
  have o4 : (x.op == 4) = false := by rw [ho]; rfl
  have o5 : (x.op == 5) = false := by rw [ho]; rfl
  have HO := Lib.hid (And.intro ho hgd)
  clear ho hgd
  obtain ⟨o, hoe⟩ : ∃ o : Nat, x.out = (o : Int) := ⟨x.out.toNat, by have := HOU.out.1; omega⟩
  obtain ⟨o2, hoe2⟩ : ∃ o2 : Nat, x.arg = (o2 : Int) := ⟨x.arg.toNat, by have := HAR.out.1; omega⟩
  rw [hoe, Int.toNat_natCast, hoe2, Int.toNat_natCast] at HI
  have HOE := Lib.hid (And.intro hoe hoe2)
  clear hoe hoe2

  go_enter Tryd.func43, Tryd.ntmps43
  go_wp2_with fail
  obtain ⟨X, hX⟩ : ∃ X, ((W.setCell ⟨b, q, none⟩ (.bool true)).alloc (.cells #[.int .i64 x.op, .int .i64 x.out, .int .i64 x.arg, .slice B3 x.set.length d3, .int .i64 x.at_] 64)) = X := ⟨_, rfl⟩
  have hsz : (W.setCell ⟨b, q, none⟩ (.bool true)).heap.size = W.heap.size := by simp [World.setCell]
  have hx0 := heap_new1 (W.setCell ⟨b, q, none⟩ (.bool true)) (.cells #[.int .i64 x.op, .int .i64 x.out, .int .i64 x.arg, .slice B3 x.set.length d3, .int .i64 x.at_] 64)
  rw [hsz, hX] at hx0
  have hxS := heap_lt hx0
  have hX1 := H1.out.below (below_al (Below.refl _ _) (.cells #[.int .i64 x.op, .int .i64 x.out, .int .i64 x.arg, .slice B3 x.set.length d3, .int .i64 x.at_] 64))
  have hXB : Below (W.setCell ⟨b, q, none⟩ (.bool true)).heap.size (W.setCell ⟨b, q, none⟩ (.bool true)) X := by rw [← hX]; exact below_al (Below.refl _ _) _
  rw [hX] at hX1
  obtain ⟨x0, x1, x2, x3, x4⟩ := cells5 hx0
  clear qs qsf q0 q3 q4 q5 q6 q7 qf7 m0 m1 g0 g1 g2 g3 g4 k0 k1 k2 k3 k4 s0 sf c0 c3 c4 c5 c6 c7 f7 hnb
  obtain ⟨qs, qsf, q0, q3, q4, q5, q6, q7, qf7, m0, m1⟩ := hX1.cells hi hjM HQE.out
  have hKX := HS.out.2.1.trans (Kp.of_below hXB)
  have hBX := HS.out.1.trans (hXB.mono (by rw [hsz]; omega))
  have hFX := HFT.out.kp (Kp.of_below hXB)
  rw [hX]
  rw [HOE.out.1] at x1
  try rw [HOE.out.1]
  have hi1 := HI.out.1 _ X hX1 hFX hcl hBX HS.out.2.2.2.1
  rw [if_neg (show ¬ to < (j : Int) by omega)] at hi1
  have HX := Lib.hid (And.intro hKX (And.intro hBX (And.intro hFX hx0)))
  clear hX hX1 hXB hKX hBX hFX hx0
  refine hi1.mono ?_
  clear hi1
  rintro e w3 ⟨rfl, ⟨bv3, h3⟩, hk3⟩
  dsimp only
  have hb3 := (hk3.block W.heap.size hxS (by omega) (by omega)).trans HX.out.2.2.2
  clear x0 x1 x2 x3 x4 qs qsf q0 q3 q4 q5 q6 q7 qf7 m0 m1
  obtain ⟨x0, x1, x2, x3, x4⟩ := cells5 hb3
  have nx := heap_lt hb3
  rw [HOE.out.2] at x2
  have hbs := n1
  have hB3 := HX.out.2.1.trans ((hk3.below (by omega)))
  have hlt3 := left_sub (come_sub (grP p (codeAt cs) (docAt cs) to lg) n ((o : Int), (j : Int)) c (markW ((i : Int), (j : Int)) S)) (allP p (cs.length + 1))
  have hi2 := HI.out.2 _ _ bv3 w3 h3 (HX.out.2.2.1.kp hk3) hcl hB3 (by have := HS.out.2.2.2.1; omega)
  rw [if_neg (show ¬ to < (j : Int) by omega)] at hi2
  have HP : Hid (come (grP p (codeAt cs) (docAt cs) to lg) n ((o2 : Int), (j : Int)) c (come (grP p (codeAt cs) (docAt cs) to lg) n ((o : Int), (j : Int)) c (markW ((i : Int), (j : Int)) S)) = SR) := Lib.hid (by rw [← HSR.out, HOE.out.1, HOE.out.2])
  rw [HP.out] at hi2
  have H3 := Lib.hid (HX.out.1.trans hk3)
  clear h3 hk3 hb3 hB3 hlt3 HP
  go_wp2_with fail
  refine hi2.mono ?_
  clear hi2
  rintro e w4 ⟨rfl, h4, hk4⟩
  dsimp only
  have H4 := Lib.hid (And.intro h4 (H3.out.trans hk4))
  clear h4 hk4
  go_wp2_with fail
  go_end0
  exact ⟨rfl, H4.out.1, H4.out.2⟩
set_option maxRecDepth 100000 in
set_option maxHeartbeats 4000000 in
theorem tw_atyes_n (p : Pg) (b L : Nat) (u0 u1 u2 : Value) (ib : Nat) (cs : List Int) (to : Int) (lg : Bool) (w0 : World) (C : CtxT p b L u0 u1 u2 ib cs w0) (n : Nat) (ih : ThroughOK p b L u0 u1 u2 ib cs to lg w0 n) (hto : to ≤ cs.length)
    (i j : Nat) (c : List Int) (fv : Value) (S : Wk (Int × Int)) (bv : Value) (W : World) (hi : i < p.ins.length) (hj : (j : Int) ≤ to) (h : TwAt W b p.ins.length (cs.length + 1) L u0 u1 u2 ib to lg bv S) (hf : FitT W b fv c) (hcl : (c.length : Int) = p.caps) (hB : Below b w0 W) (hlt : left (allP p (cs.length + 1)) S < n + 1) (hns : S.seen ((i : Int), (j : Int)) = false) (hbn : S.best = none) (ho : (p.get i).op = 5) (hh : hitB (docAt cs j) (p.get i).at_ = true) :
    Calls Tryd.prog 43 #[.pointer (some ⟨b + 1, 0, none⟩), .int .i64 i, .int .i64 j, fv] W (TwPost b p.ins.length (cs.length + 1) L u0 u1 u2 ib to lg (come (grP p (codeAt cs) (docAt cs) to lg) (n + 1) ((i : Int), (j : Int)) c S) W) := by
  have hck := check_ok C.chk
  have hN : p.ins.length ≤ 10000 := hck.2.1
  have hcsl : cs.length ≤ 1000000 := by obtain ⟨_, _, _, _, h9, _⟩ := C.inp; exact h9
  obtain ⟨Z, hZ⟩ : ∃ Z, j * p.ins.length = Z := ⟨_, rfl⟩
  obtain ⟨q, hq⟩ : ∃ q, Z + i = q := ⟨_, rfl⟩
  have hZb : Z ≤ 1000001 * 10000 := by rw [← hZ]; exact Nat.mul_le_mul (by omega) hN
  have hw1 : IntKind.i64.wrap ((j : Int) * (p.ins.length : Int)) = (Z : Int) := by rw [show (j : Int) * (p.ins.length : Int) = (Z : Int) by rw [← hZ]; simp]; exact IntWalk.i64_in _ (by omega)
  have hw2 : IntKind.i64.wrap ((Z : Int) + (i : Int)) = (q : Int) := by rw [show (Z : Int) + (i : Int) = (q : Int) by omega]; exact IntWalk.i64_in _ (by omega)
  obtain ⟨F, cf, rfl, hf1, hf2, hf3⟩ := hf
  obtain ⟨ad, ci, B3, d3, hps, hc1, hcm, hd3, hd3m, hadb, hins⟩ := ins_at C.pg C.size i hi
  simp only [List.cons.injEq, and_true] at hps
  obtain ⟨rfl, rfl, rfl⟩ := hps
  have hjM : j < cs.length + 1 := by omega
  have hqe : j * p.ins.length + i = q := by omega
  have hqL : q < L := by rw [C.len, ← hqe]; exact place_lt hi hjM
  have dj : decide (to < (j : Int)) = false := decide_eq_false (by omega)
  obtain ⟨s0, sf, c0, c3, c4, c5, c6, c7, f7, n0, n1⟩ := h.cells hi hjM hqe
  obtain rfl : bv = .slice none 0 0 := by have h9 := h.best; rw [hbn] at h9; exact h9
  have hh0 : halts (grP p (codeAt cs) (docAt cs) to lg) S = false := by unfold halts; rw [hbn]; rfl
  obtain ⟨SR, hSR⟩ : ∃ SR, come (grP p (codeAt cs) (docAt cs) to lg) (n + 1) ((i : Int), (j : Int)) c S = SR := ⟨_, rfl⟩
  rw [hSR]
  rw [come_atw hh0 hns ho] at hSR
  rw [hns] at s0
  have h1 := h.mark (S := S) hi hjM
  rw [hqe] at h1
  have hK1 := (Kp.refl b W).set0 q (.bool true)
  have hB1 := hB.trans (hK1.below (by have := hB.size; have := C.size; omega))
  obtain ⟨hset, g0, g1, g2, g3, g4⟩ := hins _ hB1
  obtain ⟨_, k0, k1, k2, k3, k4⟩ := hins _ hB
  have hnb : ((ad.add (i * 5)).block = b) = False := by rw [add_block]; simp; omega
  have hge := get_eq p i hi
  have hgd := check_good C.chk (⟨by omega, by omega⟩ : Pc p i)
  obtain ⟨qs, qsf, q0, q3, q4, q5, q6, q7, qf7, m0, m1⟩ := h1.cells hi hjM hqe
  have hinp := C.inp.move (w' := W.setCell ⟨b, q, none⟩ (.bool true)) (ok' := fun k => k < b) (fun k hk hlt => ⟨hB1.block k hk, hk⟩)
  have hfit1 : FitT (W.setCell ⟨b, q, none⟩ (.bool true)) b (.slice F c.length cf) c := FitT.kp ⟨F, cf, rfl, hf1, hf2, hf3⟩ hK1
  have hcap : p.caps ≤ 4002 ∧ 2 ≤ p.caps := ⟨hck.2.2.2.2.1, hck.2.2.2.1⟩
  have hl1 : left (allP p (cs.length + 1)) (markW ((i : Int), (j : Int)) S) < n := by have h9 := left_mark hns (allP p (cs.length + 1)) (allP_iff.2 ⟨⟨by omega, by omega⟩, by omega, by omega⟩); omega
  have HS := Lib.hid (And.intro hB1 (And.intro hK1 (And.intro hset (And.intro hl1 C.chk))))
  have H1 := Lib.hid h1
  have HFT := Lib.hid hfit1
  have HIN := Lib.hid hinp
  have HQE := Lib.hid hqe
  have hout := (check_leads HS.out.2.2.2.2 (i : Int) ⟨by omega, by omega⟩).1 (by omega)
  rw [get_eq p i hi] at hout
  have ih1 := fun fv W => ih p.ins[i].out.toNat j c fv (markW ((i : Int), (j : Int)) S) (.slice none 0 0) W (by have := hout.1; have := hout.2; omega) (by omega)
  have HI := Lib.hid ih1
  have HOU := Lib.hid hout
  clear ih1 hout
  clear h h1 hK1 hB1 hset hinp hfit1 hB hlt hns hck hl1 hins hqe hZ hq hh0 hbn ih
  try rw [hge] at ho
  try rw [hge] at hgd
  try rw [hge] at hh
  try dsimp only at hSR
  try rw [hge] at hSR
  have HSR := Lib.hid hSR
  clear hSR hge C hf3
  generalize p.ins[i] = x at *
  have o1 : (x.op == 1) = false := by rw [ho]; rfl
  have o2 : (x.op == 2) = false := by rw [ho]; rfl
  have o3 : (x.op == 3) = false := by rw [ho]; rfl
  have o4 : (x.op == 4) = false := by rw [ho]; rfl
  have o5 : (x.op == 5) = true := by rw [ho]; rfl
  have HO := Lib.hid (And.intro ho hgd)
  clear ho hgd
  have HH := Lib.hid hh
  clear hh
  go_enter Tryd.func43, Tryd.ntmps43
  go_wp2_with fail
  obtain ⟨X, hX⟩ : ∃ X, ((W.setCell ⟨b, q, none⟩ (.bool true)).alloc (.cells #[.int .i64 x.op, .int .i64 x.out, .int .i64 x.arg, .slice B3 x.set.length d3, .int .i64 x.at_] 64)) = X := ⟨_, rfl⟩
  have hsz : (W.setCell ⟨b, q, none⟩ (.bool true)).heap.size = W.heap.size := by simp [World.setCell]
  have hx0 := heap_new1 (W.setCell ⟨b, q, none⟩ (.bool true)) (.cells #[.int .i64 x.op, .int .i64 x.out, .int .i64 x.arg, .slice B3 x.set.length d3, .int .i64 x.at_] 64)
  rw [hsz, hX] at hx0
  have hxS := heap_lt hx0
  have hX1 := H1.out.below (below_al (Below.refl _ _) (.cells #[.int .i64 x.op, .int .i64 x.out, .int .i64 x.arg, .slice B3 x.set.length d3, .int .i64 x.at_] 64))
  have hXB : Below (W.setCell ⟨b, q, none⟩ (.bool true)).heap.size (W.setCell ⟨b, q, none⟩ (.bool true)) X := by rw [← hX]; exact below_al (Below.refl _ _) _
  rw [hX] at hX1
  obtain ⟨x0, x1, x2, x3, x4⟩ := cells5 hx0
  clear qs qsf q0 q3 q4 q5 q6 q7 qf7 m0 m1 g0 g1 g2 g3 g4 k0 k1 k2 k3 k4 s0 sf c0 c3 c4 c5 c6 c7 f7 hnb
  obtain ⟨qs, qsf, q0, q3, q4, q5, q6, q7, qf7, m0, m1⟩ := hX1.cells hi hjM HQE.out
  have hKX := HS.out.2.1.trans (Kp.of_below hXB)
  have hBX := HS.out.1.trans (hXB.mono (by rw [hsz]; omega))
  have hFX := HFT.out.kp (Kp.of_below hXB)
  rw [hX]
  have hin2 := HIN.out.move (w' := X) (ok' := fun k => k < b) (fun k hk hlt => ⟨hXB.block k hlt, hk⟩)
  have HSZ : Hid (b ≤ X.heap.size) := Lib.hid (by omega)
  have HX := Lib.hid (And.intro hX1 (And.intro hin2 (And.intro hKX (And.intro hBX hFX))))
  clear hX hX1 hin2 hKX hBX hFX hXB
  refine wp_region_scr (fun W' => Below X.heap.size X W') [(true, 0, 145), (true, 1, 146), (true, 2, 147), (true, 3, 148), (true, 4, 149), (true, 6, 151), (true, 7, 152), (false, 5, 150), (true, 8, 153), (true, 9, 154)] (by kernel_rfl) (by kernel_rfl) (fun _ _ _ _ _ h => h) rfl (by kernel_rfl) ?_
  have HV := Lib.hid (show Below X.heap.size X X.drew from (Below.refl _ _).drew)
  refine Scr.take (v := .pointer (some ⟨b + 1, 0, none⟩)) rfl rfl (yw_pure (by rfl) (fun _ => by go_simp)) HV.out ?_
  simp only [Act.put, List.setIfInBounds_toArray, List.set_cons_zero, List.set_cons_succ]
  refine Scr.take (v := .pointer (some ⟨b + 1, 0, none⟩)) rfl rfl (yw_pure (by rfl) (fun _ => by go_simp)) HV.out ?_
  simp only [Act.put, List.setIfInBounds_toArray, List.set_cons_zero, List.set_cons_succ]
  refine Scr.take (v := .pointer (some ⟨b + 1, 3, none⟩)) rfl rfl (yw_pure (by rfl) (fun _ => by go_simp)) HV.out ?_
  simp only [Act.put, List.setIfInBounds_toArray, List.set_cons_zero, List.set_cons_succ]
  refine Scr.take (v := .pointer (some ⟨ib, 0, none⟩)) rfl rfl (yw_cell 50 _ rfl ⟨b + 1, 3, none⟩ (.pointer (some ⟨ib, 0, none⟩)) rfl (by rfl) _ Tryd.underlying50 rfl (fun W hS => (World.cell?_of_block (hS.block _ m1)).trans q3)) HV.out ?_
  simp only [Act.put, List.setIfInBounds_toArray, List.set_cons_zero, List.set_cons_succ]
  refine Scr.take (v := .int .i64 j) rfl rfl (yw_pure (by rfl) (fun _ => by go_simp)) HV.out ?_
  simp only [Act.put, List.setIfInBounds_toArray, List.set_cons_zero, List.set_cons_succ]
  refine Scr.take (v := .pointer (some ⟨W.heap.size, 4, none⟩)) rfl rfl (yw_pure (by rfl) (fun _ => by go_simp)) HV.out ?_
  simp only [Act.put, List.setIfInBounds_toArray, List.set_cons_zero, List.set_cons_succ]
  refine Scr.take (v := .int .i64 x.at_) rfl rfl (yw_cell 62 _ rfl ⟨W.heap.size, 4, none⟩ (.int .i64 x.at_) rfl (by rfl) _ Tryd.underlying62 rfl (fun W hS => (World.cell?_of_block (hS.block _ hxS)).trans x4)) HV.out ?_
  simp only [Act.put, List.setIfInBounds_toArray, List.set_cons_zero, List.set_cons_succ]
  refine Scr.run rfl (by rfl) (fun K hK => ?_)
  go_simp
  refine (at01_any (fun k => k < b) X.drew ib cs (HX.out.2.1.move (fun k hk _ => ⟨rfl, hk⟩)) j (by omega)).mono ?_
  rintro e w3 ⟨rfl, rfl⟩
  dsimp only
  refine hK _ _ HV.out ?_
  clear hK K
  have hhb : (bits .and .i64 (docAt cs (j : Int)) x.at_ != 0) = true := HH.out
  refine Scr.take (v := .int .i64 (bits .and .i64 (docAt cs (j : Int)) x.at_)) rfl rfl (yw_pure (by rfl) (fun _ => by go_simp)) HV.out ?_
  simp only [Act.put, List.setIfInBounds_toArray, List.set_cons_zero, List.set_cons_succ]
  refine Scr.take (v := .bool true) rfl rfl (yw_pure (by rfl) (fun _ => by go_simp)) HV.out ?_
  simp only [Act.put, List.setIfInBounds_toArray, List.set_cons_zero, List.set_cons_succ]
  clear hhb
  simp only [Scr]
  obtain ⟨Y, hY⟩ : ∃ Y, X.drew = Y := ⟨_, rfl⟩
  rw [hY] at HV ⊢
  clear hY
  have h4 := HX.out.1.below HV.out
  have y1 := (World.cell?_of_block (HV.out.block _ hxS)).trans x1
  have ny : W.heap.size < Y.heap.size := Nat.lt_of_lt_of_le hxS HV.out.size
  clear qs qsf q0 q3 q4 q5 q6 q7 qf7 m0 m1 x0 x1 x2 x3 x4
  obtain ⟨qs, qsf, q0, q3, q4, q5, q6, q7, qf7, m0, m1⟩ := h4.cells hi hjM HQE.out
  have hfY := HX.out.2.2.2.2.kp (Kp.of_below HV.out)
  have hkY := HX.out.2.2.1.trans (Kp.of_below HV.out)
  have hbY := HX.out.2.2.2.1.trans (HV.out.mono (by have := HX.out.2.2.2.1.size; have := HSZ.out; omega))
  have H4 := Lib.hid (And.intro h4 (And.intro hfY (And.intro hkY hbY)))
  clear h4 hfY hkY hbY
  obtain ⟨o, hoe⟩ : ∃ o : Nat, x.out = (o : Int) := ⟨x.out.toNat, by have := HOU.out.1; omega⟩
  rw [hoe] at y1
  rw [hoe, Int.toNat_natCast] at HI
  have HOE := Lib.hid hoe
  clear hoe
  have hcall := HI.out _ Y H4.out.1 H4.out.2.1 hcl H4.out.2.2.2 HS.out.2.2.2.1
  rw [if_neg (by omega)] at hcall
  have HP : Hid (come (grP p (codeAt cs) (docAt cs) to lg) n ((o : Int), (j : Int)) c (markW ((i : Int), (j : Int)) S) = SR) := Lib.hid (by rw [← HSR.out, if_pos HH.out, HOE.out])
  rw [HP.out] at hcall
  clear HP
  go_wp2_with fail
  refine hcall.mono ?_
  clear hcall
  rintro e w5 ⟨rfl, h5, hk5⟩
  dsimp only
  have H5 := Lib.hid (And.intro h5 (H4.out.2.2.1.trans hk5))
  clear h5 hk5
  go_wp2_with fail
  go_end0
  exact ⟨rfl, H5.out.1, H5.out.2⟩
set_option maxRecDepth 100000 in
set_option maxHeartbeats 4000000 in
theorem tw_atno_n (p : Pg) (b L : Nat) (u0 u1 u2 : Value) (ib : Nat) (cs : List Int) (to : Int) (lg : Bool) (w0 : World) (C : CtxT p b L u0 u1 u2 ib cs w0) (n : Nat) (hto : to ≤ cs.length)
    (i j : Nat) (c : List Int) (fv : Value) (S : Wk (Int × Int)) (bv : Value) (W : World) (hi : i < p.ins.length) (hj : (j : Int) ≤ to) (h : TwAt W b p.ins.length (cs.length + 1) L u0 u1 u2 ib to lg bv S) (hf : FitT W b fv c) (hcl : (c.length : Int) = p.caps) (hB : Below b w0 W) (hlt : left (allP p (cs.length + 1)) S < n + 1) (hns : S.seen ((i : Int), (j : Int)) = false) (hbn : S.best = none) (ho : (p.get i).op = 5) (hh : hitB (docAt cs j) (p.get i).at_ = false) :
    Calls Tryd.prog 43 #[.pointer (some ⟨b + 1, 0, none⟩), .int .i64 i, .int .i64 j, fv] W (TwPost b p.ins.length (cs.length + 1) L u0 u1 u2 ib to lg (come (grP p (codeAt cs) (docAt cs) to lg) (n + 1) ((i : Int), (j : Int)) c S) W) := by
  have hck := check_ok C.chk
  have hN : p.ins.length ≤ 10000 := hck.2.1
  have hcsl : cs.length ≤ 1000000 := by obtain ⟨_, _, _, _, h9, _⟩ := C.inp; exact h9
  obtain ⟨Z, hZ⟩ : ∃ Z, j * p.ins.length = Z := ⟨_, rfl⟩
  obtain ⟨q, hq⟩ : ∃ q, Z + i = q := ⟨_, rfl⟩
  have hZb : Z ≤ 1000001 * 10000 := by rw [← hZ]; exact Nat.mul_le_mul (by omega) hN
  have hw1 : IntKind.i64.wrap ((j : Int) * (p.ins.length : Int)) = (Z : Int) := by rw [show (j : Int) * (p.ins.length : Int) = (Z : Int) by rw [← hZ]; simp]; exact IntWalk.i64_in _ (by omega)
  have hw2 : IntKind.i64.wrap ((Z : Int) + (i : Int)) = (q : Int) := by rw [show (Z : Int) + (i : Int) = (q : Int) by omega]; exact IntWalk.i64_in _ (by omega)
  obtain ⟨F, cf, rfl, hf1, hf2, hf3⟩ := hf
  obtain ⟨ad, ci, B3, d3, hps, hc1, hcm, hd3, hd3m, hadb, hins⟩ := ins_at C.pg C.size i hi
  simp only [List.cons.injEq, and_true] at hps
  obtain ⟨rfl, rfl, rfl⟩ := hps
  have hjM : j < cs.length + 1 := by omega
  have hqe : j * p.ins.length + i = q := by omega
  have hqL : q < L := by rw [C.len, ← hqe]; exact place_lt hi hjM
  have dj : decide (to < (j : Int)) = false := decide_eq_false (by omega)
  obtain ⟨s0, sf, c0, c3, c4, c5, c6, c7, f7, n0, n1⟩ := h.cells hi hjM hqe
  obtain rfl : bv = .slice none 0 0 := by have h9 := h.best; rw [hbn] at h9; exact h9
  have hh0 : halts (grP p (codeAt cs) (docAt cs) to lg) S = false := by unfold halts; rw [hbn]; rfl
  obtain ⟨SR, hSR⟩ : ∃ SR, come (grP p (codeAt cs) (docAt cs) to lg) (n + 1) ((i : Int), (j : Int)) c S = SR := ⟨_, rfl⟩
  rw [hSR]
  rw [come_atw hh0 hns ho] at hSR
  rw [hns] at s0
  have h1 := h.mark (S := S) hi hjM
  rw [hqe] at h1
  have hK1 := (Kp.refl b W).set0 q (.bool true)
  have hB1 := hB.trans (hK1.below (by have := hB.size; have := C.size; omega))
  obtain ⟨hset, g0, g1, g2, g3, g4⟩ := hins _ hB1
  obtain ⟨_, k0, k1, k2, k3, k4⟩ := hins _ hB
  have hnb : ((ad.add (i * 5)).block = b) = False := by rw [add_block]; simp; omega
  have hge := get_eq p i hi
  have hgd := check_good C.chk (⟨by omega, by omega⟩ : Pc p i)
  obtain ⟨qs, qsf, q0, q3, q4, q5, q6, q7, qf7, m0, m1⟩ := h1.cells hi hjM hqe
  have hinp := C.inp.move (w' := W.setCell ⟨b, q, none⟩ (.bool true)) (ok' := fun k => k < b) (fun k hk hlt => ⟨hB1.block k hk, hk⟩)
  have hfit1 : FitT (W.setCell ⟨b, q, none⟩ (.bool true)) b (.slice F c.length cf) c := FitT.kp ⟨F, cf, rfl, hf1, hf2, hf3⟩ hK1
  have hcap : p.caps ≤ 4002 ∧ 2 ≤ p.caps := ⟨hck.2.2.2.2.1, hck.2.2.2.1⟩
  have hl1 : left (allP p (cs.length + 1)) (markW ((i : Int), (j : Int)) S) < n := by have h9 := left_mark hns (allP p (cs.length + 1)) (allP_iff.2 ⟨⟨by omega, by omega⟩, by omega, by omega⟩); omega
  have HS := Lib.hid (And.intro hB1 (And.intro hK1 (And.intro hset (And.intro hl1 C.chk))))
  have H1 := Lib.hid h1
  have HFT := Lib.hid hfit1
  have HIN := Lib.hid hinp
  have HQE := Lib.hid hqe
  clear h h1 hK1 hB1 hset hinp hfit1 hB hlt hns hck hl1 hins hqe hZ hq hh0 hbn
  try rw [hge] at ho
  try rw [hge] at hgd
  try rw [hge] at hh
  try dsimp only at hSR
  try rw [hge] at hSR
  have HSR := Lib.hid hSR
  clear hSR hge C hf3
  generalize p.ins[i] = x at *
  have o1 : (x.op == 1) = false := by rw [ho]; rfl
  have o2 : (x.op == 2) = false := by rw [ho]; rfl
  have o3 : (x.op == 3) = false := by rw [ho]; rfl
  have o4 : (x.op == 4) = false := by rw [ho]; rfl
  have o5 : (x.op == 5) = true := by rw [ho]; rfl
  have HO := Lib.hid (And.intro ho hgd)
  clear ho hgd
  have HH := Lib.hid hh
  clear hh
  go_enter Tryd.func43, Tryd.ntmps43
  go_wp2_with fail
  obtain ⟨X, hX⟩ : ∃ X, ((W.setCell ⟨b, q, none⟩ (.bool true)).alloc (.cells #[.int .i64 x.op, .int .i64 x.out, .int .i64 x.arg, .slice B3 x.set.length d3, .int .i64 x.at_] 64)) = X := ⟨_, rfl⟩
  have hsz : (W.setCell ⟨b, q, none⟩ (.bool true)).heap.size = W.heap.size := by simp [World.setCell]
  have hx0 := heap_new1 (W.setCell ⟨b, q, none⟩ (.bool true)) (.cells #[.int .i64 x.op, .int .i64 x.out, .int .i64 x.arg, .slice B3 x.set.length d3, .int .i64 x.at_] 64)
  rw [hsz, hX] at hx0
  have hxS := heap_lt hx0
  have hX1 := H1.out.below (below_al (Below.refl _ _) (.cells #[.int .i64 x.op, .int .i64 x.out, .int .i64 x.arg, .slice B3 x.set.length d3, .int .i64 x.at_] 64))
  have hXB : Below (W.setCell ⟨b, q, none⟩ (.bool true)).heap.size (W.setCell ⟨b, q, none⟩ (.bool true)) X := by rw [← hX]; exact below_al (Below.refl _ _) _
  rw [hX] at hX1
  obtain ⟨x0, x1, x2, x3, x4⟩ := cells5 hx0
  clear qs qsf q0 q3 q4 q5 q6 q7 qf7 m0 m1 g0 g1 g2 g3 g4 k0 k1 k2 k3 k4 s0 sf c0 c3 c4 c5 c6 c7 f7 hnb
  obtain ⟨qs, qsf, q0, q3, q4, q5, q6, q7, qf7, m0, m1⟩ := hX1.cells hi hjM HQE.out
  have hKX := HS.out.2.1.trans (Kp.of_below hXB)
  have hBX := HS.out.1.trans (hXB.mono (by rw [hsz]; omega))
  have hFX := HFT.out.kp (Kp.of_below hXB)
  rw [hX]
  have hin2 := HIN.out.move (w' := X) (ok' := fun k => k < b) (fun k hk hlt => ⟨hXB.block k hlt, hk⟩)
  have HSZ : Hid (b ≤ X.heap.size) := Lib.hid (by omega)
  have HX := Lib.hid (And.intro hX1 (And.intro hin2 (And.intro hKX (And.intro hBX hFX))))
  clear hX hX1 hin2 hKX hBX hFX hXB
  refine wp_region_scr (fun W' => Below X.heap.size X W') [(true, 0, 145), (true, 1, 146), (true, 2, 147), (true, 3, 148), (true, 4, 149), (true, 6, 151), (true, 7, 152), (false, 5, 150), (true, 8, 153), (true, 9, 154)] (by kernel_rfl) (by kernel_rfl) (fun _ _ _ _ _ h => h) rfl (by kernel_rfl) ?_
  have HV := Lib.hid (show Below X.heap.size X X.drew from (Below.refl _ _).drew)
  refine Scr.take (v := .pointer (some ⟨b + 1, 0, none⟩)) rfl rfl (yw_pure (by rfl) (fun _ => by go_simp)) HV.out ?_
  simp only [Act.put, List.setIfInBounds_toArray, List.set_cons_zero, List.set_cons_succ]
  refine Scr.take (v := .pointer (some ⟨b + 1, 0, none⟩)) rfl rfl (yw_pure (by rfl) (fun _ => by go_simp)) HV.out ?_
  simp only [Act.put, List.setIfInBounds_toArray, List.set_cons_zero, List.set_cons_succ]
  refine Scr.take (v := .pointer (some ⟨b + 1, 3, none⟩)) rfl rfl (yw_pure (by rfl) (fun _ => by go_simp)) HV.out ?_
  simp only [Act.put, List.setIfInBounds_toArray, List.set_cons_zero, List.set_cons_succ]
  refine Scr.take (v := .pointer (some ⟨ib, 0, none⟩)) rfl rfl (yw_cell 50 _ rfl ⟨b + 1, 3, none⟩ (.pointer (some ⟨ib, 0, none⟩)) rfl (by rfl) _ Tryd.underlying50 rfl (fun W hS => (World.cell?_of_block (hS.block _ m1)).trans q3)) HV.out ?_
  simp only [Act.put, List.setIfInBounds_toArray, List.set_cons_zero, List.set_cons_succ]
  refine Scr.take (v := .int .i64 j) rfl rfl (yw_pure (by rfl) (fun _ => by go_simp)) HV.out ?_
  simp only [Act.put, List.setIfInBounds_toArray, List.set_cons_zero, List.set_cons_succ]
  refine Scr.take (v := .pointer (some ⟨W.heap.size, 4, none⟩)) rfl rfl (yw_pure (by rfl) (fun _ => by go_simp)) HV.out ?_
  simp only [Act.put, List.setIfInBounds_toArray, List.set_cons_zero, List.set_cons_succ]
  refine Scr.take (v := .int .i64 x.at_) rfl rfl (yw_cell 62 _ rfl ⟨W.heap.size, 4, none⟩ (.int .i64 x.at_) rfl (by rfl) _ Tryd.underlying62 rfl (fun W hS => (World.cell?_of_block (hS.block _ hxS)).trans x4)) HV.out ?_
  simp only [Act.put, List.setIfInBounds_toArray, List.set_cons_zero, List.set_cons_succ]
  refine Scr.run rfl (by rfl) (fun K hK => ?_)
  go_simp
  refine (at01_any (fun k => k < b) X.drew ib cs (HX.out.2.1.move (fun k hk _ => ⟨rfl, hk⟩)) j (by omega)).mono ?_
  rintro e w3 ⟨rfl, rfl⟩
  dsimp only
  refine hK _ _ HV.out ?_
  clear hK K
  have hhb : (bits .and .i64 (docAt cs (j : Int)) x.at_ != 0) = false := HH.out
  refine Scr.take (v := .int .i64 (bits .and .i64 (docAt cs (j : Int)) x.at_)) rfl rfl (yw_pure (by rfl) (fun _ => by go_simp)) HV.out ?_
  simp only [Act.put, List.setIfInBounds_toArray, List.set_cons_zero, List.set_cons_succ]
  refine Scr.take (v := .bool false) rfl rfl (yw_pure (by rfl) (fun _ => by go_simp)) HV.out ?_
  simp only [Act.put, List.setIfInBounds_toArray, List.set_cons_zero, List.set_cons_succ]
  clear hhb
  simp only [Scr]
  obtain ⟨Y, hY⟩ : ∃ Y, X.drew = Y := ⟨_, rfl⟩
  rw [hY] at HV ⊢
  clear hY
  have h4 := HX.out.1.below HV.out
  have y1 := (World.cell?_of_block (HV.out.block _ hxS)).trans x1
  have ny : W.heap.size < Y.heap.size := Nat.lt_of_lt_of_le hxS HV.out.size
  clear qs qsf q0 q3 q4 q5 q6 q7 qf7 m0 m1 x0 x1 x2 x3 x4
  obtain ⟨qs, qsf, q0, q3, q4, q5, q6, q7, qf7, m0, m1⟩ := h4.cells hi hjM HQE.out
  have hfY := HX.out.2.2.2.2.kp (Kp.of_below HV.out)
  have hkY := HX.out.2.2.1.trans (Kp.of_below HV.out)
  have hbY := HX.out.2.2.2.1.trans (HV.out.mono (by have := HX.out.2.2.2.1.size; have := HSZ.out; omega))
  have H4 := Lib.hid (And.intro h4 (And.intro hfY (And.intro hkY hbY)))
  clear h4 hfY hkY hbY
  have HP : Hid ((markW ((i : Int), (j : Int)) S) = SR) := Lib.hid (by rw [← HSR.out, if_neg (fun h9 => by rw [HH.out] at h9; cases h9)])
  go_wp2_with fail
  go_end0
  exact ⟨rfl, ⟨_, by rw [← HP.out]; exact H4.out.1⟩, H4.out.2.2.1⟩
set_option maxRecDepth 100000 in
set_option maxHeartbeats 4000000 in
theorem tw_alt_s (p : Pg) (b L : Nat) (u0 u1 u2 : Value) (ib : Nat) (cs : List Int) (to : Int) (w0 : World) (C : CtxT p b L u0 u1 u2 ib cs w0) (n : Nat) (ih : ThroughOK p b L u0 u1 u2 ib cs to true w0 n) (hto : to ≤ cs.length)
    (i j : Nat) (c : List Int) (fv : Value) (S : Wk (Int × Int)) (bv : Value) (W : World) (hi : i < p.ins.length) (hj : (j : Int) ≤ to) (h : TwAt W b p.ins.length (cs.length + 1) L u0 u1 u2 ib to true bv S) (hf : FitT W b fv c) (hcl : (c.length : Int) = p.caps) (hB : Below b w0 W) (hlt : left (allP p (cs.length + 1)) S < n + 1) (hns : S.seen ((i : Int), (j : Int)) = false) (l0 : List Int) (hbs : S.best = some l0) (ho : (p.get i).op = 3) :
    Calls Tryd.prog 43 #[.pointer (some ⟨b + 1, 0, none⟩), .int .i64 i, .int .i64 j, fv] W (TwPost b p.ins.length (cs.length + 1) L u0 u1 u2 ib to true (come (grP p (codeAt cs) (docAt cs) to true) (n + 1) ((i : Int), (j : Int)) c S) W) := by
  have hck := check_ok C.chk
  have hN : p.ins.length ≤ 10000 := hck.2.1
  have hcsl : cs.length ≤ 1000000 := by obtain ⟨_, _, _, _, h9, _⟩ := C.inp; exact h9
  obtain ⟨Z, hZ⟩ : ∃ Z, j * p.ins.length = Z := ⟨_, rfl⟩
  obtain ⟨q, hq⟩ : ∃ q, Z + i = q := ⟨_, rfl⟩
  have hZb : Z ≤ 1000001 * 10000 := by rw [← hZ]; exact Nat.mul_le_mul (by omega) hN
  have hw1 : IntKind.i64.wrap ((j : Int) * (p.ins.length : Int)) = (Z : Int) := by rw [show (j : Int) * (p.ins.length : Int) = (Z : Int) by rw [← hZ]; simp]; exact IntWalk.i64_in _ (by omega)
  have hw2 : IntKind.i64.wrap ((Z : Int) + (i : Int)) = (q : Int) := by rw [show (Z : Int) + (i : Int) = (q : Int) by omega]; exact IntWalk.i64_in _ (by omega)
  obtain ⟨F, cf, rfl, hf1, hf2, hf3⟩ := hf
  obtain ⟨ad, ci, B3, d3, hps, hc1, hcm, hd3, hd3m, hadb, hins⟩ := ins_at C.pg C.size i hi
  simp only [List.cons.injEq, and_true] at hps
  obtain ⟨rfl, rfl, rfl⟩ := hps
  have hjM : j < cs.length + 1 := by omega
  have hqe : j * p.ins.length + i = q := by omega
  have hqL : q < L := by rw [C.len, ← hqe]; exact place_lt hi hjM
  have dj : decide (to < (j : Int)) = false := decide_eq_false (by omega)
  obtain ⟨s0, sf, c0, c3, c4, c5, c6, c7, f7, n0, n1⟩ := h.cells hi hjM hqe
  obtain ⟨Ab, cb, rfl, hb1, hb2, hb3, hb4⟩ : ∃ Ab cb, bv = .slice (some Ab) l0.length cb ∧ l0.length ≤ cb ∧ cb ≤ maxLen ∧ Arr (fun k => k ≠ b ∧ k ≠ b + 1) W 1 (IntC .i64) (some Ab) l0 ∧ 2 ≤ l0.length := by
    have h9 := h.best
    rw [hbs] at h9
    obtain ⟨⟨A, c9, k1, k2, k3, k4⟩, k5⟩ := h9
    obtain ⟨A2, rfl, _⟩ := ints_at k4 0 (by omega)
    exact ⟨A2, c9, k1, k2, k3, k4, k5⟩
  have hh0 : halts (grP p (codeAt cs) (docAt cs) to true) S = false := by unfold halts; rw [show (grP p (codeAt cs) (docAt cs) to true).longest = true from rfl]; simp
  obtain ⟨SR, hSR⟩ : ∃ SR, come (grP p (codeAt cs) (docAt cs) to true) (n + 1) ((i : Int), (j : Int)) c S = SR := ⟨_, rfl⟩
  rw [hSR]
  rw [come_alt hh0 hns ho] at hSR
  rw [hns] at s0
  have h1 := h.mark (S := S) hi hjM
  rw [hqe] at h1
  have hK1 := (Kp.refl b W).set0 q (.bool true)
  have hB1 := hB.trans (hK1.below (by have := hB.size; have := C.size; omega))
  obtain ⟨hset, g0, g1, g2, g3, g4⟩ := hins _ hB1
  obtain ⟨_, k0, k1, k2, k3, k4⟩ := hins _ hB
  have hnb : ((ad.add (i * 5)).block = b) = False := by rw [add_block]; simp; omega
  have hge := get_eq p i hi
  have hgd := check_good C.chk (⟨by omega, by omega⟩ : Pc p i)
  obtain ⟨qs, qsf, q0, q3, q4, q5, q6, q7, qf7, m0, m1⟩ := h1.cells hi hjM hqe
  have hinp := C.inp.move (w' := W.setCell ⟨b, q, none⟩ (.bool true)) (ok' := fun k => k < b) (fun k hk hlt => ⟨hB1.block k hk, hk⟩)
  have hfit1 : FitT (W.setCell ⟨b, q, none⟩ (.bool true)) b (.slice F c.length cf) c := FitT.kp ⟨F, cf, rfl, hf1, hf2, hf3⟩ hK1
  have hcap : p.caps ≤ 4002 ∧ 2 ≤ p.caps := ⟨hck.2.2.2.2.1, hck.2.2.2.1⟩
  have hl1 : left (allP p (cs.length + 1)) (markW ((i : Int), (j : Int)) S) < n := by have h9 := left_mark hns (allP p (cs.length + 1)) (allP_iff.2 ⟨⟨by omega, by omega⟩, by omega, by omega⟩); omega
  have HS := Lib.hid (And.intro hB1 (And.intro hK1 (And.intro hset (And.intro hl1 C.chk))))
  have H1 := Lib.hid h1
  have HFT := Lib.hid hfit1
  have HIN := Lib.hid hinp
  have HQE := Lib.hid hqe
  have hout := (check_leads HS.out.2.2.2.2 (i : Int) ⟨by omega, by omega⟩).1 (by omega)
  rw [get_eq p i hi] at hout
  have harg := (check_leads HS.out.2.2.2.2 (i : Int) ⟨by omega, by omega⟩).2 ho
  rw [get_eq p i hi] at harg
  have ih1 := fun fv W => ih p.ins[i].out.toNat j c fv (markW ((i : Int), (j : Int)) S) (.slice (some Ab) l0.length cb) W (by have := hout.1; have := hout.2; omega) (by omega)
  have ih2 := fun fv S bv W => ih p.ins[i].arg.toNat j c fv S bv W (by have := harg.1; have := harg.2; omega) (by omega)
  have HI := Lib.hid (And.intro ih1 ih2)
  have HOU := Lib.hid hout
  have HAR := Lib.hid harg
  clear ih1 ih2 hout harg
  clear h h1 hK1 hB1 hset hinp hfit1 hB hlt hns hck hl1 hins hqe hZ hq hh0 hbs ih
  try rw [hge] at ho
  try rw [hge] at hgd
  try rw [hge] at hh
  try dsimp only at hSR
  try rw [hge] at hSR
  have HSR := Lib.hid hSR
  clear hSR hge C hf3
  generalize p.ins[i] = x at *
  have o1 : (x.op == 1) = false := by rw [ho]; rfl
  have o2 : (x.op == 2) = false := by rw [ho]; rfl
  have o3 : (x.op == 3) = true := by rw [ho]; rfl
  have o4 : (x.op == 4) = false := by rw [ho]; rfl
  have o5 : (x.op == 5) = false := by rw [ho]; rfl
  have HO := Lib.hid (And.intro ho hgd)
  clear ho hgd
  clear hb3
  obtain ⟨o, hoe⟩ : ∃ o : Nat, x.out = (o : Int) := ⟨x.out.toNat, by have := HOU.out.1; omega⟩
  obtain ⟨o2, hoe2⟩ : ∃ o2 : Nat, x.arg = (o2 : Int) := ⟨x.arg.toNat, by have := HAR.out.1; omega⟩
  rw [hoe, Int.toNat_natCast, hoe2, Int.toNat_natCast] at HI
  have HOE := Lib.hid (And.intro hoe hoe2)
  clear hoe hoe2

  go_enter Tryd.func43, Tryd.ntmps43
  go_wp2_with fail
  obtain ⟨X, hX⟩ : ∃ X, ((W.setCell ⟨b, q, none⟩ (.bool true)).alloc (.cells #[.int .i64 x.op, .int .i64 x.out, .int .i64 x.arg, .slice B3 x.set.length d3, .int .i64 x.at_] 64)) = X := ⟨_, rfl⟩
  have hsz : (W.setCell ⟨b, q, none⟩ (.bool true)).heap.size = W.heap.size := by simp [World.setCell]
  have hx0 := heap_new1 (W.setCell ⟨b, q, none⟩ (.bool true)) (.cells #[.int .i64 x.op, .int .i64 x.out, .int .i64 x.arg, .slice B3 x.set.length d3, .int .i64 x.at_] 64)
  rw [hsz, hX] at hx0
  have hxS := heap_lt hx0
  have hX1 := H1.out.below (below_al (Below.refl _ _) (.cells #[.int .i64 x.op, .int .i64 x.out, .int .i64 x.arg, .slice B3 x.set.length d3, .int .i64 x.at_] 64))
  have hXB : Below (W.setCell ⟨b, q, none⟩ (.bool true)).heap.size (W.setCell ⟨b, q, none⟩ (.bool true)) X := by rw [← hX]; exact below_al (Below.refl _ _) _
  rw [hX] at hX1
  obtain ⟨x0, x1, x2, x3, x4⟩ := cells5 hx0
  clear qs qsf q0 q3 q4 q5 q6 q7 qf7 m0 m1 g0 g1 g2 g3 g4 k0 k1 k2 k3 k4 s0 sf c0 c3 c4 c5 c6 c7 f7 hnb
  obtain ⟨qs, qsf, q0, q3, q4, q5, q6, q7, qf7, m0, m1⟩ := hX1.cells hi hjM HQE.out
  have hKX := HS.out.2.1.trans (Kp.of_below hXB)
  have hBX := HS.out.1.trans (hXB.mono (by rw [hsz]; omega))
  have hFX := HFT.out.kp (Kp.of_below hXB)
  rw [hX]
  rw [HOE.out.1] at x1
  try rw [HOE.out.1]
  have hi1 := HI.out.1 _ X hX1 hFX hcl hBX HS.out.2.2.2.1
  rw [if_neg (show ¬ to < (j : Int) by omega)] at hi1
  have HX := Lib.hid (And.intro hKX (And.intro hBX (And.intro hFX hx0)))
  clear hX hX1 hXB hKX hBX hFX hx0
  refine hi1.mono ?_
  clear hi1
  rintro e w3 ⟨rfl, ⟨bv3, h3⟩, hk3⟩
  dsimp only
  have hb3 := (hk3.block W.heap.size hxS (by omega) (by omega)).trans HX.out.2.2.2
  clear x0 x1 x2 x3 x4 qs qsf q0 q3 q4 q5 q6 q7 qf7 m0 m1
  obtain ⟨x0, x1, x2, x3, x4⟩ := cells5 hb3
  have nx := heap_lt hb3
  rw [HOE.out.2] at x2
  have hbs := n1
  have hB3 := HX.out.2.1.trans ((hk3.below (by omega)))
  have hlt3 := left_sub (come_sub (grP p (codeAt cs) (docAt cs) to true) n ((o : Int), (j : Int)) c (markW ((i : Int), (j : Int)) S)) (allP p (cs.length + 1))
  have hi2 := HI.out.2 _ _ bv3 w3 h3 (HX.out.2.2.1.kp hk3) hcl hB3 (by have := HS.out.2.2.2.1; omega)
  rw [if_neg (show ¬ to < (j : Int) by omega)] at hi2
  have HP : Hid (come (grP p (codeAt cs) (docAt cs) to true) n ((o2 : Int), (j : Int)) c (come (grP p (codeAt cs) (docAt cs) to true) n ((o : Int), (j : Int)) c (markW ((i : Int), (j : Int)) S)) = SR) := Lib.hid (by rw [← HSR.out, HOE.out.1, HOE.out.2])
  rw [HP.out] at hi2
  have H3 := Lib.hid (HX.out.1.trans hk3)
  clear h3 hk3 hb3 hB3 hlt3 HP
  go_wp2_with fail
  refine hi2.mono ?_
  clear hi2
  rintro e w4 ⟨rfl, h4, hk4⟩
  dsimp only
  have H4 := Lib.hid (And.intro h4 (H3.out.trans hk4))
  clear h4 hk4
  go_wp2_with fail
  go_end0
  exact ⟨rfl, H4.out.1, H4.out.2⟩
set_option maxRecDepth 100000 in
set_option maxHeartbeats 4000000 in
theorem tw_atyes_s (p : Pg) (b L : Nat) (u0 u1 u2 : Value) (ib : Nat) (cs : List Int) (to : Int) (w0 : World) (C : CtxT p b L u0 u1 u2 ib cs w0) (n : Nat) (ih : ThroughOK p b L u0 u1 u2 ib cs to true w0 n) (hto : to ≤ cs.length)
    (i j : Nat) (c : List Int) (fv : Value) (S : Wk (Int × Int)) (bv : Value) (W : World) (hi : i < p.ins.length) (hj : (j : Int) ≤ to) (h : TwAt W b p.ins.length (cs.length + 1) L u0 u1 u2 ib to true bv S) (hf : FitT W b fv c) (hcl : (c.length : Int) = p.caps) (hB : Below b w0 W) (hlt : left (allP p (cs.length + 1)) S < n + 1) (hns : S.seen ((i : Int), (j : Int)) = false) (l0 : List Int) (hbs : S.best = some l0) (ho : (p.get i).op = 5) (hh : hitB (docAt cs j) (p.get i).at_ = true) :
    Calls Tryd.prog 43 #[.pointer (some ⟨b + 1, 0, none⟩), .int .i64 i, .int .i64 j, fv] W (TwPost b p.ins.length (cs.length + 1) L u0 u1 u2 ib to true (come (grP p (codeAt cs) (docAt cs) to true) (n + 1) ((i : Int), (j : Int)) c S) W) := by
  have hck := check_ok C.chk
  have hN : p.ins.length ≤ 10000 := hck.2.1
  have hcsl : cs.length ≤ 1000000 := by obtain ⟨_, _, _, _, h9, _⟩ := C.inp; exact h9
  obtain ⟨Z, hZ⟩ : ∃ Z, j * p.ins.length = Z := ⟨_, rfl⟩
  obtain ⟨q, hq⟩ : ∃ q, Z + i = q := ⟨_, rfl⟩
  have hZb : Z ≤ 1000001 * 10000 := by rw [← hZ]; exact Nat.mul_le_mul (by omega) hN
  have hw1 : IntKind.i64.wrap ((j : Int) * (p.ins.length : Int)) = (Z : Int) := by rw [show (j : Int) * (p.ins.length : Int) = (Z : Int) by rw [← hZ]; simp]; exact IntWalk.i64_in _ (by omega)
  have hw2 : IntKind.i64.wrap ((Z : Int) + (i : Int)) = (q : Int) := by rw [show (Z : Int) + (i : Int) = (q : Int) by omega]; exact IntWalk.i64_in _ (by omega)
  obtain ⟨F, cf, rfl, hf1, hf2, hf3⟩ := hf
  obtain ⟨ad, ci, B3, d3, hps, hc1, hcm, hd3, hd3m, hadb, hins⟩ := ins_at C.pg C.size i hi
  simp only [List.cons.injEq, and_true] at hps
  obtain ⟨rfl, rfl, rfl⟩ := hps
  have hjM : j < cs.length + 1 := by omega
  have hqe : j * p.ins.length + i = q := by omega
  have hqL : q < L := by rw [C.len, ← hqe]; exact place_lt hi hjM
  have dj : decide (to < (j : Int)) = false := decide_eq_false (by omega)
  obtain ⟨s0, sf, c0, c3, c4, c5, c6, c7, f7, n0, n1⟩ := h.cells hi hjM hqe
  obtain ⟨Ab, cb, rfl, hb1, hb2, hb3, hb4⟩ : ∃ Ab cb, bv = .slice (some Ab) l0.length cb ∧ l0.length ≤ cb ∧ cb ≤ maxLen ∧ Arr (fun k => k ≠ b ∧ k ≠ b + 1) W 1 (IntC .i64) (some Ab) l0 ∧ 2 ≤ l0.length := by
    have h9 := h.best
    rw [hbs] at h9
    obtain ⟨⟨A, c9, k1, k2, k3, k4⟩, k5⟩ := h9
    obtain ⟨A2, rfl, _⟩ := ints_at k4 0 (by omega)
    exact ⟨A2, c9, k1, k2, k3, k4, k5⟩
  have hh0 : halts (grP p (codeAt cs) (docAt cs) to true) S = false := by unfold halts; rw [show (grP p (codeAt cs) (docAt cs) to true).longest = true from rfl]; simp
  obtain ⟨SR, hSR⟩ : ∃ SR, come (grP p (codeAt cs) (docAt cs) to true) (n + 1) ((i : Int), (j : Int)) c S = SR := ⟨_, rfl⟩
  rw [hSR]
  rw [come_atw hh0 hns ho] at hSR
  rw [hns] at s0
  have h1 := h.mark (S := S) hi hjM
  rw [hqe] at h1
  have hK1 := (Kp.refl b W).set0 q (.bool true)
  have hB1 := hB.trans (hK1.below (by have := hB.size; have := C.size; omega))
  obtain ⟨hset, g0, g1, g2, g3, g4⟩ := hins _ hB1
  obtain ⟨_, k0, k1, k2, k3, k4⟩ := hins _ hB
  have hnb : ((ad.add (i * 5)).block = b) = False := by rw [add_block]; simp; omega
  have hge := get_eq p i hi
  have hgd := check_good C.chk (⟨by omega, by omega⟩ : Pc p i)
  obtain ⟨qs, qsf, q0, q3, q4, q5, q6, q7, qf7, m0, m1⟩ := h1.cells hi hjM hqe
  have hinp := C.inp.move (w' := W.setCell ⟨b, q, none⟩ (.bool true)) (ok' := fun k => k < b) (fun k hk hlt => ⟨hB1.block k hk, hk⟩)
  have hfit1 : FitT (W.setCell ⟨b, q, none⟩ (.bool true)) b (.slice F c.length cf) c := FitT.kp ⟨F, cf, rfl, hf1, hf2, hf3⟩ hK1
  have hcap : p.caps ≤ 4002 ∧ 2 ≤ p.caps := ⟨hck.2.2.2.2.1, hck.2.2.2.1⟩
  have hl1 : left (allP p (cs.length + 1)) (markW ((i : Int), (j : Int)) S) < n := by have h9 := left_mark hns (allP p (cs.length + 1)) (allP_iff.2 ⟨⟨by omega, by omega⟩, by omega, by omega⟩); omega
  have HS := Lib.hid (And.intro hB1 (And.intro hK1 (And.intro hset (And.intro hl1 C.chk))))
  have H1 := Lib.hid h1
  have HFT := Lib.hid hfit1
  have HIN := Lib.hid hinp
  have HQE := Lib.hid hqe
  have hout := (check_leads HS.out.2.2.2.2 (i : Int) ⟨by omega, by omega⟩).1 (by omega)
  rw [get_eq p i hi] at hout
  have ih1 := fun fv W => ih p.ins[i].out.toNat j c fv (markW ((i : Int), (j : Int)) S) (.slice (some Ab) l0.length cb) W (by have := hout.1; have := hout.2; omega) (by omega)
  have HI := Lib.hid ih1
  have HOU := Lib.hid hout
  clear ih1 hout
  clear h h1 hK1 hB1 hset hinp hfit1 hB hlt hns hck hl1 hins hqe hZ hq hh0 hbs ih
  try rw [hge] at ho
  try rw [hge] at hgd
  try rw [hge] at hh
  try dsimp only at hSR
  try rw [hge] at hSR
  have HSR := Lib.hid hSR
  clear hSR hge C hf3
  generalize p.ins[i] = x at *
  have o1 : (x.op == 1) = false := by rw [ho]; rfl
  have o2 : (x.op == 2) = false := by rw [ho]; rfl
  have o3 : (x.op == 3) = false := by rw [ho]; rfl
  have o4 : (x.op == 4) = false := by rw [ho]; rfl
  have o5 : (x.op == 5) = true := by rw [ho]; rfl
  have HO := Lib.hid (And.intro ho hgd)
  clear ho hgd
  clear hb3
  have HH := Lib.hid hh
  clear hh
  go_enter Tryd.func43, Tryd.ntmps43
  go_wp2_with fail
  obtain ⟨X, hX⟩ : ∃ X, ((W.setCell ⟨b, q, none⟩ (.bool true)).alloc (.cells #[.int .i64 x.op, .int .i64 x.out, .int .i64 x.arg, .slice B3 x.set.length d3, .int .i64 x.at_] 64)) = X := ⟨_, rfl⟩
  have hsz : (W.setCell ⟨b, q, none⟩ (.bool true)).heap.size = W.heap.size := by simp [World.setCell]
  have hx0 := heap_new1 (W.setCell ⟨b, q, none⟩ (.bool true)) (.cells #[.int .i64 x.op, .int .i64 x.out, .int .i64 x.arg, .slice B3 x.set.length d3, .int .i64 x.at_] 64)
  rw [hsz, hX] at hx0
  have hxS := heap_lt hx0
  have hX1 := H1.out.below (below_al (Below.refl _ _) (.cells #[.int .i64 x.op, .int .i64 x.out, .int .i64 x.arg, .slice B3 x.set.length d3, .int .i64 x.at_] 64))
  have hXB : Below (W.setCell ⟨b, q, none⟩ (.bool true)).heap.size (W.setCell ⟨b, q, none⟩ (.bool true)) X := by rw [← hX]; exact below_al (Below.refl _ _) _
  rw [hX] at hX1
  obtain ⟨x0, x1, x2, x3, x4⟩ := cells5 hx0
  clear qs qsf q0 q3 q4 q5 q6 q7 qf7 m0 m1 g0 g1 g2 g3 g4 k0 k1 k2 k3 k4 s0 sf c0 c3 c4 c5 c6 c7 f7 hnb
  obtain ⟨qs, qsf, q0, q3, q4, q5, q6, q7, qf7, m0, m1⟩ := hX1.cells hi hjM HQE.out
  have hKX := HS.out.2.1.trans (Kp.of_below hXB)
  have hBX := HS.out.1.trans (hXB.mono (by rw [hsz]; omega))
  have hFX := HFT.out.kp (Kp.of_below hXB)
  rw [hX]
  have hin2 := HIN.out.move (w' := X) (ok' := fun k => k < b) (fun k hk hlt => ⟨hXB.block k hlt, hk⟩)
  have HSZ : Hid (b ≤ X.heap.size) := Lib.hid (by omega)
  have HX := Lib.hid (And.intro hX1 (And.intro hin2 (And.intro hKX (And.intro hBX hFX))))
  clear hX hX1 hin2 hKX hBX hFX hXB
  refine wp_region_scr (fun W' => Below X.heap.size X W') [(true, 0, 145), (true, 1, 146), (true, 2, 147), (true, 3, 148), (true, 4, 149), (true, 6, 151), (true, 7, 152), (false, 5, 150), (true, 8, 153), (true, 9, 154)] (by kernel_rfl) (by kernel_rfl) (fun _ _ _ _ _ h => h) rfl (by kernel_rfl) ?_
  have HV := Lib.hid (show Below X.heap.size X X.drew from (Below.refl _ _).drew)
  refine Scr.take (v := .pointer (some ⟨b + 1, 0, none⟩)) rfl rfl (yw_pure (by rfl) (fun _ => by go_simp)) HV.out ?_
  simp only [Act.put, List.setIfInBounds_toArray, List.set_cons_zero, List.set_cons_succ]
  refine Scr.take (v := .pointer (some ⟨b + 1, 0, none⟩)) rfl rfl (yw_pure (by rfl) (fun _ => by go_simp)) HV.out ?_
  simp only [Act.put, List.setIfInBounds_toArray, List.set_cons_zero, List.set_cons_succ]
  refine Scr.take (v := .pointer (some ⟨b + 1, 3, none⟩)) rfl rfl (yw_pure (by rfl) (fun _ => by go_simp)) HV.out ?_
  simp only [Act.put, List.setIfInBounds_toArray, List.set_cons_zero, List.set_cons_succ]
  refine Scr.take (v := .pointer (some ⟨ib, 0, none⟩)) rfl rfl (yw_cell 50 _ rfl ⟨b + 1, 3, none⟩ (.pointer (some ⟨ib, 0, none⟩)) rfl (by rfl) _ Tryd.underlying50 rfl (fun W hS => (World.cell?_of_block (hS.block _ m1)).trans q3)) HV.out ?_
  simp only [Act.put, List.setIfInBounds_toArray, List.set_cons_zero, List.set_cons_succ]
  refine Scr.take (v := .int .i64 j) rfl rfl (yw_pure (by rfl) (fun _ => by go_simp)) HV.out ?_
  simp only [Act.put, List.setIfInBounds_toArray, List.set_cons_zero, List.set_cons_succ]
  refine Scr.take (v := .pointer (some ⟨W.heap.size, 4, none⟩)) rfl rfl (yw_pure (by rfl) (fun _ => by go_simp)) HV.out ?_
  simp only [Act.put, List.setIfInBounds_toArray, List.set_cons_zero, List.set_cons_succ]
  refine Scr.take (v := .int .i64 x.at_) rfl rfl (yw_cell 62 _ rfl ⟨W.heap.size, 4, none⟩ (.int .i64 x.at_) rfl (by rfl) _ Tryd.underlying62 rfl (fun W hS => (World.cell?_of_block (hS.block _ hxS)).trans x4)) HV.out ?_
  simp only [Act.put, List.setIfInBounds_toArray, List.set_cons_zero, List.set_cons_succ]
  refine Scr.run rfl (by rfl) (fun K hK => ?_)
  go_simp
  refine (at01_any (fun k => k < b) X.drew ib cs (HX.out.2.1.move (fun k hk _ => ⟨rfl, hk⟩)) j (by omega)).mono ?_
  rintro e w3 ⟨rfl, rfl⟩
  dsimp only
  refine hK _ _ HV.out ?_
  clear hK K
  have hhb : (bits .and .i64 (docAt cs (j : Int)) x.at_ != 0) = true := HH.out
  refine Scr.take (v := .int .i64 (bits .and .i64 (docAt cs (j : Int)) x.at_)) rfl rfl (yw_pure (by rfl) (fun _ => by go_simp)) HV.out ?_
  simp only [Act.put, List.setIfInBounds_toArray, List.set_cons_zero, List.set_cons_succ]
  refine Scr.take (v := .bool true) rfl rfl (yw_pure (by rfl) (fun _ => by go_simp)) HV.out ?_
  simp only [Act.put, List.setIfInBounds_toArray, List.set_cons_zero, List.set_cons_succ]
  clear hhb
  simp only [Scr]
  obtain ⟨Y, hY⟩ : ∃ Y, X.drew = Y := ⟨_, rfl⟩
  rw [hY] at HV ⊢
  clear hY
  have h4 := HX.out.1.below HV.out
  have y1 := (World.cell?_of_block (HV.out.block _ hxS)).trans x1
  have ny : W.heap.size < Y.heap.size := Nat.lt_of_lt_of_le hxS HV.out.size
  clear qs qsf q0 q3 q4 q5 q6 q7 qf7 m0 m1 x0 x1 x2 x3 x4
  obtain ⟨qs, qsf, q0, q3, q4, q5, q6, q7, qf7, m0, m1⟩ := h4.cells hi hjM HQE.out
  have hfY := HX.out.2.2.2.2.kp (Kp.of_below HV.out)
  have hkY := HX.out.2.2.1.trans (Kp.of_below HV.out)
  have hbY := HX.out.2.2.2.1.trans (HV.out.mono (by have := HX.out.2.2.2.1.size; have := HSZ.out; omega))
  have H4 := Lib.hid (And.intro h4 (And.intro hfY (And.intro hkY hbY)))
  clear h4 hfY hkY hbY
  obtain ⟨o, hoe⟩ : ∃ o : Nat, x.out = (o : Int) := ⟨x.out.toNat, by have := HOU.out.1; omega⟩
  rw [hoe] at y1
  rw [hoe, Int.toNat_natCast] at HI
  have HOE := Lib.hid hoe
  clear hoe
  have hcall := HI.out _ Y H4.out.1 H4.out.2.1 hcl H4.out.2.2.2 HS.out.2.2.2.1
  rw [if_neg (by omega)] at hcall
  have HP : Hid (come (grP p (codeAt cs) (docAt cs) to true) n ((o : Int), (j : Int)) c (markW ((i : Int), (j : Int)) S) = SR) := Lib.hid (by rw [← HSR.out, if_pos HH.out, HOE.out])
  rw [HP.out] at hcall
  clear HP
  go_wp2_with fail
  refine hcall.mono ?_
  clear hcall
  rintro e w5 ⟨rfl, h5, hk5⟩
  dsimp only
  have H5 := Lib.hid (And.intro h5 (H4.out.2.2.1.trans hk5))
  clear h5 hk5
  go_wp2_with fail
  go_end0
  exact ⟨rfl, H5.out.1, H5.out.2⟩
set_option maxRecDepth 100000 in
set_option maxHeartbeats 4000000 in
theorem tw_atno_s (p : Pg) (b L : Nat) (u0 u1 u2 : Value) (ib : Nat) (cs : List Int) (to : Int) (w0 : World) (C : CtxT p b L u0 u1 u2 ib cs w0) (n : Nat) (hto : to ≤ cs.length)
    (i j : Nat) (c : List Int) (fv : Value) (S : Wk (Int × Int)) (bv : Value) (W : World) (hi : i < p.ins.length) (hj : (j : Int) ≤ to) (h : TwAt W b p.ins.length (cs.length + 1) L u0 u1 u2 ib to true bv S) (hf : FitT W b fv c) (hcl : (c.length : Int) = p.caps) (hB : Below b w0 W) (hlt : left (allP p (cs.length + 1)) S < n + 1) (hns : S.seen ((i : Int), (j : Int)) = false) (l0 : List Int) (hbs : S.best = some l0) (ho : (p.get i).op = 5) (hh : hitB (docAt cs j) (p.get i).at_ = false) :
    Calls Tryd.prog 43 #[.pointer (some ⟨b + 1, 0, none⟩), .int .i64 i, .int .i64 j, fv] W (TwPost b p.ins.length (cs.length + 1) L u0 u1 u2 ib to true (come (grP p (codeAt cs) (docAt cs) to true) (n + 1) ((i : Int), (j : Int)) c S) W) := by
  have hck := check_ok C.chk
  have hN : p.ins.length ≤ 10000 := hck.2.1
  have hcsl : cs.length ≤ 1000000 := by obtain ⟨_, _, _, _, h9, _⟩ := C.inp; exact h9
  obtain ⟨Z, hZ⟩ : ∃ Z, j * p.ins.length = Z := ⟨_, rfl⟩
  obtain ⟨q, hq⟩ : ∃ q, Z + i = q := ⟨_, rfl⟩
  have hZb : Z ≤ 1000001 * 10000 := by rw [← hZ]; exact Nat.mul_le_mul (by omega) hN
  have hw1 : IntKind.i64.wrap ((j : Int) * (p.ins.length : Int)) = (Z : Int) := by rw [show (j : Int) * (p.ins.length : Int) = (Z : Int) by rw [← hZ]; simp]; exact IntWalk.i64_in _ (by omega)
  have hw2 : IntKind.i64.wrap ((Z : Int) + (i : Int)) = (q : Int) := by rw [show (Z : Int) + (i : Int) = (q : Int) by omega]; exact IntWalk.i64_in _ (by omega)
  obtain ⟨F, cf, rfl, hf1, hf2, hf3⟩ := hf
  obtain ⟨ad, ci, B3, d3, hps, hc1, hcm, hd3, hd3m, hadb, hins⟩ := ins_at C.pg C.size i hi
  simp only [List.cons.injEq, and_true] at hps
  obtain ⟨rfl, rfl, rfl⟩ := hps
  have hjM : j < cs.length + 1 := by omega
  have hqe : j * p.ins.length + i = q := by omega
  have hqL : q < L := by rw [C.len, ← hqe]; exact place_lt hi hjM
  have dj : decide (to < (j : Int)) = false := decide_eq_false (by omega)
  obtain ⟨s0, sf, c0, c3, c4, c5, c6, c7, f7, n0, n1⟩ := h.cells hi hjM hqe
  obtain ⟨Ab, cb, rfl, hb1, hb2, hb3, hb4⟩ : ∃ Ab cb, bv = .slice (some Ab) l0.length cb ∧ l0.length ≤ cb ∧ cb ≤ maxLen ∧ Arr (fun k => k ≠ b ∧ k ≠ b + 1) W 1 (IntC .i64) (some Ab) l0 ∧ 2 ≤ l0.length := by
    have h9 := h.best
    rw [hbs] at h9
    obtain ⟨⟨A, c9, k1, k2, k3, k4⟩, k5⟩ := h9
    obtain ⟨A2, rfl, _⟩ := ints_at k4 0 (by omega)
    exact ⟨A2, c9, k1, k2, k3, k4, k5⟩
  have hh0 : halts (grP p (codeAt cs) (docAt cs) to true) S = false := by unfold halts; rw [show (grP p (codeAt cs) (docAt cs) to true).longest = true from rfl]; simp
  obtain ⟨SR, hSR⟩ : ∃ SR, come (grP p (codeAt cs) (docAt cs) to true) (n + 1) ((i : Int), (j : Int)) c S = SR := ⟨_, rfl⟩
  rw [hSR]
  rw [come_atw hh0 hns ho] at hSR
  rw [hns] at s0
  have h1 := h.mark (S := S) hi hjM
  rw [hqe] at h1
  have hK1 := (Kp.refl b W).set0 q (.bool true)
  have hB1 := hB.trans (hK1.below (by have := hB.size; have := C.size; omega))
  obtain ⟨hset, g0, g1, g2, g3, g4⟩ := hins _ hB1
  obtain ⟨_, k0, k1, k2, k3, k4⟩ := hins _ hB
  have hnb : ((ad.add (i * 5)).block = b) = False := by rw [add_block]; simp; omega
  have hge := get_eq p i hi
  have hgd := check_good C.chk (⟨by omega, by omega⟩ : Pc p i)
  obtain ⟨qs, qsf, q0, q3, q4, q5, q6, q7, qf7, m0, m1⟩ := h1.cells hi hjM hqe
  have hinp := C.inp.move (w' := W.setCell ⟨b, q, none⟩ (.bool true)) (ok' := fun k => k < b) (fun k hk hlt => ⟨hB1.block k hk, hk⟩)
  have hfit1 : FitT (W.setCell ⟨b, q, none⟩ (.bool true)) b (.slice F c.length cf) c := FitT.kp ⟨F, cf, rfl, hf1, hf2, hf3⟩ hK1
  have hcap : p.caps ≤ 4002 ∧ 2 ≤ p.caps := ⟨hck.2.2.2.2.1, hck.2.2.2.1⟩
  have hl1 : left (allP p (cs.length + 1)) (markW ((i : Int), (j : Int)) S) < n := by have h9 := left_mark hns (allP p (cs.length + 1)) (allP_iff.2 ⟨⟨by omega, by omega⟩, by omega, by omega⟩); omega
  have HS := Lib.hid (And.intro hB1 (And.intro hK1 (And.intro hset (And.intro hl1 C.chk))))
  have H1 := Lib.hid h1
  have HFT := Lib.hid hfit1
  have HIN := Lib.hid hinp
  have HQE := Lib.hid hqe
  clear h h1 hK1 hB1 hset hinp hfit1 hB hlt hns hck hl1 hins hqe hZ hq hh0 hbs
  try rw [hge] at ho
  try rw [hge] at hgd
  try rw [hge] at hh
  try dsimp only at hSR
  try rw [hge] at hSR
  have HSR := Lib.hid hSR
  clear hSR hge C hf3
  generalize p.ins[i] = x at *
  have o1 : (x.op == 1) = false := by rw [ho]; rfl
  have o2 : (x.op == 2) = false := by rw [ho]; rfl
  have o3 : (x.op == 3) = false := by rw [ho]; rfl
  have o4 : (x.op == 4) = false := by rw [ho]; rfl
  have o5 : (x.op == 5) = true := by rw [ho]; rfl
  have HO := Lib.hid (And.intro ho hgd)
  clear ho hgd
  clear hb3
  have HH := Lib.hid hh
  clear hh
  go_enter Tryd.func43, Tryd.ntmps43
  go_wp2_with fail
  obtain ⟨X, hX⟩ : ∃ X, ((W.setCell ⟨b, q, none⟩ (.bool true)).alloc (.cells #[.int .i64 x.op, .int .i64 x.out, .int .i64 x.arg, .slice B3 x.set.length d3, .int .i64 x.at_] 64)) = X := ⟨_, rfl⟩
  have hsz : (W.setCell ⟨b, q, none⟩ (.bool true)).heap.size = W.heap.size := by simp [World.setCell]
  have hx0 := heap_new1 (W.setCell ⟨b, q, none⟩ (.bool true)) (.cells #[.int .i64 x.op, .int .i64 x.out, .int .i64 x.arg, .slice B3 x.set.length d3, .int .i64 x.at_] 64)
  rw [hsz, hX] at hx0
  have hxS := heap_lt hx0
  have hX1 := H1.out.below (below_al (Below.refl _ _) (.cells #[.int .i64 x.op, .int .i64 x.out, .int .i64 x.arg, .slice B3 x.set.length d3, .int .i64 x.at_] 64))
  have hXB : Below (W.setCell ⟨b, q, none⟩ (.bool true)).heap.size (W.setCell ⟨b, q, none⟩ (.bool true)) X := by rw [← hX]; exact below_al (Below.refl _ _) _
  rw [hX] at hX1
  obtain ⟨x0, x1, x2, x3, x4⟩ := cells5 hx0
  clear qs qsf q0 q3 q4 q5 q6 q7 qf7 m0 m1 g0 g1 g2 g3 g4 k0 k1 k2 k3 k4 s0 sf c0 c3 c4 c5 c6 c7 f7 hnb
  obtain ⟨qs, qsf, q0, q3, q4, q5, q6, q7, qf7, m0, m1⟩ := hX1.cells hi hjM HQE.out
  have hKX := HS.out.2.1.trans (Kp.of_below hXB)
  have hBX := HS.out.1.trans (hXB.mono (by rw [hsz]; omega))
  have hFX := HFT.out.kp (Kp.of_below hXB)
  rw [hX]
  have hin2 := HIN.out.move (w' := X) (ok' := fun k => k < b) (fun k hk hlt => ⟨hXB.block k hlt, hk⟩)
  have HSZ : Hid (b ≤ X.heap.size) := Lib.hid (by omega)
  have HX := Lib.hid (And.intro hX1 (And.intro hin2 (And.intro hKX (And.intro hBX hFX))))
  clear hX hX1 hin2 hKX hBX hFX hXB
  refine wp_region_scr (fun W' => Below X.heap.size X W') [(true, 0, 145), (true, 1, 146), (true, 2, 147), (true, 3, 148), (true, 4, 149), (true, 6, 151), (true, 7, 152), (false, 5, 150), (true, 8, 153), (true, 9, 154)] (by kernel_rfl) (by kernel_rfl) (fun _ _ _ _ _ h => h) rfl (by kernel_rfl) ?_
  have HV := Lib.hid (show Below X.heap.size X X.drew from (Below.refl _ _).drew)
  refine Scr.take (v := .pointer (some ⟨b + 1, 0, none⟩)) rfl rfl (yw_pure (by rfl) (fun _ => by go_simp)) HV.out ?_
  simp only [Act.put, List.setIfInBounds_toArray, List.set_cons_zero, List.set_cons_succ]
  refine Scr.take (v := .pointer (some ⟨b + 1, 0, none⟩)) rfl rfl (yw_pure (by rfl) (fun _ => by go_simp)) HV.out ?_
  simp only [Act.put, List.setIfInBounds_toArray, List.set_cons_zero, List.set_cons_succ]
  refine Scr.take (v := .pointer (some ⟨b + 1, 3, none⟩)) rfl rfl (yw_pure (by rfl) (fun _ => by go_simp)) HV.out ?_
  simp only [Act.put, List.setIfInBounds_toArray, List.set_cons_zero, List.set_cons_succ]
  refine Scr.take (v := .pointer (some ⟨ib, 0, none⟩)) rfl rfl (yw_cell 50 _ rfl ⟨b + 1, 3, none⟩ (.pointer (some ⟨ib, 0, none⟩)) rfl (by rfl) _ Tryd.underlying50 rfl (fun W hS => (World.cell?_of_block (hS.block _ m1)).trans q3)) HV.out ?_
  simp only [Act.put, List.setIfInBounds_toArray, List.set_cons_zero, List.set_cons_succ]
  refine Scr.take (v := .int .i64 j) rfl rfl (yw_pure (by rfl) (fun _ => by go_simp)) HV.out ?_
  simp only [Act.put, List.setIfInBounds_toArray, List.set_cons_zero, List.set_cons_succ]
  refine Scr.take (v := .pointer (some ⟨W.heap.size, 4, none⟩)) rfl rfl (yw_pure (by rfl) (fun _ => by go_simp)) HV.out ?_
  simp only [Act.put, List.setIfInBounds_toArray, List.set_cons_zero, List.set_cons_succ]
  refine Scr.take (v := .int .i64 x.at_) rfl rfl (yw_cell 62 _ rfl ⟨W.heap.size, 4, none⟩ (.int .i64 x.at_) rfl (by rfl) _ Tryd.underlying62 rfl (fun W hS => (World.cell?_of_block (hS.block _ hxS)).trans x4)) HV.out ?_
  simp only [Act.put, List.setIfInBounds_toArray, List.set_cons_zero, List.set_cons_succ]
  refine Scr.run rfl (by rfl) (fun K hK => ?_)
  go_simp
  refine (at01_any (fun k => k < b) X.drew ib cs (HX.out.2.1.move (fun k hk _ => ⟨rfl, hk⟩)) j (by omega)).mono ?_
  rintro e w3 ⟨rfl, rfl⟩
  dsimp only
  refine hK _ _ HV.out ?_
  clear hK K
  have hhb : (bits .and .i64 (docAt cs (j : Int)) x.at_ != 0) = false := HH.out
  refine Scr.take (v := .int .i64 (bits .and .i64 (docAt cs (j : Int)) x.at_)) rfl rfl (yw_pure (by rfl) (fun _ => by go_simp)) HV.out ?_
  simp only [Act.put, List.setIfInBounds_toArray, List.set_cons_zero, List.set_cons_succ]
  refine Scr.take (v := .bool false) rfl rfl (yw_pure (by rfl) (fun _ => by go_simp)) HV.out ?_
  simp only [Act.put, List.setIfInBounds_toArray, List.set_cons_zero, List.set_cons_succ]
  clear hhb
  simp only [Scr]
  obtain ⟨Y, hY⟩ : ∃ Y, X.drew = Y := ⟨_, rfl⟩
  rw [hY] at HV ⊢
  clear hY
  have h4 := HX.out.1.below HV.out
  have y1 := (World.cell?_of_block (HV.out.block _ hxS)).trans x1
  have ny : W.heap.size < Y.heap.size := Nat.lt_of_lt_of_le hxS HV.out.size
  clear qs qsf q0 q3 q4 q5 q6 q7 qf7 m0 m1 x0 x1 x2 x3 x4
  obtain ⟨qs, qsf, q0, q3, q4, q5, q6, q7, qf7, m0, m1⟩ := h4.cells hi hjM HQE.out
  have hfY := HX.out.2.2.2.2.kp (Kp.of_below HV.out)
  have hkY := HX.out.2.2.1.trans (Kp.of_below HV.out)
  have hbY := HX.out.2.2.2.1.trans (HV.out.mono (by have := HX.out.2.2.2.1.size; have := HSZ.out; omega))
  have H4 := Lib.hid (And.intro h4 (And.intro hfY (And.intro hkY hbY)))
  clear h4 hfY hkY hbY
  have HP : Hid ((markW ((i : Int), (j : Int)) S) = SR) := Lib.hid (by rw [← HSR.out, if_neg (fun h9 => by rw [HH.out] at h9; cases h9)])
  go_wp2_with fail
  go_end0
  exact ⟨rfl, ⟨_, by rw [← HP.out]; exact H4.out.1⟩, H4.out.2.2.1⟩
end Go.Proofs.YthclpabmbhpohaaDoor
namespace Go.Proofs.YthclpabmbhpohaaDoor
open Go.RowKit
set_option linter.unusedVariables false
set_option maxRecDepth 100000 in
set_option maxHeartbeats 4000000 in
theorem tw_match_n (p : Pg) (b L : Nat) (u0 u1 u2 : Value) (ib : Nat) (cs : List Int) (to : Int) (lg : Bool) (w0 : World) (C : CtxT p b L u0 u1 u2 ib cs w0) (n : Nat) (hto : to ≤ cs.length)
    (i j : Nat) (c : List Int) (fv : Value) (S : Wk (Int × Int)) (bv : Value) (W : World) (hi : i < p.ins.length) (hj : (j : Int) ≤ to) (h : TwAt W b p.ins.length (cs.length + 1) L u0 u1 u2 ib to lg bv S) (hf : FitT W b fv c) (hcl : (c.length : Int) = p.caps) (hB : Below b w0 W) (hlt : left (allP p (cs.length + 1)) S < n + 1) (hns : S.seen ((i : Int), (j : Int)) = false) (hbn : S.best = none) (ho : (p.get i).op = 1) :
    Calls Tryd.prog 43 #[.pointer (some ⟨b + 1, 0, none⟩), .int .i64 i, .int .i64 j, fv] W (TwPost b p.ins.length (cs.length + 1) L u0 u1 u2 ib to lg (come (grP p (codeAt cs) (docAt cs) to lg) (n + 1) ((i : Int), (j : Int)) c S) W) := by
  have hck := check_ok C.chk
  have hN : p.ins.length ≤ 10000 := hck.2.1
  have hcsl : cs.length ≤ 1000000 := by obtain ⟨_, _, _, _, h9, _⟩ := C.inp; exact h9
  obtain ⟨Z, hZ⟩ : ∃ Z, j * p.ins.length = Z := ⟨_, rfl⟩
  obtain ⟨q, hq⟩ : ∃ q, Z + i = q := ⟨_, rfl⟩
  have hZb : Z ≤ 1000001 * 10000 := by rw [← hZ]; exact Nat.mul_le_mul (by omega) hN
  have hw1 : IntKind.i64.wrap ((j : Int) * (p.ins.length : Int)) = (Z : Int) := by rw [show (j : Int) * (p.ins.length : Int) = (Z : Int) by rw [← hZ]; simp]; exact IntWalk.i64_in _ (by omega)
  have hw2 : IntKind.i64.wrap ((Z : Int) + (i : Int)) = (q : Int) := by rw [show (Z : Int) + (i : Int) = (q : Int) by omega]; exact IntWalk.i64_in _ (by omega)
  obtain ⟨F, cf, rfl, hf1, hf2, hf3⟩ := hf
  obtain ⟨ad, ci, B3, d3, hps, hc1, hcm, hd3, hd3m, hadb, hins⟩ := ins_at C.pg C.size i hi
  simp only [List.cons.injEq, and_true] at hps
  obtain ⟨rfl, rfl, rfl⟩ := hps
  have hjM : j < cs.length + 1 := by omega
  have hqe : j * p.ins.length + i = q := by omega
  have hqL : q < L := by rw [C.len, ← hqe]; exact place_lt hi hjM
  have dj : decide (to < (j : Int)) = false := decide_eq_false (by omega)
  obtain ⟨s0, sf, c0, c3, c4, c5, c6, c7, f7, n0, n1⟩ := h.cells hi hjM hqe
  obtain rfl : bv = .slice none 0 0 := by have h9 := h.best; rw [hbn] at h9; exact h9
  have hh0 : halts (grP p (codeAt cs) (docAt cs) to lg) S = false := by unfold halts; rw [hbn]; rfl
  obtain ⟨SR, hSR⟩ : ∃ SR, come (grP p (codeAt cs) (docAt cs) to lg) (n + 1) ((i : Int), (j : Int)) c S = SR := ⟨_, rfl⟩
  rw [hSR]
  rw [come_mat hh0 hns ho] at hSR
  rw [hns] at s0
  have h1 := h.mark (S := S) hi hjM
  rw [hqe] at h1
  have hK1 := (Kp.refl b W).set0 q (.bool true)
  have hB1 := hB.trans (hK1.below (by have := hB.size; have := C.size; omega))
  obtain ⟨hset, g0, g1, g2, g3, g4⟩ := hins _ hB1
  obtain ⟨_, k0, k1, k2, k3, k4⟩ := hins _ hB
  have hnb : ((ad.add (i * 5)).block = b) = False := by rw [add_block]; simp; omega
  have hge := get_eq p i hi
  have hgd := check_good C.chk (⟨by omega, by omega⟩ : Pc p i)
  obtain ⟨qs, qsf, q0, q3, q4, q5, q6, q7, qf7, m0, m1⟩ := h1.cells hi hjM hqe
  have hinp := C.inp.move (w' := W.setCell ⟨b, q, none⟩ (.bool true)) (ok' := fun k => k < b) (fun k hk hlt => ⟨hB1.block k hk, hk⟩)
  have hfit1 : FitT (W.setCell ⟨b, q, none⟩ (.bool true)) b (.slice F c.length cf) c := FitT.kp ⟨F, cf, rfl, hf1, hf2, hf3⟩ hK1
  have hcap : p.caps ≤ 4002 ∧ 2 ≤ p.caps := ⟨hck.2.2.2.2.1, hck.2.2.2.1⟩
  have hl1 : left (allP p (cs.length + 1)) (markW ((i : Int), (j : Int)) S) < n := by have h9 := left_mark hns (allP p (cs.length + 1)) (allP_iff.2 ⟨⟨by omega, by omega⟩, by omega, by omega⟩); omega
  have HS := Lib.hid (And.intro hB1 (And.intro hK1 (And.intro hset (And.intro hl1 C.chk))))
  have H1 := Lib.hid h1
  have HFT := Lib.hid hfit1
  have HIN := Lib.hid hinp
  have HQE := Lib.hid hqe
  have hbe : bestOf (grP p (codeAt cs) (docAt cs) to lg) ((i : Int), (j : Int)) c S.best = some (c.set 1 (j : Int)) := by rw [hbn]; rfl
  rw [hbe] at hSR
  clear hbe
  obtain ⟨F0, rfl⟩ : ∃ F0, F = some F0 := by
    obtain ⟨a9, e9, _⟩ := ints_at hf3 0 (by omega)
    exact ⟨a9, e9⟩
  clear h h1 hK1 hB1 hset hinp hfit1 hB hlt hns hck hl1 hins hqe hZ hq hh0 hbn
  try rw [hge] at ho
  try rw [hge] at hgd
  try rw [hge] at hh
  try dsimp only at hSR
  try rw [hge] at hSR
  have HSR := Lib.hid hSR
  clear hSR hge C hf3
  generalize p.ins[i] = x at *
  have o1 : (x.op == 1) = true := by rw [ho]; rfl
  have o2 : (x.op == 2) = false := by rw [ho]; rfl
  have o3 : (x.op == 3) = false := by rw [ho]; rfl
  have o4 : (x.op == 4) = false := by rw [ho]; rfl
  have o5 : (x.op == 5) = false := by rw [ho]; rfl
  have HO := Lib.hid (And.intro ho hgd)
  clear ho hgd
  have heqn := fun (W : World) (a : Option Addr) (n c : Nat) => Lib.run_eql_slice_nil (P := Tryd.prog) W 35 3 a n c 0 0 Tryd.underlying35
  have HAR : Hid (∀ X', Below (W.setCell ⟨b, q, none⟩ (.bool true)).heap.size (W.setCell ⟨b, q, none⟩ (.bool true)) X' → Arr (fun k => k ≠ b ∧ k ≠ b + 1) X' 1 (IntC .i64) (some F0) c) := Lib.hid (fun X' hX => by
    obtain ⟨A9, c9, e9, _, _, h9⟩ := HFT.out.kp (Kp.of_below hX)
    cases e9; exact h9)
  have hlen : 2 ≤ c.length ∧ c.length ≤ 1000000 := by omega
  have HLN := Lib.hid hlen
  clear hlen
  go_enter Tryd.func43, Tryd.ntmps43
  go_wp2_with (at_builtin; refine wpList_copyI rfl _ _ rfl _ rfl (fun k => k ≠ b ∧ k ≠ b + 1) F0 c cf rfl (HAR.out _ (below_al (below_al (Below.refl _ _) _) _)) (by have := HLN.out; omega) HLN.out.2 ?_)
  intro g cg w2 hown hb2
  have hsz2 : (((W.setCell ⟨b, q, none⟩ (.bool true)).alloc (.cells #[.int .i64 x.op, .int .i64 x.out, .int .i64 x.arg, .slice B3 x.set.length d3, .int .i64 x.at_] 64)).alloc (.cells #[] 3)).heap.size = W.heap.size + 1 + 1 := by simp [World.setCell]
  rw [← hsz2] at hb2
  have h2 := (H1.out.below (below_al (below_al (Below.refl _ _) (.cells #[.int .i64 x.op, .int .i64 x.out, .int .i64 x.arg, .slice B3 x.set.length d3, .int .i64 x.at_] 64)) (.cells #[] 3))).below hb2
  have hgn : W.heap.size + 1 + 1 ≤ g := (hown.lt g rfl).1
  have hKY := ((HS.out.2.1.alloc (.cells #[.int .i64 x.op, .int .i64 x.out, .int .i64 x.arg, .slice B3 x.set.length d3, .int .i64 x.at_] 64)).alloc (.cells #[] 3)).trans (Kp.of_below hb2)
  obtain ⟨cs2, hk2⟩ := own_blk hown rfl
  have hcl0 : ∃ u, w2.cell? ⟨g, 1, none⟩ = some u := by
    obtain ⟨ad9, e9, hc9⟩ := ints_at (ownI64_arr0 hown) 1 (by have := HLN.out; omega)
    cases e9
    exact ⟨_, by rw [Addr.add_mid, Nat.zero_add] at hc9; exact hc9⟩
  obtain ⟨u9, hcell1⟩ := hcl0
  clear heqn qs qsf q0 q3 q4 q5 q6 q7 qf7 m0 m1 g0 g1 g2 g3 g4 k0 k1 k2 k3 k4 s0 sf c0 c3 c4 c5 c6 c7 f7 hnb
  obtain ⟨qs, qsf, q0, q3, q4, q5, q6, q7, qf7, m0, m1⟩ := h2.cells hi hjM HQE.out
  have hgf : w2.frozen? ⟨g, 1, none⟩ = false := frozenOf hk2 1
  have hng := heap_lt hk2
  have hGg : (g = b + 1) = False := by simp; omega
  have hGg2 : (b + 1 = g) = False := by simp; omega
  have H2 := Lib.hid (And.intro h2 (And.intro hKY (And.intro hown hk2)))
  clear h2 hKY hown hk2 hb2
  go_wp2_with fail
  go_end0
  obtain ⟨h2, hKY, hown, hk2⟩ := H2.out
  have hKZ := (hKY.set1 7 (.slice (some ⟨g, 0, none⟩) c.length cg)).setNew (g := g) (by omega) 1 (.int .i64 j)
  obtain ⟨h2a, ⟨cs3, h2b, h2c⟩, _⟩ := h2
  refine ⟨rfl, ⟨.slice (some ⟨g, 0, none⟩) c.length cg, ?_⟩, hKZ⟩
  rw [← HSR.out]
  refine ⟨?_, ⟨cs3, ?_, h2c⟩, FitT.own (owns_put (owns_grown0 hown (grown_set0 w2 (b + 1) 7 _) (by simp; omega)) 1 j) (by simp; omega), by rw [List.length_set]; exact HLN.out.1⟩
  · refine (set_ne0 _ _ (by show b + 1 ≠ g; omega)).trans ?_
    rw [heap_set0 h2a 7]; simp
  · exact (set_ne0 _ _ (by show b ≠ g; omega)).trans ((set_ne0 _ _ (by show b ≠ b + 1; omega)).trans h2b)
set_option maxRecDepth 100000 in
set_option maxHeartbeats 4000000 in
theorem tw_matchyes_s (p : Pg) (b L : Nat) (u0 u1 u2 : Value) (ib : Nat) (cs : List Int) (to : Int) (w0 : World) (C : CtxT p b L u0 u1 u2 ib cs w0) (n : Nat) (hto : to ≤ cs.length)
    (i j : Nat) (c : List Int) (fv : Value) (S : Wk (Int × Int)) (bv : Value) (W : World) (hi : i < p.ins.length) (hj : (j : Int) ≤ to) (h : TwAt W b p.ins.length (cs.length + 1) L u0 u1 u2 ib to true bv S) (hf : FitT W b fv c) (hcl : (c.length : Int) = p.caps) (hB : Below b w0 W) (hlt : left (allP p (cs.length + 1)) S < n + 1) (hns : S.seen ((i : Int), (j : Int)) = false) (l0 : List Int) (hbs : S.best = some l0) (ho : (p.get i).op = 1) (hlb : (l0.getD 1 0) < (j : Int)) :
    Calls Tryd.prog 43 #[.pointer (some ⟨b + 1, 0, none⟩), .int .i64 i, .int .i64 j, fv] W (TwPost b p.ins.length (cs.length + 1) L u0 u1 u2 ib to true (come (grP p (codeAt cs) (docAt cs) to true) (n + 1) ((i : Int), (j : Int)) c S) W) := by
  have hck := check_ok C.chk
  have hN : p.ins.length ≤ 10000 := hck.2.1
  have hcsl : cs.length ≤ 1000000 := by obtain ⟨_, _, _, _, h9, _⟩ := C.inp; exact h9
  obtain ⟨Z, hZ⟩ : ∃ Z, j * p.ins.length = Z := ⟨_, rfl⟩
  obtain ⟨q, hq⟩ : ∃ q, Z + i = q := ⟨_, rfl⟩
  have hZb : Z ≤ 1000001 * 10000 := by rw [← hZ]; exact Nat.mul_le_mul (by omega) hN
  have hw1 : IntKind.i64.wrap ((j : Int) * (p.ins.length : Int)) = (Z : Int) := by rw [show (j : Int) * (p.ins.length : Int) = (Z : Int) by rw [← hZ]; simp]; exact IntWalk.i64_in _ (by omega)
  have hw2 : IntKind.i64.wrap ((Z : Int) + (i : Int)) = (q : Int) := by rw [show (Z : Int) + (i : Int) = (q : Int) by omega]; exact IntWalk.i64_in _ (by omega)
  obtain ⟨F, cf, rfl, hf1, hf2, hf3⟩ := hf
  obtain ⟨ad, ci, B3, d3, hps, hc1, hcm, hd3, hd3m, hadb, hins⟩ := ins_at C.pg C.size i hi
  simp only [List.cons.injEq, and_true] at hps
  obtain ⟨rfl, rfl, rfl⟩ := hps
  have hjM : j < cs.length + 1 := by omega
  have hqe : j * p.ins.length + i = q := by omega
  have hqL : q < L := by rw [C.len, ← hqe]; exact place_lt hi hjM
  have dj : decide (to < (j : Int)) = false := decide_eq_false (by omega)
  obtain ⟨s0, sf, c0, c3, c4, c5, c6, c7, f7, n0, n1⟩ := h.cells hi hjM hqe
  obtain ⟨Ab, cb, rfl, hb1, hb2, hb3, hb4⟩ : ∃ Ab cb, bv = .slice (some Ab) l0.length cb ∧ l0.length ≤ cb ∧ cb ≤ maxLen ∧ Arr (fun k => k ≠ b ∧ k ≠ b + 1) W 1 (IntC .i64) (some Ab) l0 ∧ 2 ≤ l0.length := by
    have h9 := h.best
    rw [hbs] at h9
    obtain ⟨⟨A, c9, k1, k2, k3, k4⟩, k5⟩ := h9
    obtain ⟨A2, rfl, _⟩ := ints_at k4 0 (by omega)
    exact ⟨A2, c9, k1, k2, k3, k4, k5⟩
  have hh0 : halts (grP p (codeAt cs) (docAt cs) to true) S = false := by unfold halts; rw [show (grP p (codeAt cs) (docAt cs) to true).longest = true from rfl]; simp
  obtain ⟨SR, hSR⟩ : ∃ SR, come (grP p (codeAt cs) (docAt cs) to true) (n + 1) ((i : Int), (j : Int)) c S = SR := ⟨_, rfl⟩
  rw [hSR]
  rw [come_mat hh0 hns ho] at hSR
  rw [hns] at s0
  have h1 := h.mark (S := S) hi hjM
  rw [hqe] at h1
  have hK1 := (Kp.refl b W).set0 q (.bool true)
  have hB1 := hB.trans (hK1.below (by have := hB.size; have := C.size; omega))
  obtain ⟨hset, g0, g1, g2, g3, g4⟩ := hins _ hB1
  obtain ⟨_, k0, k1, k2, k3, k4⟩ := hins _ hB
  have hnb : ((ad.add (i * 5)).block = b) = False := by rw [add_block]; simp; omega
  have hge := get_eq p i hi
  have hgd := check_good C.chk (⟨by omega, by omega⟩ : Pc p i)
  obtain ⟨qs, qsf, q0, q3, q4, q5, q6, q7, qf7, m0, m1⟩ := h1.cells hi hjM hqe
  have hinp := C.inp.move (w' := W.setCell ⟨b, q, none⟩ (.bool true)) (ok' := fun k => k < b) (fun k hk hlt => ⟨hB1.block k hk, hk⟩)
  have hfit1 : FitT (W.setCell ⟨b, q, none⟩ (.bool true)) b (.slice F c.length cf) c := FitT.kp ⟨F, cf, rfl, hf1, hf2, hf3⟩ hK1
  have hcap : p.caps ≤ 4002 ∧ 2 ≤ p.caps := ⟨hck.2.2.2.2.1, hck.2.2.2.1⟩
  have hl1 : left (allP p (cs.length + 1)) (markW ((i : Int), (j : Int)) S) < n := by have h9 := left_mark hns (allP p (cs.length + 1)) (allP_iff.2 ⟨⟨by omega, by omega⟩, by omega, by omega⟩); omega
  have HS := Lib.hid (And.intro hB1 (And.intro hK1 (And.intro hset (And.intro hl1 C.chk))))
  have H1 := Lib.hid h1
  have HFT := Lib.hid hfit1
  have HIN := Lib.hid hinp
  have HQE := Lib.hid hqe
  obtain ⟨z, hz⟩ : ∃ z, l0.getD 1 0 = z := ⟨_, rfl⟩
  rw [hz] at hlb
  have hgA : W.cell? ⟨Ab.block, Ab.off + 1, none⟩ = some (.int .i64 z) := by
    obtain ⟨A7, e7, h7⟩ := ints_at hb3 1 (by omega)
    cases e7
    have e8 : (Ab.add 1 : Addr) = ⟨Ab.block, Ab.off + 1, none⟩ := by simp [Addr.add]
    rw [e8] at h7
    rw [h7, ← hz]
    simp [List.getD, List.getElem?_eq_getElem (show 1 < l0.length by omega)]
  have hgB : Ab.block < W.heap.size := World.block_lt_of_cell? _ ⟨Ab.block, Ab.off + 1, none⟩ hgA
  have hgC : (Ab.block = b) = False := by
    obtain ⟨a9, _, e9, h9, _⟩ := hb3 0 _ (List.getElem?_eq_getElem (by omega))
    cases e9
    simpa using h9.1
  have hgD : (W.setCell ⟨b, q, none⟩ (.bool true)).cell? ⟨Ab.block, Ab.off + 1, none⟩ = some (.int .i64 z) := by rw [← hgA]; exact World.cell?_of_block (set_ne0 W _ (by simpa using hgC))
  have dz : decide (z < (j : Int)) = true := decide_eq_true hlb
  have hbe : bestOf (grP p (codeAt cs) (docAt cs) to true) ((i : Int), (j : Int)) c S.best = some (c.set 1 (j : Int)) := by
    rw [hbs]
    show (if l0.getD 1 0 < (j : Int) then some (c.set 1 (j : Int)) else some l0) = _
    rw [hz, if_pos hlb]
  rw [hbe] at hSR
  clear hbe
  clear hlb hz
  obtain ⟨F0, rfl⟩ : ∃ F0, F = some F0 := by
    obtain ⟨a9, e9, _⟩ := ints_at hf3 0 (by omega)
    exact ⟨a9, e9⟩
  clear h h1 hK1 hB1 hset hinp hfit1 hB hlt hns hck hl1 hins hqe hZ hq hh0 hbs
  try rw [hge] at ho
  try rw [hge] at hgd
  try rw [hge] at hh
  try dsimp only at hSR
  try rw [hge] at hSR
  have HSR := Lib.hid hSR
  clear hSR hge C hf3
  generalize p.ins[i] = x at *
  have o1 : (x.op == 1) = true := by rw [ho]; rfl
  have o2 : (x.op == 2) = false := by rw [ho]; rfl
  have o3 : (x.op == 3) = false := by rw [ho]; rfl
  have o4 : (x.op == 4) = false := by rw [ho]; rfl
  have o5 : (x.op == 5) = false := by rw [ho]; rfl
  have HO := Lib.hid (And.intro ho hgd)
  clear ho hgd
  clear hb3
  have heqn := fun (W : World) (a : Option Addr) (n c : Nat) => Lib.run_eql_slice_nil (P := Tryd.prog) W 35 3 a n c 0 0 Tryd.underlying35
  have HAR : Hid (∀ X', Below (W.setCell ⟨b, q, none⟩ (.bool true)).heap.size (W.setCell ⟨b, q, none⟩ (.bool true)) X' → Arr (fun k => k ≠ b ∧ k ≠ b + 1) X' 1 (IntC .i64) (some F0) c) := Lib.hid (fun X' hX => by
    obtain ⟨A9, c9, e9, _, _, h9⟩ := HFT.out.kp (Kp.of_below hX)
    cases e9; exact h9)
  have hlen : 2 ≤ c.length ∧ c.length ≤ 1000000 := by omega
  have HLN := Lib.hid hlen
  clear hlen
  go_enter Tryd.func43, Tryd.ntmps43
  go_wp2_with (at_builtin; refine wpList_copyI rfl _ _ rfl _ rfl (fun k => k ≠ b ∧ k ≠ b + 1) F0 c cf rfl (HAR.out _ (below_al (below_al (Below.refl _ _) _) _)) (by have := HLN.out; omega) HLN.out.2 ?_)
  intro g cg w2 hown hb2
  have hsz2 : (((W.setCell ⟨b, q, none⟩ (.bool true)).alloc (.cells #[.int .i64 x.op, .int .i64 x.out, .int .i64 x.arg, .slice B3 x.set.length d3, .int .i64 x.at_] 64)).alloc (.cells #[] 3)).heap.size = W.heap.size + 1 + 1 := by simp [World.setCell]
  rw [← hsz2] at hb2
  have h2 := (H1.out.below (below_al (below_al (Below.refl _ _) (.cells #[.int .i64 x.op, .int .i64 x.out, .int .i64 x.arg, .slice B3 x.set.length d3, .int .i64 x.at_] 64)) (.cells #[] 3))).below hb2
  have hgn : W.heap.size + 1 + 1 ≤ g := (hown.lt g rfl).1
  have hKY := ((HS.out.2.1.alloc (.cells #[.int .i64 x.op, .int .i64 x.out, .int .i64 x.arg, .slice B3 x.set.length d3, .int .i64 x.at_] 64)).alloc (.cells #[] 3)).trans (Kp.of_below hb2)
  obtain ⟨cs2, hk2⟩ := own_blk hown rfl
  have hcl0 : ∃ u, w2.cell? ⟨g, 1, none⟩ = some u := by
    obtain ⟨ad9, e9, hc9⟩ := ints_at (ownI64_arr0 hown) 1 (by have := HLN.out; omega)
    cases e9
    exact ⟨_, by rw [Addr.add_mid, Nat.zero_add] at hc9; exact hc9⟩
  obtain ⟨u9, hcell1⟩ := hcl0
  clear heqn qs qsf q0 q3 q4 q5 q6 q7 qf7 m0 m1 g0 g1 g2 g3 g4 k0 k1 k2 k3 k4 s0 sf c0 c3 c4 c5 c6 c7 f7 hnb hgA hgB hgC hgD dz
  obtain ⟨qs, qsf, q0, q3, q4, q5, q6, q7, qf7, m0, m1⟩ := h2.cells hi hjM HQE.out
  have hgf : w2.frozen? ⟨g, 1, none⟩ = false := frozenOf hk2 1
  have hng := heap_lt hk2
  have hGg : (g = b + 1) = False := by simp; omega
  have hGg2 : (b + 1 = g) = False := by simp; omega
  have H2 := Lib.hid (And.intro h2 (And.intro hKY (And.intro hown hk2)))
  clear h2 hKY hown hk2 hb2
  go_wp2_with fail
  go_end0
  obtain ⟨h2, hKY, hown, hk2⟩ := H2.out
  have hKZ := (hKY.set1 7 (.slice (some ⟨g, 0, none⟩) c.length cg)).setNew (g := g) (by omega) 1 (.int .i64 j)
  obtain ⟨h2a, ⟨cs3, h2b, h2c⟩, _⟩ := h2
  refine ⟨rfl, ⟨.slice (some ⟨g, 0, none⟩) c.length cg, ?_⟩, hKZ⟩
  rw [← HSR.out]
  refine ⟨?_, ⟨cs3, ?_, h2c⟩, FitT.own (owns_put (owns_grown0 hown (grown_set0 w2 (b + 1) 7 _) (by simp; omega)) 1 j) (by simp; omega), by rw [List.length_set]; exact HLN.out.1⟩
  · refine (set_ne0 _ _ (by show b + 1 ≠ g; omega)).trans ?_
    rw [heap_set0 h2a 7]; simp
  · exact (set_ne0 _ _ (by show b ≠ g; omega)).trans ((set_ne0 _ _ (by show b ≠ b + 1; omega)).trans h2b)
set_option maxRecDepth 100000 in
set_option maxHeartbeats 4000000 in
theorem tw_matchno_s (p : Pg) (b L : Nat) (u0 u1 u2 : Value) (ib : Nat) (cs : List Int) (to : Int) (w0 : World) (C : CtxT p b L u0 u1 u2 ib cs w0) (n : Nat) (hto : to ≤ cs.length)
    (i j : Nat) (c : List Int) (fv : Value) (S : Wk (Int × Int)) (bv : Value) (W : World) (hi : i < p.ins.length) (hj : (j : Int) ≤ to) (h : TwAt W b p.ins.length (cs.length + 1) L u0 u1 u2 ib to true bv S) (hf : FitT W b fv c) (hcl : (c.length : Int) = p.caps) (hB : Below b w0 W) (hlt : left (allP p (cs.length + 1)) S < n + 1) (hns : S.seen ((i : Int), (j : Int)) = false) (l0 : List Int) (hbs : S.best = some l0) (ho : (p.get i).op = 1) (hlb : ¬ (l0.getD 1 0) < (j : Int)) :
    Calls Tryd.prog 43 #[.pointer (some ⟨b + 1, 0, none⟩), .int .i64 i, .int .i64 j, fv] W (TwPost b p.ins.length (cs.length + 1) L u0 u1 u2 ib to true (come (grP p (codeAt cs) (docAt cs) to true) (n + 1) ((i : Int), (j : Int)) c S) W) := by
  have hck := check_ok C.chk
  have hN : p.ins.length ≤ 10000 := hck.2.1
  have hcsl : cs.length ≤ 1000000 := by obtain ⟨_, _, _, _, h9, _⟩ := C.inp; exact h9
  obtain ⟨Z, hZ⟩ : ∃ Z, j * p.ins.length = Z := ⟨_, rfl⟩
  obtain ⟨q, hq⟩ : ∃ q, Z + i = q := ⟨_, rfl⟩
  have hZb : Z ≤ 1000001 * 10000 := by rw [← hZ]; exact Nat.mul_le_mul (by omega) hN
  have hw1 : IntKind.i64.wrap ((j : Int) * (p.ins.length : Int)) = (Z : Int) := by rw [show (j : Int) * (p.ins.length : Int) = (Z : Int) by rw [← hZ]; simp]; exact IntWalk.i64_in _ (by omega)
  have hw2 : IntKind.i64.wrap ((Z : Int) + (i : Int)) = (q : Int) := by rw [show (Z : Int) + (i : Int) = (q : Int) by omega]; exact IntWalk.i64_in _ (by omega)
  obtain ⟨F, cf, rfl, hf1, hf2, hf3⟩ := hf
  obtain ⟨ad, ci, B3, d3, hps, hc1, hcm, hd3, hd3m, hadb, hins⟩ := ins_at C.pg C.size i hi
  simp only [List.cons.injEq, and_true] at hps
  obtain ⟨rfl, rfl, rfl⟩ := hps
  have hjM : j < cs.length + 1 := by omega
  have hqe : j * p.ins.length + i = q := by omega
  have hqL : q < L := by rw [C.len, ← hqe]; exact place_lt hi hjM
  have dj : decide (to < (j : Int)) = false := decide_eq_false (by omega)
  obtain ⟨s0, sf, c0, c3, c4, c5, c6, c7, f7, n0, n1⟩ := h.cells hi hjM hqe
  obtain ⟨Ab, cb, rfl, hb1, hb2, hb3, hb4⟩ : ∃ Ab cb, bv = .slice (some Ab) l0.length cb ∧ l0.length ≤ cb ∧ cb ≤ maxLen ∧ Arr (fun k => k ≠ b ∧ k ≠ b + 1) W 1 (IntC .i64) (some Ab) l0 ∧ 2 ≤ l0.length := by
    have h9 := h.best
    rw [hbs] at h9
    obtain ⟨⟨A, c9, k1, k2, k3, k4⟩, k5⟩ := h9
    obtain ⟨A2, rfl, _⟩ := ints_at k4 0 (by omega)
    exact ⟨A2, c9, k1, k2, k3, k4, k5⟩
  have hh0 : halts (grP p (codeAt cs) (docAt cs) to true) S = false := by unfold halts; rw [show (grP p (codeAt cs) (docAt cs) to true).longest = true from rfl]; simp
  obtain ⟨SR, hSR⟩ : ∃ SR, come (grP p (codeAt cs) (docAt cs) to true) (n + 1) ((i : Int), (j : Int)) c S = SR := ⟨_, rfl⟩
  rw [hSR]
  rw [come_mat hh0 hns ho] at hSR
  rw [hns] at s0
  have h1 := h.mark (S := S) hi hjM
  rw [hqe] at h1
  have hK1 := (Kp.refl b W).set0 q (.bool true)
  have hB1 := hB.trans (hK1.below (by have := hB.size; have := C.size; omega))
  obtain ⟨hset, g0, g1, g2, g3, g4⟩ := hins _ hB1
  obtain ⟨_, k0, k1, k2, k3, k4⟩ := hins _ hB
  have hnb : ((ad.add (i * 5)).block = b) = False := by rw [add_block]; simp; omega
  have hge := get_eq p i hi
  have hgd := check_good C.chk (⟨by omega, by omega⟩ : Pc p i)
  obtain ⟨qs, qsf, q0, q3, q4, q5, q6, q7, qf7, m0, m1⟩ := h1.cells hi hjM hqe
  have hinp := C.inp.move (w' := W.setCell ⟨b, q, none⟩ (.bool true)) (ok' := fun k => k < b) (fun k hk hlt => ⟨hB1.block k hk, hk⟩)
  have hfit1 : FitT (W.setCell ⟨b, q, none⟩ (.bool true)) b (.slice F c.length cf) c := FitT.kp ⟨F, cf, rfl, hf1, hf2, hf3⟩ hK1
  have hcap : p.caps ≤ 4002 ∧ 2 ≤ p.caps := ⟨hck.2.2.2.2.1, hck.2.2.2.1⟩
  have hl1 : left (allP p (cs.length + 1)) (markW ((i : Int), (j : Int)) S) < n := by have h9 := left_mark hns (allP p (cs.length + 1)) (allP_iff.2 ⟨⟨by omega, by omega⟩, by omega, by omega⟩); omega
  have HS := Lib.hid (And.intro hB1 (And.intro hK1 (And.intro hset (And.intro hl1 C.chk))))
  have H1 := Lib.hid h1
  have HFT := Lib.hid hfit1
  have HIN := Lib.hid hinp
  have HQE := Lib.hid hqe
  obtain ⟨z, hz⟩ : ∃ z, l0.getD 1 0 = z := ⟨_, rfl⟩
  rw [hz] at hlb
  have hgA : W.cell? ⟨Ab.block, Ab.off + 1, none⟩ = some (.int .i64 z) := by
    obtain ⟨A7, e7, h7⟩ := ints_at hb3 1 (by omega)
    cases e7
    have e8 : (Ab.add 1 : Addr) = ⟨Ab.block, Ab.off + 1, none⟩ := by simp [Addr.add]
    rw [e8] at h7
    rw [h7, ← hz]
    simp [List.getD, List.getElem?_eq_getElem (show 1 < l0.length by omega)]
  have hgB : Ab.block < W.heap.size := World.block_lt_of_cell? _ ⟨Ab.block, Ab.off + 1, none⟩ hgA
  have hgC : (Ab.block = b) = False := by
    obtain ⟨a9, _, e9, h9, _⟩ := hb3 0 _ (List.getElem?_eq_getElem (by omega))
    cases e9
    simpa using h9.1
  have hgD : (W.setCell ⟨b, q, none⟩ (.bool true)).cell? ⟨Ab.block, Ab.off + 1, none⟩ = some (.int .i64 z) := by rw [← hgA]; exact World.cell?_of_block (set_ne0 W _ (by simpa using hgC))
  have dz : decide (z < (j : Int)) = false := decide_eq_false hlb
  have hbe : bestOf (grP p (codeAt cs) (docAt cs) to true) ((i : Int), (j : Int)) c S.best = some l0 := by
    rw [hbs]
    show (if l0.getD 1 0 < (j : Int) then some (c.set 1 (j : Int)) else some l0) = _
    rw [hz, if_neg hlb]
  rw [hbe] at hSR
  clear hbe
  clear hlb hz
  have HBB := Lib.hid hbs
  clear h h1 hK1 hB1 hset hinp hfit1 hB hlt hns hck hl1 hins hqe hZ hq hh0 hbs
  try rw [hge] at ho
  try rw [hge] at hgd
  try rw [hge] at hh
  try dsimp only at hSR
  try rw [hge] at hSR
  have HSR := Lib.hid hSR
  clear hSR hge C hf3
  generalize p.ins[i] = x at *
  have o1 : (x.op == 1) = true := by rw [ho]; rfl
  have o2 : (x.op == 2) = false := by rw [ho]; rfl
  have o3 : (x.op == 3) = false := by rw [ho]; rfl
  have o4 : (x.op == 4) = false := by rw [ho]; rfl
  have o5 : (x.op == 5) = false := by rw [ho]; rfl
  have HO := Lib.hid (And.intro ho hgd)
  clear ho hgd
  clear hb3
  have HBS : Hid ((markW ((i : Int), (j : Int)) S) = SR) := Lib.hid (by rw [← HSR.out, ← HBB.out]; rfl)
  have heqn := fun (W : World) (a : Option Addr) (n c : Nat) => Lib.run_eql_slice_nil (P := Tryd.prog) W 35 3 a n c 0 0 Tryd.underlying35
  go_enter Tryd.func43, Tryd.ntmps43
  go_wp2_with fail
  go_end0
  exact ⟨rfl, ⟨_, by rw [← HBS.out]; exact H1.out.below (below_al (Below.refl _ _) _)⟩, HS.out.2.1.alloc _⟩
set_option maxRecDepth 100000 in
set_option maxHeartbeats 4000000 in
theorem tw_cap_n (p : Pg) (b L : Nat) (u0 u1 u2 : Value) (ib : Nat) (cs : List Int) (to : Int) (lg : Bool) (w0 : World) (C : CtxT p b L u0 u1 u2 ib cs w0) (n : Nat) (ih : ThroughOK p b L u0 u1 u2 ib cs to lg w0 n) (hto : to ≤ cs.length)
    (i j : Nat) (c : List Int) (fv : Value) (S : Wk (Int × Int)) (bv : Value) (W : World) (hi : i < p.ins.length) (hj : (j : Int) ≤ to) (h : TwAt W b p.ins.length (cs.length + 1) L u0 u1 u2 ib to lg bv S) (hf : FitT W b fv c) (hcl : (c.length : Int) = p.caps) (hB : Below b w0 W) (hlt : left (allP p (cs.length + 1)) S < n + 1) (hns : S.seen ((i : Int), (j : Int)) = false) (hbn : S.best = none) (ho : (p.get i).op = 4) :
    Calls Tryd.prog 43 #[.pointer (some ⟨b + 1, 0, none⟩), .int .i64 i, .int .i64 j, fv] W (TwPost b p.ins.length (cs.length + 1) L u0 u1 u2 ib to lg (come (grP p (codeAt cs) (docAt cs) to lg) (n + 1) ((i : Int), (j : Int)) c S) W) := by
  have hck := check_ok C.chk
  have hN : p.ins.length ≤ 10000 := hck.2.1
  have hcsl : cs.length ≤ 1000000 := by obtain ⟨_, _, _, _, h9, _⟩ := C.inp; exact h9
  obtain ⟨Z, hZ⟩ : ∃ Z, j * p.ins.length = Z := ⟨_, rfl⟩
  obtain ⟨q, hq⟩ : ∃ q, Z + i = q := ⟨_, rfl⟩
  have hZb : Z ≤ 1000001 * 10000 := by rw [← hZ]; exact Nat.mul_le_mul (by omega) hN
  have hw1 : IntKind.i64.wrap ((j : Int) * (p.ins.length : Int)) = (Z : Int) := by rw [show (j : Int) * (p.ins.length : Int) = (Z : Int) by rw [← hZ]; simp]; exact IntWalk.i64_in _ (by omega)
  have hw2 : IntKind.i64.wrap ((Z : Int) + (i : Int)) = (q : Int) := by rw [show (Z : Int) + (i : Int) = (q : Int) by omega]; exact IntWalk.i64_in _ (by omega)
  obtain ⟨F, cf, rfl, hf1, hf2, hf3⟩ := hf
  obtain ⟨ad, ci, B3, d3, hps, hc1, hcm, hd3, hd3m, hadb, hins⟩ := ins_at C.pg C.size i hi
  simp only [List.cons.injEq, and_true] at hps
  obtain ⟨rfl, rfl, rfl⟩ := hps
  have hjM : j < cs.length + 1 := by omega
  have hqe : j * p.ins.length + i = q := by omega
  have hqL : q < L := by rw [C.len, ← hqe]; exact place_lt hi hjM
  have dj : decide (to < (j : Int)) = false := decide_eq_false (by omega)
  obtain ⟨s0, sf, c0, c3, c4, c5, c6, c7, f7, n0, n1⟩ := h.cells hi hjM hqe
  obtain rfl : bv = .slice none 0 0 := by have h9 := h.best; rw [hbn] at h9; exact h9
  have hh0 : halts (grP p (codeAt cs) (docAt cs) to lg) S = false := by unfold halts; rw [hbn]; rfl
  obtain ⟨SR, hSR⟩ : ∃ SR, come (grP p (codeAt cs) (docAt cs) to lg) (n + 1) ((i : Int), (j : Int)) c S = SR := ⟨_, rfl⟩
  rw [hSR]
  rw [come_cap hh0 hns ho] at hSR
  rw [hns] at s0
  have h1 := h.mark (S := S) hi hjM
  rw [hqe] at h1
  have hK1 := (Kp.refl b W).set0 q (.bool true)
  have hB1 := hB.trans (hK1.below (by have := hB.size; have := C.size; omega))
  obtain ⟨hset, g0, g1, g2, g3, g4⟩ := hins _ hB1
  obtain ⟨_, k0, k1, k2, k3, k4⟩ := hins _ hB
  have hnb : ((ad.add (i * 5)).block = b) = False := by rw [add_block]; simp; omega
  have hge := get_eq p i hi
  have hgd := check_good C.chk (⟨by omega, by omega⟩ : Pc p i)
  obtain ⟨qs, qsf, q0, q3, q4, q5, q6, q7, qf7, m0, m1⟩ := h1.cells hi hjM hqe
  have hinp := C.inp.move (w' := W.setCell ⟨b, q, none⟩ (.bool true)) (ok' := fun k => k < b) (fun k hk hlt => ⟨hB1.block k hk, hk⟩)
  have hfit1 : FitT (W.setCell ⟨b, q, none⟩ (.bool true)) b (.slice F c.length cf) c := FitT.kp ⟨F, cf, rfl, hf1, hf2, hf3⟩ hK1
  have hcap : p.caps ≤ 4002 ∧ 2 ≤ p.caps := ⟨hck.2.2.2.2.1, hck.2.2.2.1⟩
  have hl1 : left (allP p (cs.length + 1)) (markW ((i : Int), (j : Int)) S) < n := by have h9 := left_mark hns (allP p (cs.length + 1)) (allP_iff.2 ⟨⟨by omega, by omega⟩, by omega, by omega⟩); omega
  have HBW := Lib.hid hB
  have HS := Lib.hid (And.intro hB1 (And.intro hK1 (And.intro hset (And.intro hl1 C.chk))))
  have H1 := Lib.hid h1
  have HFT := Lib.hid hfit1
  have HIN := Lib.hid hinp
  have HQE := Lib.hid hqe
  have hout := (check_leads HS.out.2.2.2.2 (i : Int) ⟨by omega, by omega⟩).1 (by omega)
  rw [get_eq p i hi] at hout
  obtain ⟨m, hme⟩ : ∃ m : Nat, p.ins[i].arg = (m : Int) := ⟨p.ins[i].arg.toNat, by have := hgd.cap (by rw [hge] at ho ⊢; exact ho); rw [hge] at this; omega⟩
  have hmc : m < c.length := by have := hgd.cap (by rw [hge] at ho ⊢; exact ho); rw [hge] at this; omega
  have ih1 := fun fv W => ih p.ins[i].out.toNat j (c.set m (j : Int)) fv (markW ((i : Int), (j : Int)) S) (.slice none 0 0) W (by have := hout.1; have := hout.2; omega) (by omega)
  have HI := Lib.hid ih1
  have HOU := Lib.hid hout
  have HME := Lib.hid hme
  clear ih1 hout hme
  obtain ⟨F0, rfl⟩ : ∃ F0, F = some F0 := by
    obtain ⟨a9, e9, _⟩ := ints_at hf3 0 (by omega)
    exact ⟨a9, e9⟩
  clear h h1 hK1 hB1 hset hinp hfit1 hB hlt hns hck hl1 hins hqe hZ hq hh0 hbn ih
  try rw [hge] at ho
  try rw [hge] at hgd
  try rw [hge] at hh
  try dsimp only at hSR
  try rw [hge] at hSR
  have HSR := Lib.hid hSR
  clear hSR hge C hf3
  generalize p.ins[i] = x at *
  have o1 : (x.op == 1) = false := by rw [ho]; rfl
  have o2 : (x.op == 2) = false := by rw [ho]; rfl
  have o3 : (x.op == 3) = false := by rw [ho]; rfl
  have o4 : (x.op == 4) = true := by rw [ho]; rfl
  have o5 : (x.op == 5) = false := by rw [ho]; rfl
  have HO := Lib.hid (And.intro ho hgd)
  clear ho hgd
  have HAR : Hid (∀ X', Below (W.setCell ⟨b, q, none⟩ (.bool true)).heap.size (W.setCell ⟨b, q, none⟩ (.bool true)) X' → Arr (fun k => k ≠ b ∧ k ≠ b + 1) X' 1 (IntC .i64) (some F0) c) := Lib.hid (fun X' hX => by
    obtain ⟨A9, c9, e9, _, _, h9⟩ := HFT.out.kp (Kp.of_below hX)
    cases e9; exact h9)
  have hlen : 2 ≤ c.length ∧ c.length ≤ 1000000 := by omega
  have HLN := Lib.hid hlen
  clear hlen
  go_enter Tryd.func43, Tryd.ntmps43
  go_wp2_with (at_builtin; refine wpList_copyI rfl _ _ rfl _ rfl (fun k => k ≠ b ∧ k ≠ b + 1) F0 c cf rfl (HAR.out _ (below_al (below_al (Below.refl _ _) _) _)) (by have := HLN.out; omega) HLN.out.2 ?_)
  intro g cg w2 hown hb2
  have hsz2 : (((W.setCell ⟨b, q, none⟩ (.bool true)).alloc (.cells #[.int .i64 x.op, .int .i64 x.out, .int .i64 x.arg, .slice B3 x.set.length d3, .int .i64 x.at_] 64)).alloc (.cells #[] 3)).heap.size = W.heap.size + 1 + 1 := by simp [World.setCell]
  rw [← hsz2] at hb2
  have h2 := (H1.out.below (below_al (below_al (Below.refl _ _) (.cells #[.int .i64 x.op, .int .i64 x.out, .int .i64 x.arg, .slice B3 x.set.length d3, .int .i64 x.at_] 64)) (.cells #[] 3))).below hb2
  have hgn : W.heap.size + 1 + 1 ≤ g := (hown.lt g rfl).1
  have hKY := ((HS.out.2.1.alloc (.cells #[.int .i64 x.op, .int .i64 x.out, .int .i64 x.arg, .slice B3 x.set.length d3, .int .i64 x.at_] 64)).alloc (.cells #[] 3)).trans (Kp.of_below hb2)
  obtain ⟨cs2, hk2⟩ := own_blk hown rfl
  have hcl0 : ∃ u, w2.cell? ⟨g, m, none⟩ = some u := by
    obtain ⟨ad9, e9, hc9⟩ := ints_at (ownI64_arr0 hown) m (by have := HLN.out; omega)
    cases e9
    exact ⟨_, by rw [Addr.add_mid, Nat.zero_add] at hc9; exact hc9⟩
  obtain ⟨u9, hcell1⟩ := hcl0
  have hxw := (hb2.block W.heap.size (by simp [World.setCell]; omega)).trans ((Below.heap_alloc _ _ _ (by simp [World.setCell])).trans (heap_newX (W := W.setCell ⟨b, q, none⟩ (.bool true)) (o := (.cells #[.int .i64 x.op, .int .i64 x.out, .int .i64 x.arg, .slice B3 x.set.length d3, .int .i64 x.at_] 64)) (n := W.heap.size) (by simp [World.setCell])))
  obtain ⟨x0, x1, x2, x3, x4⟩ := cells5 hxw
  have nxw := heap_lt hxw
  rw [HME.out] at x2
  clear qs qsf q0 q3 q4 q5 q6 q7 qf7 m0 m1 g0 g1 g2 g3 g4 k0 k1 k2 k3 k4 s0 sf c0 c3 c4 c5 c6 c7 f7 hnb
  obtain ⟨qs, qsf, q0, q3, q4, q5, q6, q7, qf7, m0, m1⟩ := h2.cells hi hjM HQE.out
  have hgf : w2.frozen? ⟨g, m, none⟩ = false := frozenOf hk2 m
  have hng := heap_lt hk2
  obtain ⟨o, hoe⟩ : ∃ o : Nat, x.out = (o : Int) := ⟨x.out.toNat, by have := HOU.out.1; omega⟩
  rw [hoe] at x1
  rw [hoe, Int.toNat_natCast] at HI
  have HOE := Lib.hid hoe
  clear hoe
  have hGx : (g = W.heap.size) = False := by simp; omega
  have hGx2 : (W.heap.size = g) = False := by simp; omega
  have hKZ := hKY.setNew (g := g) (by omega) m (.int .i64 j)
  have hTZ : TwAt (w2.setCell ⟨g, m, none⟩ (.int .i64 j)) b p.ins.length (cs.length + 1) L (.slice (some ad) p.ins.length ci) (.int .i64 p.start) (.int .i64 p.caps) ib to lg (.slice none 0 0) (markW ((i : Int), (j : Int)) S) := by
    obtain ⟨h2a, ⟨cs3, h2b, h2c⟩, h2d⟩ := h2
    refine ⟨(set_ne0 _ _ (by show b + 1 ≠ g; omega)).trans h2a, ⟨cs3, (set_ne0 _ _ (by show b ≠ g; omega)).trans h2b, h2c⟩, ?_⟩
    have h9 := H1.out.best.kp (b := b) (W' := w2.setCell ⟨g, m, none⟩ (.int .i64 j)) ((((Kp.refl b _).alloc (.cells #[.int .i64 x.op, .int .i64 x.out, .int .i64 x.arg, .slice B3 x.set.length d3, .int .i64 x.at_] 64)).alloc (.cells #[] 3)).trans (Kp.of_below hb2) |>.setNew (g := g) (by simp [World.setCell]; omega) m (.int .i64 j))
    exact h9
  have hFZ : FitT (w2.setCell ⟨g, m, none⟩ (.int .i64 j)) b (.slice (some ⟨g, 0, none⟩) c.length cg) (c.set m (j : Int)) := FitT.own (owns_put hown m j) (by omega)
  have hcall := HI.out _ _ hTZ hFZ (by rw [List.length_set]; exact hcl) (HBW.out.trans (hKZ.below (by omega))) HS.out.2.2.2.1
  rw [if_neg (show ¬ to < (j : Int) by omega)] at hcall
  have HP : Hid (come (grP p (codeAt cs) (docAt cs) to lg) n ((o : Int), (j : Int)) (c.set m (j : Int)) (markW ((i : Int), (j : Int)) S) = SR) := Lib.hid (by rw [← HSR.out, HOE.out, HME.out, Int.toNat_natCast])
  rw [HP.out] at hcall
  have H2 := Lib.hid hKZ
  clear h2 hKY hown hk2 hb2 hTZ hFZ hKZ HP hxw
  go_wp2_with fail
  refine hcall.mono ?_
  clear hcall
  rintro e w5 ⟨rfl, h5, hk5⟩
  dsimp only
  have H5 := Lib.hid (And.intro h5 (H2.out.trans hk5))
  clear h5 hk5
  go_wp2_with fail
  go_end0
  exact ⟨rfl, H5.out.1, H5.out.2⟩
set_option maxRecDepth 100000 in
set_option maxHeartbeats 4000000 in
theorem tw_cap_s (p : Pg) (b L : Nat) (u0 u1 u2 : Value) (ib : Nat) (cs : List Int) (to : Int) (w0 : World) (C : CtxT p b L u0 u1 u2 ib cs w0) (n : Nat) (ih : ThroughOK p b L u0 u1 u2 ib cs to true w0 n) (hto : to ≤ cs.length)
    (i j : Nat) (c : List Int) (fv : Value) (S : Wk (Int × Int)) (bv : Value) (W : World) (hi : i < p.ins.length) (hj : (j : Int) ≤ to) (h : TwAt W b p.ins.length (cs.length + 1) L u0 u1 u2 ib to true bv S) (hf : FitT W b fv c) (hcl : (c.length : Int) = p.caps) (hB : Below b w0 W) (hlt : left (allP p (cs.length + 1)) S < n + 1) (hns : S.seen ((i : Int), (j : Int)) = false) (l0 : List Int) (hbs : S.best = some l0) (ho : (p.get i).op = 4) :
    Calls Tryd.prog 43 #[.pointer (some ⟨b + 1, 0, none⟩), .int .i64 i, .int .i64 j, fv] W (TwPost b p.ins.length (cs.length + 1) L u0 u1 u2 ib to true (come (grP p (codeAt cs) (docAt cs) to true) (n + 1) ((i : Int), (j : Int)) c S) W) := by
  have hck := check_ok C.chk
  have hN : p.ins.length ≤ 10000 := hck.2.1
  have hcsl : cs.length ≤ 1000000 := by obtain ⟨_, _, _, _, h9, _⟩ := C.inp; exact h9
  obtain ⟨Z, hZ⟩ : ∃ Z, j * p.ins.length = Z := ⟨_, rfl⟩
  obtain ⟨q, hq⟩ : ∃ q, Z + i = q := ⟨_, rfl⟩
  have hZb : Z ≤ 1000001 * 10000 := by rw [← hZ]; exact Nat.mul_le_mul (by omega) hN
  have hw1 : IntKind.i64.wrap ((j : Int) * (p.ins.length : Int)) = (Z : Int) := by rw [show (j : Int) * (p.ins.length : Int) = (Z : Int) by rw [← hZ]; simp]; exact IntWalk.i64_in _ (by omega)
  have hw2 : IntKind.i64.wrap ((Z : Int) + (i : Int)) = (q : Int) := by rw [show (Z : Int) + (i : Int) = (q : Int) by omega]; exact IntWalk.i64_in _ (by omega)
  obtain ⟨F, cf, rfl, hf1, hf2, hf3⟩ := hf
  obtain ⟨ad, ci, B3, d3, hps, hc1, hcm, hd3, hd3m, hadb, hins⟩ := ins_at C.pg C.size i hi
  simp only [List.cons.injEq, and_true] at hps
  obtain ⟨rfl, rfl, rfl⟩ := hps
  have hjM : j < cs.length + 1 := by omega
  have hqe : j * p.ins.length + i = q := by omega
  have hqL : q < L := by rw [C.len, ← hqe]; exact place_lt hi hjM
  have dj : decide (to < (j : Int)) = false := decide_eq_false (by omega)
  obtain ⟨s0, sf, c0, c3, c4, c5, c6, c7, f7, n0, n1⟩ := h.cells hi hjM hqe
  obtain ⟨Ab, cb, rfl, hb1, hb2, hb3, hb4⟩ : ∃ Ab cb, bv = .slice (some Ab) l0.length cb ∧ l0.length ≤ cb ∧ cb ≤ maxLen ∧ Arr (fun k => k ≠ b ∧ k ≠ b + 1) W 1 (IntC .i64) (some Ab) l0 ∧ 2 ≤ l0.length := by
    have h9 := h.best
    rw [hbs] at h9
    obtain ⟨⟨A, c9, k1, k2, k3, k4⟩, k5⟩ := h9
    obtain ⟨A2, rfl, _⟩ := ints_at k4 0 (by omega)
    exact ⟨A2, c9, k1, k2, k3, k4, k5⟩
  have hh0 : halts (grP p (codeAt cs) (docAt cs) to true) S = false := by unfold halts; rw [show (grP p (codeAt cs) (docAt cs) to true).longest = true from rfl]; simp
  obtain ⟨SR, hSR⟩ : ∃ SR, come (grP p (codeAt cs) (docAt cs) to true) (n + 1) ((i : Int), (j : Int)) c S = SR := ⟨_, rfl⟩
  rw [hSR]
  rw [come_cap hh0 hns ho] at hSR
  rw [hns] at s0
  have h1 := h.mark (S := S) hi hjM
  rw [hqe] at h1
  have hK1 := (Kp.refl b W).set0 q (.bool true)
  have hB1 := hB.trans (hK1.below (by have := hB.size; have := C.size; omega))
  obtain ⟨hset, g0, g1, g2, g3, g4⟩ := hins _ hB1
  obtain ⟨_, k0, k1, k2, k3, k4⟩ := hins _ hB
  have hnb : ((ad.add (i * 5)).block = b) = False := by rw [add_block]; simp; omega
  have hge := get_eq p i hi
  have hgd := check_good C.chk (⟨by omega, by omega⟩ : Pc p i)
  obtain ⟨qs, qsf, q0, q3, q4, q5, q6, q7, qf7, m0, m1⟩ := h1.cells hi hjM hqe
  have hinp := C.inp.move (w' := W.setCell ⟨b, q, none⟩ (.bool true)) (ok' := fun k => k < b) (fun k hk hlt => ⟨hB1.block k hk, hk⟩)
  have hfit1 : FitT (W.setCell ⟨b, q, none⟩ (.bool true)) b (.slice F c.length cf) c := FitT.kp ⟨F, cf, rfl, hf1, hf2, hf3⟩ hK1
  have hcap : p.caps ≤ 4002 ∧ 2 ≤ p.caps := ⟨hck.2.2.2.2.1, hck.2.2.2.1⟩
  have hl1 : left (allP p (cs.length + 1)) (markW ((i : Int), (j : Int)) S) < n := by have h9 := left_mark hns (allP p (cs.length + 1)) (allP_iff.2 ⟨⟨by omega, by omega⟩, by omega, by omega⟩); omega
  have HBW := Lib.hid hB
  have HS := Lib.hid (And.intro hB1 (And.intro hK1 (And.intro hset (And.intro hl1 C.chk))))
  have H1 := Lib.hid h1
  have HFT := Lib.hid hfit1
  have HIN := Lib.hid hinp
  have HQE := Lib.hid hqe
  have hout := (check_leads HS.out.2.2.2.2 (i : Int) ⟨by omega, by omega⟩).1 (by omega)
  rw [get_eq p i hi] at hout
  obtain ⟨m, hme⟩ : ∃ m : Nat, p.ins[i].arg = (m : Int) := ⟨p.ins[i].arg.toNat, by have := hgd.cap (by rw [hge] at ho ⊢; exact ho); rw [hge] at this; omega⟩
  have hmc : m < c.length := by have := hgd.cap (by rw [hge] at ho ⊢; exact ho); rw [hge] at this; omega
  have ih1 := fun fv W => ih p.ins[i].out.toNat j (c.set m (j : Int)) fv (markW ((i : Int), (j : Int)) S) (.slice (some Ab) l0.length cb) W (by have := hout.1; have := hout.2; omega) (by omega)
  have HI := Lib.hid ih1
  have HOU := Lib.hid hout
  have HME := Lib.hid hme
  clear ih1 hout hme
  obtain ⟨F0, rfl⟩ : ∃ F0, F = some F0 := by
    obtain ⟨a9, e9, _⟩ := ints_at hf3 0 (by omega)
    exact ⟨a9, e9⟩
  clear h h1 hK1 hB1 hset hinp hfit1 hB hlt hns hck hl1 hins hqe hZ hq hh0 hbs ih
  try rw [hge] at ho
  try rw [hge] at hgd
  try rw [hge] at hh
  try dsimp only at hSR
  try rw [hge] at hSR
  have HSR := Lib.hid hSR
  clear hSR hge C hf3
  generalize p.ins[i] = x at *
  have o1 : (x.op == 1) = false := by rw [ho]; rfl
  have o2 : (x.op == 2) = false := by rw [ho]; rfl
  have o3 : (x.op == 3) = false := by rw [ho]; rfl
  have o4 : (x.op == 4) = true := by rw [ho]; rfl
  have o5 : (x.op == 5) = false := by rw [ho]; rfl
  have HO := Lib.hid (And.intro ho hgd)
  clear ho hgd
  clear hb3
  have HAR : Hid (∀ X', Below (W.setCell ⟨b, q, none⟩ (.bool true)).heap.size (W.setCell ⟨b, q, none⟩ (.bool true)) X' → Arr (fun k => k ≠ b ∧ k ≠ b + 1) X' 1 (IntC .i64) (some F0) c) := Lib.hid (fun X' hX => by
    obtain ⟨A9, c9, e9, _, _, h9⟩ := HFT.out.kp (Kp.of_below hX)
    cases e9; exact h9)
  have hlen : 2 ≤ c.length ∧ c.length ≤ 1000000 := by omega
  have HLN := Lib.hid hlen
  clear hlen
  go_enter Tryd.func43, Tryd.ntmps43
  go_wp2_with (at_builtin; refine wpList_copyI rfl _ _ rfl _ rfl (fun k => k ≠ b ∧ k ≠ b + 1) F0 c cf rfl (HAR.out _ (below_al (below_al (Below.refl _ _) _) _)) (by have := HLN.out; omega) HLN.out.2 ?_)
  intro g cg w2 hown hb2
  have hsz2 : (((W.setCell ⟨b, q, none⟩ (.bool true)).alloc (.cells #[.int .i64 x.op, .int .i64 x.out, .int .i64 x.arg, .slice B3 x.set.length d3, .int .i64 x.at_] 64)).alloc (.cells #[] 3)).heap.size = W.heap.size + 1 + 1 := by simp [World.setCell]
  rw [← hsz2] at hb2
  have h2 := (H1.out.below (below_al (below_al (Below.refl _ _) (.cells #[.int .i64 x.op, .int .i64 x.out, .int .i64 x.arg, .slice B3 x.set.length d3, .int .i64 x.at_] 64)) (.cells #[] 3))).below hb2
  have hgn : W.heap.size + 1 + 1 ≤ g := (hown.lt g rfl).1
  have hKY := ((HS.out.2.1.alloc (.cells #[.int .i64 x.op, .int .i64 x.out, .int .i64 x.arg, .slice B3 x.set.length d3, .int .i64 x.at_] 64)).alloc (.cells #[] 3)).trans (Kp.of_below hb2)
  obtain ⟨cs2, hk2⟩ := own_blk hown rfl
  have hcl0 : ∃ u, w2.cell? ⟨g, m, none⟩ = some u := by
    obtain ⟨ad9, e9, hc9⟩ := ints_at (ownI64_arr0 hown) m (by have := HLN.out; omega)
    cases e9
    exact ⟨_, by rw [Addr.add_mid, Nat.zero_add] at hc9; exact hc9⟩
  obtain ⟨u9, hcell1⟩ := hcl0
  have hxw := (hb2.block W.heap.size (by simp [World.setCell]; omega)).trans ((Below.heap_alloc _ _ _ (by simp [World.setCell])).trans (heap_newX (W := W.setCell ⟨b, q, none⟩ (.bool true)) (o := (.cells #[.int .i64 x.op, .int .i64 x.out, .int .i64 x.arg, .slice B3 x.set.length d3, .int .i64 x.at_] 64)) (n := W.heap.size) (by simp [World.setCell])))
  obtain ⟨x0, x1, x2, x3, x4⟩ := cells5 hxw
  have nxw := heap_lt hxw
  rw [HME.out] at x2
  clear qs qsf q0 q3 q4 q5 q6 q7 qf7 m0 m1 g0 g1 g2 g3 g4 k0 k1 k2 k3 k4 s0 sf c0 c3 c4 c5 c6 c7 f7 hnb
  obtain ⟨qs, qsf, q0, q3, q4, q5, q6, q7, qf7, m0, m1⟩ := h2.cells hi hjM HQE.out
  have hgf : w2.frozen? ⟨g, m, none⟩ = false := frozenOf hk2 m
  have hng := heap_lt hk2
  obtain ⟨o, hoe⟩ : ∃ o : Nat, x.out = (o : Int) := ⟨x.out.toNat, by have := HOU.out.1; omega⟩
  rw [hoe] at x1
  rw [hoe, Int.toNat_natCast] at HI
  have HOE := Lib.hid hoe
  clear hoe
  have hGx : (g = W.heap.size) = False := by simp; omega
  have hGx2 : (W.heap.size = g) = False := by simp; omega
  have hKZ := hKY.setNew (g := g) (by omega) m (.int .i64 j)
  have hTZ : TwAt (w2.setCell ⟨g, m, none⟩ (.int .i64 j)) b p.ins.length (cs.length + 1) L (.slice (some ad) p.ins.length ci) (.int .i64 p.start) (.int .i64 p.caps) ib to true (.slice (some Ab) l0.length cb) (markW ((i : Int), (j : Int)) S) := by
    obtain ⟨h2a, ⟨cs3, h2b, h2c⟩, h2d⟩ := h2
    refine ⟨(set_ne0 _ _ (by show b + 1 ≠ g; omega)).trans h2a, ⟨cs3, (set_ne0 _ _ (by show b ≠ g; omega)).trans h2b, h2c⟩, ?_⟩
    have h9 := H1.out.best.kp (b := b) (W' := w2.setCell ⟨g, m, none⟩ (.int .i64 j)) ((((Kp.refl b _).alloc (.cells #[.int .i64 x.op, .int .i64 x.out, .int .i64 x.arg, .slice B3 x.set.length d3, .int .i64 x.at_] 64)).alloc (.cells #[] 3)).trans (Kp.of_below hb2) |>.setNew (g := g) (by simp [World.setCell]; omega) m (.int .i64 j))
    exact h9
  have hFZ : FitT (w2.setCell ⟨g, m, none⟩ (.int .i64 j)) b (.slice (some ⟨g, 0, none⟩) c.length cg) (c.set m (j : Int)) := FitT.own (owns_put hown m j) (by omega)
  have hcall := HI.out _ _ hTZ hFZ (by rw [List.length_set]; exact hcl) (HBW.out.trans (hKZ.below (by omega))) HS.out.2.2.2.1
  rw [if_neg (show ¬ to < (j : Int) by omega)] at hcall
  have HP : Hid (come (grP p (codeAt cs) (docAt cs) to true) n ((o : Int), (j : Int)) (c.set m (j : Int)) (markW ((i : Int), (j : Int)) S) = SR) := Lib.hid (by rw [← HSR.out, HOE.out, HME.out, Int.toNat_natCast])
  rw [HP.out] at hcall
  have H2 := Lib.hid hKZ
  clear h2 hKY hown hk2 hb2 hTZ hFZ hKZ HP hxw
  go_wp2_with fail
  refine hcall.mono ?_
  clear hcall
  rintro e w5 ⟨rfl, h5, hk5⟩
  dsimp only
  have H5 := Lib.hid (And.intro h5 (H2.out.trans hk5))
  clear h5 hk5
  go_wp2_with fail
  go_end0
  exact ⟨rfl, H5.out.1, H5.out.2⟩
end Go.Proofs.YthclpabmbhpohaaDoor
namespace Go.Proofs.YthclpabmbhpohaaDoor
open Go.RowKit
set_option linter.unusedVariables false
theorem through_all (p : Pg) (b L : Nat) (u0 u1 u2 : Value) (ib : Nat) (cs : List Int) (to : Int) (lg : Bool) (w0 : World) (C : CtxT p b L u0 u1 u2 ib cs w0) (hto : to ≤ cs.length) : ∀ n, ThroughOK p b L u0 u1 u2 ib cs to lg w0 n
  | 0 => fun i j c fv S bv W _ _ _ _ _ _ hlt => by omega
  | n + 1 => by
    have ih := through_all p b L u0 u1 u2 ib cs to lg w0 C hto n
    intro i j c fv S bv W hi hjM h hf hcl hB hlt
    by_cases hj0 : to < (j : Int)
    · rw [if_pos hj0]
      exact tw_early_far p b L u0 u1 u2 ib cs to lg w0 C n hto i j c fv S bv W hi hjM hj0 h hf hcl hB hlt
    rw [if_neg hj0]
    have hj : (j : Int) ≤ to := by omega
    cases hs : S.seen ((i : Int), (j : Int)) with
    | true =>
      rw [come_seen hs]
      exact tw_early_seen p b L u0 u1 u2 ib cs to lg w0 C n hto i j c fv S bv W hi hj h hf hcl hB hlt hs
    | false =>
    cases hb : S.best with
    | none =>
      by_cases c1 : (p.get i).op = 1
      · exact tw_match_n p b L u0 u1 u2 ib cs to lg w0 C n hto i j c fv S bv W hi hj h hf hcl hB hlt hs hb c1
      by_cases c2 : (p.get i).op = 2
      · cases hh : hasB (p.get i).set (codeAt cs j) with
        | true => exact tw_setyes_n p b L u0 u1 u2 ib cs to lg w0 C n ih hto i j c fv S bv W hi hj h hf hcl hB hlt hs hb c2 hh
        | false => exact tw_setno_n p b L u0 u1 u2 ib cs to lg w0 C n hto i j c fv S bv W hi hj h hf hcl hB hlt hs hb c2 hh
      by_cases c3 : (p.get i).op = 3
      · exact tw_alt_n p b L u0 u1 u2 ib cs to lg w0 C n ih hto i j c fv S bv W hi hj h hf hcl hB hlt hs hb c3
      by_cases c4 : (p.get i).op = 4
      · exact tw_cap_n p b L u0 u1 u2 ib cs to lg w0 C n ih hto i j c fv S bv W hi hj h hf hcl hB hlt hs hb c4
      by_cases c5 : (p.get i).op = 5
      · cases hh : hitB (docAt cs j) (p.get i).at_ with
        | true => exact tw_atyes_n p b L u0 u1 u2 ib cs to lg w0 C n ih hto i j c fv S bv W hi hj h hf hcl hB hlt hs hb c5 hh
        | false => exact tw_atno_n p b L u0 u1 u2 ib cs to lg w0 C n hto i j c fv S bv W hi hj h hf hcl hB hlt hs hb c5 hh
      exact tw_fail_n p b L u0 u1 u2 ib cs to lg w0 C n hto i j c fv S bv W hi hj h hf hcl hB hlt hs hb ⟨c1, c2, c3, c4, c5⟩
    | some l0 =>
    cases lg with
    | false =>
      rw [come_halts (show halts (grP p (codeAt cs) (docAt cs) to false) S = true by unfold halts; rw [hb]; rfl)]
      exact tw_early_halt p b L u0 u1 u2 ib cs to w0 C n hto i j c fv S bv W hi hj h hf hcl hB hlt hs l0 hb
    | true =>
      by_cases c1 : (p.get i).op = 1
      · by_cases hlb : l0.getD 1 0 < (j : Int)
        · exact tw_matchyes_s p b L u0 u1 u2 ib cs to w0 C n hto i j c fv S bv W hi hj h hf hcl hB hlt hs l0 hb c1 hlb
        · exact tw_matchno_s p b L u0 u1 u2 ib cs to w0 C n hto i j c fv S bv W hi hj h hf hcl hB hlt hs l0 hb c1 hlb
      by_cases c2 : (p.get i).op = 2
      · cases hh : hasB (p.get i).set (codeAt cs j) with
        | true => exact tw_setyes_s p b L u0 u1 u2 ib cs to w0 C n ih hto i j c fv S bv W hi hj h hf hcl hB hlt hs l0 hb c2 hh
        | false => exact tw_setno_s p b L u0 u1 u2 ib cs to w0 C n hto i j c fv S bv W hi hj h hf hcl hB hlt hs l0 hb c2 hh
      by_cases c3 : (p.get i).op = 3
      · exact tw_alt_s p b L u0 u1 u2 ib cs to w0 C n ih hto i j c fv S bv W hi hj h hf hcl hB hlt hs l0 hb c3
      by_cases c4 : (p.get i).op = 4
      · exact tw_cap_s p b L u0 u1 u2 ib cs to w0 C n ih hto i j c fv S bv W hi hj h hf hcl hB hlt hs l0 hb c4
      by_cases c5 : (p.get i).op = 5
      · cases hh : hitB (docAt cs j) (p.get i).at_ with
        | true => exact tw_atyes_s p b L u0 u1 u2 ib cs to w0 C n ih hto i j c fv S bv W hi hj h hf hcl hB hlt hs l0 hb c5 hh
        | false => exact tw_atno_s p b L u0 u1 u2 ib cs to w0 C n hto i j c fv S bv W hi hj h hf hcl hB hlt hs l0 hb c5 hh
      exact tw_fail_s p b L u0 u1 u2 ib cs to w0 C n hto i j c fv S bv W hi hj h hf hcl hB hlt hs l0 hb ⟨c1, c2, c3, c4, c5⟩
end Go.Proofs.YthclpabmbhpohaaDoor
