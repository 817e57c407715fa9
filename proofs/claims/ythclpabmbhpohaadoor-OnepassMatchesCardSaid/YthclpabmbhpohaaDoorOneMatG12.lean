/-
  (*martelloref12.Through).come: the document's walk of a program over a text. No condition but that the program is right.
-/
import Derived.Test.YthclpabmbhpohaaDoorOneMatG11
namespace Go.Proofs.YthclpabmbhpohaaDoor
open Go.RowKit
set_option linter.unusedVariables false
/-- All blocks but b and b + 1 stay. -/
structure Kp (b : Nat) (W W' : World) : Prop where
  os : W'.os = W.os
  tape : W'.tape = W.tape
  output : W'.output = W.output
  size : W.heap.size ≤ W'.heap.size
  block : ∀ k, k < W.heap.size → k ≠ b → k ≠ b + 1 → W'.heap[k]? = W.heap[k]?
theorem Kp.refl (b : Nat) (W : World) : Kp b W W := ⟨rfl, rfl, rfl, Nat.le_refl _, fun _ _ _ _ => rfl⟩
theorem Kp.trans {b : Nat} {A B C : World} (h : Kp b A B) (k : Kp b B C) : Kp b A C :=
  ⟨k.os.trans h.os, k.tape.trans h.tape, k.output.trans h.output, Nat.le_trans h.size k.size, fun x hx h0 h1 => (k.block x (Nat.lt_of_lt_of_le hx h.size) h0 h1).trans (h.block x hx h0 h1)⟩
theorem Kp.of_below {b : Nat} {A B : World} (h : Below A.heap.size A B) : Kp b A B := ⟨h.os, h.tape, h.output, h.size, fun k hk _ _ => h.block k hk⟩
theorem Kp.alloc {b : Nat} {A B : World} (h : Kp b A B) (o : Obj) : Kp b A (B.alloc o) := h.trans (.of_below (below_al (Below.refl _ _) o))
theorem Kp.set0 {b : Nat} {A B : World} (h : Kp b A B) (j : Nat) (v : Value) : Kp b A (B.setCell ⟨b, j, none⟩ v) := h.trans ⟨rfl, rfl, rfl, by simp [World.setCell], fun k _ h0 _ => set_ne0 B v h0⟩
theorem Kp.set1 {b : Nat} {A B : World} (h : Kp b A B) (j : Nat) (v : Value) : Kp b A (B.setCell ⟨b + 1, j, none⟩ v) := h.trans ⟨rfl, rfl, rfl, by simp [World.setCell], fun k _ _ h1 => set_ne0 B v h1⟩
theorem Kp.setNew {b : Nat} {A B : World} (h : Kp b A B) {g : Nat} (hg : A.heap.size ≤ g) (j : Nat) (v : Value) : Kp b A (B.setCell ⟨g, j, none⟩ v) :=
  ⟨h.os, h.tape, h.output, by have := h.size; simpa [World.setCell] using this, fun k hk h0 h1 => (set_ne0 B v (by show k ≠ g; omega)).trans (h.block k hk h0 h1)⟩
theorem Kp.below {b : Nat} {A B : World} (h : Kp b A B) (hb : b ≤ A.heap.size) : Below b A B := ⟨h.os, h.tape, h.output, h.size, fun k hk => h.block k (by omega) (by omega) (by omega)⟩
/-- A list of places, in blocks other than b, b + 1. -/
def FitT (W : World) (b : Nat) (v : Value) (l : List Int) : Prop := ∃ A c, v = .slice A l.length c ∧ l.length ≤ c ∧ c ≤ maxLen ∧ Arr (fun k => k ≠ b ∧ k ≠ b + 1) W 1 (IntC .i64) A l
theorem FitT.kp {W W' : World} {b : Nat} {v : Value} {l : List Int} (h : FitT W b v l) (hk : Kp b W W') : FitT W' b v l := by
  obtain ⟨A, c, h1, h2, h3, h4⟩ := h
  exact ⟨A, c, h1, h2, h3, h4.move (fun k hb hlt => ⟨hk.block k hlt hb.1 hb.2, hb⟩) (by omega)⟩
theorem FitT.own {W : World} {B b : Nat} {v : Value} {l : List Int} (h : Owns W B 3 1 v (l.map i64C)) (hB : b + 1 < B) : FitT W b v l := by
  have h5 := h
  obtain ⟨A, c, rfl, h1, h2⟩ := h.shape
  rw [List.length_map] at h1 h5 ⊢
  exact ⟨A, c, rfl, h1, h2, (ownI64_arr0 h5).move (fun k hk _ => ⟨rfl, by omega, by omega⟩) (by omega)⟩
def BestT (W : World) (b : Nat) (v : Value) : Option (List Int) → Prop
  | none => v = .slice none 0 0
  | some l => FitT W b v l ∧ 2 ≤ l.length
theorem BestT.kp {W W' : World} {b : Nat} {v : Value} {o : Option (List Int)} (h : BestT W b v o) (hk : Kp b W W') : BestT W' b v o := by
  cases o with
  | none => exact h
  | some l => exact ⟨h.1.kp hk, h.2⟩
/-- Which states were come to, in memory. -/
def SeenC (cs : Array Value) (N M L : Nat) (S : Wk (Int × Int)) : Prop := cs.size = L ∧ ∀ i j : Nat, i < N → j < M → cs[j * N + i]? = some (.bool (S.seen ((i : Int), (j : Int))))
theorem two_nums {N i j i' j' : Nat} (h : j * N + i = j' * N + i') (hi : i < N) (hi' : i' < N) : j = j' ∧ i = i' := by
  rcases Nat.lt_trichotomy j j' with h1 | h1 | h1
  · have := Nat.mul_le_mul_right N (show j + 1 ≤ j' by omega)
    rw [Nat.add_mul] at this; omega
  · subst h1; exact ⟨rfl, by omega⟩
  · have := Nat.mul_le_mul_right N (show j' + 1 ≤ j by omega)
    rw [Nat.add_mul] at this; omega
theorem place_lt {N M i j : Nat} (hi : i < N) (hj : j < M) : j * N + i < N * M := by
  have := Nat.mul_le_mul_right N (show j + 1 ≤ M by omega)
  rw [Nat.add_mul, Nat.mul_comm M N] at this; omega
theorem SeenC.mark {cs : Array Value} {N M L : Nat} {S : Wk (Int × Int)} (h : SeenC cs N M L S) {i j : Nat} (hi : i < N) (hj : j < M) : SeenC (cs.setIfInBounds (j * N + i) (.bool true)) N M L (markW ((i : Int), (j : Int)) S) := by
  refine ⟨by simpa using h.1, fun i' j' hi' hj' => ?_⟩
  have h9 := h.2 i' j' hi' hj'
  rw [Array.getElem?_setIfInBounds]
  by_cases e : j * N + i = j' * N + i'
  · obtain ⟨rfl, rfl⟩ := two_nums e hi hi'
    rw [if_pos rfl, if_pos (Array.getElem?_eq_some_iff.1 h9).1, mark_seen]
    simp
  · rw [if_neg e, h9, mark_seen, decide_eq_false (fun e2 => e (by
      simp only [Prod.mk.injEq] at e2
      obtain ⟨a1, a2⟩ := e2
      obtain rfl : i' = i := by omega
      obtain rfl : j' = j := by omega
      rfl))]
    simp
structure TwAt (W : World) (b N M L : Nat) (u0 u1 u2 : Value) (ib : Nat) (to : Int) (lg : Bool) (bv : Value) (S : Wk (Int × Int)) : Prop where
  blk : W.heap[b + 1]? = some (.cells #[u0, u1, u2, .pointer (some ⟨ib, 0, none⟩), .int .i64 to, .bool lg, .slice (some ⟨b, 0, none⟩) L L, bv] 97 (0, 0))
  seen : ∃ cs, W.heap[b]? = some (.cells cs 4 (0, 0)) ∧ SeenC cs N M L S
  best : BestT W b bv S.best
section
variable {W W' : World} {b N M L : Nat} {u0 u1 u2 : Value} {ib : Nat} {to : Int} {lg : Bool} {bv bv' : Value} {S S' : Wk (Int × Int)}
theorem TwAt.below (h : TwAt W b N M L u0 u1 u2 ib to lg bv S) (hb : Below W.heap.size W W') : TwAt W' b N M L u0 u1 u2 ib to lg bv S := by
  obtain ⟨h1, ⟨cs, h2, h3⟩, h4⟩ := h
  exact ⟨(hb.block _ (heap_lt h1)).trans h1, ⟨cs, (hb.block _ (heap_lt h2)).trans h2, h3⟩, h4.kp (.of_below hb)⟩
theorem TwAt.mark (h : TwAt W b N M L u0 u1 u2 ib to lg bv S) {i j : Nat} (hi : i < N) (hj : j < M) : TwAt (W.setCell ⟨b, j * N + i, none⟩ (.bool true)) b N M L u0 u1 u2 ib to lg bv (markW ((i : Int), (j : Int)) S) := by
  obtain ⟨h1, ⟨cs, h2, h3⟩, h4⟩ := h
  exact ⟨(set_ne0 W _ (by show b + 1 ≠ b; omega)).trans h1, ⟨_, heap_set0 h2 _ _, h3.mark hi hj⟩, h4.kp ((Kp.refl b W).set0 _ _)⟩
structure TwCells (W : World) (b L : Nat) (u0 : Value) (ib : Nat) (to : Int) (lg : Bool) (bv : Value) (q : Nat) (se : Bool) : Prop where
  s : W.cell? ⟨b, q, none⟩ = some (.bool se)
  sf : W.frozen? ⟨b, q, none⟩ = false
  c0 : W.cell? ⟨b + 1, 0, none⟩ = some u0
  c3 : W.cell? ⟨b + 1, 3, none⟩ = some (.pointer (some ⟨ib, 0, none⟩))
  c4 : W.cell? ⟨b + 1, 4, none⟩ = some (.int .i64 to)
  c5 : W.cell? ⟨b + 1, 5, none⟩ = some (.bool lg)
  c6 : W.cell? ⟨b + 1, 6, none⟩ = some (.slice (some ⟨b, 0, none⟩) L L)
  c7 : W.cell? ⟨b + 1, 7, none⟩ = some bv
  f : W.frozen? ⟨b + 1, 7, none⟩ = false
  n0 : b < W.heap.size
  n1 : b + 1 < W.heap.size
theorem TwAt.cells (h : TwAt W b N M L u0 u1 u2 ib to lg bv S) {i j q : Nat} (hi : i < N) (hj : j < M) (hq : j * N + i = q) : TwCells W b L u0 ib to lg bv q (S.seen ((i : Int), (j : Int))) := by
  obtain ⟨h1, ⟨cs, h2, h3⟩, h4⟩ := h
  subst hq
  exact ⟨by rw [cell_of_blk h2, h3.2 i j hi hj], frozenOf h2 _, by rw [cell_of_blk h1]; rfl, by rw [cell_of_blk h1]; rfl, by rw [cell_of_blk h1]; rfl, by rw [cell_of_blk h1]; rfl, by rw [cell_of_blk h1]; rfl, by rw [cell_of_blk h1]; rfl, frozenOf h1 _, heap_lt h2, heap_lt h1⟩
end
def TwPost (b N M L : Nat) (u0 u1 u2 : Value) (ib : Nat) (to : Int) (lg : Bool) (S' : Wk (Int × Int)) (W : World) (e : Ending) (W' : World) : Prop := e = .returned (.tuple #[]) ∧ (∃ bv, TwAt W' b N M L u0 u1 u2 ib to lg bv S') ∧ Kp b W W'
structure CtxT (p : Pg) (b L : Nat) (u0 u1 u2 : Value) (ib : Nat) (cs : List Int) (w0 : World) : Prop where
  pg : PgC (fun k => k < b) w0 p [u0, u1, u2]
  inp : RefB (fun k => k < b) w0 ib cs
  size : b ≤ w0.heap.size
  chk : checkS rightR p = 0
  len : L = p.ins.length * (cs.length + 1)
def ThroughOK (p : Pg) (b L : Nat) (u0 u1 u2 : Value) (ib : Nat) (cs : List Int) (to : Int) (lg : Bool) (w0 : World) (n : Nat) : Prop :=
  ∀ (i j : Nat) (c : List Int) (fv : Value) (S : Wk (Int × Int)) (bv : Value) (W : World), i < p.ins.length → j ≤ cs.length + 1 → TwAt W b p.ins.length (cs.length + 1) L u0 u1 u2 ib to lg bv S → FitT W b fv c → (c.length : Int) = p.caps → Below b w0 W → left (allP p (cs.length + 1)) S < n →
    Calls Tryd.prog 43 #[.pointer (some ⟨b + 1, 0, none⟩), .int .i64 i, .int .i64 j, fv] W (TwPost b p.ins.length (cs.length + 1) L u0 u1 u2 ib to lg (if to < j then S else come (grP p (codeAt cs) (docAt cs) to lg) n ((i : Int), (j : Int)) c S) W)
set_option maxRecDepth 100000 in
set_option maxHeartbeats 4000000 in
theorem tw_early_far (p : Pg) (b L : Nat) (u0 u1 u2 : Value) (ib : Nat) (cs : List Int) (to : Int) (lg : Bool) (w0 : World) (C : CtxT p b L u0 u1 u2 ib cs w0) (n : Nat) (hto : to ≤ cs.length)
    (i j : Nat) (c : List Int) (fv : Value) (S : Wk (Int × Int)) (bv : Value) (W : World) (hi : i < p.ins.length) (hjM : j ≤ cs.length + 1) (hj : to < j) (h : TwAt W b p.ins.length (cs.length + 1) L u0 u1 u2 ib to lg bv S) (hf : FitT W b fv c) (hcl : (c.length : Int) = p.caps) (hB : Below b w0 W) (hlt : left (allP p (cs.length + 1)) S < n + 1) :
    Calls Tryd.prog 43 #[.pointer (some ⟨b + 1, 0, none⟩), .int .i64 i, .int .i64 j, fv] W (TwPost b p.ins.length (cs.length + 1) L u0 u1 u2 ib to lg (S) W) := by
  have hck := check_ok C.chk
  have hN : p.ins.length ≤ 10000 := hck.2.1
  have hcsl : cs.length ≤ 1000000 := by obtain ⟨_, _, _, _, h9, _⟩ := C.inp; exact h9
  obtain ⟨Z, hZ⟩ : ∃ Z, j * p.ins.length = Z := ⟨_, rfl⟩
  obtain ⟨q, hq⟩ : ∃ q, Z + i = q := ⟨_, rfl⟩
  have hZb : Z ≤ 1000001 * 10000 := by rw [← hZ]; exact Nat.mul_le_mul (by omega) hN
  have hw1 : IntKind.i64.wrap ((j : Int) * (p.ins.length : Int)) = (Z : Int) := by rw [show (j : Int) * (p.ins.length : Int) = (Z : Int) by rw [← hZ]; simp]; exact IntWalk.i64_in _ (by omega)
  have hw2 : IntKind.i64.wrap ((Z : Int) + (i : Int)) = (q : Int) := by rw [show (Z : Int) + (i : Int) = (q : Int) by omega]; exact IntWalk.i64_in _ (by omega)
  obtain ⟨F, cf, rfl, hf1, hf2, hf3⟩ := hf
  obtain ⟨ad, ci, B3, d3, hps, hc1, hcm, hd3, hd3m, hadb, hins⟩ := ins_at C.pg C.size i hi
  simp only [List.cons.injEq, and_true] at hps
  obtain ⟨rfl, rfl, rfl⟩ := hps
  have dj : decide (to < (j : Int)) = true := decide_eq_true hj
  have c0 : W.cell? ⟨b + 1, 0, none⟩ = some (.slice (some ad) p.ins.length ci) := by rw [cell_of_blk h.blk]; rfl
  have c4 : W.cell? ⟨b + 1, 4, none⟩ = some (.int .i64 to) := by rw [cell_of_blk h.blk]; rfl
  have n1 := heap_lt h.blk
  have HA := Lib.hid h
  clear h hf3 hB C hins hlt hck hZ hq
  go_enter Tryd.func43, Tryd.ntmps43
  go_wp2_with fail
  go_end0
  exact ⟨rfl, ⟨_, HA.out⟩, Kp.refl _ _⟩
set_option maxRecDepth 100000 in
set_option maxHeartbeats 4000000 in
theorem tw_early_seen (p : Pg) (b L : Nat) (u0 u1 u2 : Value) (ib : Nat) (cs : List Int) (to : Int) (lg : Bool) (w0 : World) (C : CtxT p b L u0 u1 u2 ib cs w0) (n : Nat) (hto : to ≤ cs.length)
    (i j : Nat) (c : List Int) (fv : Value) (S : Wk (Int × Int)) (bv : Value) (W : World) (hi : i < p.ins.length) (hj : (j : Int) ≤ to) (h : TwAt W b p.ins.length (cs.length + 1) L u0 u1 u2 ib to lg bv S) (hf : FitT W b fv c) (hcl : (c.length : Int) = p.caps) (hB : Below b w0 W) (hlt : left (allP p (cs.length + 1)) S < n + 1) (hs : S.seen ((i : Int), (j : Int)) = true) :
    Calls Tryd.prog 43 #[.pointer (some ⟨b + 1, 0, none⟩), .int .i64 i, .int .i64 j, fv] W (TwPost b p.ins.length (cs.length + 1) L u0 u1 u2 ib to lg (S) W) := by
  have hck := check_ok C.chk
  have hN : p.ins.length ≤ 10000 := hck.2.1
  have hcsl : cs.length ≤ 1000000 := by obtain ⟨_, _, _, _, h9, _⟩ := C.inp; exact h9
  obtain ⟨Z, hZ⟩ : ∃ Z, j * p.ins.length = Z := ⟨_, rfl⟩
  obtain ⟨q, hq⟩ : ∃ q, Z + i = q := ⟨_, rfl⟩
  have hZb : Z ≤ 1000001 * 10000 := by rw [← hZ]; exact Nat.mul_le_mul (by omega) hN
  have hw1 : IntKind.i64.wrap ((j : Int) * (p.ins.length : Int)) = (Z : Int) := by rw [show (j : Int) * (p.ins.length : Int) = (Z : Int) by rw [← hZ]; simp]; exact IntWalk.i64_in _ (by omega)
  have hw2 : IntKind.i64.wrap ((Z : Int) + (i : Int)) = (q : Int) := by rw [show (Z : Int) + (i : Int) = (q : Int) by omega]; exact IntWalk.i64_in _ (by omega)
  obtain ⟨F, cf, rfl, hf1, hf2, hf3⟩ := hf
  obtain ⟨ad, ci, B3, d3, hps, hc1, hcm, hd3, hd3m, hadb, hins⟩ := ins_at C.pg C.size i hi
  simp only [List.cons.injEq, and_true] at hps
  obtain ⟨rfl, rfl, rfl⟩ := hps
  have hjM : j < cs.length + 1 := by omega
  have hqe : j * p.ins.length + i = q := by omega
  have hqL : q < L := by rw [C.len, ← hqe]; exact place_lt hi hjM
  have dj : decide (to < (j : Int)) = false := decide_eq_false (by omega)
  obtain ⟨s0, sf, c0, c3, c4, c5, c6, c7, f7, n0, n1⟩ := h.cells hi hjM hqe
  rw [hs] at s0
  have HA := Lib.hid h
  clear h hf3 hB C hins hlt hck hZ hq
  go_enter Tryd.func43, Tryd.ntmps43
  go_wp2_with fail
  go_end0
  exact ⟨rfl, ⟨_, HA.out⟩, Kp.refl _ _⟩
set_option maxRecDepth 100000 in
set_option maxHeartbeats 4000000 in
theorem tw_early_halt (p : Pg) (b L : Nat) (u0 u1 u2 : Value) (ib : Nat) (cs : List Int) (to : Int) (w0 : World) (C : CtxT p b L u0 u1 u2 ib cs w0) (n : Nat) (hto : to ≤ cs.length)
    (i j : Nat) (c : List Int) (fv : Value) (S : Wk (Int × Int)) (bv : Value) (W : World) (hi : i < p.ins.length) (hj : (j : Int) ≤ to) (h : TwAt W b p.ins.length (cs.length + 1) L u0 u1 u2 ib to false bv S) (hf : FitT W b fv c) (hcl : (c.length : Int) = p.caps) (hB : Below b w0 W) (hlt : left (allP p (cs.length + 1)) S < n + 1) (hns : S.seen ((i : Int), (j : Int)) = false) (l0 : List Int) (hbs : S.best = some l0) :
    Calls Tryd.prog 43 #[.pointer (some ⟨b + 1, 0, none⟩), .int .i64 i, .int .i64 j, fv] W (TwPost b p.ins.length (cs.length + 1) L u0 u1 u2 ib to false (S) W) := by
  have hck := check_ok C.chk
  have hN : p.ins.length ≤ 10000 := hck.2.1
  have hcsl : cs.length ≤ 1000000 := by obtain ⟨_, _, _, _, h9, _⟩ := C.inp; exact h9
  obtain ⟨Z, hZ⟩ : ∃ Z, j * p.ins.length = Z := ⟨_, rfl⟩
  obtain ⟨q, hq⟩ : ∃ q, Z + i = q := ⟨_, rfl⟩
  have hZb : Z ≤ 1000001 * 10000 := by rw [← hZ]; exact Nat.mul_le_mul (by omega) hN
  have hw1 : IntKind.i64.wrap ((j : Int) * (p.ins.length : Int)) = (Z : Int) := by rw [show (j : Int) * (p.ins.length : Int) = (Z : Int) by rw [← hZ]; simp]; exact IntWalk.i64_in _ (by omega)
  have hw2 : IntKind.i64.wrap ((Z : Int) + (i : Int)) = (q : Int) := by rw [show (Z : Int) + (i : Int) = (q : Int) by omega]; exact IntWalk.i64_in _ (by omega)
  obtain ⟨F, cf, rfl, hf1, hf2, hf3⟩ := hf
  obtain ⟨ad, ci, B3, d3, hps, hc1, hcm, hd3, hd3m, hadb, hins⟩ := ins_at C.pg C.size i hi
  simp only [List.cons.injEq, and_true] at hps
  obtain ⟨rfl, rfl, rfl⟩ := hps
  have hjM : j < cs.length + 1 := by omega
  have hqe : j * p.ins.length + i = q := by omega
  have hqL : q < L := by rw [C.len, ← hqe]; exact place_lt hi hjM
  have dj : decide (to < (j : Int)) = false := decide_eq_false (by omega)
  obtain ⟨s0, sf, c0, c3, c4, c5, c6, c7, f7, n0, n1⟩ := h.cells hi hjM hqe
  rw [hns] at s0
  obtain ⟨Ab, cb, rfl, hb1, hb2, hb3, hb4⟩ : ∃ Ab cb, bv = .slice (some Ab) l0.length cb ∧ l0.length ≤ cb ∧ cb ≤ maxLen ∧ Arr (fun k => k ≠ b ∧ k ≠ b + 1) W 1 (IntC .i64) (some Ab) l0 ∧ 2 ≤ l0.length := by
    have h9 := h.best
    rw [hbs] at h9
    obtain ⟨⟨A, c9, k1, k2, k3, k4⟩, k5⟩ := h9
    obtain ⟨A2, rfl, _⟩ := ints_at k4 0 (by omega)
    exact ⟨A2, c9, k1, k2, k3, k4, k5⟩
  have HA := Lib.hid h
  clear h hf3 hB C hins hlt hck hZ hq
  clear hb3 hbs
  go_enter Tryd.func43, Tryd.ntmps43
  go_wp2_with fail
  go_end0
  exact ⟨rfl, ⟨_, HA.out⟩, Kp.refl _ _⟩
set_option maxRecDepth 100000 in
set_option maxHeartbeats 4000000 in
theorem tw_fail_n (p : Pg) (b L : Nat) (u0 u1 u2 : Value) (ib : Nat) (cs : List Int) (to : Int) (lg : Bool) (w0 : World) (C : CtxT p b L u0 u1 u2 ib cs w0) (n : Nat) (hto : to ≤ cs.length)
    (i j : Nat) (c : List Int) (fv : Value) (S : Wk (Int × Int)) (bv : Value) (W : World) (hi : i < p.ins.length) (hj : (j : Int) ≤ to) (h : TwAt W b p.ins.length (cs.length + 1) L u0 u1 u2 ib to lg bv S) (hf : FitT W b fv c) (hcl : (c.length : Int) = p.caps) (hB : Below b w0 W) (hlt : left (allP p (cs.length + 1)) S < n + 1) (hns : S.seen ((i : Int), (j : Int)) = false) (hbn : S.best = none) (ho : (p.get i).op ≠ 1 ∧ (p.get i).op ≠ 2 ∧ (p.get i).op ≠ 3 ∧ (p.get i).op ≠ 4 ∧ (p.get i).op ≠ 5) :
    Calls Tryd.prog 43 #[.pointer (some ⟨b + 1, 0, none⟩), .int .i64 i, .int .i64 j, fv] W (TwPost b p.ins.length (cs.length + 1) L u0 u1 u2 ib to lg (come (grP p (codeAt cs) (docAt cs) to lg) (n + 1) ((i : Int), (j : Int)) c S) W) := by
  have hck := check_ok C.chk
  have hN : p.ins.length ≤ 10000 := hck.2.1
  have hcsl : cs.length ≤ 1000000 := by obtain ⟨_, _, _, _, h9, _⟩ := C.inp; exact h9
  obtain ⟨Z, hZ⟩ : ∃ Z, j * p.ins.length = Z := ⟨_, rfl⟩
  obtain ⟨q, hq⟩ : ∃ q, Z + i = q := ⟨_, rfl⟩
  have hZb : Z ≤ 1000001 * 10000 := by rw [← hZ]; exact Nat.mul_le_mul (by omega) hN
  have hw1 : IntKind.i64.wrap ((j : Int) * (p.ins.length : Int)) = (Z : Int) := by rw [show (j : Int) * (p.ins.length : Int) = (Z : Int) by rw [← hZ]; simp]; exact IntWalk.i64_in _ (by omega)
  have hw2 : IntKind.i64.wrap ((Z : Int) + (i : Int)) = (q : Int) := by rw [show (Z : Int) + (i : Int) = (q : Int) by omega]; exact IntWalk.i64_in _ (by omega)
  obtain ⟨F, cf, rfl, hf1, hf2, hf3⟩ := hf
  obtain ⟨ad, ci, B3, d3, hps, hc1, hcm, hd3, hd3m, hadb, hins⟩ := ins_at C.pg C.size i hi
  simp only [List.cons.injEq, and_true] at hps
  obtain ⟨rfl, rfl, rfl⟩ := hps
  have hjM : j < cs.length + 1 := by omega
  have hqe : j * p.ins.length + i = q := by omega
  have hqL : q < L := by rw [C.len, ← hqe]; exact place_lt hi hjM
  have dj : decide (to < (j : Int)) = false := decide_eq_false (by omega)
  obtain ⟨s0, sf, c0, c3, c4, c5, c6, c7, f7, n0, n1⟩ := h.cells hi hjM hqe
  obtain rfl : bv = .slice none 0 0 := by have h9 := h.best; rw [hbn] at h9; exact h9
  have hh0 : halts (grP p (codeAt cs) (docAt cs) to lg) S = false := by unfold halts; rw [hbn]; rfl
  obtain ⟨SR, hSR⟩ : ∃ SR, come (grP p (codeAt cs) (docAt cs) to lg) (n + 1) ((i : Int), (j : Int)) c S = SR := ⟨_, rfl⟩
  rw [hSR]
  rw [come_none hh0 hns ho] at hSR
  rw [hns] at s0
  have h1 := h.mark (S := S) hi hjM
  rw [hqe] at h1
  have hK1 := (Kp.refl b W).set0 q (.bool true)
  have hB1 := hB.trans (hK1.below (by have := hB.size; have := C.size; omega))
  obtain ⟨hset, g0, g1, g2, g3, g4⟩ := hins _ hB1
  obtain ⟨_, k0, k1, k2, k3, k4⟩ := hins _ hB
  have hnb : ((ad.add (i * 5)).block = b) = False := by rw [add_block]; simp; omega
  have hge := get_eq p i hi
  have hgd := check_good C.chk (⟨by omega, by omega⟩ : Pc p i)
  obtain ⟨qs, qsf, q0, q3, q4, q5, q6, q7, qf7, m0, m1⟩ := h1.cells hi hjM hqe
  have hinp := C.inp.move (w' := W.setCell ⟨b, q, none⟩ (.bool true)) (ok' := fun k => k < b) (fun k hk hlt => ⟨hB1.block k hk, hk⟩)
  have hfit1 : FitT (W.setCell ⟨b, q, none⟩ (.bool true)) b (.slice F c.length cf) c := FitT.kp ⟨F, cf, rfl, hf1, hf2, hf3⟩ hK1
  have hcap : p.caps ≤ 4002 ∧ 2 ≤ p.caps := ⟨hck.2.2.2.2.1, hck.2.2.2.1⟩
  have hl1 : left (allP p (cs.length + 1)) (markW ((i : Int), (j : Int)) S) < n := by have h9 := left_mark hns (allP p (cs.length + 1)) (allP_iff.2 ⟨⟨by omega, by omega⟩, by omega, by omega⟩); omega
  have HS := Lib.hid (And.intro hB1 (And.intro hK1 (And.intro hset (And.intro hl1 C.chk))))
  have H1 := Lib.hid h1
  have HFT := Lib.hid hfit1
  have HIN := Lib.hid hinp
  clear h h1 hK1 hB1 hset hinp hfit1 hB hlt hns hck hl1 hins hqe hZ hq hh0 hbn
  try rw [hge] at ho
  try rw [hge] at hgd
  try rw [hge] at hh
  try dsimp only at hSR
  try rw [hge] at hSR
  have HSR := Lib.hid hSR
  clear hSR hge C hf3
  generalize p.ins[i] = x at *
  have o1 : (x.op == 1) = false := by simp; omega
  have o2 : (x.op == 2) = false := by simp; omega
  have o3 : (x.op == 3) = false := by simp; omega
  have o4 : (x.op == 4) = false := by simp; omega
  have o5 : (x.op == 5) = false := by simp; omega
  have HO := Lib.hid (And.intro ho hgd)
  clear ho hgd
  go_enter Tryd.func43, Tryd.ntmps43
  go_wp2_with fail
  go_end0
  exact ⟨rfl, ⟨_, by rw [← HSR.out]; exact H1.out.below (below_al (Below.refl _ _) _)⟩, HS.out.2.1.alloc _⟩
set_option maxRecDepth 100000 in
set_option maxHeartbeats 4000000 in
theorem tw_setyes_n (p : Pg) (b L : Nat) (u0 u1 u2 : Value) (ib : Nat) (cs : List Int) (to : Int) (lg : Bool) (w0 : World) (C : CtxT p b L u0 u1 u2 ib cs w0) (n : Nat) (ih : ThroughOK p b L u0 u1 u2 ib cs to lg w0 n) (hto : to ≤ cs.length)
    (i j : Nat) (c : List Int) (fv : Value) (S : Wk (Int × Int)) (bv : Value) (W : World) (hi : i < p.ins.length) (hj : (j : Int) ≤ to) (h : TwAt W b p.ins.length (cs.length + 1) L u0 u1 u2 ib to lg bv S) (hf : FitT W b fv c) (hcl : (c.length : Int) = p.caps) (hB : Below b w0 W) (hlt : left (allP p (cs.length + 1)) S < n + 1) (hns : S.seen ((i : Int), (j : Int)) = false) (hbn : S.best = none) (ho : (p.get i).op = 2) (hh : hasB (p.get i).set (codeAt cs j) = true) :
    Calls Tryd.prog 43 #[.pointer (some ⟨b + 1, 0, none⟩), .int .i64 i, .int .i64 j, fv] W (TwPost b p.ins.length (cs.length + 1) L u0 u1 u2 ib to lg (come (grP p (codeAt cs) (docAt cs) to lg) (n + 1) ((i : Int), (j : Int)) c S) W) := by
  have hck := check_ok C.chk
  have hN : p.ins.length ≤ 10000 := hck.2.1
  have hcsl : cs.length ≤ 1000000 := by obtain ⟨_, _, _, _, h9, _⟩ := C.inp; exact h9
  obtain ⟨Z, hZ⟩ : ∃ Z, j * p.ins.length = Z := ⟨_, rfl⟩
  obtain ⟨q, hq⟩ : ∃ q, Z + i = q := ⟨_, rfl⟩
  have hZb : Z ≤ 1000001 * 10000 := by rw [← hZ]; exact Nat.mul_le_mul (by omega) hN
  have hw1 : IntKind.i64.wrap ((j : Int) * (p.ins.length : Int)) = (Z : Int) := by rw [show (j : Int) * (p.ins.length : Int) = (Z : Int) by rw [← hZ]; simp]; exact IntWalk.i64_in _ (by omega)
  have hw2 : IntKind.i64.wrap ((Z : Int) + (i : Int)) = (q : Int) := by rw [show (Z : Int) + (i : Int) = (q : Int) by omega]; exact IntWalk.i64_in _ (by omega)
  obtain ⟨F, cf, rfl, hf1, hf2, hf3⟩ := hf
  obtain ⟨ad, ci, B3, d3, hps, hc1, hcm, hd3, hd3m, hadb, hins⟩ := ins_at C.pg C.size i hi
  simp only [List.cons.injEq, and_true] at hps
  obtain ⟨rfl, rfl, rfl⟩ := hps
  have hjM : j < cs.length + 1 := by omega
  have hqe : j * p.ins.length + i = q := by omega
  have hqL : q < L := by rw [C.len, ← hqe]; exact place_lt hi hjM
  have dj : decide (to < (j : Int)) = false := decide_eq_false (by omega)
  obtain ⟨s0, sf, c0, c3, c4, c5, c6, c7, f7, n0, n1⟩ := h.cells hi hjM hqe
  obtain rfl : bv = .slice none 0 0 := by have h9 := h.best; rw [hbn] at h9; exact h9
  have hh0 : halts (grP p (codeAt cs) (docAt cs) to lg) S = false := by unfold halts; rw [hbn]; rfl
  obtain ⟨SR, hSR⟩ : ∃ SR, come (grP p (codeAt cs) (docAt cs) to lg) (n + 1) ((i : Int), (j : Int)) c S = SR := ⟨_, rfl⟩
  rw [hSR]
  rw [come_set hh0 hns ho] at hSR
  rw [hns] at s0
  have h1 := h.mark (S := S) hi hjM
  rw [hqe] at h1
  have hK1 := (Kp.refl b W).set0 q (.bool true)
  have hB1 := hB.trans (hK1.below (by have := hB.size; have := C.size; omega))
  obtain ⟨hset, g0, g1, g2, g3, g4⟩ := hins _ hB1
  obtain ⟨_, k0, k1, k2, k3, k4⟩ := hins _ hB
  have hnb : ((ad.add (i * 5)).block = b) = False := by rw [add_block]; simp; omega
  have hge := get_eq p i hi
  have hgd := check_good C.chk (⟨by omega, by omega⟩ : Pc p i)
  obtain ⟨qs, qsf, q0, q3, q4, q5, q6, q7, qf7, m0, m1⟩ := h1.cells hi hjM hqe
  have hinp := C.inp.move (w' := W.setCell ⟨b, q, none⟩ (.bool true)) (ok' := fun k => k < b) (fun k hk hlt => ⟨hB1.block k hk, hk⟩)
  have hfit1 : FitT (W.setCell ⟨b, q, none⟩ (.bool true)) b (.slice F c.length cf) c := FitT.kp ⟨F, cf, rfl, hf1, hf2, hf3⟩ hK1
  have hcap : p.caps ≤ 4002 ∧ 2 ≤ p.caps := ⟨hck.2.2.2.2.1, hck.2.2.2.1⟩
  have hl1 : left (allP p (cs.length + 1)) (markW ((i : Int), (j : Int)) S) < n := by have h9 := left_mark hns (allP p (cs.length + 1)) (allP_iff.2 ⟨⟨by omega, by omega⟩, by omega, by omega⟩); omega
  have HS := Lib.hid (And.intro hB1 (And.intro hK1 (And.intro hset (And.intro hl1 C.chk))))
  have H1 := Lib.hid h1
  have HFT := Lib.hid hfit1
  have HIN := Lib.hid hinp
  have HQE := Lib.hid hqe
  have hout := (check_leads HS.out.2.2.2.2 (i : Int) ⟨by omega, by omega⟩).1 (.inl ho)
  rw [get_eq p i hi] at hout
  have ih1 := fun fv W => ih p.ins[i].out.toNat (j + 1) c fv (markW ((i : Int), (j : Int)) S) (.slice none 0 0) W (by have := hout.1; have := hout.2; omega) (by omega)
  have HI := Lib.hid ih1
  have HOU := Lib.hid hout
  clear ih1 hout
  clear h h1 hK1 hB1 hset hinp hfit1 hB hlt hns hck hl1 hins hqe hZ hq hh0 hbn ih
  try rw [hge] at ho
  try rw [hge] at hgd
  try rw [hge] at hh
  try dsimp only at hSR
  try rw [hge] at hSR
  have HSR := Lib.hid hSR
  clear hSR hge C hf3
  generalize p.ins[i] = x at *
  have o1 : (x.op == 1) = false := by rw [ho]; rfl
  have o2 : (x.op == 2) = true := by rw [ho]; rfl
  have o3 : (x.op == 3) = false := by rw [ho]; rfl
  have o4 : (x.op == 4) = false := by rw [ho]; rfl
  have o5 : (x.op == 5) = false := by rw [ho]; rfl
  have HO := Lib.hid (And.intro ho hgd)
  clear ho hgd
  have HH := Lib.hid hh
  clear hh
  go_enter Tryd.func43, Tryd.ntmps43
  go_wp2_with fail
  obtain ⟨X, hX⟩ : ∃ X, ((W.setCell ⟨b, q, none⟩ (.bool true)).alloc (.cells #[.int .i64 x.op, .int .i64 x.out, .int .i64 x.arg, .slice B3 x.set.length d3, .int .i64 x.at_] 64)) = X := ⟨_, rfl⟩
  have hsz : (W.setCell ⟨b, q, none⟩ (.bool true)).heap.size = W.heap.size := by simp [World.setCell]
  have hx0 := heap_new1 (W.setCell ⟨b, q, none⟩ (.bool true)) (.cells #[.int .i64 x.op, .int .i64 x.out, .int .i64 x.arg, .slice B3 x.set.length d3, .int .i64 x.at_] 64)
  rw [hsz, hX] at hx0
  have hxS := heap_lt hx0
  have hX1 := H1.out.below (below_al (Below.refl _ _) (.cells #[.int .i64 x.op, .int .i64 x.out, .int .i64 x.arg, .slice B3 x.set.length d3, .int .i64 x.at_] 64))
  have hXB : Below (W.setCell ⟨b, q, none⟩ (.bool true)).heap.size (W.setCell ⟨b, q, none⟩ (.bool true)) X := by rw [← hX]; exact below_al (Below.refl _ _) _
  rw [hX] at hX1
  obtain ⟨x0, x1, x2, x3, x4⟩ := cells5 hx0
  clear qs qsf q0 q3 q4 q5 q6 q7 qf7 m0 m1 g0 g1 g2 g3 g4 k0 k1 k2 k3 k4 s0 sf c0 c3 c4 c5 c6 c7 f7 hnb
  obtain ⟨qs, qsf, q0, q3, q4, q5, q6, q7, qf7, m0, m1⟩ := hX1.cells hi hjM HQE.out
  have hKX := HS.out.2.1.trans (Kp.of_below hXB)
  have hBX := HS.out.1.trans (hXB.mono (by rw [hsz]; omega))
  have hFX := HFT.out.kp (Kp.of_below hXB)
  rw [hX]
  have hin2 := HIN.out.move (w' := X) (ok' := fun k => k < b) (fun k hk hlt => ⟨hXB.block k hlt, hk⟩)
  have hset2 := HS.out.2.2.1.move (w' := X) (ok' := fun k => k < b) (fun k hk hlt => ⟨hXB.block k hlt, hk⟩) (by omega)
  have HSZ : Hid (b ≤ X.heap.size) := Lib.hid (by omega)
  have HX := Lib.hid (And.intro hX1 (And.intro hin2 (And.intro hset2 (And.intro hKX (And.intro hBX hFX)))))
  clear hX hX1 hin2 hset2 hKX hBX hFX hXB
  refine wp_region_scr (fun W' => Below X.heap.size X W') [(true, 0, 97), (true, 1, 98), (true, 2, 99), (true, 3, 100), (true, 4, 101), (true, 5, 102), (true, 6, 103), (false, 7, 104), (false, 8, 105)] (by kernel_rfl) (by kernel_rfl) (fun _ _ _ _ _ h => h) rfl (by kernel_rfl) ?_
  have HV := Lib.hid (show Below X.heap.size X X.drew from (Below.refl _ _).drew)
  refine Scr.take (v := .pointer (some ⟨W.heap.size, 3, none⟩)) rfl rfl (yw_pure (by rfl) (fun _ => by go_simp)) HV.out ?_
  simp only [Act.put, List.setIfInBounds_toArray, List.set_cons_zero, List.set_cons_succ]
  refine Scr.take (v := .slice B3 x.set.length d3) rfl rfl (yw_cell 61 _ rfl ⟨W.heap.size, 3, none⟩ (.slice B3 x.set.length d3) rfl (by rfl) _ Tryd.underlying61 rfl (fun W hS => (World.cell?_of_block (hS.block _ hxS)).trans x3)) HV.out ?_
  simp only [Act.put, List.setIfInBounds_toArray, List.set_cons_zero, List.set_cons_succ]
  refine Scr.take (v := .pointer (some ⟨b + 1, 0, none⟩)) rfl rfl (yw_pure (by rfl) (fun _ => by go_simp)) HV.out ?_
  simp only [Act.put, List.setIfInBounds_toArray, List.set_cons_zero, List.set_cons_succ]
  refine Scr.take (v := .pointer (some ⟨b + 1, 0, none⟩)) rfl rfl (yw_pure (by rfl) (fun _ => by go_simp)) HV.out ?_
  simp only [Act.put, List.setIfInBounds_toArray, List.set_cons_zero, List.set_cons_succ]
  refine Scr.take (v := .pointer (some ⟨b + 1, 3, none⟩)) rfl rfl (yw_pure (by rfl) (fun _ => by go_simp)) HV.out ?_
  simp only [Act.put, List.setIfInBounds_toArray, List.set_cons_zero, List.set_cons_succ]
  refine Scr.take (v := .pointer (some ⟨ib, 0, none⟩)) rfl rfl (yw_cell 50 _ rfl ⟨b + 1, 3, none⟩ (.pointer (some ⟨ib, 0, none⟩)) rfl (by rfl) _ Tryd.underlying50 rfl (fun W hS => (World.cell?_of_block (hS.block _ m1)).trans q3)) HV.out ?_
  simp only [Act.put, List.setIfInBounds_toArray, List.set_cons_zero, List.set_cons_succ]
  refine Scr.take (v := .int .i64 j) rfl rfl (yw_pure (by rfl) (fun _ => by go_simp)) HV.out ?_
  simp only [Act.put, List.setIfInBounds_toArray, List.set_cons_zero, List.set_cons_succ]
  refine Scr.run rfl (by rfl) (fun K hK => ?_)
  go_simp
  refine (rune01_any (fun k => k < b) X.drew ib cs (HX.out.2.1.move (fun k hk _ => ⟨rfl, hk⟩)) j).mono ?_
  rintro e w3 ⟨rfl, rfl⟩
  dsimp only
  refine hK _ _ HV.out ?_
  clear hK K
  have hhas := has02_any (fun k => k < b) X.drew (codeAt cs j) x.set B3 d3 (HX.out.2.2.1.move (fun k hk _ => ⟨rfl, hk⟩) (by omega)) (by have := setOK_len (HO.out.2.set HO.out.1).1 0 (fun y hy => ((HO.out.2.set HO.out.1).1.1 y hy).1) (by omega); omega)
  refine Scr.run rfl (by rfl) (fun K hK => ?_)
  go_simp
  refine hhas.mono ?_
  clear hhas
  rintro e w4 ⟨rfl, rfl⟩
  dsimp only
  refine hK _ _ HV.out ?_
  clear hK K
  simp only [Scr]
  rw [HH.out]
  obtain ⟨Y, hY⟩ : ∃ Y, X.drew = Y := ⟨_, rfl⟩
  rw [hY] at HV ⊢
  clear hY
  have h4 := HX.out.1.below HV.out
  have y1 := (World.cell?_of_block (HV.out.block _ hxS)).trans x1
  have ny : W.heap.size < Y.heap.size := Nat.lt_of_lt_of_le hxS HV.out.size
  clear qs qsf q0 q3 q4 q5 q6 q7 qf7 m0 m1 x0 x1 x2 x3 x4
  obtain ⟨qs, qsf, q0, q3, q4, q5, q6, q7, qf7, m0, m1⟩ := h4.cells hi hjM HQE.out
  have hfY := HX.out.2.2.2.2.2.kp (Kp.of_below HV.out)
  have hkY := HX.out.2.2.2.1.trans (Kp.of_below HV.out)
  have hbY := HX.out.2.2.2.2.1.trans (HV.out.mono (by have := HX.out.2.2.2.2.1.size; have := HSZ.out; omega))
  have H4 := Lib.hid (And.intro h4 (And.intro hfY (And.intro hkY hbY)))
  clear h4 hfY hkY hbY
  obtain ⟨o, hoe⟩ : ∃ o : Nat, x.out = (o : Int) := ⟨x.out.toNat, by have := HOU.out.1; omega⟩
  rw [hoe] at y1
  rw [hoe, Int.toNat_natCast] at HI
  rw [hoe]
  have hwj : IntKind.i64.wrap ((j : Int) + 1) = ((j + 1 : Nat) : Int) := by rw [IntWalk.i64_in _ (by omega)]; simp
  have HOE := Lib.hid hoe
  clear hoe
  have hcall := HI.out _ Y H4.out.1 H4.out.2.1 hcl H4.out.2.2.2 HS.out.2.2.2.1
  have HP : Hid ((if to < ((j + 1 : Nat) : Int) then markW ((i : Int), (j : Int)) S else come (grP p (codeAt cs) (docAt cs) to lg) n ((o : Int), ((j + 1 : Nat) : Int)) c (markW ((i : Int), (j : Int)) S)) = SR) := Lib.hid (by
    rw [← HSR.out]
    by_cases ct : to < ((j + 1 : Nat) : Int)
    · rw [if_pos ct, if_neg (fun h9 => by have := h9.2; omega)]
    · rw [if_neg ct, if_pos ⟨HH.out, by omega⟩, HOE.out]; simp)
  rw [HP.out] at hcall
  clear HP
  go_wp2_with fail
  refine hcall.mono ?_
  clear hcall
  rintro e w5 ⟨rfl, h5, hk5⟩
  dsimp only
  have H5 := Lib.hid (And.intro h5 (H4.out.2.2.1.trans hk5))
  clear h5 hk5
  go_wp2_with fail
  go_end0
  exact ⟨rfl, H5.out.1, H5.out.2⟩
set_option maxRecDepth 100000 in
set_option maxHeartbeats 4000000 in
theorem tw_setno_n (p : Pg) (b L : Nat) (u0 u1 u2 : Value) (ib : Nat) (cs : List Int) (to : Int) (lg : Bool) (w0 : World) (C : CtxT p b L u0 u1 u2 ib cs w0) (n : Nat) (hto : to ≤ cs.length)
    (i j : Nat) (c : List Int) (fv : Value) (S : Wk (Int × Int)) (bv : Value) (W : World) (hi : i < p.ins.length) (hj : (j : Int) ≤ to) (h : TwAt W b p.ins.length (cs.length + 1) L u0 u1 u2 ib to lg bv S) (hf : FitT W b fv c) (hcl : (c.length : Int) = p.caps) (hB : Below b w0 W) (hlt : left (allP p (cs.length + 1)) S < n + 1) (hns : S.seen ((i : Int), (j : Int)) = false) (hbn : S.best = none) (ho : (p.get i).op = 2) (hh : hasB (p.get i).set (codeAt cs j) = false) :
    Calls Tryd.prog 43 #[.pointer (some ⟨b + 1, 0, none⟩), .int .i64 i, .int .i64 j, fv] W (TwPost b p.ins.length (cs.length + 1) L u0 u1 u2 ib to lg (come (grP p (codeAt cs) (docAt cs) to lg) (n + 1) ((i : Int), (j : Int)) c S) W) := by
  have hck := check_ok C.chk
  have hN : p.ins.length ≤ 10000 := hck.2.1
  have hcsl : cs.length ≤ 1000000 := by obtain ⟨_, _, _, _, h9, _⟩ := C.inp; exact h9
  obtain ⟨Z, hZ⟩ : ∃ Z, j * p.ins.length = Z := ⟨_, rfl⟩
  obtain ⟨q, hq⟩ : ∃ q, Z + i = q := ⟨_, rfl⟩
  have hZb : Z ≤ 1000001 * 10000 := by rw [← hZ]; exact Nat.mul_le_mul (by omega) hN
  have hw1 : IntKind.i64.wrap ((j : Int) * (p.ins.length : Int)) = (Z : Int) := by rw [show (j : Int) * (p.ins.length : Int) = (Z : Int) by rw [← hZ]; simp]; exact IntWalk.i64_in _ (by omega)
  have hw2 : IntKind.i64.wrap ((Z : Int) + (i : Int)) = (q : Int) := by rw [show (Z : Int) + (i : Int) = (q : Int) by omega]; exact IntWalk.i64_in _ (by omega)
  obtain ⟨F, cf, rfl, hf1, hf2, hf3⟩ := hf
  obtain ⟨ad, ci, B3, d3, hps, hc1, hcm, hd3, hd3m, hadb, hins⟩ := ins_at C.pg C.size i hi
  simp only [List.cons.injEq, and_true] at hps
  obtain ⟨rfl, rfl, rfl⟩ := hps
  have hjM : j < cs.length + 1 := by omega
  have hqe : j * p.ins.length + i = q := by omega
  have hqL : q < L := by rw [C.len, ← hqe]; exact place_lt hi hjM
  have dj : decide (to < (j : Int)) = false := decide_eq_false (by omega)
  obtain ⟨s0, sf, c0, c3, c4, c5, c6, c7, f7, n0, n1⟩ := h.cells hi hjM hqe
  obtain rfl : bv = .slice none 0 0 := by have h9 := h.best; rw [hbn] at h9; exact h9
  have hh0 : halts (grP p (codeAt cs) (docAt cs) to lg) S = false := by unfold halts; rw [hbn]; rfl
  obtain ⟨SR, hSR⟩ : ∃ SR, come (grP p (codeAt cs) (docAt cs) to lg) (n + 1) ((i : Int), (j : Int)) c S = SR := ⟨_, rfl⟩
  rw [hSR]
  rw [come_set hh0 hns ho] at hSR
  rw [hns] at s0
  have h1 := h.mark (S := S) hi hjM
  rw [hqe] at h1
  have hK1 := (Kp.refl b W).set0 q (.bool true)
  have hB1 := hB.trans (hK1.below (by have := hB.size; have := C.size; omega))
  obtain ⟨hset, g0, g1, g2, g3, g4⟩ := hins _ hB1
  obtain ⟨_, k0, k1, k2, k3, k4⟩ := hins _ hB
  have hnb : ((ad.add (i * 5)).block = b) = False := by rw [add_block]; simp; omega
  have hge := get_eq p i hi
  have hgd := check_good C.chk (⟨by omega, by omega⟩ : Pc p i)
  obtain ⟨qs, qsf, q0, q3, q4, q5, q6, q7, qf7, m0, m1⟩ := h1.cells hi hjM hqe
  have hinp := C.inp.move (w' := W.setCell ⟨b, q, none⟩ (.bool true)) (ok' := fun k => k < b) (fun k hk hlt => ⟨hB1.block k hk, hk⟩)
  have hfit1 : FitT (W.setCell ⟨b, q, none⟩ (.bool true)) b (.slice F c.length cf) c := FitT.kp ⟨F, cf, rfl, hf1, hf2, hf3⟩ hK1
  have hcap : p.caps ≤ 4002 ∧ 2 ≤ p.caps := ⟨hck.2.2.2.2.1, hck.2.2.2.1⟩
  have hl1 : left (allP p (cs.length + 1)) (markW ((i : Int), (j : Int)) S) < n := by have h9 := left_mark hns (allP p (cs.length + 1)) (allP_iff.2 ⟨⟨by omega, by omega⟩, by omega, by omega⟩); omega
  have HS := Lib.hid (And.intro hB1 (And.intro hK1 (And.intro hset (And.intro hl1 C.chk))))
  have H1 := Lib.hid h1
  have HFT := Lib.hid hfit1
  have HIN := Lib.hid hinp
  have HQE := Lib.hid hqe
  clear h h1 hK1 hB1 hset hinp hfit1 hB hlt hns hck hl1 hins hqe hZ hq hh0 hbn
  try rw [hge] at ho
  try rw [hge] at hgd
  try rw [hge] at hh
  try dsimp only at hSR
  try rw [hge] at hSR
  have HSR := Lib.hid hSR
  clear hSR hge C hf3
  generalize p.ins[i] = x at *
  have o1 : (x.op == 1) = false := by rw [ho]; rfl
  have o2 : (x.op == 2) = true := by rw [ho]; rfl
  have o3 : (x.op == 3) = false := by rw [ho]; rfl
  have o4 : (x.op == 4) = false := by rw [ho]; rfl
  have o5 : (x.op == 5) = false := by rw [ho]; rfl
  have HO := Lib.hid (And.intro ho hgd)
  clear ho hgd
  have HH := Lib.hid hh
  clear hh
  go_enter Tryd.func43, Tryd.ntmps43
  go_wp2_with fail
  obtain ⟨X, hX⟩ : ∃ X, ((W.setCell ⟨b, q, none⟩ (.bool true)).alloc (.cells #[.int .i64 x.op, .int .i64 x.out, .int .i64 x.arg, .slice B3 x.set.length d3, .int .i64 x.at_] 64)) = X := ⟨_, rfl⟩
  have hsz : (W.setCell ⟨b, q, none⟩ (.bool true)).heap.size = W.heap.size := by simp [World.setCell]
  have hx0 := heap_new1 (W.setCell ⟨b, q, none⟩ (.bool true)) (.cells #[.int .i64 x.op, .int .i64 x.out, .int .i64 x.arg, .slice B3 x.set.length d3, .int .i64 x.at_] 64)
  rw [hsz, hX] at hx0
  have hxS := heap_lt hx0
  have hX1 := H1.out.below (below_al (Below.refl _ _) (.cells #[.int .i64 x.op, .int .i64 x.out, .int .i64 x.arg, .slice B3 x.set.length d3, .int .i64 x.at_] 64))
  have hXB : Below (W.setCell ⟨b, q, none⟩ (.bool true)).heap.size (W.setCell ⟨b, q, none⟩ (.bool true)) X := by rw [← hX]; exact below_al (Below.refl _ _) _
  rw [hX] at hX1
  obtain ⟨x0, x1, x2, x3, x4⟩ := cells5 hx0
  clear qs qsf q0 q3 q4 q5 q6 q7 qf7 m0 m1 g0 g1 g2 g3 g4 k0 k1 k2 k3 k4 s0 sf c0 c3 c4 c5 c6 c7 f7 hnb
  obtain ⟨qs, qsf, q0, q3, q4, q5, q6, q7, qf7, m0, m1⟩ := hX1.cells hi hjM HQE.out
  have hKX := HS.out.2.1.trans (Kp.of_below hXB)
  have hBX := HS.out.1.trans (hXB.mono (by rw [hsz]; omega))
  have hFX := HFT.out.kp (Kp.of_below hXB)
  rw [hX]
  have hin2 := HIN.out.move (w' := X) (ok' := fun k => k < b) (fun k hk hlt => ⟨hXB.block k hlt, hk⟩)
  have hset2 := HS.out.2.2.1.move (w' := X) (ok' := fun k => k < b) (fun k hk hlt => ⟨hXB.block k hlt, hk⟩) (by omega)
  have HSZ : Hid (b ≤ X.heap.size) := Lib.hid (by omega)
  have HX := Lib.hid (And.intro hX1 (And.intro hin2 (And.intro hset2 (And.intro hKX (And.intro hBX hFX)))))
  clear hX hX1 hin2 hset2 hKX hBX hFX hXB
  refine wp_region_scr (fun W' => Below X.heap.size X W') [(true, 0, 97), (true, 1, 98), (true, 2, 99), (true, 3, 100), (true, 4, 101), (true, 5, 102), (true, 6, 103), (false, 7, 104), (false, 8, 105)] (by kernel_rfl) (by kernel_rfl) (fun _ _ _ _ _ h => h) rfl (by kernel_rfl) ?_
  have HV := Lib.hid (show Below X.heap.size X X.drew from (Below.refl _ _).drew)
  refine Scr.take (v := .pointer (some ⟨W.heap.size, 3, none⟩)) rfl rfl (yw_pure (by rfl) (fun _ => by go_simp)) HV.out ?_
  simp only [Act.put, List.setIfInBounds_toArray, List.set_cons_zero, List.set_cons_succ]
  refine Scr.take (v := .slice B3 x.set.length d3) rfl rfl (yw_cell 61 _ rfl ⟨W.heap.size, 3, none⟩ (.slice B3 x.set.length d3) rfl (by rfl) _ Tryd.underlying61 rfl (fun W hS => (World.cell?_of_block (hS.block _ hxS)).trans x3)) HV.out ?_
  simp only [Act.put, List.setIfInBounds_toArray, List.set_cons_zero, List.set_cons_succ]
  refine Scr.take (v := .pointer (some ⟨b + 1, 0, none⟩)) rfl rfl (yw_pure (by rfl) (fun _ => by go_simp)) HV.out ?_
  simp only [Act.put, List.setIfInBounds_toArray, List.set_cons_zero, List.set_cons_succ]
  refine Scr.take (v := .pointer (some ⟨b + 1, 0, none⟩)) rfl rfl (yw_pure (by rfl) (fun _ => by go_simp)) HV.out ?_
  simp only [Act.put, List.setIfInBounds_toArray, List.set_cons_zero, List.set_cons_succ]
  refine Scr.take (v := .pointer (some ⟨b + 1, 3, none⟩)) rfl rfl (yw_pure (by rfl) (fun _ => by go_simp)) HV.out ?_
  simp only [Act.put, List.setIfInBounds_toArray, List.set_cons_zero, List.set_cons_succ]
  refine Scr.take (v := .pointer (some ⟨ib, 0, none⟩)) rfl rfl (yw_cell 50 _ rfl ⟨b + 1, 3, none⟩ (.pointer (some ⟨ib, 0, none⟩)) rfl (by rfl) _ Tryd.underlying50 rfl (fun W hS => (World.cell?_of_block (hS.block _ m1)).trans q3)) HV.out ?_
  simp only [Act.put, List.setIfInBounds_toArray, List.set_cons_zero, List.set_cons_succ]
  refine Scr.take (v := .int .i64 j) rfl rfl (yw_pure (by rfl) (fun _ => by go_simp)) HV.out ?_
  simp only [Act.put, List.setIfInBounds_toArray, List.set_cons_zero, List.set_cons_succ]
  refine Scr.run rfl (by rfl) (fun K hK => ?_)
  go_simp
  refine (rune01_any (fun k => k < b) X.drew ib cs (HX.out.2.1.move (fun k hk _ => ⟨rfl, hk⟩)) j).mono ?_
  rintro e w3 ⟨rfl, rfl⟩
  dsimp only
  refine hK _ _ HV.out ?_
  clear hK K
  have hhas := has02_any (fun k => k < b) X.drew (codeAt cs j) x.set B3 d3 (HX.out.2.2.1.move (fun k hk _ => ⟨rfl, hk⟩) (by omega)) (by have := setOK_len (HO.out.2.set HO.out.1).1 0 (fun y hy => ((HO.out.2.set HO.out.1).1.1 y hy).1) (by omega); omega)
  refine Scr.run rfl (by rfl) (fun K hK => ?_)
  go_simp
  refine hhas.mono ?_
  clear hhas
  rintro e w4 ⟨rfl, rfl⟩
  dsimp only
  refine hK _ _ HV.out ?_
  clear hK K
  simp only [Scr]
  rw [HH.out]
  obtain ⟨Y, hY⟩ : ∃ Y, X.drew = Y := ⟨_, rfl⟩
  rw [hY] at HV ⊢
  clear hY
  have h4 := HX.out.1.below HV.out
  have y1 := (World.cell?_of_block (HV.out.block _ hxS)).trans x1
  have ny : W.heap.size < Y.heap.size := Nat.lt_of_lt_of_le hxS HV.out.size
  clear qs qsf q0 q3 q4 q5 q6 q7 qf7 m0 m1 x0 x1 x2 x3 x4
  obtain ⟨qs, qsf, q0, q3, q4, q5, q6, q7, qf7, m0, m1⟩ := h4.cells hi hjM HQE.out
  have hfY := HX.out.2.2.2.2.2.kp (Kp.of_below HV.out)
  have hkY := HX.out.2.2.2.1.trans (Kp.of_below HV.out)
  have hbY := HX.out.2.2.2.2.1.trans (HV.out.mono (by have := HX.out.2.2.2.2.1.size; have := HSZ.out; omega))
  have H4 := Lib.hid (And.intro h4 (And.intro hfY (And.intro hkY hbY)))
  clear h4 hfY hkY hbY
  have HP : Hid (markW ((i : Int), (j : Int)) S = SR) := Lib.hid (by rw [← HSR.out, if_neg (fun h9 => by have h8 := h9.1; rw [HH.out] at h8; cases h8)])
  go_wp2_with fail
  go_end0
  exact ⟨rfl, ⟨_, by rw [← HP.out]; exact H4.out.1⟩, H4.out.2.2.1⟩
set_option maxRecDepth 100000 in
set_option maxHeartbeats 4000000 in
theorem tw_fail_s (p : Pg) (b L : Nat) (u0 u1 u2 : Value) (ib : Nat) (cs : List Int) (to : Int) (w0 : World) (C : CtxT p b L u0 u1 u2 ib cs w0) (n : Nat) (hto : to ≤ cs.length)
    (i j : Nat) (c : List Int) (fv : Value) (S : Wk (Int × Int)) (bv : Value) (W : World) (hi : i < p.ins.length) (hj : (j : Int) ≤ to) (h : TwAt W b p.ins.length (cs.length + 1) L u0 u1 u2 ib to true bv S) (hf : FitT W b fv c) (hcl : (c.length : Int) = p.caps) (hB : Below b w0 W) (hlt : left (allP p (cs.length + 1)) S < n + 1) (hns : S.seen ((i : Int), (j : Int)) = false) (l0 : List Int) (hbs : S.best = some l0) (ho : (p.get i).op ≠ 1 ∧ (p.get i).op ≠ 2 ∧ (p.get i).op ≠ 3 ∧ (p.get i).op ≠ 4 ∧ (p.get i).op ≠ 5) :
    Calls Tryd.prog 43 #[.pointer (some ⟨b + 1, 0, none⟩), .int .i64 i, .int .i64 j, fv] W (TwPost b p.ins.length (cs.length + 1) L u0 u1 u2 ib to true (come (grP p (codeAt cs) (docAt cs) to true) (n + 1) ((i : Int), (j : Int)) c S) W) := by
  have hck := check_ok C.chk
  have hN : p.ins.length ≤ 10000 := hck.2.1
  have hcsl : cs.length ≤ 1000000 := by obtain ⟨_, _, _, _, h9, _⟩ := C.inp; exact h9
  obtain ⟨Z, hZ⟩ : ∃ Z, j * p.ins.length = Z := ⟨_, rfl⟩
  obtain ⟨q, hq⟩ : ∃ q, Z + i = q := ⟨_, rfl⟩
  have hZb : Z ≤ 1000001 * 10000 := by rw [← hZ]; exact Nat.mul_le_mul (by omega) hN
  have hw1 : IntKind.i64.wrap ((j : Int) * (p.ins.length : Int)) = (Z : Int) := by rw [show (j : Int) * (p.ins.length : Int) = (Z : Int) by rw [← hZ]; simp]; exact IntWalk.i64_in _ (by omega)
  have hw2 : IntKind.i64.wrap ((Z : Int) + (i : Int)) = (q : Int) := by rw [show (Z : Int) + (i : Int) = (q : Int) by omega]; exact IntWalk.i64_in _ (by omega)
  obtain ⟨F, cf, rfl, hf1, hf2, hf3⟩ := hf
  obtain ⟨ad, ci, B3, d3, hps, hc1, hcm, hd3, hd3m, hadb, hins⟩ := ins_at C.pg C.size i hi
  simp only [List.cons.injEq, and_true] at hps
  obtain ⟨rfl, rfl, rfl⟩ := hps
  have hjM : j < cs.length + 1 := by omega
  have hqe : j * p.ins.length + i = q := by omega
  have hqL : q < L := by rw [C.len, ← hqe]; exact place_lt hi hjM
  have dj : decide (to < (j : Int)) = false := decide_eq_false (by omega)
  obtain ⟨s0, sf, c0, c3, c4, c5, c6, c7, f7, n0, n1⟩ := h.cells hi hjM hqe
  obtain ⟨Ab, cb, rfl, hb1, hb2, hb3, hb4⟩ : ∃ Ab cb, bv = .slice (some Ab) l0.length cb ∧ l0.length ≤ cb ∧ cb ≤ maxLen ∧ Arr (fun k => k ≠ b ∧ k ≠ b + 1) W 1 (IntC .i64) (some Ab) l0 ∧ 2 ≤ l0.length := by
    have h9 := h.best
    rw [hbs] at h9
    obtain ⟨⟨A, c9, k1, k2, k3, k4⟩, k5⟩ := h9
    obtain ⟨A2, rfl, _⟩ := ints_at k4 0 (by omega)
    exact ⟨A2, c9, k1, k2, k3, k4, k5⟩
  have hh0 : halts (grP p (codeAt cs) (docAt cs) to true) S = false := by unfold halts; rw [show (grP p (codeAt cs) (docAt cs) to true).longest = true from rfl]; simp
  obtain ⟨SR, hSR⟩ : ∃ SR, come (grP p (codeAt cs) (docAt cs) to true) (n + 1) ((i : Int), (j : Int)) c S = SR := ⟨_, rfl⟩
  rw [hSR]
  rw [come_none hh0 hns ho] at hSR
  rw [hns] at s0
  have h1 := h.mark (S := S) hi hjM
  rw [hqe] at h1
  have hK1 := (Kp.refl b W).set0 q (.bool true)
  have hB1 := hB.trans (hK1.below (by have := hB.size; have := C.size; omega))
  obtain ⟨hset, g0, g1, g2, g3, g4⟩ := hins _ hB1
  obtain ⟨_, k0, k1, k2, k3, k4⟩ := hins _ hB
  have hnb : ((ad.add (i * 5)).block = b) = False := by rw [add_block]; simp; omega
  have hge := get_eq p i hi
  have hgd := check_good C.chk (⟨by omega, by omega⟩ : Pc p i)
  obtain ⟨qs, qsf, q0, q3, q4, q5, q6, q7, qf7, m0, m1⟩ := h1.cells hi hjM hqe
  have hinp := C.inp.move (w' := W.setCell ⟨b, q, none⟩ (.bool true)) (ok' := fun k => k < b) (fun k hk hlt => ⟨hB1.block k hk, hk⟩)
  have hfit1 : FitT (W.setCell ⟨b, q, none⟩ (.bool true)) b (.slice F c.length cf) c := FitT.kp ⟨F, cf, rfl, hf1, hf2, hf3⟩ hK1
  have hcap : p.caps ≤ 4002 ∧ 2 ≤ p.caps := ⟨hck.2.2.2.2.1, hck.2.2.2.1⟩
  have hl1 : left (allP p (cs.length + 1)) (markW ((i : Int), (j : Int)) S) < n := by have h9 := left_mark hns (allP p (cs.length + 1)) (allP_iff.2 ⟨⟨by omega, by omega⟩, by omega, by omega⟩); omega
  have HS := Lib.hid (And.intro hB1 (And.intro hK1 (And.intro hset (And.intro hl1 C.chk))))
  have H1 := Lib.hid h1
  have HFT := Lib.hid hfit1
  have HIN := Lib.hid hinp
  clear h h1 hK1 hB1 hset hinp hfit1 hB hlt hns hck hl1 hins hqe hZ hq hh0 hbs
  try rw [hge] at ho
  try rw [hge] at hgd
  try rw [hge] at hh
  try dsimp only at hSR
  try rw [hge] at hSR
  have HSR := Lib.hid hSR
  clear hSR hge C hf3
  generalize p.ins[i] = x at *
  have o1 : (x.op == 1) = false := by simp; omega
  have o2 : (x.op == 2) = false := by simp; omega
  have o3 : (x.op == 3) = false := by simp; omega
  have o4 : (x.op == 4) = false := by simp; omega
  have o5 : (x.op == 5) = false := by simp; omega
  have HO := Lib.hid (And.intro ho hgd)
  clear ho hgd
  clear hb3
  go_enter Tryd.func43, Tryd.ntmps43
  go_wp2_with fail
  go_end0
  exact ⟨rfl, ⟨_, by rw [← HSR.out]; exact H1.out.below (below_al (Below.refl _ _) _)⟩, HS.out.2.1.alloc _⟩
set_option maxRecDepth 100000 in
set_option maxHeartbeats 4000000 in
theorem tw_setyes_s (p : Pg) (b L : Nat) (u0 u1 u2 : Value) (ib : Nat) (cs : List Int) (to : Int) (w0 : World) (C : CtxT p b L u0 u1 u2 ib cs w0) (n : Nat) (ih : ThroughOK p b L u0 u1 u2 ib cs to true w0 n) (hto : to ≤ cs.length)
    (i j : Nat) (c : List Int) (fv : Value) (S : Wk (Int × Int)) (bv : Value) (W : World) (hi : i < p.ins.length) (hj : (j : Int) ≤ to) (h : TwAt W b p.ins.length (cs.length + 1) L u0 u1 u2 ib to true bv S) (hf : FitT W b fv c) (hcl : (c.length : Int) = p.caps) (hB : Below b w0 W) (hlt : left (allP p (cs.length + 1)) S < n + 1) (hns : S.seen ((i : Int), (j : Int)) = false) (l0 : List Int) (hbs : S.best = some l0) (ho : (p.get i).op = 2) (hh : hasB (p.get i).set (codeAt cs j) = true) :
    Calls Tryd.prog 43 #[.pointer (some ⟨b + 1, 0, none⟩), .int .i64 i, .int .i64 j, fv] W (TwPost b p.ins.length (cs.length + 1) L u0 u1 u2 ib to true (come (grP p (codeAt cs) (docAt cs) to true) (n + 1) ((i : Int), (j : Int)) c S) W) := by
  have hck := check_ok C.chk
  have hN : p.ins.length ≤ 10000 := hck.2.1
  have hcsl : cs.length ≤ 1000000 := by obtain ⟨_, _, _, _, h9, _⟩ := C.inp; exact h9
  obtain ⟨Z, hZ⟩ : ∃ Z, j * p.ins.length = Z := ⟨_, rfl⟩
  obtain ⟨q, hq⟩ : ∃ q, Z + i = q := ⟨_, rfl⟩
  have hZb : Z ≤ 1000001 * 10000 := by rw [← hZ]; exact Nat.mul_le_mul (by omega) hN
  have hw1 : IntKind.i64.wrap ((j : Int) * (p.ins.length : Int)) = (Z : Int) := by rw [show (j : Int) * (p.ins.length : Int) = (Z : Int) by rw [← hZ]; simp]; exact IntWalk.i64_in _ (by omega)
  have hw2 : IntKind.i64.wrap ((Z : Int) + (i : Int)) = (q : Int) := by rw [show (Z : Int) + (i : Int) = (q : Int) by omega]; exact IntWalk.i64_in _ (by omega)
  obtain ⟨F, cf, rfl, hf1, hf2, hf3⟩ := hf
  obtain ⟨ad, ci, B3, d3, hps, hc1, hcm, hd3, hd3m, hadb, hins⟩ := ins_at C.pg C.size i hi
  simp only [List.cons.injEq, and_true] at hps
  obtain ⟨rfl, rfl, rfl⟩ := hps
  have hjM : j < cs.length + 1 := by omega
  have hqe : j * p.ins.length + i = q := by omega
  have hqL : q < L := by rw [C.len, ← hqe]; exact place_lt hi hjM
  have dj : decide (to < (j : Int)) = false := decide_eq_false (by omega)
  obtain ⟨s0, sf, c0, c3, c4, c5, c6, c7, f7, n0, n1⟩ := h.cells hi hjM hqe
  obtain ⟨Ab, cb, rfl, hb1, hb2, hb3, hb4⟩ : ∃ Ab cb, bv = .slice (some Ab) l0.length cb ∧ l0.length ≤ cb ∧ cb ≤ maxLen ∧ Arr (fun k => k ≠ b ∧ k ≠ b + 1) W 1 (IntC .i64) (some Ab) l0 ∧ 2 ≤ l0.length := by
    have h9 := h.best
    rw [hbs] at h9
    obtain ⟨⟨A, c9, k1, k2, k3, k4⟩, k5⟩ := h9
    obtain ⟨A2, rfl, _⟩ := ints_at k4 0 (by omega)
    exact ⟨A2, c9, k1, k2, k3, k4, k5⟩
  have hh0 : halts (grP p (codeAt cs) (docAt cs) to true) S = false := by unfold halts; rw [show (grP p (codeAt cs) (docAt cs) to true).longest = true from rfl]; simp
  obtain ⟨SR, hSR⟩ : ∃ SR, come (grP p (codeAt cs) (docAt cs) to true) (n + 1) ((i : Int), (j : Int)) c S = SR := ⟨_, rfl⟩
  rw [hSR]
  rw [come_set hh0 hns ho] at hSR
  rw [hns] at s0
  have h1 := h.mark (S := S) hi hjM
  rw [hqe] at h1
  have hK1 := (Kp.refl b W).set0 q (.bool true)
  have hB1 := hB.trans (hK1.below (by have := hB.size; have := C.size; omega))
  obtain ⟨hset, g0, g1, g2, g3, g4⟩ := hins _ hB1
  obtain ⟨_, k0, k1, k2, k3, k4⟩ := hins _ hB
  have hnb : ((ad.add (i * 5)).block = b) = False := by rw [add_block]; simp; omega
  have hge := get_eq p i hi
  have hgd := check_good C.chk (⟨by omega, by omega⟩ : Pc p i)
  obtain ⟨qs, qsf, q0, q3, q4, q5, q6, q7, qf7, m0, m1⟩ := h1.cells hi hjM hqe
  have hinp := C.inp.move (w' := W.setCell ⟨b, q, none⟩ (.bool true)) (ok' := fun k => k < b) (fun k hk hlt => ⟨hB1.block k hk, hk⟩)
  have hfit1 : FitT (W.setCell ⟨b, q, none⟩ (.bool true)) b (.slice F c.length cf) c := FitT.kp ⟨F, cf, rfl, hf1, hf2, hf3⟩ hK1
  have hcap : p.caps ≤ 4002 ∧ 2 ≤ p.caps := ⟨hck.2.2.2.2.1, hck.2.2.2.1⟩
  have hl1 : left (allP p (cs.length + 1)) (markW ((i : Int), (j : Int)) S) < n := by have h9 := left_mark hns (allP p (cs.length + 1)) (allP_iff.2 ⟨⟨by omega, by omega⟩, by omega, by omega⟩); omega
  have HS := Lib.hid (And.intro hB1 (And.intro hK1 (And.intro hset (And.intro hl1 C.chk))))
  have H1 := Lib.hid h1
  have HFT := Lib.hid hfit1
  have HIN := Lib.hid hinp
  have HQE := Lib.hid hqe
  have hout := (check_leads HS.out.2.2.2.2 (i : Int) ⟨by omega, by omega⟩).1 (.inl ho)
  rw [get_eq p i hi] at hout
  have ih1 := fun fv W => ih p.ins[i].out.toNat (j + 1) c fv (markW ((i : Int), (j : Int)) S) (.slice (some Ab) l0.length cb) W (by have := hout.1; have := hout.2; omega) (by omega)
  have HI := Lib.hid ih1
  have HOU := Lib.hid hout
  clear ih1 hout
  clear h h1 hK1 hB1 hset hinp hfit1 hB hlt hns hck hl1 hins hqe hZ hq hh0 hbs ih
  try rw [hge] at ho
  try rw [hge] at hgd
  try rw [hge] at hh
  try dsimp only at hSR
  try rw [hge] at hSR
  have HSR := Lib.hid hSR
  clear hSR hge C hf3
  generalize p.ins[i] = x at *
  have o1 : (x.op == 1) = false := by rw [ho]; rfl
  have o2 : (x.op == 2) = true := by rw [ho]; rfl
  have o3 : (x.op == 3) = false := by rw [ho]; rfl
  have o4 : (x.op == 4) = false := by rw [ho]; rfl
  have o5 : (x.op == 5) = false := by rw [ho]; rfl
  have HO := Lib.hid (And.intro ho hgd)
  clear ho hgd
  clear hb3
  have HH := Lib.hid hh
  clear hh
  go_enter Tryd.func43, Tryd.ntmps43
  go_wp2_with fail
  obtain ⟨X, hX⟩ : ∃ X, ((W.setCell ⟨b, q, none⟩ (.bool true)).alloc (.cells #[.int .i64 x.op, .int .i64 x.out, .int .i64 x.arg, .slice B3 x.set.length d3, .int .i64 x.at_] 64)) = X := ⟨_, rfl⟩
  have hsz : (W.setCell ⟨b, q, none⟩ (.bool true)).heap.size = W.heap.size := by simp [World.setCell]
  have hx0 := heap_new1 (W.setCell ⟨b, q, none⟩ (.bool true)) (.cells #[.int .i64 x.op, .int .i64 x.out, .int .i64 x.arg, .slice B3 x.set.length d3, .int .i64 x.at_] 64)
  rw [hsz, hX] at hx0
  have hxS := heap_lt hx0
  have hX1 := H1.out.below (below_al (Below.refl _ _) (.cells #[.int .i64 x.op, .int .i64 x.out, .int .i64 x.arg, .slice B3 x.set.length d3, .int .i64 x.at_] 64))
  have hXB : Below (W.setCell ⟨b, q, none⟩ (.bool true)).heap.size (W.setCell ⟨b, q, none⟩ (.bool true)) X := by rw [← hX]; exact below_al (Below.refl _ _) _
  rw [hX] at hX1
  obtain ⟨x0, x1, x2, x3, x4⟩ := cells5 hx0
  clear qs qsf q0 q3 q4 q5 q6 q7 qf7 m0 m1 g0 g1 g2 g3 g4 k0 k1 k2 k3 k4 s0 sf c0 c3 c4 c5 c6 c7 f7 hnb
  obtain ⟨qs, qsf, q0, q3, q4, q5, q6, q7, qf7, m0, m1⟩ := hX1.cells hi hjM HQE.out
  have hKX := HS.out.2.1.trans (Kp.of_below hXB)
  have hBX := HS.out.1.trans (hXB.mono (by rw [hsz]; omega))
  have hFX := HFT.out.kp (Kp.of_below hXB)
  rw [hX]
  have hin2 := HIN.out.move (w' := X) (ok' := fun k => k < b) (fun k hk hlt => ⟨hXB.block k hlt, hk⟩)
  have hset2 := HS.out.2.2.1.move (w' := X) (ok' := fun k => k < b) (fun k hk hlt => ⟨hXB.block k hlt, hk⟩) (by omega)
  have HSZ : Hid (b ≤ X.heap.size) := Lib.hid (by omega)
  have HX := Lib.hid (And.intro hX1 (And.intro hin2 (And.intro hset2 (And.intro hKX (And.intro hBX hFX)))))
  clear hX hX1 hin2 hset2 hKX hBX hFX hXB
  refine wp_region_scr (fun W' => Below X.heap.size X W') [(true, 0, 97), (true, 1, 98), (true, 2, 99), (true, 3, 100), (true, 4, 101), (true, 5, 102), (true, 6, 103), (false, 7, 104), (false, 8, 105)] (by kernel_rfl) (by kernel_rfl) (fun _ _ _ _ _ h => h) rfl (by kernel_rfl) ?_
  have HV := Lib.hid (show Below X.heap.size X X.drew from (Below.refl _ _).drew)
  refine Scr.take (v := .pointer (some ⟨W.heap.size, 3, none⟩)) rfl rfl (yw_pure (by rfl) (fun _ => by go_simp)) HV.out ?_
  simp only [Act.put, List.setIfInBounds_toArray, List.set_cons_zero, List.set_cons_succ]
  refine Scr.take (v := .slice B3 x.set.length d3) rfl rfl (yw_cell 61 _ rfl ⟨W.heap.size, 3, none⟩ (.slice B3 x.set.length d3) rfl (by rfl) _ Tryd.underlying61 rfl (fun W hS => (World.cell?_of_block (hS.block _ hxS)).trans x3)) HV.out ?_
  simp only [Act.put, List.setIfInBounds_toArray, List.set_cons_zero, List.set_cons_succ]
  refine Scr.take (v := .pointer (some ⟨b + 1, 0, none⟩)) rfl rfl (yw_pure (by rfl) (fun _ => by go_simp)) HV.out ?_
  simp only [Act.put, List.setIfInBounds_toArray, List.set_cons_zero, List.set_cons_succ]
  refine Scr.take (v := .pointer (some ⟨b + 1, 0, none⟩)) rfl rfl (yw_pure (by rfl) (fun _ => by go_simp)) HV.out ?_
  simp only [Act.put, List.setIfInBounds_toArray, List.set_cons_zero, List.set_cons_succ]
  refine Scr.take (v := .pointer (some ⟨b + 1, 3, none⟩)) rfl rfl (yw_pure (by rfl) (fun _ => by go_simp)) HV.out ?_
  simp only [Act.put, List.setIfInBounds_toArray, List.set_cons_zero, List.set_cons_succ]
  refine Scr.take (v := .pointer (some ⟨ib, 0, none⟩)) rfl rfl (yw_cell 50 _ rfl ⟨b + 1, 3, none⟩ (.pointer (some ⟨ib, 0, none⟩)) rfl (by rfl) _ Tryd.underlying50 rfl (fun W hS => (World.cell?_of_block (hS.block _ m1)).trans q3)) HV.out ?_
  simp only [Act.put, List.setIfInBounds_toArray, List.set_cons_zero, List.set_cons_succ]
  refine Scr.take (v := .int .i64 j) rfl rfl (yw_pure (by rfl) (fun _ => by go_simp)) HV.out ?_
  simp only [Act.put, List.setIfInBounds_toArray, List.set_cons_zero, List.set_cons_succ]
  refine Scr.run rfl (by rfl) (fun K hK => ?_)
  go_simp
  refine (rune01_any (fun k => k < b) X.drew ib cs (HX.out.2.1.move (fun k hk _ => ⟨rfl, hk⟩)) j).mono ?_
  rintro e w3 ⟨rfl, rfl⟩
  dsimp only
  refine hK _ _ HV.out ?_
  clear hK K
  have hhas := has02_any (fun k => k < b) X.drew (codeAt cs j) x.set B3 d3 (HX.out.2.2.1.move (fun k hk _ => ⟨rfl, hk⟩) (by omega)) (by have := setOK_len (HO.out.2.set HO.out.1).1 0 (fun y hy => ((HO.out.2.set HO.out.1).1.1 y hy).1) (by omega); omega)
  refine Scr.run rfl (by rfl) (fun K hK => ?_)
  go_simp
  refine hhas.mono ?_
  clear hhas
  rintro e w4 ⟨rfl, rfl⟩
  dsimp only
  refine hK _ _ HV.out ?_
  clear hK K
  simp only [Scr]
  rw [HH.out]
  obtain ⟨Y, hY⟩ : ∃ Y, X.drew = Y := ⟨_, rfl⟩
  rw [hY] at HV ⊢
  clear hY
  have h4 := HX.out.1.below HV.out
  have y1 := (World.cell?_of_block (HV.out.block _ hxS)).trans x1
  have ny : W.heap.size < Y.heap.size := Nat.lt_of_lt_of_le hxS HV.out.size
  clear qs qsf q0 q3 q4 q5 q6 q7 qf7 m0 m1 x0 x1 x2 x3 x4
  obtain ⟨qs, qsf, q0, q3, q4, q5, q6, q7, qf7, m0, m1⟩ := h4.cells hi hjM HQE.out
  have hfY := HX.out.2.2.2.2.2.kp (Kp.of_below HV.out)
  have hkY := HX.out.2.2.2.1.trans (Kp.of_below HV.out)
  have hbY := HX.out.2.2.2.2.1.trans (HV.out.mono (by have := HX.out.2.2.2.2.1.size; have := HSZ.out; omega))
  have H4 := Lib.hid (And.intro h4 (And.intro hfY (And.intro hkY hbY)))
  clear h4 hfY hkY hbY
  obtain ⟨o, hoe⟩ : ∃ o : Nat, x.out = (o : Int) := ⟨x.out.toNat, by have := HOU.out.1; omega⟩
  rw [hoe] at y1
  rw [hoe, Int.toNat_natCast] at HI
  rw [hoe]
  have hwj : IntKind.i64.wrap ((j : Int) + 1) = ((j + 1 : Nat) : Int) := by rw [IntWalk.i64_in _ (by omega)]; simp
  have HOE := Lib.hid hoe
  clear hoe
  have hcall := HI.out _ Y H4.out.1 H4.out.2.1 hcl H4.out.2.2.2 HS.out.2.2.2.1
  have HP : Hid ((if to < ((j + 1 : Nat) : Int) then markW ((i : Int), (j : Int)) S else come (grP p (codeAt cs) (docAt cs) to true) n ((o : Int), ((j + 1 : Nat) : Int)) c (markW ((i : Int), (j : Int)) S)) = SR) := Lib.hid (by
    rw [← HSR.out]
    by_cases ct : to < ((j + 1 : Nat) : Int)
    · rw [if_pos ct, if_neg (fun h9 => by have := h9.2; omega)]
    · rw [if_neg ct, if_pos ⟨HH.out, by omega⟩, HOE.out]; simp)
  rw [HP.out] at hcall
  clear HP
  go_wp2_with fail
  refine hcall.mono ?_
  clear hcall
  rintro e w5 ⟨rfl, h5, hk5⟩
  dsimp only
  have H5 := Lib.hid (And.intro h5 (H4.out.2.2.1.trans hk5))
  clear h5 hk5
  go_wp2_with fail
  go_end0
  exact ⟨rfl, H5.out.1, H5.out.2⟩
set_option maxRecDepth 100000 in
set_option maxHeartbeats 4000000 in
theorem tw_setno_s (p : Pg) (b L : Nat) (u0 u1 u2 : Value) (ib : Nat) (cs : List Int) (to : Int) (w0 : World) (C : CtxT p b L u0 u1 u2 ib cs w0) (n : Nat) (hto : to ≤ cs.length)
    (i j : Nat) (c : List Int) (fv : Value) (S : Wk (Int × Int)) (bv : Value) (W : World) (hi : i < p.ins.length) (hj : (j : Int) ≤ to) (h : TwAt W b p.ins.length (cs.length + 1) L u0 u1 u2 ib to true bv S) (hf : FitT W b fv c) (hcl : (c.length : Int) = p.caps) (hB : Below b w0 W) (hlt : left (allP p (cs.length + 1)) S < n + 1) (hns : S.seen ((i : Int), (j : Int)) = false) (l0 : List Int) (hbs : S.best = some l0) (ho : (p.get i).op = 2) (hh : hasB (p.get i).set (codeAt cs j) = false) :
    Calls Tryd.prog 43 #[.pointer (some ⟨b + 1, 0, none⟩), .int .i64 i, .int .i64 j, fv] W (TwPost b p.ins.length (cs.length + 1) L u0 u1 u2 ib to true (come (grP p (codeAt cs) (docAt cs) to true) (n + 1) ((i : Int), (j : Int)) c S) W) := by
  have hck := check_ok C.chk
  have hN : p.ins.length ≤ 10000 := hck.2.1
  have hcsl : cs.length ≤ 1000000 := by obtain ⟨_, _, _, _, h9, _⟩ := C.inp; exact h9
  obtain ⟨Z, hZ⟩ : ∃ Z, j * p.ins.length = Z := ⟨_, rfl⟩
  obtain ⟨q, hq⟩ : ∃ q, Z + i = q := ⟨_, rfl⟩
  have hZb : Z ≤ 1000001 * 10000 := by rw [← hZ]; exact Nat.mul_le_mul (by omega) hN
  have hw1 : IntKind.i64.wrap ((j : Int) * (p.ins.length : Int)) = (Z : Int) := by rw [show (j : Int) * (p.ins.length : Int) = (Z : Int) by rw [← hZ]; simp]; exact IntWalk.i64_in _ (by omega)
  have hw2 : IntKind.i64.wrap ((Z : Int) + (i : Int)) = (q : Int) := by rw [show (Z : Int) + (i : Int) = (q : Int) by omega]; exact IntWalk.i64_in _ (by omega)
  obtain ⟨F, cf, rfl, hf1, hf2, hf3⟩ := hf
  obtain ⟨ad, ci, B3, d3, hps, hc1, hcm, hd3, hd3m, hadb, hins⟩ := ins_at C.pg C.size i hi
  simp only [List.cons.injEq, and_true] at hps
  obtain ⟨rfl, rfl, rfl⟩ := hps
  have hjM : j < cs.length + 1 := by omega
  have hqe : j * p.ins.length + i = q := by omega
  have hqL : q < L := by rw [C.len, ← hqe]; exact place_lt hi hjM
  have dj : decide (to < (j : Int)) = false := decide_eq_false (by omega)
  obtain ⟨s0, sf, c0, c3, c4, c5, c6, c7, f7, n0, n1⟩ := h.cells hi hjM hqe
  obtain ⟨Ab, cb, rfl, hb1, hb2, hb3, hb4⟩ : ∃ Ab cb, bv = .slice (some Ab) l0.length cb ∧ l0.length ≤ cb ∧ cb ≤ maxLen ∧ Arr (fun k => k ≠ b ∧ k ≠ b + 1) W 1 (IntC .i64) (some Ab) l0 ∧ 2 ≤ l0.length := by
    have h9 := h.best
    rw [hbs] at h9
    obtain ⟨⟨A, c9, k1, k2, k3, k4⟩, k5⟩ := h9
    obtain ⟨A2, rfl, _⟩ := ints_at k4 0 (by omega)
    exact ⟨A2, c9, k1, k2, k3, k4, k5⟩
  have hh0 : halts (grP p (codeAt cs) (docAt cs) to true) S = false := by unfold halts; rw [show (grP p (codeAt cs) (docAt cs) to true).longest = true from rfl]; simp
  obtain ⟨SR, hSR⟩ : ∃ SR, come (grP p (codeAt cs) (docAt cs) to true) (n + 1) ((i : Int), (j : Int)) c S = SR := ⟨_, rfl⟩
  rw [hSR]
  rw [come_set hh0 hns ho] at hSR
  rw [hns] at s0
  have h1 := h.mark (S := S) hi hjM
  rw [hqe] at h1
  have hK1 := (Kp.refl b W).set0 q (.bool true)
  have hB1 := hB.trans (hK1.below (by have := hB.size; have := C.size; omega))
  obtain ⟨hset, g0, g1, g2, g3, g4⟩ := hins _ hB1
  obtain ⟨_, k0, k1, k2, k3, k4⟩ := hins _ hB
  have hnb : ((ad.add (i * 5)).block = b) = False := by rw [add_block]; simp; omega
  have hge := get_eq p i hi
  have hgd := check_good C.chk (⟨by omega, by omega⟩ : Pc p i)
  obtain ⟨qs, qsf, q0, q3, q4, q5, q6, q7, qf7, m0, m1⟩ := h1.cells hi hjM hqe
  have hinp := C.inp.move (w' := W.setCell ⟨b, q, none⟩ (.bool true)) (ok' := fun k => k < b) (fun k hk hlt => ⟨hB1.block k hk, hk⟩)
  have hfit1 : FitT (W.setCell ⟨b, q, none⟩ (.bool true)) b (.slice F c.length cf) c := FitT.kp ⟨F, cf, rfl, hf1, hf2, hf3⟩ hK1
  have hcap : p.caps ≤ 4002 ∧ 2 ≤ p.caps := ⟨hck.2.2.2.2.1, hck.2.2.2.1⟩
  have hl1 : left (allP p (cs.length + 1)) (markW ((i : Int), (j : Int)) S) < n := by have h9 := left_mark hns (allP p (cs.length + 1)) (allP_iff.2 ⟨⟨by omega, by omega⟩, by omega, by omega⟩); omega
  have HS := Lib.hid (And.intro hB1 (And.intro hK1 (And.intro hset (And.intro hl1 C.chk))))
  have H1 := Lib.hid h1
  have HFT := Lib.hid hfit1
  have HIN := Lib.hid hinp
  have HQE := Lib.hid hqe
  clear h h1 hK1 hB1 hset hinp hfit1 hB hlt hns hck hl1 hins hqe hZ hq hh0 hbs
  try rw [hge] at ho
  try rw [hge] at hgd
  try rw [hge] at hh
  try dsimp only at hSR
  try rw [hge] at hSR
  have HSR := Lib.hid hSR
  clear hSR hge C hf3
  generalize p.ins[i] = x at *
  have o1 : (x.op == 1) = false := by rw [ho]; rfl
  have o2 : (x.op == 2) = true := by rw [ho]; rfl
  have o3 : (x.op == 3) = false := by rw [ho]; rfl
  have o4 : (x.op == 4) = false := by rw [ho]; rfl
  have o5 : (x.op == 5) = false := by rw [ho]; rfl
  have HO := Lib.hid (And.intro ho hgd)
  clear ho hgd
  clear hb3
  have HH := Lib.hid hh
  clear hh
  go_enter Tryd.func43, Tryd.ntmps43
  go_wp2_with fail
  obtain ⟨X, hX⟩ : ∃ X, ((W.setCell ⟨b, q, none⟩ (.bool true)).alloc (.cells #[.int .i64 x.op, .int .i64 x.out, .int .i64 x.arg, .slice B3 x.set.length d3, .int .i64 x.at_] 64)) = X := ⟨_, rfl⟩
  have hsz : (W.setCell ⟨b, q, none⟩ (.bool true)).heap.size = W.heap.size := by simp [World.setCell]
  have hx0 := heap_new1 (W.setCell ⟨b, q, none⟩ (.bool true)) (.cells #[.int .i64 x.op, .int .i64 x.out, .int .i64 x.arg, .slice B3 x.set.length d3, .int .i64 x.at_] 64)
  rw [hsz, hX] at hx0
  have hxS := heap_lt hx0
  have hX1 := H1.out.below (below_al (Below.refl _ _) (.cells #[.int .i64 x.op, .int .i64 x.out, .int .i64 x.arg, .slice B3 x.set.length d3, .int .i64 x.at_] 64))
  have hXB : Below (W.setCell ⟨b, q, none⟩ (.bool true)).heap.size (W.setCell ⟨b, q, none⟩ (.bool true)) X := by rw [← hX]; exact below_al (Below.refl _ _) _
  rw [hX] at hX1
  obtain ⟨x0, x1, x2, x3, x4⟩ := cells5 hx0
  clear qs qsf q0 q3 q4 q5 q6 q7 qf7 m0 m1 g0 g1 g2 g3 g4 k0 k1 k2 k3 k4 s0 sf c0 c3 c4 c5 c6 c7 f7 hnb
  obtain ⟨qs, qsf, q0, q3, q4, q5, q6, q7, qf7, m0, m1⟩ := hX1.cells hi hjM HQE.out
  have hKX := HS.out.2.1.trans (Kp.of_below hXB)
  have hBX := HS.out.1.trans (hXB.mono (by rw [hsz]; omega))
  have hFX := HFT.out.kp (Kp.of_below hXB)
  rw [hX]
  have hin2 := HIN.out.move (w' := X) (ok' := fun k => k < b) (fun k hk hlt => ⟨hXB.block k hlt, hk⟩)
  have hset2 := HS.out.2.2.1.move (w' := X) (ok' := fun k => k < b) (fun k hk hlt => ⟨hXB.block k hlt, hk⟩) (by omega)
  have HSZ : Hid (b ≤ X.heap.size) := Lib.hid (by omega)
  have HX := Lib.hid (And.intro hX1 (And.intro hin2 (And.intro hset2 (And.intro hKX (And.intro hBX hFX)))))
  clear hX hX1 hin2 hset2 hKX hBX hFX hXB
  refine wp_region_scr (fun W' => Below X.heap.size X W') [(true, 0, 97), (true, 1, 98), (true, 2, 99), (true, 3, 100), (true, 4, 101), (true, 5, 102), (true, 6, 103), (false, 7, 104), (false, 8, 105)] (by kernel_rfl) (by kernel_rfl) (fun _ _ _ _ _ h => h) rfl (by kernel_rfl) ?_
  have HV := Lib.hid (show Below X.heap.size X X.drew from (Below.refl _ _).drew)
  refine Scr.take (v := .pointer (some ⟨W.heap.size, 3, none⟩)) rfl rfl (yw_pure (by rfl) (fun _ => by go_simp)) HV.out ?_
  simp only [Act.put, List.setIfInBounds_toArray, List.set_cons_zero, List.set_cons_succ]
  refine Scr.take (v := .slice B3 x.set.length d3) rfl rfl (yw_cell 61 _ rfl ⟨W.heap.size, 3, none⟩ (.slice B3 x.set.length d3) rfl (by rfl) _ Tryd.underlying61 rfl (fun W hS => (World.cell?_of_block (hS.block _ hxS)).trans x3)) HV.out ?_
  simp only [Act.put, List.setIfInBounds_toArray, List.set_cons_zero, List.set_cons_succ]
  refine Scr.take (v := .pointer (some ⟨b + 1, 0, none⟩)) rfl rfl (yw_pure (by rfl) (fun _ => by go_simp)) HV.out ?_
  simp only [Act.put, List.setIfInBounds_toArray, List.set_cons_zero, List.set_cons_succ]
  refine Scr.take (v := .pointer (some ⟨b + 1, 0, none⟩)) rfl rfl (yw_pure (by rfl) (fun _ => by go_simp)) HV.out ?_
  simp only [Act.put, List.setIfInBounds_toArray, List.set_cons_zero, List.set_cons_succ]
  refine Scr.take (v := .pointer (some ⟨b + 1, 3, none⟩)) rfl rfl (yw_pure (by rfl) (fun _ => by go_simp)) HV.out ?_
  simp only [Act.put, List.setIfInBounds_toArray, List.set_cons_zero, List.set_cons_succ]
  refine Scr.take (v := .pointer (some ⟨ib, 0, none⟩)) rfl rfl (yw_cell 50 _ rfl ⟨b + 1, 3, none⟩ (.pointer (some ⟨ib, 0, none⟩)) rfl (by rfl) _ Tryd.underlying50 rfl (fun W hS => (World.cell?_of_block (hS.block _ m1)).trans q3)) HV.out ?_
  simp only [Act.put, List.setIfInBounds_toArray, List.set_cons_zero, List.set_cons_succ]
  refine Scr.take (v := .int .i64 j) rfl rfl (yw_pure (by rfl) (fun _ => by go_simp)) HV.out ?_
  simp only [Act.put, List.setIfInBounds_toArray, List.set_cons_zero, List.set_cons_succ]
  refine Scr.run rfl (by rfl) (fun K hK => ?_)
  go_simp
  refine (rune01_any (fun k => k < b) X.drew ib cs (HX.out.2.1.move (fun k hk _ => ⟨rfl, hk⟩)) j).mono ?_
  rintro e w3 ⟨rfl, rfl⟩
  dsimp only
  refine hK _ _ HV.out ?_
  clear hK K
  have hhas := has02_any (fun k => k < b) X.drew (codeAt cs j) x.set B3 d3 (HX.out.2.2.1.move (fun k hk _ => ⟨rfl, hk⟩) (by omega)) (by have := setOK_len (HO.out.2.set HO.out.1).1 0 (fun y hy => ((HO.out.2.set HO.out.1).1.1 y hy).1) (by omega); omega)
  refine Scr.run rfl (by rfl) (fun K hK => ?_)
  go_simp
  refine hhas.mono ?_
  clear hhas
  rintro e w4 ⟨rfl, rfl⟩
  dsimp only
  refine hK _ _ HV.out ?_
  clear hK K
  simp only [Scr]
  rw [HH.out]
  obtain ⟨Y, hY⟩ : ∃ Y, X.drew = Y := ⟨_, rfl⟩
  rw [hY] at HV ⊢
  clear hY
  have h4 := HX.out.1.below HV.out
  have y1 := (World.cell?_of_block (HV.out.block _ hxS)).trans x1
  have ny : W.heap.size < Y.heap.size := Nat.lt_of_lt_of_le hxS HV.out.size
  clear qs qsf q0 q3 q4 q5 q6 q7 qf7 m0 m1 x0 x1 x2 x3 x4
  obtain ⟨qs, qsf, q0, q3, q4, q5, q6, q7, qf7, m0, m1⟩ := h4.cells hi hjM HQE.out
  have hfY := HX.out.2.2.2.2.2.kp (Kp.of_below HV.out)
  have hkY := HX.out.2.2.2.1.trans (Kp.of_below HV.out)
  have hbY := HX.out.2.2.2.2.1.trans (HV.out.mono (by have := HX.out.2.2.2.2.1.size; have := HSZ.out; omega))
  have H4 := Lib.hid (And.intro h4 (And.intro hfY (And.intro hkY hbY)))
  clear h4 hfY hkY hbY
  have HP : Hid (markW ((i : Int), (j : Int)) S = SR) := Lib.hid (by rw [← HSR.out, if_neg (fun h9 => by have h8 := h9.1; rw [HH.out] at h8; cases h8)])
  go_wp2_with fail
  go_end0
  exact ⟨rfl, ⟨_, by rw [← HP.out]; exact H4.out.1⟩, H4.out.2.2.1⟩
end Go.Proofs.YthclpabmbhpohaaDoor
