/-
  A walk with bits, in plain words: depth first, never twice to a state. No program here, no condition.
  The machine with bits in plain words: a try from a place, tries one behind the other, what is found; its laws. No program here, no condition.
  A question (a program, a text, from where, how) that came in as an argument: what the row's reading of it gives of memory. No condition.
  Find of any program that comes in a question. No condition.
  martellolaw16.BitstateWithin: the walk: it tells true. No condition but that the program's fields are values of their types.
  BitstateWithin: the row and the tied card, from its walk.
-/
import Derived.Test.YthclpabmbhpohaaDoorBOneG11
import Derived.Test.YthclpabmbhpohaaDoorCards
import Derived.Test.YthclpabmbhpohaaDoorTie
set_option linter.unusedVariables false
set_option linter.unusedSimpArgs false
namespace Go.Proofs.YthclpabmbhpohaaDoor
set_option linter.unusedVariables false
set_option linter.unusedSectionVars false
variable {Q : Type} [DecidableEq Q]
/-- With the longest asked for, behind all: what can be come to from q was come to. -/
theorem come_all (g : Gr Q) (U : List Q) (hU : Within g U) (hl : g.longest = true) {n : Nat} {q : Q} {c : List Int} {s : Wk Q} (hq : q ∈ U) (hn : left U s < n) (hd : Dead g s.seen) {r : Q} (hr : Reach g q r) : (come g n q c s).seen r = true := by
  have hh : halts g (come g n q c s) = false := by unfold halts; rw [hl]; simp
  obtain ⟨h1, h2⟩ := come_done g U hU n q c s hq hn hh
  have hg : ∀ x, Reach g q x → (come g n q c s).seen x = true := by
    intro x hx
    have key : ∀ a b, Reach g a b → (come g n q c s).seen a = true → (come g n q c s).seen b = true := by
      intro a b hab
      induction hab with
      | here a => exact fun h => h
      | @step a b t hm hb _ ih =>
        intro ha
        refine ih ?_
        by_cases h0 : s.seen a = true
        · exact come_sub g n q c s _ ((hd _ h0).2 _ hb)
        · exact h2 _ ha (by simpa using h0) _ hb hm
    exact key q x hx h1
  exact hg r hr
/-- Of the longest no match that was newly come to lies behind. -/
theorem come_far (g : Gr Q) {n : Nat} {q : Q} {c : List Int} {s : Wk Q} (hc : 2 ≤ c.length) (hu : ∀ q c, 2 ≤ c.length → 2 ≤ (g.upd q c).length) :
    ∀ r, (come g n q c s).seen r = true → s.seen r = false → g.mat r = true → ∃ b, (come g n q c s).best = some b ∧ g.pl r ≤ b.getD 1 0 := by
  refine come_keep g (fun s' => ∀ r, s'.seen r = true → s.seen r = false → g.mat r = true → ∃ b, s'.best = some b ∧ g.pl r ≤ b.getD 1 0) (fun _ d => 2 ≤ d.length) (fun r d h _ _ _ => hu r d h) ?_ ?_ n q c s (fun r hr h0 => by rw [hr] at h0; cases h0) hc
  · intro s' q' d h hd _ _ _ r hr h0 hm
    have hset : (d.set 1 (g.pl q')).getD 1 0 = g.pl q' := by
      rw [List.getD_eq_getElem?_getD, List.getElem?_set_self (by omega)]; rfl
    have hr' : (decide (r = q') || s'.seen r) = true := hr
    show ∃ b, bestOf g q' d s'.best = some b ∧ _
    unfold bestOf
    by_cases e : r = q'
    · subst e
      split
      · exact ⟨_, rfl, by rw [hset]; exact Int.le_refl _⟩
      · split
        · exact ⟨_, rfl, by rw [hset]; exact Int.le_refl _⟩
        · exact ⟨_, rfl, by omega⟩
    · rw [decide_eq_false e, Bool.false_or] at hr'
      obtain ⟨b, hb, hb2⟩ := h r hr' h0 hm
      rw [hb]
      dsimp only
      split
      · exact ⟨_, rfl, by rw [hset]; omega⟩
      · exact ⟨_, rfl, hb2⟩
  · intro s' q' d h _ _ _ hmq r hr h0 hm
    have hr' : (decide (r = q') || s'.seen r) = true := hr
    by_cases e : r = q'
    · subst e; rw [hmq] at hm; cases hm
    · rw [decide_eq_false e, Bool.false_or] at hr'; exact h r hr' h0 hm
end Go.Proofs.YthclpabmbhpohaaDoor
namespace Go.Proofs.YthclpabmbhpohaaDoor
open Go.RowKit
set_option linter.unusedVariables false
section
variable (p : Pg) (rn av : Int → Int) (lg : Bool) (M : Nat)
end
section
variable {p : Pg} {rn av : Int → Int} {lg : Bool} {M : Nat}
theorem first_at : ∀ (k i : Nat) (a : Int) (b : List Int), i < k → runB p rn av lg M (a + i) = some b → (∀ j : Nat, j < i → runB p rn av lg M (a + j) = none) → firstB p rn av lg M k a = some b
  | 0, i, a, b, h, _, _ => by omega
  | k + 1, 0, a, b, _, h, _ => by rw [firstB, show a = a + ((0 : Nat) : Int) by omega, h]; rfl
  | k + 1, i + 1, a, b, hi, h, hj => by
    have h0 := hj 0 (by omega)
    simp only [Int.natCast_zero, Int.add_zero] at h0
    rw [firstB, h0]
    exact first_at k i (a + 1) b (by omega) (by rw [← h]; congr 1; omega) (fun j hj' => by rw [← hj (j + 1) (by omega)]; congr 1; omega)
theorem run_some (hck : checkS rightR p = 0) {a : Int} (h0 : 0 ≤ a) (h1 : a < M) {r : Int × Int} (hr : Reach (gB p rn av lg M) (p.start, a) r) (hm : (gB p rn av lg M).mat r = true) : (runB p rn av lg M a).isSome = true := by
  have hk := check_ok hck
  cases hb : runB p rn av lg M a with
  | some b => rfl
  | none =>
    have hd := come_dead (gB p rn av lg M) (allP p M) (within_B (check_leads hck)) (c := fitP p a) (start_B hk.2.2.1 h0 h1) (left_B emptyW) (dead_empty _) hb
    have := (hd.1 r (hd.1.reach hr hd.2)).1
    rw [hm] at this; cases this
theorem reach_lg {lg' : Bool} {q r : Int × Int} (h : Reach (gB p rn av lg M) q r) : Reach (gB p rn av lg' M) q r := by
  induction h with
  | here q => exact .here q
  | step a b _ ih => exact .step (g := gB p rn av lg' M) a b ih
theorem run_lg (hck : checkS rightR p = 0) (lg' : Bool) {a : Int} (h0 : 0 ≤ a) (h1 : a < M) : (runB p rn av lg M a).isSome = (runB p rn av lg' M a).isSome := by
  have key : ∀ l l' : Bool, (runB p rn av l M a).isSome = true → (runB p rn av l' M a).isSome = true := by
    intro l l' h
    obtain ⟨b, hb⟩ := Option.isSome_iff_exists.1 h
    obtain ⟨_, r, k1, k2, _⟩ := run_fit hck h0 h1 hb
    exact run_some hck h0 h1 (reach_lg k1) k2
  cases h1 : (runB p rn av lg M a).isSome <;> cases h2 : (runB p rn av lg' M a).isSome <;> first | rfl | (have := key lg lg' h1; rw [h2] at this; cases this) | (have := key lg' lg h2; rw [h1] at this; cases this)
theorem run_longer (hck : checkS rightR p = 0) {a : Int} (h0 : 0 ≤ a) (h1 : a < M) {b c : List Int} (hb : runB p rn av false M a = some b) (hc : runB p rn av true M a = some c) : b.getD 1 0 ≤ c.getD 1 0 := by
  have hk := check_ok hck
  obtain ⟨_, r, k1, k2, k3⟩ := run_fit hck h0 h1 hb
  have hs := come_all (gB p rn av true M) (allP p M) (within_B (check_leads hck)) rfl (c := fitP p a) (start_B hk.2.2.1 h0 h1) (left_B emptyW) (dead_empty _) (reach_lg k1)
  obtain ⟨b', e, h9⟩ := come_far (gB p rn av true M) (n := M * p.ins.length + 1) (q := (p.start, a)) (c := fitP p a) (s := emptyW) (by have := fitP_len p hk.2.2.2.1 a; have := hk.2.2.2.1; omega)
    (fun q c h => by show 2 ≤ (updP p q c).length; unfold updP; split <;> first | (rw [List.length_set]; exact h) | exact h) r hs rfl k2
  have e2 : (come (gB p rn av true M) (M * p.ins.length + 1) (p.start, a) (fitP p a) emptyW).best = some c := hc
  rw [e] at e2
  cases e2
  rw [k3]; exact h9
theorem find_spec {fr : Int} {anch : Bool} {b : List Int} (h : findB p rn av lg M fr anch = some b) : ∃ a : Int, 0 ≤ a ∧ a < M ∧ fr ≤ a ∧ runB p rn av lg M a = some b ∧ (anch = true → a = fr) ∧ (anch = false → ∃ i : Nat, i < ((M : Int) - max fr 0).toNat ∧ a = max fr 0 + i ∧ ∀ j : Nat, j < i → runB p rn av lg M (max fr 0 + j) = none) := by
  unfold findB at h
  cases anch with
  | true =>
    rw [if_pos rfl] at h
    split at h
    · cases h
    · exact ⟨fr, by omega, by omega, Int.le_refl _, h, fun _ => rfl, (fun e => by cases e)⟩
  | false =>
    rw [if_neg (by simp)] at h
    obtain ⟨i, h1, h2, h3⟩ := first_spec _ _ _ h
    exact ⟨max fr 0 + i, by omega, by omega, by omega, h2, (fun e => by cases e), fun _ => ⟨i, h1, rfl, h3⟩⟩
theorem find_lg (hck : checkS rightR p = 0) (lg' : Bool) (fr : Int) (anch : Bool) {b : List Int} (h : findB p rn av lg M fr anch = some b) : ∃ c, findB p rn av lg' M fr anch = some c ∧ b.getD 0 0 = c.getD 0 0 := by
  obtain ⟨a, h0, h1, h2, h3, h4, h5⟩ := find_spec h
  have hs := run_lg (rn := rn) (av := av) (lg := lg) hck lg' h0 h1
  rw [h3] at hs
  obtain ⟨c, hc⟩ := Option.isSome_iff_exists.1 hs.symm
  refine ⟨c, ?_, by rw [(run_fit hck h0 h1 h3).1.fst, (run_fit hck h0 h1 hc).1.fst]⟩
  unfold findB
  cases anch with
  | true =>
    obtain rfl := h4 rfl
    rw [if_pos rfl, if_neg (by omega)]; exact hc
  | false =>
    obtain ⟨i, k1, k2, k3⟩ := h5 rfl
    rw [if_neg (by simp)]
    refine first_at _ i _ _ k1 (by rw [← k2]; exact hc) (fun j hj => ?_)
    have h9 := run_lg (rn := rn) (av := av) (lg := lg) (M := M) hck lg' (a := max fr 0 + j) (by omega) (by omega)
    rw [k3 j hj] at h9
    cases hr : runB p rn av lg' M (max fr 0 + j) with
    | none => rfl
    | some x => rw [hr] at h9; cases h9
/-- BitstateWithin in plain words. -/
theorem find_within (hck : checkS rightR p = 0) (fr : Int) (anch : Bool) : (findB p rn av false M fr anch).isSome = (findB p rn av true M fr anch).isSome ∧
    ∀ a b, findB p rn av false M fr anch = some a → findB p rn av true M fr anch = some b → (a.length : Int) = p.caps ∧ (b.length : Int) = p.caps ∧ a.getD 0 0 = b.getD 0 0 ∧ fr ≤ a.getD 0 0 ∧ a.getD 0 0 ≤ a.getD 1 0 ∧ a.getD 1 0 ≤ b.getD 1 0 ∧ b.getD 1 0 ≤ (M : Int) - 1 ∧ (anch = true → a.getD 0 0 = fr) := by
  constructor
  · cases h1 : findB p rn av false M fr anch with
    | some a => obtain ⟨c, h, _⟩ := find_lg hck true fr anch h1; rw [h]; rfl
    | none =>
      cases h2 : findB p rn av true M fr anch with
      | none => rfl
      | some b => obtain ⟨c, h, _⟩ := find_lg hck false fr anch h2; rw [h1] at h; cases h
  · intro a b ha hb
    obtain ⟨x, h0, h1, h2, h3, h4, _⟩ := find_spec ha
    obtain ⟨y, k0, k1, k2, k3, k4, _⟩ := find_spec hb
    have f1 := (run_fit hck h0 h1 h3).1
    have f2 := (run_fit hck k0 k1 k3).1
    obtain ⟨c, e, e2⟩ := find_lg hck true fr anch ha
    rw [hb] at e; cases e
    have hxy : x = y := by rw [← f1.fst, ← f2.fst]; exact e2
    subst hxy
    exact ⟨f1.len, f2.len, e2, by rw [f1.fst]; exact h2, by rw [f1.fst]; exact f1.lo, run_longer hck h0 h1 h3 k3, f2.hi, fun e => by rw [f1.fst]; exact h4 e⟩
end
end Go.Proofs.YthclpabmbhpohaaDoor
namespace Go.Proofs.YthclpabmbhpohaaDoor
open Go.ChangeShapes Go.WideShapes Go.ChangeAt Go.RowKit
set_option linter.unusedVariables false
section
variable {H : Type} {enc : TypeId × Value → H} {w : World} {sp : Nat → Bool} {hd : Bool}
theorem askCells : Tryd.prog.cellsOf 31 = 7 := by kernel_rfl
theorem askOnes : Tryd.prog.cellsOf 29 = 1 ∧ Tryd.prog.cellsOf 4 = 1 := by
  refine ⟨?_, ?_⟩ <;> kernel_rfl
set_option maxRecDepth 100000 in
theorem ask_of {fuel : Nat} {cs : List Value} {x : DataW H × List MemPlace} (h : DataW.trod enc Tryd.prog w 0 (fun _ => true) hd fuel 31 cs = some x) :
    ∃ (t : Pg) (A T : Option Addr) (c tc : Nat) (s : ByteArray) (fr : Int) (an lg : Bool), cs = [.slice A t.ins.length c, .int .i64 t.start, .int .i64 t.caps, .slice T s.size tc, .int .i64 fr, .bool an, .bool lg] ∧
      PgC (fun b => b < w.heap.size) w t [.slice A t.ins.length c, .int .i64 t.start, .int .i64 t.caps] ∧ TextC (fun b => b < w.heap.size) w T s ∧ s.size ≤ tc ∧ tc ≤ maxLen ∧ (Lit.int .i64 fr).wf = true ∧ (∀ y ∈ t.ins, FieldsI y) ∧
      (SizedD x.1 31 → t.ins.length * 56 ≤ 140737488351232 ∧ ∀ y ∈ t.ins, y.set.length ≤ 140737488351232) := by
  obtain ⟨xs, n, rfl, hxd, hl, hxs, hf⟩ := DataW.trod_struct Tryd.underlying31 h
  rw [askCells] at hl
  have hn : xs.length = 5 := hxs
  obtain ⟨c1, c2, c3, c4, c5⟩ := oneCellsP
  obtain ⟨c6, c7⟩ := askOnes
  have f0 : DataW.trod enc Tryd.prog w 0 (fun _ => true) hd n 28 ((cs.drop 0).take (Tryd.prog.cellsOf 28)) = xs[0]? := hf 0 _ rfl
  have f1 : DataW.trod enc Tryd.prog w 0 (fun _ => true) hd n 29 ((cs.drop 3).take (Tryd.prog.cellsOf 29)) = xs[1]? := hf 1 _ rfl
  have f2 : DataW.trod enc Tryd.prog w 0 (fun _ => true) hd n 3 ((cs.drop 4).take (Tryd.prog.cellsOf 3)) = xs[2]? := hf 2 _ rfl
  have f3 : DataW.trod enc Tryd.prog w 0 (fun _ => true) hd n 4 ((cs.drop 5).take (Tryd.prog.cellsOf 4)) = xs[3]? := hf 3 _ rfl
  have f4 : DataW.trod enc Tryd.prog w 0 (fun _ => true) hd n 4 ((cs.drop 6).take (Tryd.prog.cellsOf 4)) = xs[4]? := hf 4 _ rfl
  rw [List.getElem?_eq_getElem (by omega)] at f0 f1 f2 f3 f4
  have hz : SizedD x.1 31 → SizedD (xs[0]'(by omega)).1 28 := by
    intro hs m hm
    refine hs m ?_
    rw [hxd]
    simp only [DataW.weights, Tryd.underlying31]
    exact DataW.weights_mem_each (j := 0) (t := 28) (by rfl) (by rw [List.getElem?_map, List.getElem?_eq_getElem (by omega)]; rfl) m hm
  rw [progCells] at f0
  rw [c6] at f1
  rw [c1] at f2
  rw [c7] at f3 f4
  obtain ⟨t, tp, _, ti, ts⟩ := prog_of f0
  obtain ⟨fr, e2, _, w2⟩ := DataW.trod_int Tryd.underlying3 f2
  obtain ⟨an, e3, _⟩ := DataW.trod_bool Tryd.underlying4 f3
  obtain ⟨lg, e4, _⟩ := DataW.trod_bool Tryd.underlying4 f4
  obtain ⟨a0, a1, a2, a3, a4, a5, a6, rfl⟩ : ∃ a0 a1 a2 a3 a4 a5 a6, cs = [a0, a1, a2, a3, a4, a5, a6] := by
    match cs, hl with
    | [a0, a1, a2, a3, a4, a5, a6], _ => exact ⟨a0, a1, a2, a3, a4, a5, a6, rfl⟩
  obtain ⟨A, c, e0, p1, p2, p3⟩ := tp
  have hk : ∃ (T : Option Addr) (k tc : Nat), a3 = .slice T k tc := by
    rcases DataW.trod_slice Tryd.underlying29 f1 with ⟨e1, _⟩ | ⟨a, len, cap, elems, rest, m, hnm, e1, _⟩
    · simp at e1; exact ⟨none, 0, 0, e1⟩
    · simp at e1; exact ⟨some a, len, cap, e1⟩
  obtain ⟨T, k, tc, rfl⟩ := hk
  have h1 : DataW.Trod enc Tryd.prog w 0 (fun _ => true) hd 29 (.slice T k tc) (xs[1]'(by omega)).1 (xs[1]'(by omega)).2 := ⟨n, f1⟩
  obtain ⟨ys, came⟩ := came_of Tryd.underlying29 Tryd.underlying5 (by kernel_rfl) h1
  obtain ⟨s, rfl, htx, hnc, hcm⟩ := came_text came
  simp at e0 e2 e3 e4
  refine ⟨t, A, T, c, tc, s, fr, an, lg, by simp [e0, e2, e3, e4], ⟨A, c, rfl, p1, p2, p3⟩, htx, hnc, hcm, w2, ti, fun hs => ts (hz hs)⟩
end
end Go.Proofs.YthclpabmbhpohaaDoor
namespace Go.Proofs.YthclpabmbhpohaaDoor
open Go.RowKit
set_option linter.unusedVariables false
set_option maxRecDepth 100000 in
set_option maxHeartbeats 4000000 in
theorem bfind_no' (p : Pg) (A : Option Addr) (c G : Nat) (ia : Addr) (rs : List (Int × Int)) (lg anch : Bool) (fr : Int) (D : Nat → Prop) (W : World) (hM : MaOK W G D) (pg : PgC (fun k => ¬ D k) W p [.slice A p.ins.length c, .int .i64 p.start, .int .i64 p.caps]) (inp : InpC (fun k => ¬ D k) W ia rs) (new : ∀ k, W.heap.size ≤ k → D k)
    (lo : 1 ≤ rs.length) (hi : rs.length ≤ 1000000) (hN : p.ins.length ≤ 140737488351232) (set : ∀ x ∈ p.ins, x.set.length ≤ 1000000000) (hA : admitB p rs.length = false) :
    Calls Tryd.prog 13 #[.pointer (some ⟨G, 0, none⟩), .agg #[.slice A p.ins.length c, .int .i64 p.start, .int .i64 p.caps], .pointer (some ia), .int .i64 fr, .bool anch, .bool lg] W fun e W' => e = .returned (.tuple #[.slice none 0 0, .bool false, .int .i64 0]) ∧ TouchD D W W' ∧ MaOK W' G D := by
  have hbl := below_al (Below.refl W.heap.size W) (.cells #[.slice A p.ins.length c, .int .i64 p.start, .int .i64 p.caps] 28)
  have hx := heap_new1 W (.cells #[.slice A p.ins.length c, .int .i64 p.start, .int .i64 p.caps] 28)
  have had := badmits_any _ _ p A c (pg.below hbl) hN set ia rs _ (inp.move (w' := W.alloc (.cells #[.slice A p.ins.length c, .int .i64 p.start, .int .i64 p.caps] 28)) (ok' := fun _ => True) (fun k _ hlt => ⟨hbl.block k hlt, trivial⟩)) lo hi
  rw [hA] at had
  have H := Lib.hid (And.intro hM (And.intro hbl new))
  clear hM hbl pg inp new
  go_enter Tryd.func13, Tryd.ntmps13
  go_wp2_with fail
  refine had.mono ?_
  clear had
  rintro e W1 ⟨rfl, hb1⟩
  dsimp only
  have HB := Lib.hid (below_and hb1 H.out.2.1)
  clear hb1
  go_wp2_with fail
  go_ret3
  exact ⟨rfl, TouchD.of_below HB.out H.out.2.2, H.out.1.below HB.out⟩
/-- What Find tells of any program. -/
def findOf (p : Pg) (rs : List (Int × Int)) (lg : Bool) (fr : Int) (anch : Bool) : Option (List Int) := if admitB p rs.length = true then findB p (runeAt rs) (atOf rs) lg rs.length fr anch else none
theorem bfind_all (p : Pg) (A : Option Addr) (c G : Nat) (ia : Addr) (rs : List (Int × Int)) (lg anch : Bool) (fr : Int) (hfr : -9223372036854775808 ≤ fr ∧ fr ≤ 9223372036854775807) (D : Nat → Prop) (W : World) (hM : MaOK W G D) (pg : PgC (fun k => ¬ D k) W p [.slice A p.ins.length c, .int .i64 p.start, .int .i64 p.caps]) (inp : InpC (fun k => ¬ D k) W ia rs) (new : ∀ k, W.heap.size ≤ k → D k)
    (lo : 1 ≤ rs.length) (hi : rs.length ≤ 1000000) (hN : p.ins.length ≤ 140737488351232) (set : ∀ x ∈ p.ins, x.set.length ≤ 1000000000) (out : runeAt rs ((rs.length : Int) - 1) < 0) :
    Calls Tryd.prog 13 #[.pointer (some ⟨G, 0, none⟩), .agg #[.slice A p.ins.length c, .int .i64 p.start, .int .i64 p.caps], .pointer (some ia), .int .i64 fr, .bool anch, .bool lg] W (FindPost p rs.length G D (findOf p rs lg fr anch) W) := by
  unfold findOf
  cases hA : admitB p rs.length with
  | true => rw [if_pos rfl]; exact bfind_any p A c G ia rs lg anch fr hfr D W hM pg inp new lo hi set out hA
  | false =>
    rw [if_neg (by simp)]
    refine (bfind_no' p A c G ia rs lg anch fr D W hM pg inp new lo hi hN set hA).mono ?_
    rintro e W' ⟨rfl, h1, h2⟩
    exact ⟨none, 0, 0, rfl, Nat.le_refl _, Nat.zero_le _, Int.le_refl _, Int.natCast_nonneg _, h1, D, fun _ h => h, h2, Arr.nil⟩
end Go.Proofs.YthclpabmbhpohaaDoor
namespace Go.Proofs.YthclpabmbhpohaaDoor
open Go.RowKit
set_option linter.unusedVariables false
theorem cells7 {W : World} {b : Nat} {ty : TypeId} {fr : Nat × Nat} {a0 a1 a2 a3 a4 a5 a6 : Value} (h : W.heap[b]? = some (.cells #[a0, a1, a2, a3, a4, a5, a6] ty fr)) :
    W.cell? ⟨b, 0, none⟩ = some a0 ∧ W.cell? ⟨b, 1, none⟩ = some a1 ∧ W.cell? ⟨b, 2, none⟩ = some a2 ∧ W.cell? ⟨b, 3, none⟩ = some a3 ∧ W.cell? ⟨b, 4, none⟩ = some a4 ∧ W.cell? ⟨b, 5, none⟩ = some a5 ∧ W.cell? ⟨b, 6, none⟩ = some a6 := by
  refine ⟨?_, ?_, ?_, ?_, ?_, ?_, ?_⟩ <;> (rw [cell_of_blk h]; rfl)
/-- BitstateWithin, of any program. -/
theorem within_of (p : Pg) (rs : List (Int × Int)) (fr : Int) (an : Bool) : (findOf p rs false fr an = none ∧ findOf p rs true fr an = none) ∨
    ∃ a0 a1 b1 la lb, findOf p rs false fr an = some la ∧ findOf p rs true fr an = some lb ∧ la[0]? = some a0 ∧ la[1]? = some a1 ∧ lb[0]? = some a0 ∧ lb[1]? = some b1 ∧ la.length ≤ 4002 ∧ lb.length ≤ 4002 ∧ fr ≤ a0 ∧ a0 ≤ a1 ∧ a1 ≤ b1 ∧ b1 ≤ (rs.length : Int) - 1 ∧ (an = true → a0 = fr) := by
  unfold findOf
  cases hA : admitB p rs.length with
  | false => exact .inl ⟨rfl, rfl⟩
  | true =>
    rw [if_pos rfl, if_pos rfl]
    have hck : checkS rightR p = 0 := by unfold admitB at hA; simp only [Bool.and_eq_true, beq_iff_eq] at hA; exact hA.1
    have hk := check_ok hck
    obtain ⟨h1, h2⟩ := find_within (rn := runeAt rs) (av := atOf rs) (M := rs.length) hck fr an
    cases ha : findB p (runeAt rs) (atOf rs) false rs.length fr an with
    | none =>
      rw [ha] at h1
      cases hb : findB p (runeAt rs) (atOf rs) true rs.length fr an with
      | none => exact .inl ⟨rfl, rfl⟩
      | some b => rw [hb] at h1; cases h1
    | some a =>
      rw [ha] at h1
      cases hb : findB p (runeAt rs) (atOf rs) true rs.length fr an with
      | none => rw [hb] at h1; cases h1
      | some b =>
        obtain ⟨k1, k2, k3, k4, k5, k6, k7, k8⟩ := h2 a b ha hb
        have c1 := hk.2.2.2.1
        have c2 := hk.2.2.2.2.1
        have g : ∀ (l : List Int) (i : Nat), i < l.length → l[i]? = some (l.getD i 0) := fun l i hi => by simp [List.getD, hi]
        exact .inr ⟨a.getD 0 0, a.getD 1 0, b.getD 1 0, a, b, rfl, rfl, g a 0 (by omega), g a 1 (by omega), by rw [k3]; exact g b 0 (by omega), g b 1 (by omega), by omega, by omega, k4, k5, k6, k7, k8⟩
set_option maxRecDepth 100000 in
set_option maxHeartbeats 4000000 in
theorem bWithin_any (w : World) (p : Pg) (A : Option Addr) (c : Nat) (hp : PgC (fun k => k < w.heap.size) w p [.slice A p.ins.length c, .int .i64 p.start, .int .i64 p.caps]) (hN : p.ins.length ≤ 140737488351232) (hs : ∀ x ∈ p.ins, x.set.length ≤ 140737488351232)
    (ok : Nat → Prop) (T : Option Addr) (tc : Nat) (s : ByteArray) (ht : TextC ok w T s) (fr : Int) (hfr : -9223372036854775808 ≤ fr ∧ fr ≤ 9223372036854775807) (an lg : Bool) :
    Calls Tryd.prog 4 #[.agg #[.slice A p.ins.length c, .int .i64 p.start, .int .i64 p.caps, .slice T s.size tc, .int .i64 fr, .bool an, .bool lg]] w fun e w' => e = .returned (.bool true) ∧ Below w.heap.size w w' := by
  have hB0 := below_al (Below.refl w.heap.size w) (.cells #[.slice A p.ins.length c, .int .i64 p.start, .int .i64 p.caps, .slice T s.size tc, .int .i64 fr, .bool an, .bool lg] 31)
  have hx0 := heap_new1 w (.cells #[.slice A p.ins.length c, .int .i64 p.start, .int .i64 p.caps, .slice T s.size tc, .int .i64 fr, .bool an, .bool lg] 31)
  have hhd := head16_any
  have hnw := new_any
  have hpX : ∀ W, Below w.heap.size w W → PgC (fun k => k < w.heap.size) W p [.slice A p.ins.length c, .int .i64 p.start, .int .i64 p.caps] := fun W hW => hp.move fun k hk _ => ⟨hW.block k hk, hk⟩
  have htX : ∀ W, Below w.heap.size w W → TextC ok W T s := fun W hW => ht.move fun k hk hlt => ⟨hW.block k hlt, hk⟩
  have HP := Lib.hid (And.intro hpX (And.intro htX hs))
  have HX0 := Lib.hid (And.intro hB0 hx0)
  clear hp hs ht hB0 hx0 hpX htX
  obtain ⟨q0, q1, q2, q3, q4, q5, q6⟩ := cells7 HX0.out.2
  have hn := heap_lt HX0.out.2
  go_enter Tryd.func4, Tryd.ntmps4
  go_wp2_with fail
  refine (hhd _).mono ?_
  clear hhd
  rintro e X1 ⟨rfl, hb1⟩
  dsimp only
  have hbx := (hb1.block _ (heap_lt HX0.out.2)).trans HX0.out.2
  have hB := HX0.out.1.trans (hb1.mono HX0.out.1.size)
  clear q0 q1 q2 q3 q4 q5 q6 hn
  obtain ⟨q0, q1, q2, q3, q4, q5, q6⟩ := cells7 hbx
  have hn := heap_lt hbx
  have HX1 := Lib.hid (And.intro hB hbx)
  clear hbx hB
  clear hb1
  by_cases hbig : 65536 < s.size
  · have htb := text_big X1 T tc s.size hbig
    go_wp2_with fail
    refine htb.mono ?_
    clear htb
    rintro e X2 ⟨rfl, rfl⟩
    dsimp only
    go_wp2_with fail
    refine (hnw _).mono ?_
    rintro e X3 ⟨rfl, rfl⟩
    dsimp only
    go_wp2_with fail
    go_ret
    exact ⟨rfl, below_al HX1.out.1 _⟩
  have htb := text_small ok X1 T tc s (HP.out.2.1 _ HX1.out.1) (by omega)
  go_wp2_with fail
  refine htb.mono ?_
  clear htb
  rintro e X2 ⟨bt, rfl, hI2, hb2⟩
  dsimp only
  have hbx := (hb2.block _ (heap_lt HX1.out.2)).trans HX1.out.2
  have hB := HX1.out.1.trans (hb2.mono HX1.out.1.size)
  clear q0 q1 q2 q3 q4 q5 q6 hn
  obtain ⟨q0, q1, q2, q3, q4, q5, q6⟩ := cells7 hbx
  have hn := heap_lt hbx
  have HX2 := Lib.hid (And.intro hB hbx)
  clear hbx hB
  have HI2 := Lib.hid hI2
  clear hb2 hI2
  go_wp2_with fail
  refine (hnw _).mono ?_
  clear hnw
  rintro e X3 ⟨rfl, hX3⟩
  dsimp only
  obtain ⟨G, hG⟩ : ∃ G, X2.heap.size = G := ⟨_, rfl⟩
  rw [hG]
  have hB23 : Below X2.heap.size X2 X3 := by rw [hX3]; exact below_al (Below.refl _ _) _
  have hm3 : X3.heap[G]? = some (.cells #[.slice none 0 0, .slice none 0 0, .slice none 0 0, .slice none 0 0, .int .i64 0] 70 (0, 0)) := by rw [hX3, ← hG]; exact heap_new1 _ _
  have hG3 : X3.heap.size = G + 1 := by rw [hX3, ← hG]; simp
  have sz2 := HX2.out.1.size
  have sz1 := HX1.out.1.size
  have hwG : w.heap.size < G := by have := heap_lt HX2.out.2; omega
  have HC : Hid ((∀ W, Below w.heap.size w W ∧ W.heap[w.heap.size]? = X3.heap[w.heap.size]? → W.heap[w.heap.size]? = some (.cells #[.slice A p.ins.length c, .int .i64 p.start, .int .i64 p.caps, .slice T s.size tc, .int .i64 fr, .bool an, .bool lg] 31 (0, 0))) ∧
      (∀ W, Below w.heap.size w W → PgC (fun k => k < w.heap.size) W p [.slice A p.ins.length c, .int .i64 p.start, .int .i64 p.caps]) ∧ InpC (fun k => k < G ∧ w.heap.size < k) X3 ⟨bt, 0, none⟩ (symsOf s) ∧ MaOK X3 G (fun k => k = G) ∧ Below w.heap.size w X3) := Lib.hid (by
    have hbw : X3.heap[w.heap.size]? = some (.cells #[.slice A p.ins.length c, .int .i64 p.start, .int .i64 p.caps, .slice T s.size tc, .int .i64 fr, .bool an, .bool lg] 31 (0, 0)) := (hB23.block _ (by omega)).trans HX2.out.2
    refine ⟨fun W hW => hW.2.trans hbw, HP.out.1, HI2.out.move fun k hk hlt => ⟨hB23.block k hlt, by have := heap_lt HX1.out.2; omega⟩, ma_new hm3, below_then HX2.out.1 HX2.out.1.size hB23⟩)
  have hX33 : Below w.heap.size w X3 ∧ X3.heap[w.heap.size]? = X3.heap[w.heap.size]? := ⟨HC.out.2.2.2.2, rfl⟩
  have HG := Lib.hid (And.intro hG3 hwG)
  clear hX3 hB23 hm3 hG3 sz1 sz2 hwG hG HI2
  clear q0 q1 q2 q3 q4 q5 q6 hn
  obtain ⟨q0, q1, q2, q3, q4, q5, q6⟩ := cells7 (HC.out.1 _ hX33)
  have hn := heap_lt (HC.out.1 _ hX33)
  have HX3 := Lib.hid hX33
  clear hX33
  have hlg := long15_any X3 p A T c s.size tc ((HC.out.2.1 _ HX3.out.1).move fun k hk hlt => ⟨rfl, hlt⟩) hN HP.out.2.2 (by omega)
  cases hl : longB2 p s.size with
  | true =>
    rw [hl] at hlg
    go_wp2_with fail
    refine hlg.mono ?_
    clear hlg
    rintro e X4 ⟨rfl, hb4⟩
    dsimp only
    have H4 := Lib.hid (below_then HX3.out.1 HX3.out.1.size hb4)
    clear hb4
    go_wp2_with fail
    go_ret
    exact ⟨rfl, H4.out⟩
  | false =>
    rw [hl] at hlg
    have hle : p.ins.length + heftP p.ins ≤ 2000 ∧ s.size ≤ 3000 ∧ p.ins.length * (s.size + 1) ≤ 100000 := by
      unfold longB2 longB at hl
      simp at hl
      omega
    have hsl : ∀ x ∈ p.ins, x.set.length ≤ 2000 := fun x hx => by have := heft_mem hx; omega
    have hrl : 1 ≤ (symsOf s).length ∧ (symsOf s).length ≤ 3001 := by rw [syms_len]; have := codes_len s; omega
    have HL := Lib.hid (And.intro hle (And.intro hsl hrl))
    clear hl hle hsl hrl
    go_wp2_with fail
    refine hlg.mono ?_
    clear hlg
    rintro e X4 ⟨rfl, hb4⟩
    dsimp only
    have hX4 : Below w.heap.size w X4 ∧ X4.heap[w.heap.size]? = X3.heap[w.heap.size]? := ⟨below_then HX3.out.1 HX3.out.1.size hb4, hb4.block _ (by have := HG.out; omega)⟩
    have hma := HC.out.2.2.2.1.below hb4
    have hin := HC.out.2.2.1.move (w' := X4) (ok' := fun k => k < G ∧ w.heap.size < k) (fun k hk hlt => ⟨hb4.block k hlt, hk⟩)
    have hwG := HG.out
    have sz4 := hb4.size
    clear q0 q1 q2 q3 q4 q5 q6 hn
    obtain ⟨q0, q1, q2, q3, q4, q5, q6⟩ := cells7 (HC.out.1 _ hX4)
    have hn := heap_lt (HC.out.1 _ hX4)
    have HX4 := Lib.hid hX4
    clear hX4
    have fz1 : 1 ≤ (symsOf s).length := HL.out.2.2.1
    have fz2 : (symsOf s).length ≤ 1000000 := by have := HL.out.2.2; omega
    have hset : ∀ x ∈ p.ins, x.set.length ≤ 1000000000 := fun x hx => by have := HL.out.2.1 x hx; omega
    have HZ := Lib.hid (And.intro fz1 (And.intro fz2 hset))
    clear fz1 fz2 hset
    have hf := bfind_all p A c G ⟨bt, 0, none⟩ (symsOf s) false an fr hfr (fun k => k = G ∨ X4.heap.size ≤ k) X4 (hma.wide fun k hk => .inl hk) ((HC.out.2.1 _ HX4.out.1).move fun k hk hlt => ⟨rfl, by omega⟩) (hin.move fun k hk hlt => ⟨rfl, by omega⟩) (fun k hk => .inr hk) HZ.out.1 HZ.out.2.1 hN HZ.out.2.2 (runes_out s)
    unfold FindPost at hf
    obtain ⟨oa, hoa⟩ : ∃ oa, findOf p (symsOf s) false fr an = oa := ⟨_, rfl⟩
    rw [hoa] at hf
    have HOA := Lib.hid hoa
    clear hoa
    have H4 := Lib.hid (And.intro hma (And.intro hin (And.intro hwG sz4)))
    clear hma hin hwG sz4
    obtain ⟨la, hla⟩ : ∃ la, oa.getD [] = la := ⟨_, rfl⟩
    obtain ⟨sa, hsa⟩ : ∃ sa, oa.isSome = sa := ⟨_, rfl⟩
    rw [hla, hsa] at hf
    have HLA := Lib.hid (And.intro hla hsa)
    clear hla hsa
    go_wp2_with fail
    refine hf.mono ?_
    clear hf
    rintro e X5 ⟨Aa, ca, n5, rfl, ga1, ga2, _, _, hT5, D5, hD5, hM5, hA5⟩
    dsimp only
    obtain ⟨hma4, hin4, hwG, sz4⟩ := H4.out
    have s4 := HX4.out.1.size
    have s5 := hT5.size
    have hX5 : Below w.heap.size w X5 ∧ X5.heap[w.heap.size]? = X3.heap[w.heap.size]? := ⟨HX4.out.1.trans (hT5.below fun k hk => by rcases hk with hk | hk <;> omega), (hT5.block _ (fun h => by rcases h with h | h <;> omega)).trans HX4.out.2⟩
    have hin5 := hin4.move (w' := X5) (ok' := fun k => (k < G ∧ w.heap.size < k) ∧ ¬ D5 k) (fun k hk hlt => ⟨hT5.block k (fun h => by rcases h with h | h <;> omega), hk, fun h => by rcases hD5 k h with h | h <;> omega⟩)
    have hpg5 := (HC.out.2.1 _ HX4.out.1).move (w' := X5) (ok' := fun k => k < w.heap.size ∧ ¬ D5 k) (fun k hk hlt => ⟨hT5.block k (fun h => by rcases h with h | h <;> omega), hk, fun h => by rcases hD5 k h with h | h <;> omega⟩)
    have hDw5 : ∀ k, D5 k → w.heap.size < k := fun k h => by rcases hD5 k h with h | h <;> omega
    clear q0 q1 q2 q3 q4 q5 q6 hn
    obtain ⟨q0, q1, q2, q3, q4, q5, q6⟩ := cells7 (HC.out.1 _ hX5)
    have hn := heap_lt (HC.out.1 _ hX5)
    have HX5 := Lib.hid hX5
    clear hX5
    have hf := bfind_all p A c G ⟨bt, 0, none⟩ (symsOf s) true an fr hfr (fun k => D5 k ∨ X5.heap.size ≤ k) X5 (hM5.wide fun k hk => .inl hk) (hpg5.move fun k hk hlt => ⟨rfl, fun h => by rcases h with h | h; exact hk.2 h; omega⟩) (hin5.move fun k hk hlt => ⟨rfl, fun h => by rcases h with h | h; exact hk.2 h; omega⟩) (fun k hk => .inr hk) HZ.out.1 HZ.out.2.1 hN HZ.out.2.2 (runes_out s)
    unfold FindPost at hf
    obtain ⟨ob, hob⟩ : ∃ ob, findOf p (symsOf s) true fr an = ob := ⟨_, rfl⟩
    rw [hob] at hf
    have HOB := Lib.hid hob
    clear hob
    obtain ⟨lb, hlb⟩ : ∃ lb, ob.getD [] = lb := ⟨_, rfl⟩
    obtain ⟨sb, hsb⟩ : ∃ sb, ob.isSome = sb := ⟨_, rfl⟩
    rw [hlb, hsb] at hf
    have HLB := Lib.hid (And.intro hlb hsb)
    have H5 := Lib.hid (And.intro hA5 (And.intro hin5 (And.intro hpg5 (And.intro hDw5 (And.intro hwG (And.intro s5 (And.intro s4 hM5)))))))
    have HGA := Lib.hid (And.intro ga1 ga2)
    clear hlb hsb hA5 hin5 hpg5 hDw5 hwG s4 s5 sz4 hma4 hin4 hT5 hD5 hM5 ga1 ga2
    go_wp2_with fail
    refine hf.mono ?_
    clear hf
    rintro e X6 ⟨Ab, cb, n6, rfl, gb1, gb2, _, _, hT6, D6, hD6, hM6, hA6⟩
    dsimp only
    obtain ⟨hA5, hin5, hpg5, hDw5, hwG, s5, s4, _⟩ := H5.out
    have hX6 : Below w.heap.size w X6 ∧ X6.heap[w.heap.size]? = X3.heap[w.heap.size]? := ⟨HX5.out.1.trans (hT6.below fun k hk => by rcases hk with hk | hk; exact Nat.le_of_lt (hDw5 k hk); omega), (hT6.block _ (fun h => by rcases h with h | h; exact absurd (hDw5 _ h) (by omega); omega)).trans HX5.out.2⟩
    have HA := Lib.hid (hA5.move (w' := X6) (ok' := fun _ => True) (fun k hk hlt => ⟨hT6.block k (fun h => by rcases h with h | h; exact hk h; omega), trivial⟩) (by have := HGA.out; omega))
    have HB := Lib.hid (hA6.move (w' := X6) (ok' := fun _ => True) (fun k hk hlt => ⟨rfl, trivial⟩) (by omega))
    have HIN := Lib.hid (hin5.move (w' := X6) (ok' := fun _ => True) (fun k hk hlt => ⟨hT6.block k (fun h => by rcases h with h | h; exact hk.2 h; omega), trivial⟩))
    have HGB := Lib.hid (And.intro gb1 gb2)
    clear q0 q1 q2 q3 q4 q5 q6 hn
    obtain ⟨q0, q1, q2, q3, q4, q5, q6⟩ := cells7 (HC.out.1 _ hX6)
    have hn := heap_lt (HC.out.1 _ hX6)
    have HX6 := Lib.hid hX6
    clear hX6
    clear hA5 hin5 hpg5 hDw5 hwG s5 s4 hT6 hD6 hM6 hA6 gb1 gb2 H4
    have hw := within_of p (symsOf s) fr an
    rw [HOA.out, HOB.out] at hw
    rcases hw with ⟨rfl, rfl⟩ | ⟨a0, a1, b1, la', lb', rfl, rfl, ha0, ha1, hb0, hb1, hla, hlb, f1, f2, f3, f4, f5⟩
    · obtain ⟨rfl, rfl⟩ := HLA.out
      obtain ⟨rfl, rfl⟩ := HLB.out
      simp only [Option.getD_none, List.length_nil, Option.isSome_none]
      go_wp2_with fail
      refine wp_region_scr (fun W' => Below X6.heap.size X6 W') [(true, 0, 77), (true, 1, 78), (true, 2, 79), (true, 3, 80), (true, 4, 81), (true, 5, 82), (true, 6, 83), (true, 7, 84), (true, 8, 85), (true, 9, 86), (true, 10, 87), (true, 11, 88), (true, 12, 89), (true, 13, 90), (true, 14, 91), (true, 15, 92), (true, 16, 93), (true, 17, 94), (true, 18, 95), (true, 19, 96), (true, 20, 97), (true, 21, 98), (true, 22, 99), (true, 23, 100), (true, 24, 101), (true, 25, 102), (true, 26, 103), (true, 27, 104), (true, 28, 105), (true, 29, 106), (true, 30, 107), (true, 31, 108), (true, 32, 109), (true, 33, 110), (true, 34, 111), (true, 35, 112), (true, 36, 113), (true, 37, 114), (true, 38, 115), (true, 39, 116), (true, 40, 117), (true, 41, 118), (true, 42, 119), (true, 43, 120), (true, 44, 121), (false, 45, 122), (true, 46, 123), (true, 47, 124), (true, 48, 125), (true, 49, 126), (true, 50, 127), (true, 51, 128), (true, 52, 129), (true, 53, 130), (true, 54, 131), (true, 55, 132), (true, 56, 133), (true, 57, 134), (true, 58, 135), (true, 59, 136), (true, 60, 137), (true, 61, 138), (true, 62, 139), (true, 63, 2)] (by kernel_rfl) (by kernel_rfl) (fun _ _ _ _ _ h => h) rfl (by kernel_rfl) ?_
      have HV := Lib.hid (show Below X6.heap.size X6 X6.drew from (Below.refl _ _).drew)
      refine Scr.take (v := .bool true) rfl rfl (yw_pure (by rfl) (fun _ => by go_simp)) HV.out ?_
      simp only [Act.put, List.setIfInBounds_toArray, List.set_cons_zero, List.set_cons_succ]
      refine Scr.take (v := .bool true) rfl rfl (yw_pure (by rfl) (fun _ => by go_simp)) HV.out ?_
      simp only [Act.put, List.setIfInBounds_toArray, List.set_cons_zero, List.set_cons_succ]
      refine Scr.take (v := .bool false) rfl rfl (yw_pure (by rfl) (fun _ => by go_simp)) HV.out ?_
      simp only [Act.put, List.setIfInBounds_toArray, List.set_cons_zero, List.set_cons_succ]
      refine Scr.take (v := .bool true) rfl rfl (yw_pure (by rfl) (fun _ => by go_simp)) HV.out ?_
      simp only [Act.put, List.setIfInBounds_toArray, List.set_cons_zero, List.set_cons_succ]
      refine Scr.take (v := .bool true) rfl rfl (yw_pure (by rfl) (fun _ => by go_simp)) HV.out ?_
      simp only [Act.put, List.setIfInBounds_toArray, List.set_cons_zero, List.set_cons_succ]
      refine Scr.take (v := undef) rfl rfl (yw_no (by rfl)) HV.out ?_
      simp only [Act.put, List.setIfInBounds_toArray, List.set_cons_zero, List.set_cons_succ]
      refine Scr.take (v := undef) rfl rfl (yw_no (by rfl)) HV.out ?_
      simp only [Act.put, List.setIfInBounds_toArray, List.set_cons_zero, List.set_cons_succ]
      refine Scr.take (v := undef) rfl rfl (yw_no (by rfl)) HV.out ?_
      simp only [Act.put, List.setIfInBounds_toArray, List.set_cons_zero, List.set_cons_succ]
      refine Scr.take (v := undef) rfl rfl (yw_no (by rfl)) HV.out ?_
      simp only [Act.put, List.setIfInBounds_toArray, List.set_cons_zero, List.set_cons_succ]
      refine Scr.take (v := undef) rfl rfl (yw_no (by rfl)) HV.out ?_
      simp only [Act.put, List.setIfInBounds_toArray, List.set_cons_zero, List.set_cons_succ]
      refine Scr.take (v := undef) rfl rfl (yw_no (by rfl)) HV.out ?_
      simp only [Act.put, List.setIfInBounds_toArray, List.set_cons_zero, List.set_cons_succ]
      refine Scr.take (v := undef) rfl rfl (yw_no (by rfl)) HV.out ?_
      simp only [Act.put, List.setIfInBounds_toArray, List.set_cons_zero, List.set_cons_succ]
      refine Scr.take (v := undef) rfl rfl (yw_no (by rfl)) HV.out ?_
      simp only [Act.put, List.setIfInBounds_toArray, List.set_cons_zero, List.set_cons_succ]
      refine Scr.take (v := undef) rfl rfl (yw_no (by rfl)) HV.out ?_
      simp only [Act.put, List.setIfInBounds_toArray, List.set_cons_zero, List.set_cons_succ]
      refine Scr.take (v := undef) rfl rfl (yw_no (by rfl)) HV.out ?_
      simp only [Act.put, List.setIfInBounds_toArray, List.set_cons_zero, List.set_cons_succ]
      refine Scr.take (v := undef) rfl rfl (yw_no (by rfl)) HV.out ?_
      simp only [Act.put, List.setIfInBounds_toArray, List.set_cons_zero, List.set_cons_succ]
      refine Scr.take (v := undef) rfl rfl (yw_no (by rfl)) HV.out ?_
      simp only [Act.put, List.setIfInBounds_toArray, List.set_cons_zero, List.set_cons_succ]
      refine Scr.take (v := undef) rfl rfl (yw_no (by rfl)) HV.out ?_
      simp only [Act.put, List.setIfInBounds_toArray, List.set_cons_zero, List.set_cons_succ]
      refine Scr.take (v := undef) rfl rfl (yw_no (by rfl)) HV.out ?_
      simp only [Act.put, List.setIfInBounds_toArray, List.set_cons_zero, List.set_cons_succ]
      refine Scr.take (v := undef) rfl rfl (yw_no (by rfl)) HV.out ?_
      simp only [Act.put, List.setIfInBounds_toArray, List.set_cons_zero, List.set_cons_succ]
      refine Scr.take (v := undef) rfl rfl (yw_no (by rfl)) HV.out ?_
      simp only [Act.put, List.setIfInBounds_toArray, List.set_cons_zero, List.set_cons_succ]
      refine Scr.take (v := undef) rfl rfl (yw_no (by rfl)) HV.out ?_
      simp only [Act.put, List.setIfInBounds_toArray, List.set_cons_zero, List.set_cons_succ]
      refine Scr.take (v := undef) rfl rfl (yw_no (by rfl)) HV.out ?_
      simp only [Act.put, List.setIfInBounds_toArray, List.set_cons_zero, List.set_cons_succ]
      refine Scr.take (v := undef) rfl rfl (yw_no (by rfl)) HV.out ?_
      simp only [Act.put, List.setIfInBounds_toArray, List.set_cons_zero, List.set_cons_succ]
      refine Scr.take (v := undef) rfl rfl (yw_no (by rfl)) HV.out ?_
      simp only [Act.put, List.setIfInBounds_toArray, List.set_cons_zero, List.set_cons_succ]
      refine Scr.take (v := undef) rfl rfl (yw_no (by rfl)) HV.out ?_
      simp only [Act.put, List.setIfInBounds_toArray, List.set_cons_zero, List.set_cons_succ]
      refine Scr.take (v := undef) rfl rfl (yw_no (by rfl)) HV.out ?_
      simp only [Act.put, List.setIfInBounds_toArray, List.set_cons_zero, List.set_cons_succ]
      refine Scr.take (v := undef) rfl rfl (yw_no (by rfl)) HV.out ?_
      simp only [Act.put, List.setIfInBounds_toArray, List.set_cons_zero, List.set_cons_succ]
      refine Scr.take (v := undef) rfl rfl (yw_no (by rfl)) HV.out ?_
      simp only [Act.put, List.setIfInBounds_toArray, List.set_cons_zero, List.set_cons_succ]
      refine Scr.take (v := undef) rfl rfl (yw_no (by rfl)) HV.out ?_
      simp only [Act.put, List.setIfInBounds_toArray, List.set_cons_zero, List.set_cons_succ]
      refine Scr.take (v := undef) rfl rfl (yw_no (by rfl)) HV.out ?_
      simp only [Act.put, List.setIfInBounds_toArray, List.set_cons_zero, List.set_cons_succ]
      refine Scr.take (v := undef) rfl rfl (yw_no (by rfl)) HV.out ?_
      simp only [Act.put, List.setIfInBounds_toArray, List.set_cons_zero, List.set_cons_succ]
      refine Scr.take (v := undef) rfl rfl (yw_no (by rfl)) HV.out ?_
      simp only [Act.put, List.setIfInBounds_toArray, List.set_cons_zero, List.set_cons_succ]
      refine Scr.take (v := undef) rfl rfl (yw_no (by rfl)) HV.out ?_
      simp only [Act.put, List.setIfInBounds_toArray, List.set_cons_zero, List.set_cons_succ]
      refine Scr.take (v := undef) rfl rfl (yw_no (by rfl)) HV.out ?_
      simp only [Act.put, List.setIfInBounds_toArray, List.set_cons_zero, List.set_cons_succ]
      refine Scr.take (v := undef) rfl rfl (yw_no (by rfl)) HV.out ?_
      simp only [Act.put, List.setIfInBounds_toArray, List.set_cons_zero, List.set_cons_succ]
      refine Scr.take (v := undef) rfl rfl (yw_no (by rfl)) HV.out ?_
      simp only [Act.put, List.setIfInBounds_toArray, List.set_cons_zero, List.set_cons_succ]
      refine Scr.take (v := undef) rfl rfl (yw_no (by rfl)) HV.out ?_
      simp only [Act.put, List.setIfInBounds_toArray, List.set_cons_zero, List.set_cons_succ]
      refine Scr.take (v := undef) rfl rfl (yw_no (by rfl)) HV.out ?_
      simp only [Act.put, List.setIfInBounds_toArray, List.set_cons_zero, List.set_cons_succ]
      refine Scr.take (v := undef) rfl rfl (yw_no (by rfl)) HV.out ?_
      simp only [Act.put, List.setIfInBounds_toArray, List.set_cons_zero, List.set_cons_succ]
      refine Scr.take (v := undef) rfl rfl (yw_no (by rfl)) HV.out ?_
      simp only [Act.put, List.setIfInBounds_toArray, List.set_cons_zero, List.set_cons_succ]
      refine Scr.take (v := undef) rfl rfl (yw_no (by rfl)) HV.out ?_
      simp only [Act.put, List.setIfInBounds_toArray, List.set_cons_zero, List.set_cons_succ]
      refine Scr.take (v := undef) rfl rfl (yw_no (by rfl)) HV.out ?_
      simp only [Act.put, List.setIfInBounds_toArray, List.set_cons_zero, List.set_cons_succ]
      refine Scr.take (v := undef) rfl rfl (yw_no (by rfl)) HV.out ?_
      simp only [Act.put, List.setIfInBounds_toArray, List.set_cons_zero, List.set_cons_succ]
      refine Scr.take (v := undef) rfl rfl (yw_no (by rfl)) HV.out ?_
      simp only [Act.put, List.setIfInBounds_toArray, List.set_cons_zero, List.set_cons_succ]
      refine Scr.skip rfl rfl (by rfl) HV.out ?_
      simp only [Act.put, List.setIfInBounds_toArray, List.set_cons_zero, List.set_cons_succ]
      refine Scr.take (v := undef) rfl rfl (yw_no (by rfl)) HV.out ?_
      simp only [Act.put, List.setIfInBounds_toArray, List.set_cons_zero, List.set_cons_succ]
      refine Scr.take (v := undef) rfl rfl (yw_no (by rfl)) HV.out ?_
      simp only [Act.put, List.setIfInBounds_toArray, List.set_cons_zero, List.set_cons_succ]
      refine Scr.take (v := undef) rfl rfl (yw_no (by rfl)) HV.out ?_
      simp only [Act.put, List.setIfInBounds_toArray, List.set_cons_zero, List.set_cons_succ]
      refine Scr.take (v := undef) rfl rfl (yw_no (by rfl)) HV.out ?_
      simp only [Act.put, List.setIfInBounds_toArray, List.set_cons_zero, List.set_cons_succ]
      refine Scr.take (v := undef) rfl rfl (yw_no (by rfl)) HV.out ?_
      simp only [Act.put, List.setIfInBounds_toArray, List.set_cons_zero, List.set_cons_succ]
      refine Scr.take (v := undef) rfl rfl (yw_no (by rfl)) HV.out ?_
      simp only [Act.put, List.setIfInBounds_toArray, List.set_cons_zero, List.set_cons_succ]
      refine Scr.take (v := undef) rfl rfl (yw_no (by rfl)) HV.out ?_
      simp only [Act.put, List.setIfInBounds_toArray, List.set_cons_zero, List.set_cons_succ]
      refine Scr.take (v := undef) rfl rfl (yw_no (by rfl)) HV.out ?_
      simp only [Act.put, List.setIfInBounds_toArray, List.set_cons_zero, List.set_cons_succ]
      refine Scr.take (v := undef) rfl rfl (yw_no (by rfl)) HV.out ?_
      simp only [Act.put, List.setIfInBounds_toArray, List.set_cons_zero, List.set_cons_succ]
      refine Scr.take (v := undef) rfl rfl (yw_no (by rfl)) HV.out ?_
      simp only [Act.put, List.setIfInBounds_toArray, List.set_cons_zero, List.set_cons_succ]
      refine Scr.take (v := undef) rfl rfl (yw_no (by rfl)) HV.out ?_
      simp only [Act.put, List.setIfInBounds_toArray, List.set_cons_zero, List.set_cons_succ]
      refine Scr.take (v := undef) rfl rfl (yw_no (by rfl)) HV.out ?_
      simp only [Act.put, List.setIfInBounds_toArray, List.set_cons_zero, List.set_cons_succ]
      refine Scr.take (v := undef) rfl rfl (yw_no (by rfl)) HV.out ?_
      simp only [Act.put, List.setIfInBounds_toArray, List.set_cons_zero, List.set_cons_succ]
      refine Scr.take (v := undef) rfl rfl (yw_no (by rfl)) HV.out ?_
      simp only [Act.put, List.setIfInBounds_toArray, List.set_cons_zero, List.set_cons_succ]
      refine Scr.take (v := undef) rfl rfl (yw_no (by rfl)) HV.out ?_
      simp only [Act.put, List.setIfInBounds_toArray, List.set_cons_zero, List.set_cons_succ]
      refine Scr.take (v := .bool true) rfl rfl (yw_pure (by rfl) (fun _ => by go_simp)) HV.out ?_
      simp only [Act.put, List.setIfInBounds_toArray, List.set_cons_zero, List.set_cons_succ]
      refine Scr.take (v := .bool true) rfl rfl (yw_pure (by rfl) (fun _ => by go_simp)) HV.out ?_
      simp only [Act.put, List.setIfInBounds_toArray, List.set_cons_zero, List.set_cons_succ]
      refine Scr.take (v := .bool true) rfl rfl (yw_pure (by rfl) (fun _ => by go_simp)) HV.out ?_
      simp only [Act.put, List.setIfInBounds_toArray, List.set_cons_zero, List.set_cons_succ]
      simp only [Scr]
      go_wp2_with fail
      go_ret
      exact ⟨rfl, HX6.out.1.trans (HV.out.mono HX6.out.1.size)⟩
    · obtain ⟨ea, rfl⟩ := HLA.out
      obtain ⟨eb, rfl⟩ := HLB.out
      simp only [Option.getD_some] at ea eb
      subst ea
      subst eb
      have l0 : 0 < la'.length := by have := (List.getElem?_eq_some_iff.1 ha0).1; omega
      have l1 : 1 < la'.length := by have := (List.getElem?_eq_some_iff.1 ha1).1; omega
      have m0 : 0 < lb'.length := by have := (List.getElem?_eq_some_iff.1 hb0).1; omega
      have m1 : 1 < lb'.length := by have := (List.getElem?_eq_some_iff.1 hb1).1; omega
      obtain ⟨ad, rfl, z0⟩ := ints_at HA.out 0 l0
      obtain ⟨_, e', z1⟩ := ints_at HA.out 1 l1
      cases e'
      obtain ⟨bd, rfl, y0⟩ := ints_at HB.out 0 m0
      obtain ⟨_, e', y1⟩ := ints_at HB.out 1 m1
      cases e'
      rw [(List.getElem?_eq_some_iff.1 ha0).2] at z0
      rw [(List.getElem?_eq_some_iff.1 ha1).2] at z1
      rw [(List.getElem?_eq_some_iff.1 hb0).2] at y0
      rw [(List.getElem?_eq_some_iff.1 hb1).2] at y1
      have ad1 : ∀ x : Addr, x.add 1 = ⟨x.block, x.off + 1, none⟩ := fun x => by unfold Addr.add; rw [if_neg (by decide)]
      have ad0 : ∀ x : Addr, x.add 0 = x := fun x => by unfold Addr.add; rw [if_pos rfl]
      rw [ad0] at z0 y0
      rw [ad1] at z1 y1
      have cc : ∀ (a : Addr) v W, Below X6.heap.size X6 W → X6.cell? a = some v → W.cell? a = some v := fun a v W hW h => (hW.cell (World.block_lt_of_cell? X6 _ h)).trans h
      have hc7 := cells7 (HC.out.1 _ HX6.out)
      have HC6 := Lib.hid (And.intro (fun W (hW : Below X6.heap.size X6 W) => cc _ _ W hW z0) (And.intro (fun W (hW : Below X6.heap.size X6 W) => cc _ _ W hW z1) (And.intro (fun W (hW : Below X6.heap.size X6 W) => cc _ _ W hW y0) (And.intro (fun W (hW : Below X6.heap.size X6 W) => cc _ _ W hW y1)
        (And.intro (fun W (hW : Below X6.heap.size X6 W) => cc _ _ W hW hc7.2.2.2.2.1) (And.intro (fun W (hW : Below X6.heap.size X6 W) => cc _ _ W hW hc7.2.2.2.2.2.1) (fun W (hW : Below X6.heap.size X6 W) => len_any (fun _ => True) W ⟨bt, 0, none⟩ (symsOf s) (HIN.out.move (w' := W) (ok' := fun _ => True) (fun k _ hlt => ⟨hW.block k hlt, trivial⟩)))))))))
      have hlA : ((la'.length : Int) < 2) = False := by simp; omega
      have hlB : ((lb'.length : Int) < 2) = False := by simp; omega
      have hlA1 : ((la'.length : Int) ≤ 1) = False := by simp; omega
      have hlB1 : ((lb'.length : Int) ≤ 1) = False := by simp; omega
      clear z0 z1 y0 y1 ad0 ad1 cc hc7 ha0 ha1 hb0 hb1 hla hlb
      go_wp2_with fail
      cases an with
      | true =>
        obtain rfl := f5 rfl
        refine wp_region_scr (fun W' => Below X6.heap.size X6 W') [(true, 0, 77), (true, 1, 78), (true, 2, 79), (true, 3, 80), (true, 4, 81), (true, 5, 82), (true, 6, 83), (true, 7, 84), (true, 8, 85), (true, 9, 86), (true, 10, 87), (true, 11, 88), (true, 12, 89), (true, 13, 90), (true, 14, 91), (true, 15, 92), (true, 16, 93), (true, 17, 94), (true, 18, 95), (true, 19, 96), (true, 20, 97), (true, 21, 98), (true, 22, 99), (true, 23, 100), (true, 24, 101), (true, 25, 102), (true, 26, 103), (true, 27, 104), (true, 28, 105), (true, 29, 106), (true, 30, 107), (true, 31, 108), (true, 32, 109), (true, 33, 110), (true, 34, 111), (true, 35, 112), (true, 36, 113), (true, 37, 114), (true, 38, 115), (true, 39, 116), (true, 40, 117), (true, 41, 118), (true, 42, 119), (true, 43, 120), (true, 44, 121), (false, 45, 122), (true, 46, 123), (true, 47, 124), (true, 48, 125), (true, 49, 126), (true, 50, 127), (true, 51, 128), (true, 52, 129), (true, 53, 130), (true, 54, 131), (true, 55, 132), (true, 56, 133), (true, 57, 134), (true, 58, 135), (true, 59, 136), (true, 60, 137), (true, 61, 138), (true, 62, 139), (true, 63, 2)] (by kernel_rfl) (by kernel_rfl) (fun _ _ _ _ _ h => h) rfl (by kernel_rfl) ?_
        have HV := Lib.hid (show Below X6.heap.size X6 X6.drew from (Below.refl _ _).drew)
        refine Scr.take (v := .bool true) rfl rfl (yw_pure (by rfl) (fun _ => by go_simp)) HV.out ?_
        simp only [Act.put, List.setIfInBounds_toArray, List.set_cons_zero, List.set_cons_succ]
        refine Scr.take (v := .bool true) rfl rfl (yw_pure (by rfl) (fun _ => by go_simp)) HV.out ?_
        simp only [Act.put, List.setIfInBounds_toArray, List.set_cons_zero, List.set_cons_succ]
        refine Scr.take (v := .bool true) rfl rfl (yw_pure (by rfl) (fun _ => by go_simp)) HV.out ?_
        simp only [Act.put, List.setIfInBounds_toArray, List.set_cons_zero, List.set_cons_succ]
        refine Scr.take (v := .bool false) rfl rfl (yw_pure (by rfl) (fun _ => by go_simp)) HV.out ?_
        simp only [Act.put, List.setIfInBounds_toArray, List.set_cons_zero, List.set_cons_succ]
        refine Scr.take (v := .bool false) rfl rfl (yw_pure (by rfl) (fun _ => by go_simp)) HV.out ?_
        simp only [Act.put, List.setIfInBounds_toArray, List.set_cons_zero, List.set_cons_succ]
        refine Scr.take (v := .slice (some ad) la'.length ca) rfl rfl (yw_pure (by rfl) (fun _ => by go_simp)) HV.out ?_
        simp only [Act.put, List.setIfInBounds_toArray, List.set_cons_zero, List.set_cons_succ]
        refine Scr.take (v := .pointer (some ad)) rfl rfl (yw_pure (by rfl) (fun _ => by go_simp)) HV.out ?_
        simp only [Act.put, List.setIfInBounds_toArray, List.set_cons_zero, List.set_cons_succ]
        refine Scr.take (v := .int .i64 a0) rfl rfl (yw_cell 3 _ rfl ad (.int .i64 a0) rfl (by rfl) _ Tryd.underlying3 rfl (fun W hS => HC6.out.1 W hS)) HV.out ?_
        simp only [Act.put, List.setIfInBounds_toArray, List.set_cons_zero, List.set_cons_succ]
        refine Scr.take (v := .slice (some bd) lb'.length cb) rfl rfl (yw_pure (by rfl) (fun _ => by go_simp)) HV.out ?_
        simp only [Act.put, List.setIfInBounds_toArray, List.set_cons_zero, List.set_cons_succ]
        refine Scr.take (v := .pointer (some bd)) rfl rfl (yw_pure (by rfl) (fun _ => by go_simp)) HV.out ?_
        simp only [Act.put, List.setIfInBounds_toArray, List.set_cons_zero, List.set_cons_succ]
        refine Scr.take (v := .int .i64 a0) rfl rfl (yw_cell 3 _ rfl bd (.int .i64 a0) rfl (by rfl) _ Tryd.underlying3 rfl (fun W hS => HC6.out.2.2.1 W hS)) HV.out ?_
        simp only [Act.put, List.setIfInBounds_toArray, List.set_cons_zero, List.set_cons_succ]
        refine Scr.take (v := .bool true) rfl rfl (yw_pure (by rfl) (fun _ => by go_simp)) HV.out ?_
        simp only [Act.put, List.setIfInBounds_toArray, List.set_cons_zero, List.set_cons_succ]
        refine Scr.take (v := .bool true) rfl rfl (yw_pure (by rfl) (fun _ => by go_simp)) HV.out ?_
        simp only [Act.put, List.setIfInBounds_toArray, List.set_cons_zero, List.set_cons_succ]
        refine Scr.take (v := .slice (some ad) la'.length ca) rfl rfl (yw_pure (by rfl) (fun _ => by go_simp)) HV.out ?_
        simp only [Act.put, List.setIfInBounds_toArray, List.set_cons_zero, List.set_cons_succ]
        refine Scr.take (v := .pointer (some ad)) rfl rfl (yw_pure (by rfl) (fun _ => by go_simp)) HV.out ?_
        simp only [Act.put, List.setIfInBounds_toArray, List.set_cons_zero, List.set_cons_succ]
        refine Scr.take (v := .int .i64 a0) rfl rfl (yw_cell 3 _ rfl ad (.int .i64 a0) rfl (by rfl) _ Tryd.underlying3 rfl (fun W hS => HC6.out.1 W hS)) HV.out ?_
        simp only [Act.put, List.setIfInBounds_toArray, List.set_cons_zero, List.set_cons_succ]
        refine Scr.take (v := .pointer (some ⟨w.heap.size, 4, none⟩)) rfl rfl (yw_pure (by rfl) (fun _ => by go_simp)) HV.out ?_
        simp only [Act.put, List.setIfInBounds_toArray, List.set_cons_zero, List.set_cons_succ]
        refine Scr.take (v := .int .i64 a0) rfl rfl (yw_cell 3 _ rfl ⟨w.heap.size, 4, none⟩ (.int .i64 a0) rfl (by rfl) _ Tryd.underlying3 rfl (fun W hS => HC6.out.2.2.2.2.1 W hS)) HV.out ?_
        simp only [Act.put, List.setIfInBounds_toArray, List.set_cons_zero, List.set_cons_succ]
        refine Scr.take (v := .bool true) rfl rfl (yw_pure (by rfl) (fun _ => by go_simp)) HV.out ?_
        simp only [Act.put, List.setIfInBounds_toArray, List.set_cons_zero, List.set_cons_succ]
        refine Scr.take (v := .bool true) rfl rfl (yw_pure (by rfl) (fun _ => by go_simp)) HV.out ?_
        simp only [Act.put, List.setIfInBounds_toArray, List.set_cons_zero, List.set_cons_succ]
        refine Scr.take (v := .bool true) rfl rfl (yw_pure (by rfl) (fun _ => by go_simp)) HV.out ?_
        simp only [Act.put, List.setIfInBounds_toArray, List.set_cons_zero, List.set_cons_succ]
        refine Scr.take (v := .slice (some ad) la'.length ca) rfl rfl (yw_pure (by rfl) (fun _ => by go_simp)) HV.out ?_
        simp only [Act.put, List.setIfInBounds_toArray, List.set_cons_zero, List.set_cons_succ]
        refine Scr.take (v := .pointer (some ⟨ad.block, ad.off + 1, none⟩)) rfl rfl (yw_pure (by rfl) (fun _ => by go_simp)) HV.out ?_
        simp only [Act.put, List.setIfInBounds_toArray, List.set_cons_zero, List.set_cons_succ]
        refine Scr.take (v := .int .i64 a1) rfl rfl (yw_cell 3 _ rfl ⟨ad.block, ad.off + 1, none⟩ (.int .i64 a1) rfl (by rfl) _ Tryd.underlying3 rfl (fun W hS => HC6.out.2.1 W hS)) HV.out ?_
        simp only [Act.put, List.setIfInBounds_toArray, List.set_cons_zero, List.set_cons_succ]
        refine Scr.take (v := .slice (some ad) la'.length ca) rfl rfl (yw_pure (by rfl) (fun _ => by go_simp)) HV.out ?_
        simp only [Act.put, List.setIfInBounds_toArray, List.set_cons_zero, List.set_cons_succ]
        refine Scr.take (v := .pointer (some ad)) rfl rfl (yw_pure (by rfl) (fun _ => by go_simp)) HV.out ?_
        simp only [Act.put, List.setIfInBounds_toArray, List.set_cons_zero, List.set_cons_succ]
        refine Scr.take (v := .int .i64 a0) rfl rfl (yw_cell 3 _ rfl ad (.int .i64 a0) rfl (by rfl) _ Tryd.underlying3 rfl (fun W hS => HC6.out.1 W hS)) HV.out ?_
        simp only [Act.put, List.setIfInBounds_toArray, List.set_cons_zero, List.set_cons_succ]
        refine Scr.take (v := .bool true) rfl rfl (yw_pure (by rfl) (fun _ => by go_simp)) HV.out ?_
        simp only [Act.put, List.setIfInBounds_toArray, List.set_cons_zero, List.set_cons_succ]
        refine Scr.take (v := .bool true) rfl rfl (yw_pure (by rfl) (fun _ => by go_simp)) HV.out ?_
        simp only [Act.put, List.setIfInBounds_toArray, List.set_cons_zero, List.set_cons_succ]
        refine Scr.take (v := .bool true) rfl rfl (yw_pure (by rfl) (fun _ => by go_simp)) HV.out ?_
        simp only [Act.put, List.setIfInBounds_toArray, List.set_cons_zero, List.set_cons_succ]
        refine Scr.take (v := .slice (some bd) lb'.length cb) rfl rfl (yw_pure (by rfl) (fun _ => by go_simp)) HV.out ?_
        simp only [Act.put, List.setIfInBounds_toArray, List.set_cons_zero, List.set_cons_succ]
        refine Scr.take (v := .pointer (some ⟨bd.block, bd.off + 1, none⟩)) rfl rfl (yw_pure (by rfl) (fun _ => by go_simp)) HV.out ?_
        simp only [Act.put, List.setIfInBounds_toArray, List.set_cons_zero, List.set_cons_succ]
        refine Scr.take (v := .int .i64 b1) rfl rfl (yw_cell 3 _ rfl ⟨bd.block, bd.off + 1, none⟩ (.int .i64 b1) rfl (by rfl) _ Tryd.underlying3 rfl (fun W hS => HC6.out.2.2.2.1 W hS)) HV.out ?_
        simp only [Act.put, List.setIfInBounds_toArray, List.set_cons_zero, List.set_cons_succ]
        refine Scr.take (v := .slice (some ad) la'.length ca) rfl rfl (yw_pure (by rfl) (fun _ => by go_simp)) HV.out ?_
        simp only [Act.put, List.setIfInBounds_toArray, List.set_cons_zero, List.set_cons_succ]
        refine Scr.take (v := .pointer (some ⟨ad.block, ad.off + 1, none⟩)) rfl rfl (yw_pure (by rfl) (fun _ => by go_simp)) HV.out ?_
        simp only [Act.put, List.setIfInBounds_toArray, List.set_cons_zero, List.set_cons_succ]
        refine Scr.take (v := .int .i64 a1) rfl rfl (yw_cell 3 _ rfl ⟨ad.block, ad.off + 1, none⟩ (.int .i64 a1) rfl (by rfl) _ Tryd.underlying3 rfl (fun W hS => HC6.out.2.1 W hS)) HV.out ?_
        simp only [Act.put, List.setIfInBounds_toArray, List.set_cons_zero, List.set_cons_succ]
        refine Scr.take (v := .bool true) rfl rfl (yw_pure (by rfl) (fun _ => by go_simp)) HV.out ?_
        simp only [Act.put, List.setIfInBounds_toArray, List.set_cons_zero, List.set_cons_succ]
        refine Scr.take (v := .bool true) rfl rfl (yw_pure (by rfl) (fun _ => by go_simp)) HV.out ?_
        simp only [Act.put, List.setIfInBounds_toArray, List.set_cons_zero, List.set_cons_succ]
        refine Scr.take (v := .bool true) rfl rfl (yw_pure (by rfl) (fun _ => by go_simp)) HV.out ?_
        simp only [Act.put, List.setIfInBounds_toArray, List.set_cons_zero, List.set_cons_succ]
        refine Scr.take (v := .slice (some bd) lb'.length cb) rfl rfl (yw_pure (by rfl) (fun _ => by go_simp)) HV.out ?_
        simp only [Act.put, List.setIfInBounds_toArray, List.set_cons_zero, List.set_cons_succ]
        refine Scr.take (v := .pointer (some ⟨bd.block, bd.off + 1, none⟩)) rfl rfl (yw_pure (by rfl) (fun _ => by go_simp)) HV.out ?_
        simp only [Act.put, List.setIfInBounds_toArray, List.set_cons_zero, List.set_cons_succ]
        refine Scr.take (v := .int .i64 b1) rfl rfl (yw_cell 3 _ rfl ⟨bd.block, bd.off + 1, none⟩ (.int .i64 b1) rfl (by rfl) _ Tryd.underlying3 rfl (fun W hS => HC6.out.2.2.2.1 W hS)) HV.out ?_
        simp only [Act.put, List.setIfInBounds_toArray, List.set_cons_zero, List.set_cons_succ]
        refine Scr.take (v := .pointer (some ⟨bt, 0, none⟩)) rfl rfl (yw_pure (by rfl) (fun _ => by go_simp)) HV.out ?_
        simp only [Act.put, List.setIfInBounds_toArray, List.set_cons_zero, List.set_cons_succ]
        refine Scr.take (v := .pointer (some ⟨bt, 0, none⟩)) rfl rfl (yw_pure (by rfl) (fun _ => by go_simp)) HV.out ?_
        simp only [Act.put, List.setIfInBounds_toArray, List.set_cons_zero, List.set_cons_succ]
        refine Scr.take (v := .pointer (some ⟨bt, 0, none⟩)) rfl rfl (yw_pure (by rfl) (fun _ => by go_simp)) HV.out ?_
        simp only [Act.put, List.setIfInBounds_toArray, List.set_cons_zero, List.set_cons_succ]
        refine Scr.run rfl (by rfl) (fun K hK => ?_)
        go_simp
        refine (HC6.out.2.2.2.2.2.2 _ HV.out).mono ?_
        rintro e w9 ⟨rfl, rfl⟩
        dsimp only
        refine hK _ _ HV.out ?_
        clear hK K
        refine Scr.take (v := .bool true) rfl rfl (yw_pure (by rfl) (fun _ => by go_simp)) HV.out ?_
        simp only [Act.put, List.setIfInBounds_toArray, List.set_cons_zero, List.set_cons_succ]
        refine Scr.take (v := .bool true) rfl rfl (yw_pure (by rfl) (fun _ => by go_simp)) HV.out ?_
        simp only [Act.put, List.setIfInBounds_toArray, List.set_cons_zero, List.set_cons_succ]
        refine Scr.take (v := .bool true) rfl rfl (yw_pure (by rfl) (fun _ => by go_simp)) HV.out ?_
        simp only [Act.put, List.setIfInBounds_toArray, List.set_cons_zero, List.set_cons_succ]
        refine Scr.take (v := .pointer (some ⟨w.heap.size, 5, none⟩)) rfl rfl (yw_pure (by rfl) (fun _ => by go_simp)) HV.out ?_
        simp only [Act.put, List.setIfInBounds_toArray, List.set_cons_zero, List.set_cons_succ]
        refine Scr.take (v := .bool true) rfl rfl (yw_cell 4 _ rfl ⟨w.heap.size, 5, none⟩ (.bool true) rfl (by rfl) _ Tryd.underlying4 rfl (fun W hS => HC6.out.2.2.2.2.2.1 W hS)) HV.out ?_
        simp only [Act.put, List.setIfInBounds_toArray, List.set_cons_zero, List.set_cons_succ]
        refine Scr.take (v := .bool false) rfl rfl (yw_pure (by rfl) (fun _ => by go_simp)) HV.out ?_
        simp only [Act.put, List.setIfInBounds_toArray, List.set_cons_zero, List.set_cons_succ]
        refine Scr.take (v := .bool false) rfl rfl (yw_pure (by rfl) (fun _ => by go_simp)) HV.out ?_
        simp only [Act.put, List.setIfInBounds_toArray, List.set_cons_zero, List.set_cons_succ]
        refine Scr.take (v := .slice (some ad) la'.length ca) rfl rfl (yw_pure (by rfl) (fun _ => by go_simp)) HV.out ?_
        simp only [Act.put, List.setIfInBounds_toArray, List.set_cons_zero, List.set_cons_succ]
        refine Scr.take (v := .pointer (some ad)) rfl rfl (yw_pure (by rfl) (fun _ => by go_simp)) HV.out ?_
        simp only [Act.put, List.setIfInBounds_toArray, List.set_cons_zero, List.set_cons_succ]
        refine Scr.take (v := .int .i64 a0) rfl rfl (yw_cell 3 _ rfl ad (.int .i64 a0) rfl (by rfl) _ Tryd.underlying3 rfl (fun W hS => HC6.out.1 W hS)) HV.out ?_
        simp only [Act.put, List.setIfInBounds_toArray, List.set_cons_zero, List.set_cons_succ]
        refine Scr.take (v := .pointer (some ⟨w.heap.size, 4, none⟩)) rfl rfl (yw_pure (by rfl) (fun _ => by go_simp)) HV.out ?_
        simp only [Act.put, List.setIfInBounds_toArray, List.set_cons_zero, List.set_cons_succ]
        refine Scr.take (v := .int .i64 a0) rfl rfl (yw_cell 3 _ rfl ⟨w.heap.size, 4, none⟩ (.int .i64 a0) rfl (by rfl) _ Tryd.underlying3 rfl (fun W hS => HC6.out.2.2.2.2.1 W hS)) HV.out ?_
        simp only [Act.put, List.setIfInBounds_toArray, List.set_cons_zero, List.set_cons_succ]
        refine Scr.take (v := .bool true) rfl rfl (yw_pure (by rfl) (fun _ => by go_simp)) HV.out ?_
        simp only [Act.put, List.setIfInBounds_toArray, List.set_cons_zero, List.set_cons_succ]
        refine Scr.take (v := .bool true) rfl rfl (yw_pure (by rfl) (fun _ => by go_simp)) HV.out ?_
        simp only [Act.put, List.setIfInBounds_toArray, List.set_cons_zero, List.set_cons_succ]
        refine Scr.take (v := .bool true) rfl rfl (yw_pure (by rfl) (fun _ => by go_simp)) HV.out ?_
        simp only [Act.put, List.setIfInBounds_toArray, List.set_cons_zero, List.set_cons_succ]
        refine Scr.take (v := .bool true) rfl rfl (yw_pure (by rfl) (fun _ => by go_simp)) HV.out ?_
        simp only [Act.put, List.setIfInBounds_toArray, List.set_cons_zero, List.set_cons_succ]
        refine Scr.take (v := .bool true) rfl rfl (yw_pure (by rfl) (fun _ => by go_simp)) HV.out ?_
        simp only [Act.put, List.setIfInBounds_toArray, List.set_cons_zero, List.set_cons_succ]
        refine Scr.take (v := .bool true) rfl rfl (yw_pure (by rfl) (fun _ => by go_simp)) HV.out ?_
        simp only [Act.put, List.setIfInBounds_toArray, List.set_cons_zero, List.set_cons_succ]
        simp only [Scr]
        go_wp2_with fail
        go_ret
        exact ⟨rfl, HX6.out.1.trans (HV.out.mono HX6.out.1.size)⟩
      | false =>
        refine wp_region_scr (fun W' => Below X6.heap.size X6 W') [(true, 0, 77), (true, 1, 78), (true, 2, 79), (true, 3, 80), (true, 4, 81), (true, 5, 82), (true, 6, 83), (true, 7, 84), (true, 8, 85), (true, 9, 86), (true, 10, 87), (true, 11, 88), (true, 12, 89), (true, 13, 90), (true, 14, 91), (true, 15, 92), (true, 16, 93), (true, 17, 94), (true, 18, 95), (true, 19, 96), (true, 20, 97), (true, 21, 98), (true, 22, 99), (true, 23, 100), (true, 24, 101), (true, 25, 102), (true, 26, 103), (true, 27, 104), (true, 28, 105), (true, 29, 106), (true, 30, 107), (true, 31, 108), (true, 32, 109), (true, 33, 110), (true, 34, 111), (true, 35, 112), (true, 36, 113), (true, 37, 114), (true, 38, 115), (true, 39, 116), (true, 40, 117), (true, 41, 118), (true, 42, 119), (true, 43, 120), (true, 44, 121), (false, 45, 122), (true, 46, 123), (true, 47, 124), (true, 48, 125), (true, 49, 126), (true, 50, 127), (true, 51, 128), (true, 52, 129), (true, 53, 130), (true, 54, 131), (true, 55, 132), (true, 56, 133), (true, 57, 134), (true, 58, 135), (true, 59, 136), (true, 60, 137), (true, 61, 138), (true, 62, 139), (true, 63, 2)] (by kernel_rfl) (by kernel_rfl) (fun _ _ _ _ _ h => h) rfl (by kernel_rfl) ?_
        have HV := Lib.hid (show Below X6.heap.size X6 X6.drew from (Below.refl _ _).drew)
        refine Scr.take (v := .bool true) rfl rfl (yw_pure (by rfl) (fun _ => by go_simp)) HV.out ?_
        simp only [Act.put, List.setIfInBounds_toArray, List.set_cons_zero, List.set_cons_succ]
        refine Scr.take (v := .bool true) rfl rfl (yw_pure (by rfl) (fun _ => by go_simp)) HV.out ?_
        simp only [Act.put, List.setIfInBounds_toArray, List.set_cons_zero, List.set_cons_succ]
        refine Scr.take (v := .bool true) rfl rfl (yw_pure (by rfl) (fun _ => by go_simp)) HV.out ?_
        simp only [Act.put, List.setIfInBounds_toArray, List.set_cons_zero, List.set_cons_succ]
        refine Scr.take (v := .bool false) rfl rfl (yw_pure (by rfl) (fun _ => by go_simp)) HV.out ?_
        simp only [Act.put, List.setIfInBounds_toArray, List.set_cons_zero, List.set_cons_succ]
        refine Scr.take (v := .bool false) rfl rfl (yw_pure (by rfl) (fun _ => by go_simp)) HV.out ?_
        simp only [Act.put, List.setIfInBounds_toArray, List.set_cons_zero, List.set_cons_succ]
        refine Scr.take (v := .slice (some ad) la'.length ca) rfl rfl (yw_pure (by rfl) (fun _ => by go_simp)) HV.out ?_
        simp only [Act.put, List.setIfInBounds_toArray, List.set_cons_zero, List.set_cons_succ]
        refine Scr.take (v := .pointer (some ad)) rfl rfl (yw_pure (by rfl) (fun _ => by go_simp)) HV.out ?_
        simp only [Act.put, List.setIfInBounds_toArray, List.set_cons_zero, List.set_cons_succ]
        refine Scr.take (v := .int .i64 a0) rfl rfl (yw_cell 3 _ rfl ad (.int .i64 a0) rfl (by rfl) _ Tryd.underlying3 rfl (fun W hS => HC6.out.1 W hS)) HV.out ?_
        simp only [Act.put, List.setIfInBounds_toArray, List.set_cons_zero, List.set_cons_succ]
        refine Scr.take (v := .slice (some bd) lb'.length cb) rfl rfl (yw_pure (by rfl) (fun _ => by go_simp)) HV.out ?_
        simp only [Act.put, List.setIfInBounds_toArray, List.set_cons_zero, List.set_cons_succ]
        refine Scr.take (v := .pointer (some bd)) rfl rfl (yw_pure (by rfl) (fun _ => by go_simp)) HV.out ?_
        simp only [Act.put, List.setIfInBounds_toArray, List.set_cons_zero, List.set_cons_succ]
        refine Scr.take (v := .int .i64 a0) rfl rfl (yw_cell 3 _ rfl bd (.int .i64 a0) rfl (by rfl) _ Tryd.underlying3 rfl (fun W hS => HC6.out.2.2.1 W hS)) HV.out ?_
        simp only [Act.put, List.setIfInBounds_toArray, List.set_cons_zero, List.set_cons_succ]
        refine Scr.take (v := .bool true) rfl rfl (yw_pure (by rfl) (fun _ => by go_simp)) HV.out ?_
        simp only [Act.put, List.setIfInBounds_toArray, List.set_cons_zero, List.set_cons_succ]
        refine Scr.take (v := .bool true) rfl rfl (yw_pure (by rfl) (fun _ => by go_simp)) HV.out ?_
        simp only [Act.put, List.setIfInBounds_toArray, List.set_cons_zero, List.set_cons_succ]
        refine Scr.take (v := .slice (some ad) la'.length ca) rfl rfl (yw_pure (by rfl) (fun _ => by go_simp)) HV.out ?_
        simp only [Act.put, List.setIfInBounds_toArray, List.set_cons_zero, List.set_cons_succ]
        refine Scr.take (v := .pointer (some ad)) rfl rfl (yw_pure (by rfl) (fun _ => by go_simp)) HV.out ?_
        simp only [Act.put, List.setIfInBounds_toArray, List.set_cons_zero, List.set_cons_succ]
        refine Scr.take (v := .int .i64 a0) rfl rfl (yw_cell 3 _ rfl ad (.int .i64 a0) rfl (by rfl) _ Tryd.underlying3 rfl (fun W hS => HC6.out.1 W hS)) HV.out ?_
        simp only [Act.put, List.setIfInBounds_toArray, List.set_cons_zero, List.set_cons_succ]
        refine Scr.take (v := .pointer (some ⟨w.heap.size, 4, none⟩)) rfl rfl (yw_pure (by rfl) (fun _ => by go_simp)) HV.out ?_
        simp only [Act.put, List.setIfInBounds_toArray, List.set_cons_zero, List.set_cons_succ]
        refine Scr.take (v := .int .i64 fr) rfl rfl (yw_cell 3 _ rfl ⟨w.heap.size, 4, none⟩ (.int .i64 fr) rfl (by rfl) _ Tryd.underlying3 rfl (fun W hS => HC6.out.2.2.2.2.1 W hS)) HV.out ?_
        simp only [Act.put, List.setIfInBounds_toArray, List.set_cons_zero, List.set_cons_succ]
        refine Scr.take (v := .bool true) rfl rfl (yw_pure (by rfl) (fun _ => by go_simp)) HV.out ?_
        simp only [Act.put, List.setIfInBounds_toArray, List.set_cons_zero, List.set_cons_succ]
        refine Scr.take (v := .bool true) rfl rfl (yw_pure (by rfl) (fun _ => by go_simp)) HV.out ?_
        simp only [Act.put, List.setIfInBounds_toArray, List.set_cons_zero, List.set_cons_succ]
        refine Scr.take (v := .bool true) rfl rfl (yw_pure (by rfl) (fun _ => by go_simp)) HV.out ?_
        simp only [Act.put, List.setIfInBounds_toArray, List.set_cons_zero, List.set_cons_succ]
        refine Scr.take (v := .slice (some ad) la'.length ca) rfl rfl (yw_pure (by rfl) (fun _ => by go_simp)) HV.out ?_
        simp only [Act.put, List.setIfInBounds_toArray, List.set_cons_zero, List.set_cons_succ]
        refine Scr.take (v := .pointer (some ⟨ad.block, ad.off + 1, none⟩)) rfl rfl (yw_pure (by rfl) (fun _ => by go_simp)) HV.out ?_
        simp only [Act.put, List.setIfInBounds_toArray, List.set_cons_zero, List.set_cons_succ]
        refine Scr.take (v := .int .i64 a1) rfl rfl (yw_cell 3 _ rfl ⟨ad.block, ad.off + 1, none⟩ (.int .i64 a1) rfl (by rfl) _ Tryd.underlying3 rfl (fun W hS => HC6.out.2.1 W hS)) HV.out ?_
        simp only [Act.put, List.setIfInBounds_toArray, List.set_cons_zero, List.set_cons_succ]
        refine Scr.take (v := .slice (some ad) la'.length ca) rfl rfl (yw_pure (by rfl) (fun _ => by go_simp)) HV.out ?_
        simp only [Act.put, List.setIfInBounds_toArray, List.set_cons_zero, List.set_cons_succ]
        refine Scr.take (v := .pointer (some ad)) rfl rfl (yw_pure (by rfl) (fun _ => by go_simp)) HV.out ?_
        simp only [Act.put, List.setIfInBounds_toArray, List.set_cons_zero, List.set_cons_succ]
        refine Scr.take (v := .int .i64 a0) rfl rfl (yw_cell 3 _ rfl ad (.int .i64 a0) rfl (by rfl) _ Tryd.underlying3 rfl (fun W hS => HC6.out.1 W hS)) HV.out ?_
        simp only [Act.put, List.setIfInBounds_toArray, List.set_cons_zero, List.set_cons_succ]
        refine Scr.take (v := .bool true) rfl rfl (yw_pure (by rfl) (fun _ => by go_simp)) HV.out ?_
        simp only [Act.put, List.setIfInBounds_toArray, List.set_cons_zero, List.set_cons_succ]
        refine Scr.take (v := .bool true) rfl rfl (yw_pure (by rfl) (fun _ => by go_simp)) HV.out ?_
        simp only [Act.put, List.setIfInBounds_toArray, List.set_cons_zero, List.set_cons_succ]
        refine Scr.take (v := .bool true) rfl rfl (yw_pure (by rfl) (fun _ => by go_simp)) HV.out ?_
        simp only [Act.put, List.setIfInBounds_toArray, List.set_cons_zero, List.set_cons_succ]
        refine Scr.take (v := .slice (some bd) lb'.length cb) rfl rfl (yw_pure (by rfl) (fun _ => by go_simp)) HV.out ?_
        simp only [Act.put, List.setIfInBounds_toArray, List.set_cons_zero, List.set_cons_succ]
        refine Scr.take (v := .pointer (some ⟨bd.block, bd.off + 1, none⟩)) rfl rfl (yw_pure (by rfl) (fun _ => by go_simp)) HV.out ?_
        simp only [Act.put, List.setIfInBounds_toArray, List.set_cons_zero, List.set_cons_succ]
        refine Scr.take (v := .int .i64 b1) rfl rfl (yw_cell 3 _ rfl ⟨bd.block, bd.off + 1, none⟩ (.int .i64 b1) rfl (by rfl) _ Tryd.underlying3 rfl (fun W hS => HC6.out.2.2.2.1 W hS)) HV.out ?_
        simp only [Act.put, List.setIfInBounds_toArray, List.set_cons_zero, List.set_cons_succ]
        refine Scr.take (v := .slice (some ad) la'.length ca) rfl rfl (yw_pure (by rfl) (fun _ => by go_simp)) HV.out ?_
        simp only [Act.put, List.setIfInBounds_toArray, List.set_cons_zero, List.set_cons_succ]
        refine Scr.take (v := .pointer (some ⟨ad.block, ad.off + 1, none⟩)) rfl rfl (yw_pure (by rfl) (fun _ => by go_simp)) HV.out ?_
        simp only [Act.put, List.setIfInBounds_toArray, List.set_cons_zero, List.set_cons_succ]
        refine Scr.take (v := .int .i64 a1) rfl rfl (yw_cell 3 _ rfl ⟨ad.block, ad.off + 1, none⟩ (.int .i64 a1) rfl (by rfl) _ Tryd.underlying3 rfl (fun W hS => HC6.out.2.1 W hS)) HV.out ?_
        simp only [Act.put, List.setIfInBounds_toArray, List.set_cons_zero, List.set_cons_succ]
        refine Scr.take (v := .bool true) rfl rfl (yw_pure (by rfl) (fun _ => by go_simp)) HV.out ?_
        simp only [Act.put, List.setIfInBounds_toArray, List.set_cons_zero, List.set_cons_succ]
        refine Scr.take (v := .bool true) rfl rfl (yw_pure (by rfl) (fun _ => by go_simp)) HV.out ?_
        simp only [Act.put, List.setIfInBounds_toArray, List.set_cons_zero, List.set_cons_succ]
        refine Scr.take (v := .bool true) rfl rfl (yw_pure (by rfl) (fun _ => by go_simp)) HV.out ?_
        simp only [Act.put, List.setIfInBounds_toArray, List.set_cons_zero, List.set_cons_succ]
        refine Scr.take (v := .slice (some bd) lb'.length cb) rfl rfl (yw_pure (by rfl) (fun _ => by go_simp)) HV.out ?_
        simp only [Act.put, List.setIfInBounds_toArray, List.set_cons_zero, List.set_cons_succ]
        refine Scr.take (v := .pointer (some ⟨bd.block, bd.off + 1, none⟩)) rfl rfl (yw_pure (by rfl) (fun _ => by go_simp)) HV.out ?_
        simp only [Act.put, List.setIfInBounds_toArray, List.set_cons_zero, List.set_cons_succ]
        refine Scr.take (v := .int .i64 b1) rfl rfl (yw_cell 3 _ rfl ⟨bd.block, bd.off + 1, none⟩ (.int .i64 b1) rfl (by rfl) _ Tryd.underlying3 rfl (fun W hS => HC6.out.2.2.2.1 W hS)) HV.out ?_
        simp only [Act.put, List.setIfInBounds_toArray, List.set_cons_zero, List.set_cons_succ]
        refine Scr.take (v := .pointer (some ⟨bt, 0, none⟩)) rfl rfl (yw_pure (by rfl) (fun _ => by go_simp)) HV.out ?_
        simp only [Act.put, List.setIfInBounds_toArray, List.set_cons_zero, List.set_cons_succ]
        refine Scr.take (v := .pointer (some ⟨bt, 0, none⟩)) rfl rfl (yw_pure (by rfl) (fun _ => by go_simp)) HV.out ?_
        simp only [Act.put, List.setIfInBounds_toArray, List.set_cons_zero, List.set_cons_succ]
        refine Scr.take (v := .pointer (some ⟨bt, 0, none⟩)) rfl rfl (yw_pure (by rfl) (fun _ => by go_simp)) HV.out ?_
        simp only [Act.put, List.setIfInBounds_toArray, List.set_cons_zero, List.set_cons_succ]
        refine Scr.run rfl (by rfl) (fun K hK => ?_)
        go_simp
        refine (HC6.out.2.2.2.2.2.2 _ HV.out).mono ?_
        rintro e w9 ⟨rfl, rfl⟩
        dsimp only
        refine hK _ _ HV.out ?_
        clear hK K
        refine Scr.take (v := .bool true) rfl rfl (yw_pure (by rfl) (fun _ => by go_simp)) HV.out ?_
        simp only [Act.put, List.setIfInBounds_toArray, List.set_cons_zero, List.set_cons_succ]
        refine Scr.take (v := .bool true) rfl rfl (yw_pure (by rfl) (fun _ => by go_simp)) HV.out ?_
        simp only [Act.put, List.setIfInBounds_toArray, List.set_cons_zero, List.set_cons_succ]
        refine Scr.take (v := .bool true) rfl rfl (yw_pure (by rfl) (fun _ => by go_simp)) HV.out ?_
        simp only [Act.put, List.setIfInBounds_toArray, List.set_cons_zero, List.set_cons_succ]
        refine Scr.take (v := .pointer (some ⟨w.heap.size, 5, none⟩)) rfl rfl (yw_pure (by rfl) (fun _ => by go_simp)) HV.out ?_
        simp only [Act.put, List.setIfInBounds_toArray, List.set_cons_zero, List.set_cons_succ]
        refine Scr.take (v := .bool false) rfl rfl (yw_cell 4 _ rfl ⟨w.heap.size, 5, none⟩ (.bool false) rfl (by rfl) _ Tryd.underlying4 rfl (fun W hS => HC6.out.2.2.2.2.2.1 W hS)) HV.out ?_
        simp only [Act.put, List.setIfInBounds_toArray, List.set_cons_zero, List.set_cons_succ]
        refine Scr.take (v := .bool true) rfl rfl (yw_pure (by rfl) (fun _ => by go_simp)) HV.out ?_
        simp only [Act.put, List.setIfInBounds_toArray, List.set_cons_zero, List.set_cons_succ]
        refine Scr.take (v := .bool true) rfl rfl (yw_pure (by rfl) (fun _ => by go_simp)) HV.out ?_
        simp only [Act.put, List.setIfInBounds_toArray, List.set_cons_zero, List.set_cons_succ]
        refine Scr.take (v := undef) rfl rfl (yw_no (by rfl)) HV.out ?_
        simp only [Act.put, List.setIfInBounds_toArray, List.set_cons_zero, List.set_cons_succ]
        refine Scr.take (v := undef) rfl rfl (yw_no (by rfl)) HV.out ?_
        simp only [Act.put, List.setIfInBounds_toArray, List.set_cons_zero, List.set_cons_succ]
        refine Scr.take (v := undef) rfl rfl (yw_no (by rfl)) HV.out ?_
        simp only [Act.put, List.setIfInBounds_toArray, List.set_cons_zero, List.set_cons_succ]
        refine Scr.take (v := undef) rfl rfl (yw_no (by rfl)) HV.out ?_
        simp only [Act.put, List.setIfInBounds_toArray, List.set_cons_zero, List.set_cons_succ]
        refine Scr.take (v := undef) rfl rfl (yw_no (by rfl)) HV.out ?_
        simp only [Act.put, List.setIfInBounds_toArray, List.set_cons_zero, List.set_cons_succ]
        refine Scr.take (v := undef) rfl rfl (yw_no (by rfl)) HV.out ?_
        simp only [Act.put, List.setIfInBounds_toArray, List.set_cons_zero, List.set_cons_succ]
        refine Scr.take (v := .bool true) rfl rfl (yw_pure (by rfl) (fun _ => by go_simp)) HV.out ?_
        simp only [Act.put, List.setIfInBounds_toArray, List.set_cons_zero, List.set_cons_succ]
        refine Scr.take (v := .bool true) rfl rfl (yw_pure (by rfl) (fun _ => by go_simp)) HV.out ?_
        simp only [Act.put, List.setIfInBounds_toArray, List.set_cons_zero, List.set_cons_succ]
        refine Scr.take (v := .bool true) rfl rfl (yw_pure (by rfl) (fun _ => by go_simp)) HV.out ?_
        simp only [Act.put, List.setIfInBounds_toArray, List.set_cons_zero, List.set_cons_succ]
        refine Scr.take (v := .bool true) rfl rfl (yw_pure (by rfl) (fun _ => by go_simp)) HV.out ?_
        simp only [Act.put, List.setIfInBounds_toArray, List.set_cons_zero, List.set_cons_succ]
        refine Scr.take (v := .bool true) rfl rfl (yw_pure (by rfl) (fun _ => by go_simp)) HV.out ?_
        simp only [Act.put, List.setIfInBounds_toArray, List.set_cons_zero, List.set_cons_succ]
        simp only [Scr]
        go_wp2_with fail
        go_ret
        exact ⟨rfl, HX6.out.1.trans (HV.out.mono HX6.out.1.size)⟩
end Go.Proofs.YthclpabmbhpohaaDoor
namespace Go.Proofs.YthclpabmbhpohaaDoor.bitstateWithin
open Go.ChangeShapes Go.WideShapes Go.ChangeAt Go.RowKit
set_option linter.unusedVariables false
set_option maxRecDepth 100000 in
theorem lifted (os : Os) (started : os.Started) (H : Type) (enc : TypeId × Value → H) :
    ReturnsInHanded {} Tryd.checked os 4 .any (fun w args => (Rows.bitstateWithinSpec.pre enc Tryd.prog Tryd.f4 Rows.bitstateWithinRow.domain false w args ∧ laidMetH Tryd.prog Rows.bitstateWithinRow.laid w) ∧ sizedMet enc Tryd.prog Tryd.f4 (OpenSpec.ofChange Rows.bitstateWithinSpec) false w args)
      (Rows.bitstateWithinSpec.post enc Tryd.prog Tryd.f4 false true false false) := by
  refine returnsInHanded_of_change_and (C := Tryd.checked) (X := fun w _ => laidMetH Tryd.prog Rows.bitstateWithinRow.laid w) (fun _ _ _ hh h => h.of_heap hh) ownGodebug started (by kernel_rfl) Tryd.func4
    (ChangeSpec.witness_shaped (enc := enc) (C := Tryd.checked) (os := os) (X := fun w _ => laidMetH Tryd.prog Rows.bitstateWithinRow.laid w) false (World.laidAll Tryd.prog os Rows.bitstateWithinRow.laid) #[.agg #[.slice none 0 0, .int .i64 0, .int .i64 0, .slice none 0 0, .int .i64 0, .bool false, .bool false]] 8 (World.laidAll_os _ _ _)
      (World.shaped_of_ZipB (by kernel_rfl) (by kernel_rfl)) (by kernel_rfl) (by kernel_rfl) (by kernel_rfl)
      (by rw [MakeChecks.laidMetH_plain _ _ _ (by kernel_rfl)]; exact laidMet_laidAll _ (by kernel_rfl) (by kernel_rfl))) ?_
  intro W base args ds gs before hval0 hW hc hsz0 hL _
  have hval : ∀ (j : Nat) t v, Tryd.f4.params[j]? = some t → args[j]? = some v → Value.okWide Tryd.prog W .any base t v := hval0
  have hW' := hW
  obtain ⟨p, q, hA0, hV, rfl, _, _⟩ := hW
  have hA : DataW.TrodAll enc Tryd.prog W 0 (fun _ => true) true Tryd.f4.params.toList args.toList ds p := hA0
  rw [Tryd.params4] at hA hval
  obtain ⟨v0, vs0, d0, ds0, p0, q0, hargs, rfl, rfl, h0, r0⟩ := trodAll_cons hA
  obtain ⟨rfl, rfl, rfl⟩ := trodAll_nil r0
  obtain rfl : args = #[v0] := by cases args; simp_all
  obtain ⟨rfl, rfl⟩ := trodVars_none hV
  obtain ⟨cs0, rfl, hcsz0⟩ := okWide_struct Tryd.underlying31 (hval 0 31 v0 rfl rfl)
  have hz0 : SizedD d0 31 := fun n hn => by
    have h9 := List.all_eq_true.1 hsz0 n (DataW.weights_mem_each (j := 0) (t := 31) (by rw [Tryd.params4]; rfl) rfl n hn)
    have h8 : n ≤ reachBytes := by simpa using h9
    exact Nat.le_trans h8 (by unfold reachBytes; omega)
  have htr0 := h0
  obtain ⟨fuel0, hf0⟩ := htr0
  obtain ⟨t0, A0, T0, c0, tc0, s0, fr0, an0, lg0, hcs0, htc0, htx0, hnc0, hcm0, hfr0, hfw0, hsm0⟩ := ask_of hf0
  have hlt0 : ∀ x ∈ p0, x.block < W.heap.size := fun x hx => hW'.lt x (by simp [hx])
  clear hA0 hval0
  obtain rfl : cs0 = #[.slice A0 t0.ins.length c0, .int .i64 t0.start, .int .i64 t0.caps, .slice T0 s0.size tc0, .int .i64 fr0, .bool an0, .bool lg0] := by
    cases cs0 with | mk l => exact congrArg Array.mk hcs0
  have hsz := hsm0 hz0
  have hf9 : -9223372036854775808 ≤ fr0 ∧ fr0 ≤ 9223372036854775807 := by simp [Lit.wf, IntKind.min, IntKind.max, IntKind.signed, IntKind.bits] at hfr0; omega
  have walk := bWithin_any W t0 A0 c0 htc0 (by omega) hsz.2 _ T0 tc0 s0 htx0 fr0 hf9 an0 lg0
  refine walk.mono fun e W' ⟨he, bel⟩ => ?_
  subst he
  exact ⟨_, rfl, post_grown (pv := []) hW' bel rfl (fun _ _ _ => trodAll_mk1 (shut_bool Tryd.underlying4 _))
    (fun sp hsp => (trodAll_cons_mk (WideElems.Trod_stays laidOut (by kernel_rfl) (of_decide_eq_true (by kernel_rfl)) h0 (fun x hx => bel.same (hlt0 x hx)) (fun x hx => hsp x (by simp [hx]))) trodAll_mk0)) (fun _ _ => rfl) (ok_one (by kernel_rfl) rfl (okWide_bool_mk Tryd.underlying4 _))⟩
theorem said : Rows.BitstateWithinSaid :=
  OpenClaim.holds_of_wide 4 Tryd.f4 rfl rfl rfl rfl rfl rfl rfl ⟨rfl, rfl, rfl, rfl, rfl⟩ rfl rfl rfl rfl rfl (by kernel_rfl) Tryd.func4 (by kernel_rfl)
    (of_decide_eq_true (by kernel_rfl)) (by unfold Func.isWrapper; first | (rw [if_pos (by decide +kernel)]; kernel_rfl) | (rw [if_neg (by decide +kernel)]; exact ⟨rfl, rfl⟩))
    (fun os started H enc _ => lifted os started H enc)
/-- No parameter wants a stand-in; the program's own looks are off. -/
theorem plain (f : FuncId) (fn : Func) (hf : Tryd.pinned.checked.prog.funcNamed "martello/martellolaw16.BitstateWithin" = some f) (hfn : Tryd.pinned.checked.prog.funcs[f]? = some fn) :
    false = Tryd.pinned.checked.prog.looks [] ∧ ∀ (j : Nat) t, fn.params[j]? = some t → Tryd.pinned.checked.prog.wantsStandIn t = false := by
  obtain rfl : f = 4 := Option.some.inj ((show Tryd.prog.funcNamed "martello/martellolaw16.BitstateWithin" = some 4 by kernel_rfl).symm.trans hf) |>.symm
  obtain rfl : fn = Tryd.f4 := (Option.some.inj (Tryd.func4.symm.trans hfn)).symm
  refine ⟨by kernel_rfl, fun j t ht => ?_⟩
  rw [Tryd.params4] at ht
  have hm : t ∈ [31] := by simpa using Array.mem_of_getElem? ht
  have hall : ([31].all fun u => !Tryd.prog.wantsStandIn u) = true := by kernel_rfl
  exact (show Tryd.prog.wantsStandIn t = false by simpa using List.all_eq_true.1 hall t hm)
theorem card : Rows.BitstateWithinCardSaid :=
  Claim7.holds_tied_plain_at .later [] _ _ _ _ said (fun _ h => by cases h) (by kernel_rfl) (fun _ h => by cases h) bitstateWithin_row_tie rfl ⟨rfl, rfl⟩ (by kernel_rfl) rfl plain (by kernel_rfl)
end Go.Proofs.YthclpabmbhpohaaDoor.bitstateWithin
namespace Go.Proofs.YthclpabmbhpohaaDoor
/-- The card, under a short name, for the claim. -/
theorem bitstateWithin_card : Rows.BitstateWithinCardSaid := bitstateWithin.card
end Go.Proofs.YthclpabmbhpohaaDoor
