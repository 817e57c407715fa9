/-
  martelloref12.Run: the match of the document's walk. No condition but that the program is right.
  The match of a program that needs no choice is that of the walk with bits: the plain law. No condition.
  The document's runes and places are the program's; so is the match of a program that needs no choice. No condition.
  martellolaw15.OnepassMatches: the walk: it tells true. No condition but that the program's fields are values of their types, and the two tables stand.
  A law's row: its last step where below the call's own blocks nothing has turned; slices of whole numbers that came in.
  A list of ranges, an instruction, a program that came in as an argument: what the row's reading of it gives of memory. No condition.
  A program that came in as an argument: what the row's reading of it gives of memory. No condition.
  Bytes that came in as an argument: a text.
-/
import Derived.Test.YthclpabmbhpohaaDoorOneMatG13
import Derived.Lib.MinMax
import Derived.Deep.LoopGhost
import Derived.Test.YthclpabmbhpohaaDoorRows
import Derived.WalkKit
import Derived.ProofKit
import Derived.OpenShut
import Derived.LaidMore
import Derived.Lay
import Derived.SevenTiedAt
import Derived.Stop.Joined
import Derived.ChangeOld
import Derived.ChangeSame
import Derived.Below
import Derived.Carry
import Derived.ShutString
import Derived.SizedLaws
namespace Go.Proofs.YthclpabmbhpohaaDoor
open Go.RowKit
set_option linter.unusedVariables false
def intsArr (l : List Int) : Array Value := (l.map (Value.int .i64)).toArray
theorem ints_arr_at {l : List Int} {i : Nat} (h : i < l.length) : (intsArr l)[i]? = some (.int .i64 l[i]) := by simp [intsArr, h]
theorem ints_arr_set (l : List Int) (i : Nat) (v : Int) : (intsArr l).setIfInBounds i (.int .i64 v) = intsArr (l.set i v) := by simp [intsArr, List.map_set]
theorem make_ints (w : World) (N : Nat) (hN : N ≤ 1000000) : (Instr.makeSlice 35 (.int .i64 N) (.int .i64 N)).run Tryd.prog w = .ok (.slice (some ⟨w.heap.size, 0, none⟩) N N) (w.alloc (.cells (intsArr (List.replicate N 0)) 3)) := by
  obtain ⟨i, hi, hz0, hz1, hz2⟩ := info_parts infoI
  have h := run_make (P := Tryd.prog) w 35 3 i _ Tryd.underlying35 hi hz0 .i64 .i64 (N : Int) (N : Int) (by omega) (Int.le_refl _) (by rw [hz2]; omega) (by omega)
  rw [Int.toNat_natCast, hz1] at h
  rw [h]
  have e : madeCells #[.int .i64 0] (N * 1) = intsArr (List.replicate N 0) := by
    apply Array.ext_getElem?
    intro j
    by_cases hj : j < N
    · rw [ints_arr_at (by simpa using hj)]; simp [madeCells, hj, Nat.mod_one]
    · simp [madeCells, intsArr, hj]
  rw [← e]; rfl
theorem wpList_makeI {ops : Array Oper} {rest : List Oper} {o : Oper} {a : Act} {Q : Exit → Act → World → Prop} {w : World} (hgd : o.guard = none) (l c : Operand) (ho : o.op = .makeSlice 35 l c)
    (N : Nat) (hl : a.eval l = .int .i64 N) (hc : a.eval c = .int .i64 N) (hN : N ≤ 1000000)
    (h : wpList Tryd.prog ops Q rest (a.put o.dst (.slice (some ⟨w.heap.size, 0, none⟩) N N)) (w.alloc (.cells (intsArr (List.replicate N 0)) 3))) : wpList Tryd.prog ops Q (o :: rest) a w := by
  refine wpList_plain hgd fun K hK => ?_
  unfold Oper.wp execOp
  simp only [ho, Sem.run_bind, Sem.run_pure, Result.andThen_ok, hl, hc, make_ints w N hN]
  exact hK _ _ h
theorem blk_arr {ok : Nat → Prop} {W : World} {g : Nat} {l : List Int} (h : W.heap[g]? = some (.cells (intsArr l) 3 (0, 0))) (hg : ok g) : Arr ok W 1 (IntC .i64) (some ⟨g, 0, none⟩) l := by
  intro i x hi
  obtain ⟨hl, rfl⟩ := List.getElem?_eq_some_iff.1 hi
  refine ⟨_, [.int .i64 l[i]], rfl, hg, rfl, rfl, fun j u hj => ?_⟩
  have hj0 : j = 0 := by have := (List.getElem?_eq_some_iff.1 hj).1; simp at this; omega
  subst hj0
  rw [Addr.add_mid, Nat.zero_add, Nat.mul_one, Nat.add_zero, cell_of_blk h, ints_arr_at hl]
  simpa using hj
theorem seen_none (N M L : Nat) (hL : L = N * M) : SeenC (boolsOf L []) N M L emptyW := by
  refine ⟨by simp [boolsOf], fun i j hi hj => ?_⟩
  rw [bools_at (by rw [hL]; exact place_lt hi hj)]
  rfl
theorem grown_trans0 {A B C : World} {r : Option Nat} (h : A.grownBy B r) (k : B.grownBy C r) : A.grownBy C r :=
  ⟨k.os.trans h.os, k.tape.trans h.tape, k.output.trans h.output, Nat.le_trans h.size k.size, fun b hb hne => (k.block b (Nat.lt_of_lt_of_le hb h.size) hne).trans (h.block b hb hne)⟩
/-- What Run tells: the best match, is there one. -/
def RunPost (best : Option (List Int)) (w : World) (e : Ending) (w' : World) : Prop :=
  ∃ v, e = .returned (.tuple #[v, .bool best.isSome]) ∧ (∃ A c, v = .slice A (best.getD []).length c ∧ Arr (fun _ => True) w' 1 (IntC .i64) A (best.getD [])) ∧ Below w.heap.size w w'
set_option maxRecDepth 100000 in
set_option maxHeartbeats 4000000 in
theorem run_any (w : World) (p : Pg) (A : Option Addr) (c : Nat) (hp : PgC (fun k => k < w.heap.size) w p [.slice A p.ins.length c, .int .i64 p.start, .int .i64 p.caps]) (hck : checkS rightR p = 0) (ib : Nat) (cs : List Int) (hin : RefB (fun k => k < w.heap.size) w ib cs) (at_ to : Int) (lg : Bool) (ha0 : 0 ≤ at_) (ha1 : at_ ≤ cs.length) (hL8 : p.ins.length * (cs.length + 1) ≤ 100000000) :
    Calls Tryd.prog 26 #[.agg #[.slice A p.ins.length c, .int .i64 p.start, .int .i64 p.caps], .pointer (some ⟨ib, 0, none⟩), .int .i64 at_, .int .i64 to, .bool lg] w (RunPost (runW p (codeAt cs) (docAt cs) (min to cs.length) lg (cs.length + 1) at_) w) := by
  have hcs : cs.length ≤ 1000000 := by obtain ⟨_, _, _, _, h9, _⟩ := hin; exact h9
  have hkk := check_ok hck
  obtain ⟨M, hM⟩ : ∃ M, cs.length + 1 = M := ⟨_, rfl⟩
  obtain ⟨L, hL⟩ : ∃ L, p.ins.length * M = L := ⟨_, rfl⟩
  have hLb : L ≤ 100000000 := by rw [← hL, ← hM]; exact hL8
  clear hL8
  obtain ⟨j, rfl⟩ := Int.eq_ofNat_of_zero_le ha0
  obtain ⟨i, hi⟩ : ∃ i : Nat, p.start = (i : Int) := ⟨p.start.toNat, by have := hkk.2.2.1.1; omega⟩
  obtain ⟨m, hm⟩ : ∃ m : Nat, p.caps = (m : Int) := ⟨p.caps.toNat, by have := hkk.2.2.2.1; omega⟩
  have hw1 : IntKind.i64.wrap ((cs.length : Int) + 1) = (M : Int) := by rw [IntWalk.i64_in _ (by omega)]; omega
  have hw2 : IntKind.i64.wrap ((p.ins.length : Int) * (M : Int)) = (L : Int) := by rw [show (p.ins.length : Int) * (M : Int) = (L : Int) by rw [← hL]; simp]; exact IntWalk.i64_in _ (by omega)
  have HP := Lib.hid (And.intro hp (And.intro hin (And.intro hck (And.intro hL (And.intro hi (And.intro hm hkk))))))
  have HMM := Lib.hid (And.intro hm hM)
  clear hp hin hck hL hi hkk hm hM
  go_enter Tryd.func26, Tryd.ntmps26
  go_wp2_with fail
  obtain ⟨bx, hbx⟩ : ∃ bx, w.heap.size = bx := ⟨_, rfl⟩
  obtain ⟨X, hX⟩ : ∃ X, w.alloc (.cells #[.slice A p.ins.length c, .int .i64 p.start, .int .i64 p.caps] 28) = X := ⟨_, rfl⟩
  have hBX : Below w.heap.size w X := by rw [← hX]; exact below_al (Below.refl _ _) _
  have hX0 : X.heap[bx]? = some (.cells #[.slice A p.ins.length c, .int .i64 p.start, .int .i64 p.caps] 28 (0, 0)) := by rw [← hX, ← hbx]; exact heap_new1 _ _
  have hXs : X.heap.size = bx + 1 := by rw [← hX, World.size_alloc, hbx]
  rw [hX, hbx]
  have HX := Lib.hid (And.intro hBX hXs)
  have HC : Hid ((∀ W, Below X.heap.size X W → W.heap[bx]? = some (.cells #[.slice A p.ins.length c, .int .i64 p.start, .int .i64 p.caps] 28 (0, 0))) ∧ (∀ W, Below X.heap.size X W → W.cell? ⟨bx, 0, none⟩ = some (.slice A p.ins.length c)) ∧ (∀ W, Below X.heap.size X W → Calls Tryd.prog 34 #[.pointer (some ⟨ib, 0, none⟩)] W fun e w' => e = .returned (.int .i64 cs.length) ∧ W = w')) := Lib.hid (by
    refine ⟨fun W hW => (hW.block _ (heap_lt hX0)).trans hX0, fun W hW => by rw [cell_of_blk ((hW.block _ (heap_lt hX0)).trans hX0)]; rfl, fun W hW => ?_⟩
    obtain ⟨A5, c5, _, k1, _, _⟩ := HP.out.2.1.move (w' := W) (ok' := fun k => k < w.heap.size) (fun k hk _ => ⟨(hBX.trans (hW.mono hBX.size)).block k hk, hk⟩)
    exact refLen_any W ib cs A5 c5 k1 (by omega))
  clear hX hBX hX0 hXs
  refine wp_region_scr (fun W' => Below X.heap.size X W') [(true, 0, 15), (true, 1, 16), (true, 2, 17), (true, 3, 18), (true, 6, 21), (true, 7, 22), (true, 8, 23), (true, 9, 24), (true, 10, 25), (false, 4, 19), (true, 5, 20), (false, 11, 26), (true, 12, 27), (true, 13, 28), (false, 14, 29), (false, 15, 30), (false, 16, 31), (true, 17, 12)] (by kernel_rfl) (by kernel_rfl) (fun _ _ _ _ _ h => h) rfl (by kernel_rfl) ?_
  have HV := Lib.hid (show Below X.heap.size X X.drew from (Below.refl _ _).drew)
  refine Scr.take (v := .agg #[.slice A p.ins.length c, .int .i64 p.start, .int .i64 p.caps]) rfl rfl (yw_row 28 _ rfl bx ([.slice A p.ins.length c, .int .i64 p.start, .int .i64 p.caps] : List Value) 28 rfl (by rfl) _ Tryd.underlying28 rfl (by rfl) (fun W hS => HC.out.1 W hS)) HV.out ?_
  simp only [Act.put, List.setIfInBounds_toArray, List.set_cons_zero, List.set_cons_succ]
  refine Scr.take (v := .pointer (some ⟨ib, 0, none⟩)) rfl rfl (yw_pure (by rfl) (fun _ => by go_simp)) HV.out ?_
  simp only [Act.put, List.setIfInBounds_toArray, List.set_cons_zero, List.set_cons_succ]
  refine Scr.take (v := .int .i64 to) rfl rfl (yw_pure (by rfl) (fun _ => by go_simp)) HV.out ?_
  simp only [Act.put, List.setIfInBounds_toArray, List.set_cons_zero, List.set_cons_succ]
  refine Scr.take (v := .pointer (some ⟨ib, 0, none⟩)) rfl rfl (yw_pure (by rfl) (fun _ => by go_simp)) HV.out ?_
  simp only [Act.put, List.setIfInBounds_toArray, List.set_cons_zero, List.set_cons_succ]
  refine Scr.take (v := .bool lg) rfl rfl (yw_pure (by rfl) (fun _ => by go_simp)) HV.out ?_
  simp only [Act.put, List.setIfInBounds_toArray, List.set_cons_zero, List.set_cons_succ]
  refine Scr.take (v := .pointer (some ⟨bx, 0, none⟩)) rfl rfl (yw_pure (by rfl) (fun _ => by go_simp)) HV.out ?_
  simp only [Act.put, List.setIfInBounds_toArray, List.set_cons_zero, List.set_cons_succ]
  refine Scr.take (v := .slice A p.ins.length c) rfl rfl (yw_cell 26 _ rfl ⟨bx, 0, none⟩ (.slice A p.ins.length c) rfl (by rfl) _ Tryd.underlying26 rfl (fun W hS => HC.out.2.1 W hS)) HV.out ?_
  simp only [Act.put, List.setIfInBounds_toArray, List.set_cons_zero, List.set_cons_succ]
  refine Scr.take (v := .int .i64 p.ins.length) rfl rfl (yw_pure (by rfl) (fun _ => by go_simp)) HV.out ?_
  simp only [Act.put, List.setIfInBounds_toArray, List.set_cons_zero, List.set_cons_succ]
  refine Scr.take (v := .pointer (some ⟨ib, 0, none⟩)) rfl rfl (yw_pure (by rfl) (fun _ => by go_simp)) HV.out ?_
  simp only [Act.put, List.setIfInBounds_toArray, List.set_cons_zero, List.set_cons_succ]
  refine Scr.run rfl (by rfl) (fun K hK => ?_)
  go_simp
  refine (HC.out.2.2 _ HV.out).mono ?_
  rintro e w4 ⟨rfl, rfl⟩
  dsimp only
  refine hK _ _ HV.out ?_
  clear hK K
  refine Scr.take (v := .int .i64 (min to cs.length)) rfl rfl (yw_pure (by rfl) (fun _ => by go_simp)) HV.out ?_
  simp only [Act.put, List.setIfInBounds_toArray, List.set_cons_zero, List.set_cons_succ]
  refine Scr.run rfl (by rfl) (fun K hK => ?_)
  go_simp
  refine (HC.out.2.2 _ HV.out).mono ?_
  rintro e w4 ⟨rfl, rfl⟩
  dsimp only
  refine hK _ _ HV.out ?_
  clear hK K
  refine Scr.take (v := .int .i64 M) rfl rfl (yw_pure (by rfl) (fun _ => by go_simp)) HV.out ?_
  simp only [Act.put, List.setIfInBounds_toArray, List.set_cons_zero, List.set_cons_succ]
  refine Scr.take (v := .int .i64 L) rfl rfl (yw_pure (by rfl) (fun _ => by go_simp)) HV.out ?_
  simp only [Act.put, List.setIfInBounds_toArray, List.set_cons_zero, List.set_cons_succ]
  refine Scr.run rfl (by rfl) (fun K hK => ?_)
  go_simp
  rw [make_bools _ L (by omega)]
  dsimp only [Result.andThen_ok]
  have hV1 : Below X.heap.size X (X.drew.alloc (.cells (boolsOf L []) 4)) := below_al (w := X) HV.out _
  refine hK _ _ hV1 ?_
  clear hK K
  rw [show X.drew.heap.size = bx + 1 from HX.out.2]
  obtain ⟨Y, hY⟩ : ∃ Y, X.drew.alloc (.cells (boolsOf L []) 4) = Y := ⟨_, rfl⟩
  have hY1 : Y.heap[bx + 1]? = some (.cells (boolsOf L []) 4 (0, 0)) := by rw [← hY]; exact heap_newX HX.out.2.symm
  have hYs : Y.heap.size = bx + 2 := by rw [← hY, World.size_alloc]; have h9 : X.drew.heap.size = bx + 1 := HX.out.2; omega
  rw [hY] at hV1 ⊢
  have HY := Lib.hid (And.intro hV1 (And.intro hY1 hYs))
  clear hY hV1 hY1 hYs
  have HU := Lib.hid HY.out.1
  refine Scr.run rfl (by rfl) (fun K hK => ?_)
  go_simp
  refine hK _ _ HU.out ?_
  clear hK K
  refine Scr.run rfl (by rfl) (fun K hK => ?_)
  go_simp
  refine hK _ _ (below_al HU.out _) ?_
  clear hK K
  rw [HY.out.2.2]
  obtain ⟨Z, hZ⟩ : ∃ Z, Y.alloc (.cells #[.slice A p.ins.length c, .int .i64 p.start, .int .i64 p.caps, .pointer (some ⟨ib, 0, none⟩), .int .i64 (min to cs.length), .bool lg, .slice (some ⟨bx + 1, 0, none⟩) L L, .slice none 0 0] 97) = Z := ⟨_, rfl⟩
  have hZ1 : Z.heap[bx + 2]? = some (.cells #[.slice A p.ins.length c, .int .i64 p.start, .int .i64 p.caps, .pointer (some ⟨ib, 0, none⟩), .int .i64 (min to cs.length), .bool lg, .slice (some ⟨bx + 1, 0, none⟩) L L, .slice none 0 0] 97 (0, 0)) := by rw [← hZ]; exact heap_newX HY.out.2.2.symm
  have hZ2 : Z.heap[bx + 1]? = some (.cells (boolsOf L []) 4 (0, 0)) := by rw [← hZ]; exact (Below.heap_alloc _ _ _ (by have := HY.out.2.2; omega)).trans HY.out.2.1
  have hZs : Z.heap.size = bx + 3 := by rw [← hZ, World.size_alloc, HY.out.2.2]
  have hZB : Below X.heap.size X Z := by rw [← hZ]; exact below_al HU.out _
  rw [hZ]
  have HZ := Lib.hid (And.intro hZ1 (And.intro hZ2 (And.intro hZs hZB)))
  clear hZ hZ1 hZ2 hZs
  have HT := Lib.hid hZB
  clear hZB
  refine Scr.take (v := .pointer (some ⟨bx + 2, 0, none⟩)) rfl rfl (yw_pure (by rfl) (fun _ => by go_simp)) HT.out ?_
  simp only [Act.put, List.setIfInBounds_toArray, List.set_cons_zero, List.set_cons_succ]
  simp only [Scr]
  have hTW : TwAt Z (bx + 1) p.ins.length M L (.slice A p.ins.length c) (.int .i64 p.start) (.int .i64 p.caps) ib (min to cs.length) lg (.slice none 0 0) emptyW := ⟨HZ.out.1, ⟨_, HZ.out.2.1, seen_none _ _ _ HP.out.2.2.2.1.symm⟩, rfl⟩
  have hZx := HC.out.1 Z HZ.out.2.2.2
  obtain ⟨z0, z1, z2⟩ := cells3 hZx
  have zn := heap_lt hZx
  obtain ⟨hm, hM⟩ := HMM.out
  have hmb : m ≤ 4002 ∧ 2 ≤ m := by have h1 := HP.out.2.2.2.2.2.2.2.2.2.1; have h2 := HP.out.2.2.2.2.2.2.2.2.2.2.1; rw [hm] at h1 h2; omega
  have HTW := Lib.hid (And.intro hTW hZx)
  rw [hm] at z2
  have HM := Lib.hid (And.intro hm hM)
  clear hTW hZx hm hM
  obtain ⟨hmb1, hmb2⟩ := hmb
  go_wp2_with (first | (refine wpList_makeI rfl _ _ rfl m rfl rfl (by omega) ?_))
  rw [HZ.out.2.2.1]
  obtain ⟨V, hV⟩ : ∃ V, Z.alloc (.cells (intsArr (List.replicate m 0)) 3) = V := ⟨_, rfl⟩
  have hV1 : V.heap[bx + 3]? = some (.cells (intsArr (List.replicate m 0)) 3 (0, 0)) := by rw [← hV]; exact heap_newX HZ.out.2.2.1.symm
  have hVB : Below Z.heap.size Z V := by rw [← hV]; exact below_al (Below.refl _ _) _
  have hVs : V.heap.size = bx + 4 := by rw [← hV, World.size_alloc, HZ.out.2.2.1]
  rw [hV]
  have HVV := Lib.hid (And.intro hV1 (And.intro hVB hVs))
  clear hV hV1 hVB hVs z0 z1 z2 zn
  go_loopg [14] (m + 1) (fun g s14 wr => ∃ k : Nat, s14 = .int .i64 k ∧ k ≤ m ∧ m + 1 - k ≤ g ∧ wr.heap[bx + 3]? = some (.cells (intsArr (List.replicate k (-1) ++ List.replicate (m - k) 0)) 3 (0, 0)) ∧ V.grownBy wr (some (bx + 3)))
  case atStart => exact ⟨0, rfl, Nat.zero_le _, by omega, by simpa using HVV.out.1, ⟨rfl, rfl, rfl, Nat.le_refl _, fun _ _ _ => rfl⟩⟩
  case round =>
    obtain ⟨k, rfl, hk, hg, hb3, hgr⟩ := hrel
    by_cases hkm : k < m
    · have hd : decide ((k : Int) < (m : Int)) = true := decide_eq_true (by omega)
      have hlen : (List.replicate k (-1 : Int) ++ List.replicate (m - k) 0).length = m := by simp; omega
      have hc3 : wr.cell? ⟨bx + 3, k, none⟩ = some (.int .i64 ((List.replicate k (-1 : Int) ++ List.replicate (m - k) 0)[k]'(by omega))) := by rw [cell_of_blk hb3, ints_arr_at (by omega)]
      have hf3 := frozenOf hb3 k
      have hn3 := heap_lt hb3
      generalize ((List.replicate k (-1 : Int) ++ List.replicate (m - k) 0)[k]'(by omega)) = zz at hc3
      have HB3 := Lib.hid (And.intro hb3 hgr)
      clear hb3 hgr hlen
      go_wp2_with fail
      go_roundg (gk - 1)
      case measure => omega
      case rel =>
        refine ⟨k + 1, by go_num, by omega, by omega, ?_, grown_trans0 HB3.out.2 (grown_set0 _ _ _ _)⟩
        rw [heap_set0 HB3.out.1 k, ints_arr_set]
        congr 3
        rw [List.set_append_right _ _ (by simp), List.length_replicate, Nat.sub_self, show m - k = (m - (k + 1)) + 1 by omega, List.replicate_succ, List.set_cons_zero, List.replicate_succ']
        simp
    · have hd : decide ((k : Int) < (m : Int)) = false := decide_eq_false (by omega)
      have hkm2 : k = m := by omega
      rw [hkm2, Nat.sub_self, List.replicate_zero, List.append_nil] at hb3
      have hc3 : wr.cell? ⟨bx + 3, 0, none⟩ = some (.int .i64 (-1)) := by rw [cell_of_blk hb3, ints_arr_at (by simp; omega)]; simp
      have hf3 := frozenOf hb3 0
      have hn3 := heap_lt hb3
      have hold : ∀ q, q < bx + 3 → wr.heap[q]? = Z.heap[q]? := fun q hq => (hgr.block q (by rw [HVV.out.2.2]; omega) (fun e => by cases e; omega)).trans (HVV.out.2.1.block q (by rw [HZ.out.2.2.1]; omega))
      obtain ⟨W1, hW1⟩ : ∃ W1, wr.setCell ⟨bx + 3, 0, none⟩ (.int .i64 (j : Int)) = W1 := ⟨_, rfl⟩
      have hW1o : ∀ q, q < bx + 3 → W1.heap[q]? = Z.heap[q]? := fun q hq => by rw [← hW1, set_ne0 _ _ (by show q ≠ bx + 3; omega)]; exact hold q hq
      have hW1s : bx + 4 ≤ W1.heap.size := by rw [← hW1]; have := hgr.size; rw [HVV.out.2.2] at this; simpa [World.setCell] using this
      have hW13 : W1.heap[bx + 3]? = some (.cells (intsArr (fitP p (j : Int))) 3 (0, 0)) := by
        rw [← hW1, heap_set0 hb3 0, ints_arr_set]
        unfold fitP
        rw [HM.out.1, Int.toNat_natCast]
      have hBW1 : Below (bx + 3) Z W1 := by
        have h8 : wr.os = Z.os := hgr.os.trans HVV.out.2.1.os
        refine ⟨?_, ?_, ?_, by rw [HZ.out.2.2.1]; omega, fun q hq => hW1o q hq⟩
        · rw [← hW1]; exact hgr.os.trans HVV.out.2.1.os
        · rw [← hW1]; exact hgr.tape.trans HVV.out.2.1.tape
        · rw [← hW1]; exact hgr.output.trans HVV.out.2.1.output
      have hfit : FitT W1 (bx + 1) (.slice (some ⟨bx + 3, 0, none⟩) m m) (fitP p (j : Int)) := by
        have hl9 : (fitP p (j : Int)).length = m := by unfold fitP; rw [List.length_set, List.length_replicate, HM.out.1, Int.toNat_natCast]
        exact ⟨_, m, by rw [hl9], by omega, by unfold maxLen; omega, blk_arr hW13 ⟨by omega, by omega⟩⟩
      have hTW1 : TwAt W1 (bx + 1) p.ins.length M L (.slice A p.ins.length c) (.int .i64 p.start) (.int .i64 p.caps) ib (min to cs.length) lg (.slice none 0 0) emptyW := by
        obtain ⟨t1, ⟨cs1, t2, t3⟩, t4⟩ := HTW.out.1
        exact ⟨(hW1o _ (by omega)).trans t1, ⟨cs1, (hW1o _ (by omega)).trans t2, t3⟩, t4⟩
      have hbw : Below w.heap.size w W1 := HX.out.1.trans ((HZ.out.2.2.2.mono HX.out.1.size).trans (hBW1.mono (by omega)))
      have hCT : CtxT p (bx + 1) L (.slice A p.ins.length c) (.int .i64 p.start) (.int .i64 p.caps) ib cs W1 :=
        ⟨HP.out.1.move (fun k hk _ => ⟨hbw.block k hk, by omega⟩), HP.out.2.1.move (fun k hk _ => ⟨hbw.block k hk, by omega⟩), by omega, HP.out.2.2.1, by rw [HM.out.2]; exact HP.out.2.2.2.1.symm⟩
      have hcall := through_all p (bx + 1) L _ _ _ ib cs (min to cs.length) lg W1 hCT (by omega) (M * p.ins.length + 1) i j (fitP p (j : Int)) _ emptyW _ W1 (by have := HP.out.2.2.2.2.2.2.2.2.1; rw [HP.out.2.2.2.2.1] at this; have := this.2; omega) (by omega) (by rw [HM.out.2]; exact hTW1) hfit (by unfold fitP; rw [List.length_set, List.length_replicate]; have := HM.out.1; omega) (Below.refl _ _) (by have := left_len (allP p (cs.length + 1)) emptyW; rw [allP_len, HM.out.2] at this; rw [HM.out.2]; omega)
      have hres : Hid ((if min to (cs.length : Int) < (j : Int) then emptyW else come (grP p (codeAt cs) (docAt cs) (min to cs.length) lg) (M * p.ins.length + 1) ((i : Int), (j : Int)) (fitP p (j : Int)) emptyW).best = runW p (codeAt cs) (docAt cs) (min to cs.length) lg (cs.length + 1) (j : Int)) := Lib.hid (by
        unfold runW
        rw [HM.out.2, HP.out.2.2.2.2.1]
        by_cases h9 : min to (cs.length : Int) < (j : Int)
        · rw [if_pos h9, if_pos h9]; rfl
        · rw [if_neg h9, if_neg h9])
      generalize (if min to (cs.length : Int) < (j : Int) then emptyW else come (grP p (codeAt cs) (docAt cs) (min to cs.length) lg) (M * p.ins.length + 1) ((i : Int), (j : Int)) (fitP p (j : Int)) emptyW) = S' at *
      have hW1x := (hW1o bx (by omega)).trans HTW.out.2
      obtain ⟨z0, z1, z2⟩ := cells3 hW1x
      have zn := heap_lt hW1x
      rw [HP.out.2.2.2.2.1] at z1
      have HW1 := Lib.hid (And.intro hbw hW1s)
      clear hold hW1o hW1s hW13 hBW1 hfit hTW1 hbw hCT hW1x hgr hb3
      go_wp2_with fail
      refine hcall.mono ?_
      clear hcall z0 z1 z2 zn hc3 hf3 hn3
      rintro e X9 ⟨rfl, ⟨bv, hT9⟩, hk9⟩
      dsimp only
      have hB9 : Below w.heap.size w X9 := HW1.out.1.trans ((hk9.below (by have := HW1.out.2; omega)).mono (by omega))
      have hblk := hT9.blk
      have hbest := hT9.best
      have HB9 := Lib.hid hB9
      clear hT9 hk9 hB9
      cases hb9 : S'.best with
      | none =>
        rw [hb9] at hbest
        obtain rfl : bv = .slice none 0 0 := hbest
        have HC9 : Hid (∀ W, Below X9.heap.size X9 W → W.cell? ⟨bx + 2, 7, none⟩ = some (.slice none 0 0)) := Lib.hid (fun W hW => by rw [cell_of_blk ((hW.block _ (heap_lt hblk)).trans hblk)]; rfl)
        have HR : Hid (runW p (codeAt cs) (docAt cs) (min to cs.length) lg (cs.length + 1) (j : Int) = none) := Lib.hid (by rw [← hres.out, hb9])
        clear hblk hb9
        go_wp2_with fail
        refine wp_region_scr (fun W' => Below X9.heap.size X9 W') [(true, 0, 53), (true, 1, 54), (true, 2, 55), (true, 3, 56), (true, 4, 57), (true, 5, 58), (true, 6, 59), (true, 7, 60), (true, 8, 61), (true, 9, 10), (true, 10, 11)] (by kernel_rfl) (by kernel_rfl) (fun _ _ _ _ _ h => h) rfl (by kernel_rfl) ?_
        have HV9 := Lib.hid (show Below X9.heap.size X9 X9.drew from (Below.refl _ _).drew)
        refine Scr.take (v := .pointer (some ⟨bx + 2, 0, none⟩)) rfl rfl (yw_pure (by rfl) (fun _ => by go_simp)) HV9.out ?_
        simp only [Act.put, List.setIfInBounds_toArray, List.set_cons_zero, List.set_cons_succ]
        refine Scr.take (v := .pointer (some ⟨bx + 2, 0, none⟩)) rfl rfl (yw_pure (by rfl) (fun _ => by go_simp)) HV9.out ?_
        simp only [Act.put, List.setIfInBounds_toArray, List.set_cons_zero, List.set_cons_succ]
        refine Scr.take (v := .pointer (some ⟨bx + 2, 7, none⟩)) rfl rfl (yw_pure (by rfl) (fun _ => by go_simp)) HV9.out ?_
        simp only [Act.put, List.setIfInBounds_toArray, List.set_cons_zero, List.set_cons_succ]
        refine Scr.take (v := .slice none 0 0) rfl rfl (yw_cell 35 _ rfl ⟨bx + 2, 7, none⟩ (.slice none 0 0) rfl (by rfl) _ Tryd.underlying35 rfl (fun W hS => HC9.out W hS)) HV9.out ?_
        simp only [Act.put, List.setIfInBounds_toArray, List.set_cons_zero, List.set_cons_succ]
        refine Scr.take (v := .pointer (some ⟨bx + 2, 0, none⟩)) rfl rfl (yw_pure (by rfl) (fun _ => by go_simp)) HV9.out ?_
        simp only [Act.put, List.setIfInBounds_toArray, List.set_cons_zero, List.set_cons_succ]
        refine Scr.take (v := .pointer (some ⟨bx + 2, 0, none⟩)) rfl rfl (yw_pure (by rfl) (fun _ => by go_simp)) HV9.out ?_
        simp only [Act.put, List.setIfInBounds_toArray, List.set_cons_zero, List.set_cons_succ]
        refine Scr.take (v := .pointer (some ⟨bx + 2, 7, none⟩)) rfl rfl (yw_pure (by rfl) (fun _ => by go_simp)) HV9.out ?_
        simp only [Act.put, List.setIfInBounds_toArray, List.set_cons_zero, List.set_cons_succ]
        refine Scr.take (v := .slice none 0 0) rfl rfl (yw_cell 35 _ rfl ⟨bx + 2, 7, none⟩ (.slice none 0 0) rfl (by rfl) _ Tryd.underlying35 rfl (fun W hS => HC9.out W hS)) HV9.out ?_
        simp only [Act.put, List.setIfInBounds_toArray, List.set_cons_zero, List.set_cons_succ]
        refine Scr.take (v := .bool false) rfl rfl (yw_pure (by rfl) (fun _ => by go_simp)) HV9.out ?_
        simp only [Act.put, List.setIfInBounds_toArray, List.set_cons_zero, List.set_cons_succ]
        refine Scr.take (v := .slice none 0 0) rfl rfl (yw_pure (by rfl) (fun _ => by go_simp)) HV9.out ?_
        simp only [Act.put, List.setIfInBounds_toArray, List.set_cons_zero, List.set_cons_succ]
        refine Scr.take (v := .bool false) rfl rfl (yw_pure (by rfl) (fun _ => by go_simp)) HV9.out ?_
        simp only [Act.put, List.setIfInBounds_toArray, List.set_cons_zero, List.set_cons_succ]
        simp only [Scr]
        go_wp2_with fail
        go_ret2
        rw [HR.out]
        exact ⟨_, rfl, ⟨none, 0, rfl, Arr.nil⟩, HB9.out.trans (HV9.out.mono HB9.out.size)⟩
      | some l0 =>
        rw [hb9] at hbest
        obtain ⟨⟨A9, c9, rfl, k1, k2, k3⟩, k4⟩ := hbest
        obtain ⟨Ab, rfl⟩ : ∃ Ab, A9 = some Ab := by
          obtain ⟨a9, e9, _⟩ := ints_at k3 0 (by omega)
          exact ⟨a9, e9⟩
        have HC9 : Hid (∀ W, Below X9.heap.size X9 W → W.cell? ⟨bx + 2, 7, none⟩ = some (.slice (some Ab) l0.length c9)) := Lib.hid (fun W hW => by rw [cell_of_blk ((hW.block _ (heap_lt hblk)).trans hblk)]; rfl)
        have HR : Hid (runW p (codeAt cs) (docAt cs) (min to cs.length) lg (cs.length + 1) (j : Int) = some l0) := Lib.hid (by rw [← hres.out, hb9])
        have HK3 := Lib.hid k3
        clear hblk hb9 k1 k2 k3 k4
        go_wp2_with fail
        refine wp_region_scr (fun W' => Below X9.heap.size X9 W') [(true, 0, 53), (true, 1, 54), (true, 2, 55), (true, 3, 56), (true, 4, 57), (true, 5, 58), (true, 6, 59), (true, 7, 60), (true, 8, 61), (true, 9, 10), (true, 10, 11)] (by kernel_rfl) (by kernel_rfl) (fun _ _ _ _ _ h => h) rfl (by kernel_rfl) ?_
        have HV9 := Lib.hid (show Below X9.heap.size X9 X9.drew from (Below.refl _ _).drew)
        refine Scr.take (v := .pointer (some ⟨bx + 2, 0, none⟩)) rfl rfl (yw_pure (by rfl) (fun _ => by go_simp)) HV9.out ?_
        simp only [Act.put, List.setIfInBounds_toArray, List.set_cons_zero, List.set_cons_succ]
        refine Scr.take (v := .pointer (some ⟨bx + 2, 0, none⟩)) rfl rfl (yw_pure (by rfl) (fun _ => by go_simp)) HV9.out ?_
        simp only [Act.put, List.setIfInBounds_toArray, List.set_cons_zero, List.set_cons_succ]
        refine Scr.take (v := .pointer (some ⟨bx + 2, 7, none⟩)) rfl rfl (yw_pure (by rfl) (fun _ => by go_simp)) HV9.out ?_
        simp only [Act.put, List.setIfInBounds_toArray, List.set_cons_zero, List.set_cons_succ]
        refine Scr.take (v := .slice (some Ab) l0.length c9) rfl rfl (yw_cell 35 _ rfl ⟨bx + 2, 7, none⟩ (.slice (some Ab) l0.length c9) rfl (by rfl) _ Tryd.underlying35 rfl (fun W hS => HC9.out W hS)) HV9.out ?_
        simp only [Act.put, List.setIfInBounds_toArray, List.set_cons_zero, List.set_cons_succ]
        refine Scr.take (v := .pointer (some ⟨bx + 2, 0, none⟩)) rfl rfl (yw_pure (by rfl) (fun _ => by go_simp)) HV9.out ?_
        simp only [Act.put, List.setIfInBounds_toArray, List.set_cons_zero, List.set_cons_succ]
        refine Scr.take (v := .pointer (some ⟨bx + 2, 0, none⟩)) rfl rfl (yw_pure (by rfl) (fun _ => by go_simp)) HV9.out ?_
        simp only [Act.put, List.setIfInBounds_toArray, List.set_cons_zero, List.set_cons_succ]
        refine Scr.take (v := .pointer (some ⟨bx + 2, 7, none⟩)) rfl rfl (yw_pure (by rfl) (fun _ => by go_simp)) HV9.out ?_
        simp only [Act.put, List.setIfInBounds_toArray, List.set_cons_zero, List.set_cons_succ]
        refine Scr.take (v := .slice (some Ab) l0.length c9) rfl rfl (yw_cell 35 _ rfl ⟨bx + 2, 7, none⟩ (.slice (some Ab) l0.length c9) rfl (by rfl) _ Tryd.underlying35 rfl (fun W hS => HC9.out W hS)) HV9.out ?_
        simp only [Act.put, List.setIfInBounds_toArray, List.set_cons_zero, List.set_cons_succ]
        refine Scr.take (v := .bool true) rfl rfl (yw_pure (by rfl) (fun _ => by go_simp)) HV9.out ?_
        simp only [Act.put, List.setIfInBounds_toArray, List.set_cons_zero, List.set_cons_succ]
        refine Scr.take (v := .slice (some Ab) l0.length c9) rfl rfl (yw_pure (by rfl) (fun _ => by go_simp)) HV9.out ?_
        simp only [Act.put, List.setIfInBounds_toArray, List.set_cons_zero, List.set_cons_succ]
        refine Scr.take (v := .bool true) rfl rfl (yw_pure (by rfl) (fun _ => by go_simp)) HV9.out ?_
        simp only [Act.put, List.setIfInBounds_toArray, List.set_cons_zero, List.set_cons_succ]
        simp only [Scr]
        go_wp2_with fail
        go_ret2
        rw [HR.out]
        exact ⟨_, rfl, ⟨some Ab, c9, rfl, HK3.out.move (fun b _ hb => ⟨HV9.out.block b hb, trivial⟩) (by omega)⟩, HB9.out.trans (HV9.out.mono HB9.out.size)⟩
end Go.Proofs.YthclpabmbhpohaaDoor
namespace Go.Proofs.YthclpabmbhpohaaDoor
open Go.RowKit
set_option linter.unusedVariables false
section
variable {p : Pg} {rn av : Int → Int} {lg : Bool}
/-- The same but for the best match and the steps. -/
structure Like (b : Option (List Int)) (s t : Rn) : Prop where
  next : s.next = t.next
  nf : s.nf = t.nf
  best : s.best = t.best.or b
theorem walkS_like (b : Option (List Int)) : ∀ (n : Nat) (pc pl : Int) (fit : List Int) (s t : Rn), Like b s t → s.stop = t.stop →
    Like b (walkS p rn av lg n pc pl fit s) (walkS p rn av lg n pc pl fit t) ∧ (walkS p rn av lg n pc pl fit s).stop = (walkS p rn av lg n pc pl fit t).stop
  | 0, _, _, _, s, t, h, hs => ⟨h, hs⟩
  | n + 1, pc, pl, fit, s, t, h, hs => by
    have ih := walkS_like b n
    have h1 : Like b ⟨s.steps + 1, s.best, s.next, s.nf, s.stop⟩ ⟨t.steps + 1, t.best, t.next, t.nf, t.stop⟩ := ⟨h.next, h.nf, h.best⟩
    by_cases c0 : s.stop = true
    · rw [walkS, walkS, if_pos c0, if_pos (hs ▸ c0)]; exact ⟨h1, hs⟩
    rw [walkS_new (by simpa using c0) rfl, walkS_new (by rw [← hs]; simpa using c0) rfl]
    by_cases c1 : (p.get pc).op = 1
    · rw [if_pos c1, if_pos c1]; exact ⟨⟨h.next, h.nf, by simp⟩, rfl⟩
    rw [if_neg c1, if_neg c1]
    by_cases c2 : (p.get pc).op = 2
    · rw [if_pos c2, if_pos c2]
      split
      · exact ⟨⟨rfl, rfl, h.best⟩, hs⟩
      · exact ⟨h1, hs⟩
    rw [if_neg c2, if_neg c2]
    by_cases c3 : (p.get pc).op = 3
    · rw [if_pos c3, if_pos c3]
      obtain ⟨a1, a2⟩ := ih (p.get pc).out pl fit _ _ h1 hs
      exact ih _ _ _ _ _ a1 a2
    rw [if_neg c3, if_neg c3]
    by_cases c4 : (p.get pc).op = 4
    · rw [if_pos c4, if_pos c4]; exact ih _ _ _ _ _ ⟨h.next, h.nf, h.best⟩ hs
    rw [if_neg c4, if_neg c4]
    by_cases c5 : (p.get pc).op = 5
    · rw [if_pos c5, if_pos c5]
      split
      · exact ih _ _ _ _ _ h1 hs
      · exact ⟨h1, hs⟩
    rw [if_neg c5, if_neg c5]; exact ⟨h1, hs⟩
theorem runL_like (b : Option (List Int)) (len : Int) : ∀ (n : Nat) (pl : Int) (s t : Rn), Like b s t → Like b (runL p rn av lg len n pl s) (runL p rn av lg len n pl t)
  | 0, _, _, _, h => h
  | n + 1, pl, s, t, h => by
    rw [runL, runL, ← h.next]
    split
    · exact h
    · refine runL_like b len n (pl + 1) _ _ ?_
      unfold placeS
      rw [← h.next, ← h.nf]
      exact (walkS_like b _ _ _ _ ⟨s.steps, s.best, -1, s.nf, false⟩ ⟨t.steps, t.best, -1, s.nf, false⟩ ⟨rfl, rfl, h.best⟩ rfl).1
/-- What is left behind a place. -/
def restB (p : Pg) (rn av : Int → Int) (lg : Bool) (len : Int) (k : Nat) (pl pc : Int) (fit : List Int) : Option (List Int) :=
  if pc < 0 then none else (runL p rn av lg len k pl ⟨0, none, pc, fit, false⟩).best
theorem runL_rest (len : Int) (k : Nat) (pl : Int) (s : Rn) : (runL p rn av lg len k pl s).best = (restB p rn av lg len k pl s.next s.nf).or s.best := by
  unfold restB
  by_cases h : s.next < 0
  · rw [if_pos h]
    cases k with
    | zero => simp [runL]
    | succ k => rw [runL, if_pos (.inl h)]; simp
  · rw [if_neg h]
    exact (runL_like s.best len k pl s ⟨0, none, s.next, s.nf, false⟩ ⟨rfl, rfl, by simp⟩).best
theorem set_getD {l : List Int} (h : 2 ≤ l.length) (x : Int) : (l.set 1 x).getD 1 0 = x := by
  match l, h with
  | a :: b :: l, _ => rfl
/-- A match lies not ahead of where it was looked for. -/
def Far (pl : Int) (s : Rn) : Prop := 2 ≤ s.nf.length ∧ ∀ b, s.best = some b → pl ≤ b.getD 1 0
theorem walkS_far : ∀ (n : Nat) (pc pl : Int) (fit : List Int) (s : Rn), 2 ≤ fit.length → Far pl s → Far pl (walkS p rn av lg n pc pl fit s)
  | 0, _, _, _, s, _, h => h
  | n + 1, pc, pl, fit, s, hf, h => by
    have ih := walkS_far n
    have h1 : Far pl ⟨s.steps + 1, s.best, s.next, s.nf, s.stop⟩ := ⟨h.1, h.2⟩
    by_cases c0 : s.stop = true
    · rw [walkS, if_pos c0]; exact h1
    rw [walkS_new (by simpa using c0) rfl]
    by_cases c1 : (p.get pc).op = 1
    · rw [if_pos c1]; exact ⟨h.1, fun b hb => by cases hb; rw [set_getD hf]; exact Int.le_refl _⟩
    rw [if_neg c1]
    by_cases c2 : (p.get pc).op = 2
    · rw [if_pos c2]
      split
      · exact ⟨hf, h.2⟩
      · exact h1
    rw [if_neg c2]
    by_cases c3 : (p.get pc).op = 3
    · rw [if_pos c3]; exact ih _ _ _ _ hf (ih _ _ _ _ hf h1)
    rw [if_neg c3]
    by_cases c4 : (p.get pc).op = 4
    · rw [if_pos c4]; exact ih _ _ _ _ (by rw [List.length_set]; exact hf) ⟨h.1, h.2⟩
    rw [if_neg c4]
    by_cases c5 : (p.get pc).op = 5
    · rw [if_pos c5]
      split
      · exact ih _ _ _ _ hf h1
      · exact h1
    rw [if_neg c5]; exact h1
theorem runL_far (len : Int) : ∀ (n : Nat) (pl : Int) (s : Rn), Far pl s → ∀ b, (runL p rn av lg len n pl s).best = some b → pl ≤ b.getD 1 0
  | 0, pl, s, h => h.2
  | n + 1, pl, s, h => by
    rw [runL]
    split
    · exact h.2
    · intro b hb
      have h2 : Far pl (placeS p rn av lg pl s) := walkS_far _ _ _ _ _ h.1 ⟨h.1, h.2⟩
      rw [runL_rest] at hb
      cases hr : restB p rn av lg len n (pl + 1) (placeS p rn av lg pl s).next (placeS p rn av lg pl s).nf with
      | none => rw [hr] at hb; simp at hb; exact h2.2 b hb
      | some r =>
        rw [hr] at hb
        simp at hb
        subst hb
        unfold restB at hr
        split at hr
        · cases hr
        · have := runL_far len n (pl + 1) _ (by exact ⟨h2.1, fun b hb => by cases hb⟩) r hr
          omega
theorem restB_far {len : Int} {k : Nat} {pl pc : Int} {fit : List Int} (hf : 2 ≤ fit.length) {r : List Int} (h : restB p rn av lg len k pl pc fit = some r) : pl ≤ r.getD 1 0 := by
  unfold restB at h
  split at h
  · cases h
  · exact runL_far len k pl _ (by exact ⟨hf, fun b hb => by cases hb⟩) r h
end
section
variable {me : List Rg → List Rg → Bool} {un : List Rg → List Rg → List Rg} {p : Pg} {rn av : Int → Int} {lg : Bool} {to : Int}
theorem onW_facts {pc : Int} {s : Ow} (h : (onW me un p pc s).1 = true) (hu : ∀ a b c, hasB (un a b) c = (hasB a c || hasB b c)) :
    pc ∉ s.seen ∧ (onW me un p pc s).2.seen = pc :: s.seen ∧ (∀ c, hasB s.all c = true → hasB (onW me un p pc s).2.all c = true) ∧
    ((p.get pc).op = 1 → s.mt + 1 < 2 ∧ (onW me un p pc s).2.mt = s.mt + 1) ∧ ((p.get pc).op ≠ 1 → (onW me un p pc s).2.mt = s.mt) ∧
    ((p.get pc).op = 2 → me s.all (p.get pc).set = false ∧ pc ∈ (onW me un p pc s).2.l ∧ ∀ c, hasB (p.get pc).set c = true → hasB (onW me un p pc s).2.all c = true) := by
  unfold onW at h ⊢
  by_cases c0 : s.seen.contains pc = true
  · rw [if_pos c0] at h; cases h
  rw [if_neg c0] at h ⊢
  have c0' : pc ∉ s.seen := by simpa using c0
  by_cases c1 : (p.get pc).op = 1
  · rw [if_pos c1] at h ⊢
    exact ⟨c0', rfl, fun c hc => hc, fun _ => ⟨by simpa using h, rfl⟩, fun hn => absurd c1 hn, fun h2 => by omega⟩
  rw [if_neg c1] at h ⊢
  by_cases c2 : (p.get pc).op = 2
  · rw [if_pos c2] at h ⊢
    by_cases c3 : me s.all (p.get pc).set = true
    · rw [if_pos c3] at h; cases h
    rw [if_neg c3] at h ⊢
    exact ⟨c0', rfl, fun c hc => by rw [hu, hc]; rfl, fun h1 => absurd h1 c1, fun _ => rfl, fun _ => ⟨by simpa using c3, by simp, fun c hc => by rw [hu, hc]; simp⟩⟩
  rw [if_neg c2] at h ⊢
  exact ⟨c0', rfl, fun c hc => hc, fun h1 => absurd h1 c1, fun _ => rfl, fun h2 => absurd h2 c2⟩
/-- What the ways' own telling only adds to. -/
structure More (a b : Ow) : Prop where
  seen : ∀ x ∈ a.seen, x ∈ b.seen
  all : ∀ c, hasB a.all c = true → hasB b.all c = true
  mt : a.mt ≤ b.mt
theorem More.refl (a : Ow) : More a a := ⟨fun _ h => h, fun _ h => h, Int.le_refl _⟩
theorem More.trans {a b c : Ow} (h : More a b) (k : More b c) : More a c := ⟨fun x hx => k.seen x (h.seen x hx), fun x hx => k.all x (h.all x hx), Int.le_trans h.mt k.mt⟩
theorem onW_more {pc : Int} {s : Ow} (h : (onW me un p pc s).1 = true) (hu : ∀ a b c, hasB (un a b) c = (hasB a c || hasB b c)) : More s (onW me un p pc s).2 := by
  obtain ⟨a1, a2, a3, a4, a5, a6⟩ := onW_facts h hu
  refine ⟨fun x hx => by rw [a2]; simp [hx], a3, ?_⟩
  by_cases c : (p.get pc).op = 1
  · have := (a4 c).2; omega
  · have := a5 c; omega
theorem waysW_more (hu : ∀ a b c, hasB (un a b) c = (hasB a c || hasB b c)) : ∀ (n : Nat) (pc : Int) (s : Ow), (waysW me un p n pc s).1 = true → More s (waysW me un p n pc s).2
  | 0, _, _, h => by simp [waysW] at h
  | n + 1, pc, s, h => by
    have h1 := onW_more (ways_on h) hu
    by_cases c3 : (p.get pc).op = 3
    · obtain ⟨a1, a2, a3⟩ := ways_alt h rfl c3
      rw [a3]
      exact h1.trans ((waysW_more hu n _ _ a1).trans (waysW_more hu n _ _ a2))
    by_cases c4 : (p.get pc).op = 4 ∨ (p.get pc).op = 5
    · obtain ⟨a1, a3⟩ := ways_one h rfl c4
      rw [a3]
      exact h1.trans (waysW_more hu n _ _ a1)
    · rw [ways_none h rfl ⟨c3, by omega, by omega⟩]; exact h1
/-- Where a rune led already, no other one leads. -/
theorem walkS_led (hm : ∀ a b, me a b = true ↔ ∃ c, hasB a c = true ∧ hasB b c = true) (hu : ∀ a b c, hasB (un a b) c = (hasB a c || hasB b c)) : ∀ (n : Nat) (pc pl : Int) (fit : List Int) (s : Rn) (s0 : Ow), (waysW me un p n pc s0).1 = true → hasB s0.all (rn pl) = true →
    (walkS p rn av lg n pc pl fit s).next = s.next ∧ (walkS p rn av lg n pc pl fit s).nf = s.nf
  | 0, _, _, _, _, _, h, _ => by simp [waysW] at h
  | n + 1, pc, pl, fit, s, s0, h, ha => by
    have ih := walkS_led hm hu n
    have hf := onW_facts (ways_on h) hu
    have ha2 := hf.2.2.1 _ ha
    by_cases c0 : s.stop = true
    · rw [walkS, if_pos c0]; exact ⟨rfl, rfl⟩
    rw [walkS_new (by simpa using c0) rfl]
    by_cases c1 : (p.get pc).op = 1
    · rw [if_pos c1]; exact ⟨rfl, rfl⟩
    rw [if_neg c1]
    by_cases c2 : (p.get pc).op = 2
    · rw [if_pos c2, if_neg (fun hh => by
        have h9 := (hf.2.2.2.2.2 c2).1
        rw [(hm _ _).2 ⟨_, ha, hh⟩] at h9; cases h9)]
      exact ⟨rfl, rfl⟩
    rw [if_neg c2]
    by_cases c3 : (p.get pc).op = 3
    · rw [if_pos c3]
      obtain ⟨a1, a2, a3⟩ := ways_alt h rfl c3
      obtain ⟨i1, i2⟩ := ih (p.get pc).out pl fit ⟨s.steps + 1, s.best, s.next, s.nf, s.stop⟩ _ a1 ha2
      obtain ⟨j1, j2⟩ := ih (p.get pc).arg pl fit (walkS p rn av lg n (p.get pc).out pl fit ⟨s.steps + 1, s.best, s.next, s.nf, s.stop⟩) _ a2 ((waysW_more hu n _ _ a1).all _ ha2)
      exact ⟨j1.trans i1, j2.trans i2⟩
    rw [if_neg c3]
    by_cases c4 : (p.get pc).op = 4
    · rw [if_pos c4]; exact ih _ _ _ ⟨s.steps + 1 + fit.length, s.best, s.next, s.nf, s.stop⟩ _ (ways_one h rfl (.inl c4)).1 ha2
    rw [if_neg c4]
    by_cases c5 : (p.get pc).op = 5
    · rw [if_pos c5]
      split
      · exact ih _ _ _ ⟨s.steps + 1, s.best, s.next, s.nf, s.stop⟩ _ (ways_one h rfl (.inr c5)).1 ha2
      · exact ⟨rfl, rfl⟩
    rw [if_neg c5]; exact ⟨rfl, rfl⟩
/-- A match within a place is the only one. -/
def One (lg : Bool) (pl : Int) (s0 : Ow) (s : Rn) : Prop := ∀ b, s.best = some b → 1 ≤ s0.mt ∧ b.getD 1 0 = pl ∧ (lg = false → s.stop = true)
theorem walkS_one (hu : ∀ a b c, hasB (un a b) c = (hasB a c || hasB b c)) : ∀ (n : Nat) (pc pl : Int) (fit : List Int) (s : Rn) (s0 : Ow), (waysW me un p n pc s0).1 = true → 2 ≤ fit.length → 0 ≤ s0.mt → One lg pl s0 s → One lg pl (waysW me un p n pc s0).2 (walkS p rn av lg n pc pl fit s)
  | 0, _, _, _, _, _, h, _, _, _ => by simp [waysW] at h
  | n + 1, pc, pl, fit, s, s0, h, hf, hm0, ho => by
    have ih := walkS_one hu n
    have hon := ways_on h
    have hmore := waysW_more hu _ _ _ h
    have hF := onW_facts hon hu
    have hM := onW_more hon hu
    have h1 : One lg pl (onW me un p pc s0).2 ⟨s.steps + 1, s.best, s.next, s.nf, s.stop⟩ := fun b hb => ⟨Int.le_trans (ho b hb).1 hM.mt, (ho b hb).2⟩
    have h2 : ∀ t : Rn, t.best = s.best → t.stop = s.stop → One lg pl (waysW me un p (n + 1) pc s0).2 t := fun t e1 e2 b hb => ⟨Int.le_trans (ho b (by rw [← e1]; exact hb)).1 hmore.mt, (ho b (by rw [← e1]; exact hb)).2.1, fun hl => by rw [e2]; exact (ho b (by rw [← e1]; exact hb)).2.2 hl⟩
    have hm1 : 0 ≤ (onW me un p pc s0).2.mt := Int.le_trans hm0 hM.mt
    by_cases c0 : s.stop = true
    · rw [walkS, if_pos c0]; exact h2 _ rfl rfl
    rw [walkS_new (by simpa using c0) rfl]
    by_cases c1 : (p.get pc).op = 1
    · rw [if_pos c1, ways_none h rfl ⟨by omega, by omega, by omega⟩]
      intro b hb
      cases hb
      exact ⟨by have := (hF.2.2.2.1 c1).2; omega, set_getD hf _, fun hl => by rw [hl]; rfl⟩
    rw [if_neg c1]
    by_cases c2 : (p.get pc).op = 2
    · rw [if_pos c2]
      split <;> exact h2 _ rfl rfl
    rw [if_neg c2]
    by_cases c3 : (p.get pc).op = 3
    · rw [if_pos c3]
      obtain ⟨a1, a2, a3⟩ := ways_alt h rfl c3
      rw [a3]
      exact ih _ _ _ _ _ a2 hf (Int.le_trans hm1 (waysW_more hu _ _ _ a1).mt) (ih _ _ _ _ _ a1 hf hm1 h1)
    rw [if_neg c3]
    by_cases c4 : (p.get pc).op = 4
    · rw [if_pos c4]
      obtain ⟨a1, a3⟩ := ways_one h rfl (.inl c4)
      rw [a3]
      exact ih _ _ _ _ _ a1 (by rw [List.length_set]; exact hf) hm1 (fun b hb => h1 b hb)
    rw [if_neg c4]
    by_cases c5 : (p.get pc).op = 5
    · rw [if_pos c5]
      split
      · obtain ⟨a1, a3⟩ := ways_one h rfl (.inr c5)
        rw [a3]
        exact ih _ _ _ _ _ a1 hf hm1 h1
      · exact h2 _ rfl rfl
    rw [if_neg c5]; exact h2 _ rfl rfl
/-- The walk with bits, and the walk of one pass, within a place; S1: where the place began. -/
structure Inn (p : Pg) (rn av : Int → Int) (lg : Bool) (to : Int) (k : Nat) (pl : Int) (b0 : Option (List Int)) (S1 : Wk (Int × Int)) (s0 : Ow) (S : Wk (Int × Int)) (s : Rn) : Prop where
  seen : ∀ x, S.seen (x, pl) = true → x ∈ s0.seen
  best : S.best = ((restB p rn av lg to k (pl + 1) s.next s.nf).or s.best).or b0
  new : s.next < 0 → ∀ q : Int × Int, pl < q.2 → S.seen q = false
  led : 0 ≤ s.next → hasB s0.all (rn pl) = true
  stop : s.stop = true → halts (grP p rn av to lg) S = true
  one : ∀ b, s.best = some b → 1 ≤ s0.mt ∧ b.getD 1 0 = pl ∧ (lg = false → s.stop = true)
  mt : 0 ≤ s0.mt
  low : ∀ q : Int × Int, q.2 < pl → S.seen q = S1.seen q
  nf : 2 ≤ s.nf.length
/-- From a place on: both find the same. -/
def RunOK (p : Pg) (rn av : Int → Int) (lg : Bool) (to : Int) (T : List Int) (M k : Nat) (pl : Int) : Prop :=
  ∀ (pc : Int) (fit : List Int) (S : Wk (Int × Int)) (m : Nat), pc ∈ T → left (allP p M) S < m → (∀ q : Int × Int, pl ≤ q.2 → S.seen q = false) → (∀ b, S.best = some b → lg = true ∧ b.getD 1 0 < pl) → 2 ≤ fit.length →
    (come (grP p rn av to lg) m (pc, pl) fit S).best = (restB p rn av lg to k pl pc fit).or S.best ∧ ∀ q : Int × Int, q.2 < pl → (come (grP p rn av to lg) m (pc, pl) fit S).seen q = S.seen q
theorem Inn.more {k : Nat} {pl : Int} {b0 : Option (List Int)} {S1 S : Wk (Int × Int)} {s0 t0 : Ow} {s t : Rn} (h : Inn p rn av lg to k pl b0 S1 s0 S s) (hm : More s0 t0) (h1 : t.best = s.best) (h2 : t.next = s.next) (h3 : t.nf = s.nf) (h4 : t.stop = s.stop) : Inn p rn av lg to k pl b0 S1 t0 S t :=
  ⟨fun x hx => hm.seen x (h.seen x hx), by rw [h1, h2, h3]; exact h.best, by rw [h2]; exact h.new, fun hn => hm.all _ (h.led (by rw [← h2]; exact hn)), fun hs => h.stop (by rw [← h4]; exact hs), fun b hb => by
    have h9 := h.one b (by rw [← h1]; exact hb)
    exact ⟨Int.le_trans h9.1 hm.mt, h9.2.1, fun hl => by rw [h4]; exact h9.2.2 hl⟩, Int.le_trans h.mt hm.mt, h.low, by rw [h3]; exact h.nf⟩
theorem Inn.mark {k : Nat} {pl pc : Int} {b0 : Option (List Int)} {S1 S : Wk (Int × Int)} {s0 : Ow} {s : Rn} (h : Inn p rn av lg to k pl b0 S1 s0 S s) (hu : ∀ a b c, hasB (un a b) c = (hasB a c || hasB b c)) (hon : (onW me un p pc s0).1 = true) : Inn p rn av lg to k pl b0 S1 (onW me un p pc s0).2 (markW (pc, pl) S) s := by
  obtain ⟨a1, a2, a3, a4, a5, a6⟩ := onW_facts hon hu
  have hm := onW_more hon hu
  refine ⟨fun x hx => ?_, h.best, fun hn q hq => ?_, fun hn => hm.all _ (h.led hn), h.stop, fun b hb => ?_, Int.le_trans h.mt hm.mt, fun q hq => ?_, h.nf⟩
  · rw [a2]
    rw [mark_seen] at hx
    by_cases e : (x, pl) = (pc, pl)
    · cases e; simp
    · rw [decide_eq_false e, Bool.false_or] at hx
      exact List.mem_cons_of_mem _ (h.seen x hx)
  · rw [mark_seen, h.new hn q hq, decide_eq_false (by rintro rfl; exact absurd hq (Int.lt_irrefl _))]; rfl
  · have h9 := h.one b hb
    exact ⟨Int.le_trans h9.1 hm.mt, h9.2⟩
  · rw [mark_seen, h.low q hq, decide_eq_false (by rintro rfl; exact absurd hq (Int.lt_irrefl _))]; rfl
theorem inn_step (hl : Leads p) (hm : ∀ a b, me a b = true ↔ ∃ c, hasB a c = true ∧ hasB b c = true) (hu : ∀ a b c, hasB (un a b) c = (hasB a c || hasB b c)) (T : List Int) (M k : Nat) (hM : to + 1 = M) (pl : Int) (hpl : 0 ≤ pl) (hpt : pl ≤ to) (hk : pl + k = to)
    (hT : ∀ x ∈ T, Pc p x) (b0 : Option (List Int)) (hb0 : ∀ b, b0 = some b → lg = true ∧ b.getD 1 0 < pl) (hR : pl + 1 ≤ to → RunOK p rn av lg to T M k (pl + 1)) (S1 : Wk (Int × Int)) (m : Nat) :
    ∀ (n : Nat) (pc : Int) (fit : List Int) (s : Rn) (s0 : Ow) (S : Wk (Int × Int)), (waysW me un p n pc s0).1 = true → Pc p pc → left (allP p M) S < m → 2 ≤ fit.length → (∀ y ∈ (waysW me un p n pc s0).2.l, (p.get y).out ∈ T) →
      Inn p rn av lg to k pl b0 S1 s0 S s → Inn p rn av lg to k pl b0 S1 (waysW me un p n pc s0).2 (come (grP p rn av to lg) m (pc, pl) fit S) (walkS p rn av lg n pc pl fit s) := by
  intro n
  induction n with
  | zero => intro pc fit s s0 S h; simp [waysW] at h
  | succ n ih =>
    intro pc fit s s0 S h hp hlt hf hy hI
    have hon := ways_on h
    have hmore := waysW_more hu _ _ _ h
    by_cases c0 : s.stop = true
    · rw [walkS, if_pos c0, come_halts (hI.stop c0)]
      exact hI.more hmore rfl rfl rfl rfl
    by_cases ch : halts (grP p rn av to lg) S = true
    · -- all is found: the walk of one pass changes nothing of what is told
      rw [come_halts ch]
      have hb := hI.best
      have hlg : lg = false := by
        unfold halts at ch
        simp only [Bool.and_eq_true, Bool.not_eq_true'] at ch
        exact ch.2
      have hsb : s.best = none := by
        cases hs : s.best with
        | none => rfl
        | some b => exact absurd ((hI.one b hs).2.2 hlg) c0
      have hb0n : b0 = none := by
        cases hs : b0 with
        | none => rfl
        | some b => have := (hb0 b hs).1; rw [hlg] at this; cases this
      have hss : S.best.isSome = true := by
        unfold halts at ch
        simp only [Bool.and_eq_true] at ch
        exact ch.1
      rw [hsb, hb0n] at hb
      simp only [Option.or_none] at hb
      have hn0 : 0 ≤ s.next := by
        by_cases e : s.next < 0
        · unfold restB at hb
          rw [if_pos e] at hb
          rw [hb] at hss; cases hss
        · omega
      obtain ⟨e1, e2⟩ := walkS_led (rn := rn) (av := av) (lg := lg) hm hu (n + 1) pc pl fit s s0 h (hI.led hn0)
      have hfar := walkS_far (p := p) (rn := rn) (av := av) (lg := lg) (n + 1) pc pl fit s hf ⟨hI.nf, fun b hb => by rw [hsb] at hb; cases hb⟩
      refine ⟨fun x hx => hmore.seen x (hI.seen x hx), ?_, fun hn => by rw [e1] at hn; omega, fun _ => hmore.all _ (hI.led hn0), fun _ => ch, fun b hb2 => ?_, Int.le_trans hI.mt hmore.mt, hI.low, hfar.1⟩
      · rw [e1, e2, hb, hb0n]
        cases hr : restB p rn av lg to k (pl + 1) s.next s.nf with
        | none => rw [hb, hr] at hss; cases hss
        | some r => simp
      · have key := walkS_one (p := p) (me := me) (un := un) (rn := rn) (av := av) (lg := lg) hu (n + 1) pc pl fit s s0 h hf hI.mt (fun b hb => by rw [hsb] at hb; cases hb) b hb2
        exact key
    have c0' : s.stop = false := by simpa using c0
    have ch' : halts (grP p rn av to lg) S = false := by simpa using ch
    obtain ⟨a1, a2, a3, a4, a5, a6⟩ := onW_facts hon hu
    have hns : S.seen (pc, pl) = false := by
      rw [Bool.eq_false_iff]; exact fun e => a1 (hI.seen pc e)
    have hU : (pc, pl) ∈ allP p M := allP_iff.2 ⟨hp, hpl, by show pl < (M : Int); omega⟩
    have hW := within_P hl rn av lg (p := p) (to := to) (M := M) (by omega)
    have hlm := left_mark hns (allP p M) hU
    have hx := hl pc hp
    rw [walkS_new c0' rfl]
    have h1 : Inn p rn av lg to k pl b0 S1 (onW me un p pc s0).2 (markW (pc, pl) S) ⟨s.steps + 1, s.best, s.next, s.nf, s.stop⟩ := (hI.mark hu hon).more (More.refl _) rfl rfl rfl rfl
    by_cases c1 : (p.get pc).op = 1
    · rw [if_pos c1, ways_none h rfl ⟨by omega, by omega, by omega⟩]
      have hmat : (grP p rn av to lg).mat (pc, pl) = true := by show ((p.get pc).op == 1) = true; simpa using c1
      obtain ⟨m, rfl⟩ : ∃ m', m = m' + 1 := ⟨m - 1, by omega⟩
      rw [come_succ, if_neg ch, if_neg (by rw [hns]; simp), if_pos hmat]
      have hsb : s.best = none := by
        cases hs : s.best with
        | none => rfl
        | some b => have := (hI.one b hs).1; have := (a4 c1).1; omega
      have hbest : bestOf (grP p rn av to lg) (pc, pl) fit S.best = ((restB p rn av lg to k (pl + 1) s.next s.nf).or (some (fit.set 1 pl))).or b0 := by
        have hb := hI.best
        rw [hsb] at hb
        rw [hb]
        cases hr : restB p rn av lg to k (pl + 1) s.next s.nf with
        | none =>
          cases hb0' : b0 with
          | none => rfl
          | some b =>
            have h9 := (hb0 b hb0').2
            show (if b.getD 1 0 < pl then some (fit.set 1 pl) else some b) = _
            rw [if_pos h9]; rfl
        | some r =>
          have h9 := restB_far (hI.nf) hr
          show (if r.getD 1 0 < pl then some (fit.set 1 pl) else some r) = _
          rw [if_neg (by omega)]; rfl
      refine ⟨h1.seen, hbest, h1.new, h1.led, fun hs => ?_, fun b hb => ?_, h1.mt, h1.low, hI.nf⟩
      · unfold halts
        obtain ⟨b', hb', _⟩ := bestOf_some (grP p rn av to lg) (pc, pl) fit S.best
        dsimp only at hs ⊢
        rw [hb']
        exact hs
      · cases hb
        refine ⟨by rw [(a4 c1).2]; have := hI.mt; omega, set_getD hf _, fun hlg => by rw [hlg]; rfl⟩
    have hmat : (grP p rn av to lg).mat (pc, pl) = false := by show ((p.get pc).op == 1) = false; simpa using c1
    have hon2 : ∀ c, come (grP p rn av to lg) m (pc, pl) c S = comes (grP p rn av to lg) m (updP p (pc, pl) c) (nextsP p rn av to (pc, pl)) (markW (pc, pl) S) := fun c => come_on hW hU hlt ch' hns hmat c
    rw [hon2]
    rw [if_neg c1]
    unfold updP nextsP
    by_cases c2 : (p.get pc).op = 2
    · rw [ways_none h rfl ⟨by omega, by omega, by omega⟩]
      dsimp only
      rw [if_pos c2, if_pos c2, if_neg (by omega)]
      by_cases ch2 : hasB (p.get pc).set (rn pl) = true
      · rw [if_pos ch2]
        have hn0 : s.next < 0 := by
          by_cases e : s.next < 0
          · exact e
          · have h9 := (a6 c2).1
            rw [(hm _ _).2 ⟨_, hI.led (by omega), ch2⟩] at h9; cases h9
        have hout : (p.get pc).out ∈ T := hy pc (by rw [ways_none h rfl ⟨by omega, by omega, by omega⟩]; exact (a6 c2).2.1)
        have ho0 : 0 ≤ (p.get pc).out := (hT _ hout).1
        have hb := hI.best
        rw [show restB p rn av lg to k (pl + 1) s.next s.nf = none by unfold restB; rw [if_pos hn0]] at hb
        simp only [Option.none_or] at hb
        by_cases ct : pl + 1 ≤ to
        · rw [if_pos ⟨ch2, ct⟩, comes_cons, comes_nil]
          obtain ⟨r1, r2⟩ := hR ct (p.get pc).out fit (markW (pc, pl) S) m hout (by omega) (fun q hq => h1.new hn0 q (by omega)) (fun b hb2 => by
            have hb3 : S.best = some b := hb2
            have hlg : lg = true := by
              cases hlg : lg with
              | true => rfl
              | false => unfold halts at ch'; rw [hb3, show (grP p rn av to lg).longest = lg from rfl, hlg] at ch'; cases ch'
            refine ⟨hlg, ?_⟩
            rw [hb] at hb3
            cases hs : s.best with
            | none => rw [hs] at hb3; simp at hb3; have := (hb0 b hb3).2; omega
            | some b' => rw [hs] at hb3; simp at hb3; subst hb3; have := (hI.one b' hs).2.1; omega) hf
          refine ⟨fun x hx => ?_, ?_, fun hn => (by dsimp only at hn; omega), fun _ => (a6 c2).2.2 _ ch2, fun hs => (by dsimp only at hs; rw [c0'] at hs; cases hs), fun b hb2 => h1.one b hb2, h1.mt, fun q hq => ?_, hf⟩
          · rw [r2 (x, pl) (by show pl < pl + 1; omega)] at hx
            exact h1.seen x hx
          · dsimp only
            rw [r1, show (markW (pc, pl) S).best = S.best from rfl, hb, Option.or_assoc]
          · rw [r2 q (by omega)]; exact h1.low q hq
        · rw [if_neg (fun hh => ct hh.2), comes_nil]
          obtain rfl : k = 0 := by omega
          refine ⟨h1.seen, ?_, fun hn => (by dsimp only at hn; omega), fun _ => (a6 c2).2.2 _ ch2, fun hs => (by dsimp only at hs; rw [c0'] at hs; cases hs), h1.one, h1.mt, h1.low, hf⟩
          dsimp only
          rw [show (markW (pc, pl) S).best = S.best from rfl, hb]
          unfold restB
          rw [if_neg (by omega)]
          simp [runL]
      · rw [if_neg ch2, if_neg (fun hh => ch2 hh.1), comes_nil]
        exact h1
    rw [if_neg c2]
    dsimp only
    rw [if_neg c2]
    by_cases c3 : (p.get pc).op = 3
    · rw [if_pos c3, if_pos c3, if_neg (by omega), comes_cons, comes_cons, comes_nil]
      obtain ⟨b1, b2, b3⟩ := ways_alt h rfl c3
      rw [b3] at hy ⊢
      have i1 := ih (p.get pc).out fit ⟨s.steps + 1, s.best, s.next, s.nf, s.stop⟩ _ (markW (pc, pl) S) b1 (hx.1 (by omega)) (by omega) hf (fun y hyl => hy y (waysW_l me un p _ _ _ y hyl)) h1
      exact ih (p.get pc).arg fit _ _ _ b2 (hx.2 c3) (by have := left_sub (come_sub (grP p rn av to lg) m ((p.get pc).out, pl) fit (markW (pc, pl) S)) (allP p M); omega) hf hy i1
    rw [if_neg c3, if_neg c3]
    by_cases c4 : (p.get pc).op = 4
    · rw [if_pos c4, if_pos c4, if_pos c4, comes_cons, comes_nil]
      obtain ⟨b1, b3⟩ := ways_one h rfl (.inl c4)
      rw [b3] at hy ⊢
      exact ih (p.get pc).out _ ⟨s.steps + 1 + fit.length, s.best, s.next, s.nf, s.stop⟩ _ _ b1 (hx.1 (by omega)) (by omega) (by rw [List.length_set]; exact hf) hy (h1.more (More.refl _) rfl rfl rfl rfl)
    rw [if_neg c4, if_neg c4, if_neg c4]
    by_cases c5 : (p.get pc).op = 5
    · rw [if_pos c5, if_pos c5]
      obtain ⟨b1, b3⟩ := ways_one h rfl (.inr c5)
      rw [b3] at hy ⊢
      by_cases ch5 : hitB (av pl) (p.get pc).at_ = true
      · rw [if_pos ch5, if_pos ch5, comes_cons, comes_nil]
        exact ih (p.get pc).out fit ⟨s.steps + 1, s.best, s.next, s.nf, s.stop⟩ _ _ b1 (hx.1 (by omega)) (by omega) hf hy h1
      · rw [if_neg ch5, if_neg ch5, comes_nil]
        exact h1.more (waysW_more hu n _ _ b1) rfl rfl rfl rfl
    · rw [if_neg c5, if_neg c5, comes_nil, ways_none h rfl ⟨c3, c4, c5⟩]
      exact h1
theorem run_ok (hl : Leads p) (hm : ∀ a b, me a b = true ↔ ∃ c, hasB a c = true ∧ hasB b c = true) (hu : ∀ a b c, hasB (un a b) c = (hasB a c || hasB b c)) (T : List Int) (M : Nat) (hM : to + 1 = M)
    (hT : ∀ x ∈ T, Pc p x ∧ (simpleW me un p x).2 = true ∧ ∀ y ∈ (simpleW me un p x).1, (p.get y).out ∈ T) : ∀ (k : Nat) (pl : Int), pl + k = to + 1 → 0 ≤ pl → pl ≤ to → RunOK p rn av lg to T M k pl
  | 0, pl, hk, _, h => by omega
  | k + 1, pl, hk, h0, hpt => by
    intro pc fit S m hpc hlt hnew hb hf
    have hpp := hT pc hpc
    have hres := inn_step (me := me) (un := un) (rn := rn) (av := av) (lg := lg) (to := to) hl hm hu T M k hM pl h0 hpt (by omega) (fun x hx => (hT x hx).1) S.best hb (fun h => run_ok hl hm hu T M hM hT k (pl + 1) (by omega) (by omega) h) S m
      (p.ins.length + 1) pc fit ⟨0, none, -1, fit, false⟩ ⟨[], [], [], 0⟩ S hpp.2.1 hpp.1 hlt hf hpp.2.2
      ⟨fun x hx => (by rw [hnew (x, pl) (Int.le_refl _)] at hx; cases hx), (by
        rw [show restB p rn av lg to k (pl + 1) (-1) fit = none by unfold restB; rw [if_pos (by omega)]]; simp), fun _ q hq => hnew q (by omega), fun hn => (by dsimp only at hn; omega), fun hs => (by cases hs), fun b hb => (by cases hb), Int.le_refl _, fun q _ => rfl, hf⟩
    refine ⟨?_, hres.low⟩
    rw [hres.best]
    have hpc0 := hpp.1.1
    have e : restB p rn av lg to (k + 1) pl pc fit = (runL p rn av lg to (k + 1) pl ⟨0, none, pc, fit, false⟩).best := by unfold restB; rw [if_neg (by omega)]
    rw [e, runL, if_neg (show ¬ (pc < 0 ∨ to < pl) by omega), runL_rest]
    rfl
end
/-- The match of an admitted program is the walk's. -/
theorem match_run {me : List Rg → List Rg → Bool} {un : List Rg → List Rg → List Rg} {p : Pg} (hl : Leads p) (hm : ∀ a b, me a b = true ↔ ∃ c, hasB a c = true ∧ hasB b c = true) (hu : ∀ a b c, hasB (un a b) c = (hasB a c || hasB b c))
    (hs : Pc p p.start) (hcp : 2 ≤ p.caps) (h : admG p (simpleW me un p) (p.ins.length + 1) 0 [p.start] = true) (rn av : Int → Int) (lg : Bool) (len : Nat) :
    (runL p rn av lg len (len + 1) 0 ⟨0, none, p.start, fit0 p, false⟩).best = runW p rn av len lg (len + 1) 0 := by
  obtain ⟨T, h1, h2⟩ := adm_leads hl hs h
  have h3 := run_ok (rn := rn) (av := av) (lg := lg) (to := (len : Int)) hl hm hu T (len + 1) (by omega) h2 (len + 1) 0 (by omega) (by omega) (by omega) p.start (fit0 p) emptyW ((len + 1) * p.ins.length + 1) h1 (by have := left_len (allP p (len + 1)) emptyW; rw [allP_len] at this; omega)
    (fun q _ => rfl) (fun b hb => by cases hb) (by unfold fit0; rw [List.length_set, List.length_replicate]; omega)
  have h0 := hs.1
  unfold runW
  rw [if_neg (by omega), show fitP p 0 = fit0 p from rfl, h3.1]
  unfold restB
  rw [if_neg (by omega)]
  simp [emptyW]
/-- All steps. -/
theorem runL_steps {me : List Rg → List Rg → Bool} {un : List Rg → List Rg → List Rg} {p : Pg} (hl : Leads p) (T : List Int) (hT : ∀ x ∈ T, Pc p x ∧ (simpleW me un p x).2 = true ∧ ∀ y ∈ (simpleW me un p x).1, (p.get y).out ∈ T) (rn av : Int → Int) (lg : Bool) (len : Int) (hcp : 0 ≤ p.caps) :
    ∀ (n : Nat) (pl : Int) (s : Rn), (s.next < 0 ∨ s.next ∈ T) → (s.nf.length : Int) = p.caps → (∀ b, s.best = some b → (b.length : Int) = p.caps) →
      s.steps ≤ (runL p rn av lg len n pl s).steps ∧ (runL p rn av lg len n pl s).steps ≤ s.steps + n * (p.ins.length * (p.caps + 1)) ∧ ∀ b, (runL p rn av lg len n pl s).best = some b → (b.length : Int) = p.caps
  | 0, pl, s, _, _, hb => ⟨Int.le_refl _, by simp [runL], hb⟩
  | n + 1, pl, s, hn, hf, hb => by
    rw [runL]
    have hpos : 0 ≤ ((n + 1 : Nat) : Int) * (p.ins.length * (p.caps + 1)) := Int.mul_nonneg (by omega) (Int.mul_nonneg (by omega) (by omega))
    split
    · exact ⟨Int.le_refl _, by omega, hb⟩
    · rename_i hh
      have hn' : s.next ∈ T := hn.resolve_left (fun e => hh (.inl e))
      have hpp := hT _ hn'
      have hsimp : (waysW me un p (p.ins.length + 1) s.next ⟨[], [], [], 0⟩).1 = true := hpp.2.1
      have hgood := walkS_good (me := me) (un := un) (p := p) (rn := rn) (av := av) (lg := lg) (p.ins.length + 1) s.next pl s.nf ⟨s.steps, s.best, -1, s.nf, false⟩ ⟨[], [], [], 0⟩ hsimp hf hf hb
      have hpot := walkS_pot (me := me) (un := un) rn av lg hl (1 + s.nf.length) (p.ins.length + 1) s.next pl s.nf ⟨s.steps, s.best, -1, s.nf, false⟩ ⟨[], [], [], 0⟩ hpp.1 hsimp (Nat.le_refl _)
      have ih := runL_steps hl T hT rn av lg len hcp n (pl + 1) (placeS p rn av lg pl s) (by
        rcases hgood.next with e | ⟨x, hx, e⟩
        · exact .inl (by show (walkS _ _ _ _ _ _ _ _ _).next < 0; rw [e]; show (-1 : Int) < 0; omega)
        · exact .inr (by show (walkS _ _ _ _ _ _ _ _ _).next ∈ T; rw [e]; exact hpp.2.2 x hx)) hgood.nf hgood.best
      have hst : (placeS p rn av lg pl s).steps ≤ s.steps + p.ins.length * (p.caps + 1) := by
        have h9 := hpot.2
        unfold potR at h9
        rw [leftN_nil] at h9
        have h8 : ((p.ins.length * (1 + s.nf.length) : Nat) : Int) = p.ins.length * (p.caps + 1) := by
          rw [Int.natCast_mul, Int.natCast_add, hf]; congr 1; omega
        have h7 : (0 : Int) ≤ ((leftN p.ins.length (waysW me un p (p.ins.length + 1) s.next ⟨[], [], [], 0⟩).2.seen * (1 + s.nf.length) : Nat) : Int) := Int.natCast_nonneg _
        show (walkS _ _ _ _ _ _ _ _ _).steps ≤ _
        dsimp only at h9
        omega
      have hst0 : s.steps ≤ (placeS p rn av lg pl s).steps := hpot.1
      have e : ((n + 1 : Nat) : Int) * (p.ins.length * (p.caps + 1)) = n * (p.ins.length * (p.caps + 1)) + p.ins.length * (p.caps + 1) := by
        rw [Int.natCast_add, Int.add_mul]; simp
      exact ⟨by omega, by omega, ih.2.2⟩
end Go.Proofs.YthclpabmbhpohaaDoor
namespace Go.Proofs.YthclpabmbhpohaaDoor
open Go.RowKit
set_option linter.unusedVariables false
theorem symsFrom_pos (s : ByteArray) : ∀ fuel pos, ∀ x ∈ symsFrom s fuel pos, 0 ≤ x.1
  | 0, _, x, h => by cases h
  | f + 1, pos, x, h => by
    rw [symsFrom] at h
    split at h
    · rcases List.mem_cons.1 h with rfl | h
      · exact Int.natCast_nonneg _
      · exact symsFrom_pos s f _ x h
    · cases h
theorem codes_pos (s : ByteArray) : ∀ x ∈ codesOf s, 0 ≤ x := by
  intro x hx
  obtain ⟨y, hy, rfl⟩ := List.mem_map.1 hx
  exact symsFrom_pos s _ _ y hy
theorem syms_len (s : ByteArray) : (symsOf s).length = (codesOf s).length + 1 := (same_runes s).1
theorem codes_len (s : ByteArray) : (codesOf s).length ≤ s.size := by
  unfold codesOf; rw [List.length_map]; exact symsFrom_len s _ _
theorem same_code (s : ByteArray) : runeAt (symsOf s) = codeAt (codesOf s) := by
  funext i
  by_cases h0 : 0 ≤ i
  · obtain ⟨k, rfl⟩ := Int.eq_ofNat_of_zero_le h0
    by_cases hk : k < (codesOf s).length
    · rw [(same_runes s).2 k hk]
      unfold codeAt; rw [if_pos h0]; simp [hk]
    · have e1 : codeAt (codesOf s) (k : Int) = -1 := by unfold codeAt; rw [if_pos h0]; simp [List.getElem?_eq_none (show (codesOf s).length ≤ k by omega)]
      rw [e1]
      unfold runeAt
      rw [if_pos h0, Int.toNat_natCast]
      have hl : (symsFrom s s.size 0).length = (codesOf s).length := by simp [codesOf]
      rcases Nat.eq_or_lt_of_le (Nat.le_of_not_lt hk) with e | e
      · subst e
        unfold symsOf
        rw [← hl, List.getElem?_append_right (Nat.le_refl _)]
        simp
      · rw [List.getElem?_eq_none (by rw [syms_len]; omega)]; rfl
  · unfold runeAt codeAt
    rw [if_neg h0, if_neg h0]
theorem code_in {cs : List Int} (hp : ∀ x ∈ cs, 0 ≤ x) {i : Int} (h0 : 0 ≤ i) (h1 : i < cs.length) : 0 ≤ codeAt cs i := by
  obtain ⟨k, rfl⟩ := Int.eq_ofNat_of_zero_le h0
  unfold codeAt
  rw [if_pos h0, Int.toNat_natCast, List.getElem?_eq_getElem (by omega)]
  exact hp _ (List.getElem_mem _)
theorem same_at (s : ByteArray) : atOf (symsOf s) = docAt (codesOf s) := by
  funext i
  unfold atOf docAt
  rw [syms_len, same_code]
  by_cases h : i < 0 ∨ ((codesOf s).length : Int) < i
  · rw [if_pos (by omega), if_pos h]
  · rw [if_neg (by omega), if_neg h]
    have hp := codes_pos s
    have e1 : (codeAt (codesOf s) (i - 1) == -1) = (i == 0) := by
      by_cases h0 : i = 0
      · subst h0; rfl
      · have := code_in hp (i := i - 1) (by omega) (by omega)
        rw [beq_eq_false_iff_ne.2 (by omega), beq_eq_false_iff_ne.2 h0]
    have e2 : (codeAt (codesOf s) i == -1) = (i == ((codesOf s).length : Int)) := by
      by_cases h0 : i = ((codesOf s).length : Int)
      · rw [h0]
        unfold codeAt
        simp
      · have := code_in hp (i := i) (by omega) (by omega)
        rw [beq_eq_false_iff_ne.2 (by omega), beq_eq_false_iff_ne.2 h0]
    unfold atW atB atD
    rw [e1, e2]
    generalize (wordB (codeAt (codesOf s) (i - 1)) == wordB (codeAt (codesOf s) i)) = z
    generalize (i == 0) = z0
    generalize (i == ((codesOf s).length : Int)) = zn
    generalize (codeAt (codesOf s) (i - 1) == 10) = a1
    generalize (codeAt (codesOf s) i == 10) = n1
    cases z <;> cases z0 <;> cases zn <;> cases a1 <;> cases n1 <;> rfl
/-- What the machine of one pass tells is what the document's walk tells; its steps. -/
theorem match_doc {p : Pg} (h : admitsB p = true) (s : ByteArray) (lg : Bool) :
    (matchS p (symsOf s) lg).best = runW p (codeAt (codesOf s)) (docAt (codesOf s)) (codesOf s).length lg ((codesOf s).length + 1) 0 ∧
      0 ≤ (matchS p (symsOf s) lg).steps ∧ (matchS p (symsOf s) lg).steps ≤ (((codesOf s).length : Int) + 1) * (p.ins.length * (p.caps + 1)) ∧ checkS rightR p = 0 ∧ ∀ b, (matchS p (symsOf s) lg).best = some b → (b.length : Int) = p.caps := by
  unfold admitsB admW at h
  simp only [Bool.and_eq_true, beq_iff_eq] at h
  obtain ⟨h0, _, h2⟩ := h
  have hk := check_ok h0
  have hl := check_leads h0
  refine ⟨?_, ?_, ?_, h0, ?_⟩
  · unfold matchS
    rw [same_code, same_at, syms_len]
    have e : (((codesOf s).length + 1 : Nat) : Int) - 1 = ((codesOf s).length : Int) := by omega
    rw [e]
    exact match_run (me := meetB) (un := un2) hl meetB_iff (fun a b c => has_union a b c) hk.2.2.1 hk.2.2.2.1 h2 _ _ lg _
  all_goals
    obtain ⟨T, t1, t2⟩ := adm_leads hl hk.2.2.1 h2
    have hst := runL_steps (me := meetB) (un := un2) hl T t2 (runeAt (symsOf s)) (atOf (symsOf s)) lg (((symsOf s).length : Int) - 1) (by have := hk.2.2.2.1; omega) (symsOf s).length 0 ⟨0, none, p.start, fit0 p, false⟩ (.inr t1) (by unfold fit0; rw [List.length_set, List.length_replicate]; have := hk.2.2.2.1; omega) (fun b hb => by cases hb)
    unfold matchS
  · exact hst.1
  · have h9 := hst.2.1
    rw [syms_len] at h9 ⊢
    have e : (((codesOf s).length + 1 : Nat) : Int) = ((codesOf s).length : Int) + 1 := by omega
    rw [e] at h9
    refine Int.le_trans h9 ?_
    show (0 : Int) + _ ≤ _
    rw [Int.zero_add]
    exact Int.le_refl _
  · exact hst.2.2
end Go.Proofs.YthclpabmbhpohaaDoor
namespace Go.Proofs.YthclpabmbhpohaaDoor
open Go.RowKit
set_option linter.unusedVariables false
theorem refB_of {ok : Nat → Prop} {W : World} {b : Nat} {cs : List Int} (h : RefC ok W ⟨b, 0, none⟩ cs) (hl : cs.length ≤ 1000000) : RefB (fun _ => True) W b cs := by
  obtain ⟨A, c, _, h1, _, _, h4⟩ := h
  exact ⟨A, c, trivial, by simpa using h1, hl, h4.move (fun _ _ _ => ⟨rfl, trivial⟩) (by omega)⟩
theorem RefB.old {ok : Nat → Prop} {W : World} {b : Nat} {cs : List Int} (h : RefB ok W b cs) : RefB (fun k => k < W.heap.size) W b cs := h.move fun k _ hlt => ⟨rfl, hlt⟩
set_option maxRecDepth 100000 in
set_option maxHeartbeats 4000000 in
theorem oneMatch_any (w : World) (p : Pg) (A : Option Addr) (c : Nat) (hp : PgC (fun k => k < w.heap.size) w p [.slice A p.ins.length c, .int .i64 p.start, .int .i64 p.caps]) (hN : p.ins.length ≤ 140737488351232) (hs : ∀ x ∈ p.ins, x.set.length ≤ 140737488351232)
    (hw : ∀ x ∈ p.ins, ∀ r ∈ x.set, (Lit.int .i32 r.lo).wf = true ∧ (Lit.int .i32 r.hi).wf = true) (ok : Nat → Prop) (T : Option Addr) (tc : Nat) (s : ByteArray) (ht : TextC ok w T s) (htc : s.size ≤ tc) (htm : tc ≤ maxLen) (lg : Bool) (hT : Tabs w) :
    Calls Tryd.prog 7 #[.agg #[.slice A p.ins.length c, .int .i64 p.start, .int .i64 p.caps], .slice T s.size tc, .bool lg] w fun e w' => e = .returned (.bool true) ∧ Below w.heap.size w w' := by
  have hB0 := below_al (Below.refl w.heap.size w) (.cells #[.slice A p.ins.length c, .int .i64 p.start, .int .i64 p.caps] 28)
  have hx0 := heap_new1 w (.cells #[.slice A p.ins.length c, .int .i64 p.start, .int .i64 p.caps] 28)
  have hhd := head15_any
  have hpX : ∀ W, Below w.heap.size w W → PgC (fun k => k < W.heap.size) W p [.slice A p.ins.length c, .int .i64 p.start, .int .i64 p.caps] := fun W hW => hp.move fun k hk _ => ⟨hW.block k hk, by have := hW.size; omega⟩
  have htX : ∀ W, Below w.heap.size w W → TextC ok W T s := fun W hW => ht.move fun k hk hlt => ⟨hW.block k hlt, hk⟩
  have hTX : ∀ W, Below w.heap.size w W → Tabs W := fun W hW => hT.below hW
  have HP := Lib.hid (And.intro hpX (And.intro htX (And.intro hTX (And.intro hs hw))))
  have HX0 := Lib.hid (And.intro hB0 hx0)
  clear hp hs hw ht hT hB0 hx0 hpX htX hTX
  obtain ⟨q0, q1, q2⟩ := cells3 HX0.out.2
  have hn := heap_lt HX0.out.2
  go_enter Tryd.func7, Tryd.ntmps7
  go_wp2_with fail
  refine (hhd _).mono ?_
  clear hhd
  rintro e X1 ⟨rfl, hb1⟩
  dsimp only
  have hbx := (hb1.block _ (heap_lt HX0.out.2)).trans HX0.out.2
  have hB := HX0.out.1.trans (hb1.mono HX0.out.1.size)
  clear q0 q1 q2 hn
  obtain ⟨q0, q1, q2⟩ := cells3 hbx
  have hn := heap_lt hbx
  have HX1 := Lib.hid (And.intro hB hbx)
  clear hbx hB
  clear hb1
  by_cases hbig : 65536 < s.size
  · have htb := text_big X1 T tc s.size hbig
    go_wp2_with fail
    refine htb.mono ?_
    clear htb
    rintro e X2 ⟨rfl, rfl⟩
    dsimp only
    go_wp2_with fail
    go_ret
    exact ⟨rfl, HX1.out.1⟩
  have htb := text_small ok X1 T tc s (HP.out.2.1 _ HX1.out.1) (by omega)
  go_wp2_with fail
  refine htb.mono ?_
  clear htb
  rintro e X2 ⟨bt, rfl, hI2, hb2⟩
  dsimp only
  have hbx := (hb2.block _ (heap_lt HX1.out.2)).trans HX1.out.2
  have hB := HX1.out.1.trans (hb2.mono HX1.out.1.size)
  clear q0 q1 q2 hn
  obtain ⟨q0, q1, q2⟩ := cells3 hbx
  have hn := heap_lt hbx
  have HX2 := Lib.hid (And.intro hB hbx)
  clear hbx hB
  have HI2 := Lib.hid hI2
  clear hb2 hI2
  have hlg := long15_any X2 p A T c s.size tc (HP.out.1 _ HX2.out.1) hN HP.out.2.2.2.1 (by omega)
  cases hl : longB2 p s.size with
  | true =>
    rw [hl] at hlg
    go_wp2_with (go_at_call 12; refine hlg.mono ?_; clear hlg; rintro e X3 ⟨rfl, hb3⟩; have HB3 := Lib.hid (HX2.out.1.trans (hb3.mono HX2.out.1.size)); clear hb3)
    go_ret
    exact ⟨rfl, HB3.out⟩
  | false =>
    rw [hl] at hlg
    have hle : p.ins.length + heftP p.ins ≤ 2000 ∧ s.size ≤ 3000 ∧ p.ins.length * (s.size + 1) ≤ 100000 := by
      unfold longB2 longB at hl
      simp at hl
      omega
    have hsl : ∀ x ∈ p.ins, x.set.length ≤ 2000 := fun x hx => by have := heft_mem hx; omega
    have hcl0 := codes_len s
    have HL := Lib.hid (And.intro hle (And.intro hsl hcl0))
    clear hl hle hsl hcl0
    go_wp2_with (go_at_call 12; refine hlg.mono ?_; clear hlg; rintro e X3 ⟨rfl, hb3⟩; (have hbx := (hb3.block _ (heap_lt HX2.out.2)).trans HX2.out.2; have hB := HX2.out.1.trans (hb3.mono HX2.out.1.size); clear q0 q1 q2 hn; obtain ⟨q0, q1, q2⟩ := cells3 hbx; have hn := heap_lt hbx; have HX3 := Lib.hid (And.intro hB hbx); clear hbx hB); have HI3 := Lib.hid (HI2.out.move (w' := X3) (ok' := fun _ => True) (fun k _ hlt => ⟨hb3.block k hlt, trivial⟩)); clear hb3 HI2)
    have hrl : 1 ≤ (symsOf s).length ∧ (symsOf s).length ≤ 3001 := by rw [syms_len]; have := HL.out.2.2; have := HL.out.1.2.1; omega
    have hpT : ∀ W, Below w.heap.size w W → PgC (fun _ => True) W p [.slice A p.ins.length c, .int .i64 p.start, .int .i64 p.caps] := fun W hW => (HP.out.1 W hW).move fun k _ _ => ⟨rfl, trivial⟩
    have hma := match_any (fun _ => True) X3 p [.slice A p.ins.length c, .int .i64 p.start, .int .i64 p.caps] (hpT _ HX3.out.1) hN (fun x hx => by have := HL.out.2.1 x hx; omega) ⟨bt, 0, none⟩ (symsOf s) HI3.out (by omega) (by omega) lg
    have hmn := fun W hW => match_nil W p [.slice A p.ins.length c, .int .i64 p.start, .int .i64 p.caps] (fun _ => True) (hpT W hW) lg
    have had := fun W hW => admits15_any W p A c (HP.out.1 W hW) (by have := HL.out.1.1; omega) HP.out.2.2.2.2 (fun x hx => by have := HL.out.2.1 x hx; omega)
    rw [← adms_same p] at had
    have HRL := Lib.hid hrl
    clear hrl hpT
    cases hA : admitsB p with
    | false =>
      rw [show matchOf p (symsOf s) lg = noRn by unfold matchOf; rw [hA]; rfl] at hma
      rw [hA] at had
      go_wp2_with fail
      refine hma.mono ?_
      clear hma
      rintro e X4 ⟨v4, rfl, ⟨Aa, ca, rfl, _, _, _⟩, hb4⟩
      dsimp only [noRn, Option.getD_none, List.length_nil, Option.isSome_none]
      have hbx := (hb4.block _ (heap_lt HX3.out.2)).trans HX3.out.2
      have hB := HX3.out.1.trans (hb4.mono HX3.out.1.size)
      clear q0 q1 q2 hn
      obtain ⟨q0, q1, q2⟩ := cells3 hbx
      have hn := heap_lt hbx
      have HX4 := Lib.hid (And.intro hB hbx)
      clear hbx hB
      clear hb4
      have hmn4 := hmn X4 HX4.out.1
      go_wp2_with fail
      refine hmn4.mono ?_
      clear hmn4
      rintro e X5 ⟨v5, rfl, ⟨A5, c5, rfl, _, _, _⟩, hb5⟩
      dsimp only [noRn, Option.getD_none, List.length_nil, Option.isSome_none]
      have hbx := (hb5.block _ (heap_lt HX4.out.2)).trans HX4.out.2
      have hB := HX4.out.1.trans (hb5.mono HX4.out.1.size)
      clear q0 q1 q2 hn
      obtain ⟨q0, q1, q2⟩ := cells3 hbx
      have hn := heap_lt hbx
      have HX5 := Lib.hid (And.intro hB hbx)
      clear hbx hB
      clear hb5
      have had5 := had X5 HX5.out.1
      go_wp2_with fail
      refine had5.mono ?_
      clear had5
      rintro e X6 ⟨rfl, hb6⟩
      dsimp only
      have HB6 := Lib.hid (HX5.out.1.trans (hb6.mono HX5.out.1.size))
      clear hb6
      go_wp2_with fail
      go_ret
      exact ⟨rfl, HB6.out⟩
    | true =>
      rw [show matchOf p (symsOf s) lg = matchS p (symsOf s) lg by unfold matchOf; rw [hA]; rfl] at hma
      rw [hA] at had
      obtain ⟨md1, md2, md3, md4, md5⟩ := match_doc hA s lg
      have hol : ((matchS p (symsOf s) lg).best.getD []).length ≤ 5000 := by
        cases hb : (matchS p (symsOf s) lg).best with
        | none => simp
        | some b => have h9 := md5 b hb; have := (check_ok md4).2.2.2.2.1; simp; omega
      clear md5
      have hstp := md3
      obtain ⟨st, hst⟩ : ∃ st, (matchS p (symsOf s) lg).steps = st := ⟨_, rfl⟩
      obtain ⟨ob, hob⟩ : ∃ ob, (matchS p (symsOf s) lg).best = ob := ⟨_, rfl⟩
      unfold MatchPost at hma
      rw [hst] at hma md2 md3
      rw [hob] at hma md1 hol
      obtain ⟨l, hl⟩ : ∃ l, ob.getD [] = l := ⟨_, rfl⟩
      obtain ⟨sm, hsm⟩ : ∃ sm, ob.isSome = sm := ⟨_, rfl⟩
      obtain ⟨rl, hrl⟩ : ∃ rl, (symsOf s).length = rl := ⟨_, rfl⟩
      rw [hl, hsm] at hma
      rw [hl] at hol
      have HOL := Lib.hid hol
      clear hol
      have HMD := Lib.hid (And.intro md1 (And.intro md2 (And.intro md3 (And.intro md4 (And.intro hl (And.intro hsm hrl))))))
      clear md1 md2 md3 md4 hl hsm hrl hst hob hstp
      go_wp2_with fail
      refine hma.mono ?_
      clear hma
      rintro e X4 ⟨v4, rfl, ⟨Aa, ca, rfl, _, _, hAa⟩, hb4⟩
      dsimp only
      have hbx := (hb4.block _ (heap_lt HX3.out.2)).trans HX3.out.2
      have hB := HX3.out.1.trans (hb4.mono HX3.out.1.size)
      clear q0 q1 q2 hn
      obtain ⟨q0, q1, q2⟩ := cells3 hbx
      have hn := heap_lt hbx
      have HX4 := Lib.hid (And.intro hB hbx)
      clear hbx hB
      have HI4 := Lib.hid (HI3.out.move (w' := X4) (ok' := fun _ => True) (fun k _ hlt => ⟨hb4.block k hlt, trivial⟩))
      have HA4 := Lib.hid hAa
      clear hb4 hAa HI3
      have hmn4 := hmn X4 HX4.out.1
      go_wp2_with fail
      refine hmn4.mono ?_
      clear hmn4
      rintro e X5 ⟨v5, rfl, ⟨A5, c5, rfl, _, _, _⟩, hb5⟩
      dsimp only [noRn, Option.getD_none, List.length_nil, Option.isSome_none]
      have hbx := (hb5.block _ (heap_lt HX4.out.2)).trans HX4.out.2
      have hB := HX4.out.1.trans (hb5.mono HX4.out.1.size)
      clear q0 q1 q2 hn
      obtain ⟨q0, q1, q2⟩ := cells3 hbx
      have hn := heap_lt hbx
      have HX5 := Lib.hid (And.intro hB hbx)
      clear hbx hB
      have HS5 := Lib.hid hb5
      clear hb5
      have had5 := had X5 HX5.out.1
      go_wp2_with fail
      refine had5.mono ?_
      clear had5 hmn had
      rintro e X ⟨rfl, hb6⟩
      dsimp only
      have hbx := (hb6.block _ (heap_lt HX5.out.2)).trans HX5.out.2
      have hB := HX5.out.1.trans (hb6.mono HX5.out.1.size)
      clear q0 q1 q2 hn
      obtain ⟨q0, q1, q2⟩ := cells3 hbx
      have hn := heap_lt hbx
      have HX6 := Lib.hid (And.intro hB hbx)
      clear hbx hB
      have HS6 := Lib.hid (HS5.out.trans (hb6.mono HS5.out.size))
      clear hb6
      have hcl : (codesOf s).length ≤ 1000000 := by have := HL.out.2.2; have := HL.out.1.2.1; omega
      have hrle : (rl : Int) - 1 = ((codesOf s).length : Int) := by have h9 := HMD.out.2.2.2.2.2.2; rw [syms_len] at h9; omega
      have HC : Hid ((∀ W, Below X.heap.size X W → W.heap[w.heap.size]? = some (.cells #[.slice A p.ins.length c, .int .i64 p.start, .int .i64 p.caps] 28 (0, 0))) ∧ (∀ W, Below X.heap.size X W → Calls Tryd.prog 18 #[.slice T s.size tc] W (DocPost W s)) ∧
          (∀ W, Below X.heap.size X W → Calls Tryd.prog 15 #[.pointer (some ⟨bt, 0, none⟩)] W fun e w' => e = .returned (.int .i64 ((rl : Int) - 1)) ∧ W = w') ∧
          (∀ W bd, Below X.heap.size X W → RefB (fun _ => True) W bd (codesOf s) → Calls Tryd.prog 26 #[.agg #[.slice A p.ins.length c, .int .i64 p.start, .int .i64 p.caps], .pointer (some ⟨bd, 0, none⟩), .int .i64 0, .int .i64 ((rl : Int) - 1), .bool lg] W fun e w' => ∃ v, e = .returned (.tuple #[v, .bool sm]) ∧ (∃ A c, v = .slice A l.length c ∧ Arr (fun _ => True) w' 1 (IntC .i64) A l) ∧ Below W.heap.size W w')) := Lib.hid (by
        have hXW : ∀ W, Below X.heap.size X W → Below w.heap.size w W := fun W hW => HX6.out.1.trans (hW.mono HX6.out.1.size)
        refine ⟨fun W hW => (hW.block _ (heap_lt HX6.out.2)).trans HX6.out.2, fun W hW => doc_any ok W T tc s (HP.out.2.1 _ (hXW W hW)) htc htm (by have := HL.out.1.2.1; omega) (HP.out.2.2.1 _ (hXW W hW)), fun W hW => ?_, fun W bd hW hR => ?_⟩
        · have h9 := len_any (fun _ => True) W ⟨bt, 0, none⟩ (symsOf s) (HI4.out.move (w' := W) (ok' := fun _ => True) (fun k _ hlt => ⟨(HS6.out.trans (hW.mono HS6.out.size)).block k hlt, trivial⟩))
          rw [HMD.out.2.2.2.2.2.2] at h9
          exact h9
        · have h9 := run_any W p A c (HP.out.1 _ (hXW W hW)) HMD.out.2.2.2.1 bd (codesOf s) hR.old 0 ((rl : Int) - 1) lg (by omega) (by omega) (by have h1 := HL.out.1.2.2; have h2 := Nat.mul_le_mul_left p.ins.length (show (codesOf s).length + 1 ≤ s.size + 1 by have := HL.out.2.2; omega); omega)
          rw [hrle, Int.min_self, ← HMD.out.1] at h9
          unfold RunPost at h9
          rw [HMD.out.2.2.2.2.1, HMD.out.2.2.2.2.2.1, ← hrle] at h9
          exact h9)
      clear q0 q1 q2 hn hcl hrle
      have hcl : (codesOf s).length ≤ 1000000 := by have := HL.out.2.2; have := HL.out.1.2.1; omega
      go_wp2_with fail
      refine wp_region_scr (fun W' => Below X.heap.size X W') [(true, 0, 66), (true, 1, 67), (true, 3, 69), (true, 4, 70), (true, 5, 71), (true, 7, 73), (false, 2, 68), (false, 6, 72), (false, 8, 74), (true, 9, 65), (true, 10, 75), (true, 11, 76), (true, 12, 15), (true, 13, 16)] (by kernel_rfl) (by kernel_rfl) (fun _ _ _ _ _ h => h) rfl (by kernel_rfl) ?_
      have HV := Lib.hid (show Below X.heap.size X X.drew from (Below.refl _ _).drew)
      refine Scr.take (v := .agg #[.slice A p.ins.length c, .int .i64 p.start, .int .i64 p.caps]) rfl rfl (yw_row 28 _ rfl w.heap.size ([.slice A p.ins.length c, .int .i64 p.start, .int .i64 p.caps] : List Value) 28 rfl (by rfl) _ Tryd.underlying28 rfl (by rfl) (fun W hS => HC.out.1 W hS)) HV.out ?_
      simp only [Act.put, List.setIfInBounds_toArray, List.set_cons_zero, List.set_cons_succ]
      refine Scr.take (v := .slice T s.size tc) rfl rfl (yw_pure (by rfl) (fun _ => by go_simp)) HV.out ?_
      simp only [Act.put, List.setIfInBounds_toArray, List.set_cons_zero, List.set_cons_succ]
      refine Scr.take (v := .pointer (some ⟨bt, 0, none⟩)) rfl rfl (yw_pure (by rfl) (fun _ => by go_simp)) HV.out ?_
      simp only [Act.put, List.setIfInBounds_toArray, List.set_cons_zero, List.set_cons_succ]
      refine Scr.take (v := .pointer (some ⟨bt, 0, none⟩)) rfl rfl (yw_pure (by rfl) (fun _ => by go_simp)) HV.out ?_
      simp only [Act.put, List.setIfInBounds_toArray, List.set_cons_zero, List.set_cons_succ]
      refine Scr.take (v := .pointer (some ⟨bt, 0, none⟩)) rfl rfl (yw_pure (by rfl) (fun _ => by go_simp)) HV.out ?_
      simp only [Act.put, List.setIfInBounds_toArray, List.set_cons_zero, List.set_cons_succ]
      refine Scr.take (v := .bool lg) rfl rfl (yw_pure (by rfl) (fun _ => by go_simp)) HV.out ?_
      simp only [Act.put, List.setIfInBounds_toArray, List.set_cons_zero, List.set_cons_succ]
      refine Scr.run rfl (by rfl) (fun K hK => ?_)
      go_simp
      refine (HC.out.2.1 _ HV.out).mono ?_
      rintro e w9 ⟨bd, rfl, hI9, hb9⟩
      dsimp only
      have hRB := refB_of hI9 hcl
      have hB9 : Below X.heap.size X w9 := HV.out.trans (hb9.mono HV.out.size)
      refine hK _ _ hB9 ?_
      clear hK K HV
      have HV := Lib.hid hB9
      clear hB9
      have HRB := Lib.hid hRB
      clear hRB hb9 hI9
      have HVD := HV
      refine Scr.run rfl (by rfl) (fun K hK => ?_)
      go_simp
      refine (HC.out.2.2.1 _ HV.out).mono ?_
      rintro e w9 ⟨rfl, rfl⟩
      dsimp only
      refine hK _ _ HV.out ?_
      clear hK K
      refine Scr.run rfl (by rfl) (fun K hK => ?_)
      go_simp
      refine (HC.out.2.2.2 _ bd HV.out HRB.out).mono ?_
      rintro e w9 ⟨vb, rfl, ⟨Ab, cb, rfl, hAb⟩, hb9⟩
      dsimp only
      have hB9 : Below X.heap.size X w9 := HV.out.trans (hb9.mono HV.out.size)
      refine hK _ _ hB9 ?_
      clear hK K HV
      have HV := Lib.hid hB9
      clear hB9
      have HAB := Lib.hid hAb
      clear hb9 hAb
      have HVB := HV
      refine Scr.take (v := .tuple #[.slice Ab l.length cb, .bool sm]) rfl rfl (yw_pure (by rfl) (fun _ => by go_simp)) HV.out ?_
      simp only [Act.put, List.setIfInBounds_toArray, List.set_cons_zero, List.set_cons_succ]
      refine Scr.take (v := .slice Ab l.length cb) rfl rfl (yw_pure (by rfl) (fun _ => by go_simp)) HV.out ?_
      simp only [Act.put, List.setIfInBounds_toArray, List.set_cons_zero, List.set_cons_succ]
      refine Scr.take (v := .bool sm) rfl rfl (yw_pure (by rfl) (fun _ => by go_simp)) HV.out ?_
      simp only [Act.put, List.setIfInBounds_toArray, List.set_cons_zero, List.set_cons_succ]
      refine Scr.take (v := .slice Ab l.length cb) rfl rfl (yw_pure (by rfl) (fun _ => by go_simp)) HV.out ?_
      simp only [Act.put, List.setIfInBounds_toArray, List.set_cons_zero, List.set_cons_succ]
      refine Scr.take (v := .bool sm) rfl rfl (yw_pure (by rfl) (fun _ => by go_simp)) HV.out ?_
      simp only [Act.put, List.setIfInBounds_toArray, List.set_cons_zero, List.set_cons_succ]
      simp only [Scr]
      obtain ⟨Y, rfl⟩ : ∃ Y, Y = w9 := ⟨_, rfl⟩
      have hXY : Below w.heap.size w Y := HX6.out.1.trans (HV.out.mono HX6.out.1.size)
      have hS4Y : Below X4.heap.size X4 Y := HS6.out.trans (HV.out.mono HS6.out.size)
      have HD : Hid ((∀ W, Below Y.heap.size Y W → Calls Tryd.prog 19 #[.slice Aa l.length ca, .slice Ab l.length cb] W fun e w' => e = .returned (.bool true) ∧ Below W.heap.size W w') ∧
          (∀ W, Below Y.heap.size Y W → Calls Tryd.prog 15 #[.pointer (some ⟨bt, 0, none⟩)] W fun e w' => e = .returned (.int .i64 ((rl : Int) - 1)) ∧ W = w') ∧
          (∀ W, Below Y.heap.size Y W → Calls Tryd.prog 20 #[.agg #[.slice A p.ins.length c, .int .i64 p.start, .int .i64 p.caps], .int .i64 rl, .int .i64 st] W fun e w' => e = .returned (.bool true) ∧ Below W.heap.size W w')) := Lib.hid (by
        have hck := check_ok HMD.out.2.2.2.1
        refine ⟨fun W hW => ?_, fun W hW => HC.out.2.2.1 W (HV.out.trans (hW.mono HV.out.size)), fun W hW => ?_⟩
        · have hll : l.length ≤ 140737488351232 := by have := HOL.out; omega
          have h9 := sameInts_any W Aa Ab ca cb l l (HA4.out.move (fun b _ hlt => ⟨(hS4Y.trans (hW.mono hS4Y.size)).block b hlt, trivial⟩) (by omega)) (HAB.out.move (fun b _ hlt => ⟨hW.block b hlt, trivial⟩) (by omega)) hll hll
          rw [beq_self_eq_true] at h9
          exact h9
        · have h8 := HMD.out.2.2.1
          have h7 := HMD.out.2.2.2.2.2.2
          have h6 := HRL.out
          rw [syms_len] at h7 h6
          rw [show (((codesOf s).length : Int) + 1) = (rl : Int) by omega] at h8
          exact steps_any W p A c rl st (by have := HL.out.1.1; omega) (by have := hck.2.2.2.1; omega) (by have := hck.2.2.2.2.1; omega) (by omega) (by omega) HMD.out.2.1 h8)
      have hwr : IntKind.i64.wrap ((rl : Int) - 1 + 1) = (rl : Int) := by have h6 := HRL.out; rw [HMD.out.2.2.2.2.2.2] at h6; rw [IntWalk.i64_in _ (by omega)]; omega
      have hwr2 : IntKind.i64.wrap (rl : Int) = (rl : Int) := by have h6 := HRL.out; rw [HMD.out.2.2.2.2.2.2] at h6; exact IntWalk.i64_in _ (by omega)
      have HXY := Lib.hid hXY
      clear hXY hS4Y
      go_wp2_with fail
      refine wp_region_scr (fun W' => Below Y.heap.size Y W') [(true, 0, 77), (true, 1, 78), (true, 2, 79), (true, 3, 80), (true, 4, 81), (true, 5, 82), (true, 6, 83), (true, 7, 84), (true, 8, 85), (false, 9, 86), (true, 10, 87), (true, 11, 88), (true, 12, 89), (true, 13, 90), (true, 14, 91), (true, 15, 92), (true, 18, 95), (false, 16, 93), (true, 17, 94), (false, 19, 96), (true, 20, 97), (true, 21, 6)] (by kernel_rfl) (by kernel_rfl) (fun _ _ _ _ _ h => h) rfl (by kernel_rfl) ?_
      have HU := Lib.hid (show Below Y.heap.size Y Y.drew from (Below.refl _ _).drew)
      refine Scr.take (v := .bool true) rfl rfl (yw_pure (by rfl) (fun _ => by go_simp)) HU.out ?_
      simp only [Act.put, List.setIfInBounds_toArray, List.set_cons_zero, List.set_cons_succ]
      refine Scr.take (v := .bool true) rfl rfl (yw_pure (by rfl) (fun _ => by go_simp)) HU.out ?_
      simp only [Act.put, List.setIfInBounds_toArray, List.set_cons_zero, List.set_cons_succ]
      refine Scr.take (v := .bool sm) rfl rfl (yw_pure (by rfl) (fun _ => by go_simp)) HU.out ?_
      simp only [Act.put, List.setIfInBounds_toArray, List.set_cons_zero, List.set_cons_succ]
      refine Scr.take (v := .bool sm) rfl rfl (yw_pure (by rfl) (fun _ => by go_simp)) HU.out ?_
      simp only [Act.put, List.setIfInBounds_toArray, List.set_cons_zero, List.set_cons_succ]
      refine Scr.take (v := .bool true) rfl rfl (yw_pure (by rfl) (fun _ => by go_simp)) HU.out ?_
      simp only [Act.put, List.setIfInBounds_toArray, List.set_cons_zero, List.set_cons_succ]
      refine Scr.take (v := .bool true) rfl rfl (yw_pure (by rfl) (fun _ => by go_simp)) HU.out ?_
      simp only [Act.put, List.setIfInBounds_toArray, List.set_cons_zero, List.set_cons_succ]
      refine Scr.take (v := .bool true) rfl rfl (yw_pure (by rfl) (fun _ => by go_simp)) HU.out ?_
      simp only [Act.put, List.setIfInBounds_toArray, List.set_cons_zero, List.set_cons_succ]
      refine Scr.take (v := .slice Aa l.length ca) rfl rfl (yw_pure (by rfl) (fun _ => by go_simp)) HU.out ?_
      simp only [Act.put, List.setIfInBounds_toArray, List.set_cons_zero, List.set_cons_succ]
      refine Scr.take (v := .slice Ab l.length cb) rfl rfl (yw_pure (by rfl) (fun _ => by go_simp)) HU.out ?_
      simp only [Act.put, List.setIfInBounds_toArray, List.set_cons_zero, List.set_cons_succ]
      refine Scr.run rfl (by rfl) (fun K hK => ?_)
      go_simp
      refine (HD.out.1 _ HU.out).mono ?_
      rintro e w9 ⟨rfl, hb9⟩
      dsimp only
      have hB9 : Below Y.heap.size Y w9 := HU.out.trans (hb9.mono HU.out.size)
      refine hK _ _ hB9 ?_
      clear hK K HU
      have HU := Lib.hid hB9
      clear hB9
      clear hb9
      refine Scr.take (v := .bool true) rfl rfl (yw_pure (by rfl) (fun _ => by go_simp)) HU.out ?_
      simp only [Act.put, List.setIfInBounds_toArray, List.set_cons_zero, List.set_cons_succ]
      refine Scr.take (v := .bool true) rfl rfl (yw_pure (by rfl) (fun _ => by go_simp)) HU.out ?_
      simp only [Act.put, List.setIfInBounds_toArray, List.set_cons_zero, List.set_cons_succ]
      refine Scr.take (v := .agg #[.slice A p.ins.length c, .int .i64 p.start, .int .i64 p.caps]) rfl rfl (yw_row 28 _ rfl w.heap.size ([.slice A p.ins.length c, .int .i64 p.start, .int .i64 p.caps] : List Value) 28 rfl (by rfl) _ Tryd.underlying28 rfl (by rfl) (fun W hS => HC.out.1 W (HV.out.trans (hS.mono HV.out.size)))) HU.out ?_
      simp only [Act.put, List.setIfInBounds_toArray, List.set_cons_zero, List.set_cons_succ]
      refine Scr.take (v := .pointer (some ⟨bt, 0, none⟩)) rfl rfl (yw_pure (by rfl) (fun _ => by go_simp)) HU.out ?_
      simp only [Act.put, List.setIfInBounds_toArray, List.set_cons_zero, List.set_cons_succ]
      refine Scr.take (v := .pointer (some ⟨bt, 0, none⟩)) rfl rfl (yw_pure (by rfl) (fun _ => by go_simp)) HU.out ?_
      simp only [Act.put, List.setIfInBounds_toArray, List.set_cons_zero, List.set_cons_succ]
      refine Scr.take (v := .pointer (some ⟨bt, 0, none⟩)) rfl rfl (yw_pure (by rfl) (fun _ => by go_simp)) HU.out ?_
      simp only [Act.put, List.setIfInBounds_toArray, List.set_cons_zero, List.set_cons_succ]
      refine Scr.take (v := .int .i64 st) rfl rfl (yw_pure (by rfl) (fun _ => by go_simp)) HU.out ?_
      simp only [Act.put, List.setIfInBounds_toArray, List.set_cons_zero, List.set_cons_succ]
      refine Scr.run rfl (by rfl) (fun K hK => ?_)
      go_simp
      refine (HD.out.2.1 _ HU.out).mono ?_
      rintro e w9 ⟨rfl, rfl⟩
      dsimp only
      refine hK _ _ HU.out ?_
      clear hK K
      refine Scr.take (v := .int .i64 (rl : Int)) rfl rfl (yw_pure (by rfl) (fun _ => by go_simp)) HU.out ?_
      simp only [Act.put, List.setIfInBounds_toArray, List.set_cons_zero, List.set_cons_succ]
      refine Scr.run rfl (by rfl) (fun K hK => ?_)
      go_simp
      refine (HD.out.2.2 _ HU.out).mono ?_
      rintro e w9 ⟨rfl, hb9⟩
      dsimp only
      have hB9 : Below Y.heap.size Y w9 := HU.out.trans (hb9.mono HU.out.size)
      refine hK _ _ hB9 ?_
      clear hK K HU
      have HU := Lib.hid hB9
      clear hB9
      clear hb9
      refine Scr.take (v := .bool true) rfl rfl (yw_pure (by rfl) (fun _ => by go_simp)) HU.out ?_
      simp only [Act.put, List.setIfInBounds_toArray, List.set_cons_zero, List.set_cons_succ]
      refine Scr.take (v := .bool true) rfl rfl (yw_pure (by rfl) (fun _ => by go_simp)) HU.out ?_
      simp only [Act.put, List.setIfInBounds_toArray, List.set_cons_zero, List.set_cons_succ]
      simp only [Scr]
      go_wp2_with fail
      go_ret
      exact ⟨rfl, HXY.out.trans (HU.out.mono HXY.out.size)⟩
end Go.Proofs.YthclpabmbhpohaaDoor
namespace Go.Proofs.YthclpabmbhpohaaDoor
open Go.ChangeShapes Go.WideShapes Go.ChangeAt Go.RowKit
set_option linter.unusedVariables false
theorem ownGodebug : ownKnob Tryd.prog.godebug = none := by kernel_rfl
theorem laidOut : laidOutB Tryd.prog = true := by kernel_rfl
section
variable {H : Type} {enc : TypeId × Value → H} {P : Program}
/-- What the law's call owes behind a world that has only grown. -/
theorem post_grown {f : Func} {s : ChangeSpec} {apart fresh handsOn again : Bool} {W W' : World} {args : Array Value} {v : Value} {ds gs : List (DataW H)} {before pa pv : List MemPlace}
    (hW : DataW.Whole enc P f.params.toList s.vars apart W args.toList ds gs before) (hb : Below W.heap.size W W') (hps : before = pa ++ pv)
    (hres : ∀ (b : Nat) (sp : Nat → Bool) (hd : Bool), DataW.TrodAll enc P W' b sp hd f.resultTypes.toList (v.resultList f.resultTypes.size) (s.fn H (ds ++ gs)).results [])
    (hargs : ∀ sp : Nat → Bool, (∀ p ∈ before, sp p.block = true) → DataW.TrodAll enc P W' 0 sp true f.params.toList args.toList (s.fn H (ds ++ gs)).args pa)
    (hvars : ∀ sp : Nat → Bool, (∀ p ∈ before, sp p.block = true) → DataW.TrodVars enc P W' sp s.vars (s.fn H (ds ++ gs)).vars pv)
    (hok : ∀ (j : Nat) (t : TypeId) (r : Value), f.resultTypes[j]? = some t → (v.resultList f.resultTypes.size)[j]? = some r → Value.okWide P W' .any 0 t r) :
    s.post enc P f apart fresh handsOn again W args v W' := by
  have old : ∀ p ∈ before, p.block < W.heap.size := hW.lt
  refine ⟨ds, gs, before, [], pa, pv, hW, hres _ _ _, hargs (fun b => decide (b < W.heap.size)) (fun p hp => decide_eq_true (old p hp)), hvars (fun b => decide (b < W.heap.size)) (fun p hp => decide_eq_true (old p hp)),
    World.keptBut_mono (fun p hp => ⟨hp, .inr (List.mem_append.1 (hps ▸ hp))⟩) (hb.frame (· ∈ before)), fun _ => ⟨hok, _, _, ([] ++ pa) ++ pv, ⟨[] ++ pa, pv, trodAll_append (hargs _ (fun _ _ => rfl)) (hres _ _ _), hvars _ (fun _ _ => rfl), rfl, ?_, ?_⟩, fun p hp _ => by rw [hps]; simpa using hp⟩⟩
  · obtain ⟨_, _, _, _, _, hz, _⟩ := hW
    intro b off hp
    have hin : MemPlace.cell b off ∈ before := by rw [hps]; simpa using hp
    rw [hb.frozen (old _ hin)]
    exact hz b off hin
  · obtain ⟨_, _, _, _, _, _, hn⟩ := hW
    intro ha
    have := hn ha
    rw [hps] at this
    simpa using this
end
/-- A slice of whole numbers that came in. -/
def Came (k : IntKind) (w : World) (A : Option Addr) (n c : Nat) (xs : List Int) : Prop := xs.length = n ∧ n ≤ c ∧ c ≤ maxLen ∧ Arr (fun b => b < w.heap.size) w 1 (IntC k) A xs ∧ ∀ x ∈ xs, (Lit.int k x).wf = true
theorem came_of {H : Type} {enc : TypeId × Value → H} {w : World} {sp : Nat → Bool} {hd : Bool} {t e : TypeId} {k : IntKind} (ht : Tryd.prog.underlying t = some (.slice e)) (he : Tryd.prog.underlying e = some (.int k)) (hc : Tryd.prog.cellsOf e = 1) {A : Option Addr} {n c : Nat} {d : DataW H} {ps : List MemPlace}
    (h : DataW.Trod enc Tryd.prog w 0 sp hd t (.slice A n c) d ps) : ∃ xs, Came k w A n c xs := by
  obtain ⟨fuel, hf⟩ := h
  rcases open_ints ht he hc hf with ⟨hcs, _⟩ | ⟨x, l, cp, zs, hcs, _, hl, hm, hz, _, hcell, hwz⟩
  · simp [Value.cells] at hcs
    obtain ⟨rfl, rfl, rfl⟩ := hcs
    exact ⟨[], rfl, Nat.le_refl _, Nat.zero_le _, Arr.nil, by simp⟩
  · simp [Value.cells] at hcs
    obtain ⟨rfl, rfl, rfl⟩ := hcs
    have hn : n ≤ zs.length := by rw [hz]; split <;> omega
    refine ⟨zs.take n, by rw [List.length_take]; omega, hl, hm, fun i y hi => ?_, fun y hy => hwz y (List.mem_of_mem_take hy)⟩
    rw [List.getElem?_take] at hi
    split at hi
    · rename_i hin
      have hcl := hcell i (by omega)
      rw [List.getD, hi] at hcl
      refine ⟨x, _, rfl, ?_, rfl, rfl, fun j u hj => ?_⟩
      · have := World.block_lt_of_cell? w _ hcl
        rwa [add_block] at this
      · rcases j with _ | j
        · cases hj; simpa using hcl
        · simp at hj
    · cases hi
end Go.Proofs.YthclpabmbhpohaaDoor
namespace Go.Proofs.YthclpabmbhpohaaDoor
open Go.ChangeShapes Go.WideShapes Go.ChangeAt Go.RowKit
set_option linter.unusedVariables false
def SizedD {H : Type} (d : DataW H) (t : TypeId) : Prop := ∀ n ∈ d.weights Tryd.prog t, n ≤ 140737488351232
theorem list_of {α : Type} {Q : Nat → α → Prop} : ∀ n : Nat, (∀ i, i < n → ∃ x, Q i x) → ∃ l : List α, l.length = n ∧ ∀ (i : Nat) (x : α), l[i]? = some x → Q i x
  | 0, _ => ⟨[], rfl, fun i x h => by simp at h⟩
  | n + 1, h => by
    obtain ⟨l, hl, hq⟩ := list_of n (fun i hi => h i (by omega))
    obtain ⟨y, hy⟩ := h n (by omega)
    refine ⟨l ++ [y], by simp [hl], fun i x hi => ?_⟩
    rcases Nat.lt_or_ge i n with h1 | h1
    · rw [List.getElem?_append_left (by omega)] at hi
      exact hq i x hi
    · rw [List.getElem?_append_right (by omega)] at hi
      rcases Nat.eq_or_lt_of_le h1 with rfl | h2
      · rw [hl, Nat.sub_self] at hi; cases hi; exact hy
      · rw [List.getElem?_eq_none (by simp; omega)] at hi; cases hi
section
variable {H : Type} {enc : TypeId × Value → H} {w : World} {sp : Nat → Bool} {hd : Bool}
theorem rangeCells : Tryd.prog.cellsOf 66 = 2 := by kernel_rfl
theorem cellI32 : Tryd.prog.cellsOf 21 = 1 := by kernel_rfl
set_option maxRecDepth 100000 in
theorem range_of {fuel : Nat} {cs : List Value} {x : DataW H × List MemPlace} (h : DataW.trod enc Tryd.prog w 0 sp hd fuel 66 cs = some x) :
    ∃ r : Rg, RgC r cs ∧ (Lit.int .i32 r.lo).wf = true ∧ (Lit.int .i32 r.hi).wf = true := by
  obtain ⟨xs, n, rfl, _, hl, hxs, hf⟩ := DataW.trod_struct Tryd.underlying66 h
  rw [rangeCells] at hl
  have hn : xs.length = 2 := hxs
  have f0 : DataW.trod enc Tryd.prog w 0 sp hd n 21 ((cs.drop 0).take (Tryd.prog.cellsOf 21)) = xs[0]? := hf 0 _ rfl
  have f1 : DataW.trod enc Tryd.prog w 0 sp hd n 21 ((cs.drop 1).take (Tryd.prog.cellsOf 21)) = xs[1]? := hf 1 _ rfl
  rw [List.getElem?_eq_getElem (by omega), cellI32] at f0 f1
  obtain ⟨lo, e0, _, w0⟩ := DataW.trod_int Tryd.underlying21 f0
  obtain ⟨hi, e1, _, w1⟩ := DataW.trod_int Tryd.underlying21 f1
  match cs, hl with
  | [a, b], _ =>
    simp at e0 e1
    exact ⟨⟨lo, hi⟩, by simp [RgC, e0, e1], w0, w1⟩
theorem cells_arr {A : Addr} {n sz : Nat} {α : Type} {E : α → List Value → Prop} {xs : List α} (hx : xs.length = n) (hsz : 0 < sz) (h : ∀ (i : Nat) (x : α), xs[i]? = some x → ∃ cs, w.cells? 0 (A.add (i * sz)) sz = some cs ∧ E x cs) :
    Arr (fun b => b < w.heap.size) w sz E (some A) xs := by
  intro i x hi
  obtain ⟨cs, hc, hE⟩ := h i x hi
  obtain ⟨_, h2, h3⟩ := World.cells?_some hc
  refine ⟨A, cs, rfl, ?_, hE, h2, fun j u hj => ?_⟩
  · have h0 := h3 0 hsz
    rw [List.getElem?_eq_getElem (by omega)] at h0
    have := World.block_lt_of_cell? w _ h0
    rwa [add_block, add_block] at this
  · have hj' : j < cs.length := (List.getElem?_eq_some_iff.1 hj).1
    have := h3 j (by omega)
    rw [add_add] at this
    rw [this, hj]
theorem ranges_of {fuel : Nat} {cs : List Value} {x : DataW H × List MemPlace} (h : DataW.trod enc Tryd.prog w 0 sp hd fuel 61 cs = some x) :
    ∃ (B : Option Addr) (d : Nat) (set : List Rg), cs = [.slice B set.length d] ∧ set.length ≤ d ∧ d ≤ maxLen ∧ Arr (fun b => b < w.heap.size) w 2 RgC B set ∧ (∀ r ∈ set, (Lit.int .i32 r.lo).wf = true ∧ (Lit.int .i32 r.hi).wf = true) ∧ (SizedD x.1 61 → set.length ≤ 140737488351232) := by
  rcases DataW.trod_slice Tryd.underlying61 h with ⟨rfl, _⟩ | ⟨a, len, cap, elems, rest, n, rfl, rfl, hx, _, hlc, hcm, hel, hE, _, _⟩
  · exact ⟨none, 0, [], rfl, Nat.le_refl _, Nat.zero_le _, Arr.nil, by simp, fun _ => by simp⟩
  · rw [rangeCells] at hE
    obtain ⟨set, hl, hq⟩ := list_of (α := Rg) (Q := fun i r => ∃ cs, w.cells? 0 (a.add (i * 2)) 2 = some cs ∧ RgC r cs ∧ (Lit.int .i32 r.lo).wf = true ∧ (Lit.int .i32 r.hi).wf = true) len (fun i hi => by
      have h1 := hE i hi
      rw [List.getElem?_eq_getElem (by omega), Option.bind_eq_some_iff] at h1
      obtain ⟨cs', hc, hy⟩ := h1
      obtain ⟨r, hr, h2, h3⟩ := range_of hy
      exact ⟨r, cs', hc, hr, h2, h3⟩)
    refine ⟨some a, cap, set, by rw [hl], by omega, hcm, cells_arr hl (by omega) (fun i r hi => ?_), fun r hr => ?_, fun hz => ?_⟩
    · obtain ⟨cs, h1, h2, _⟩ := hq i r hi
      exact ⟨cs, h1, h2⟩
    · obtain ⟨i, hi, rfl⟩ := List.mem_iff_getElem.1 hr
      obtain ⟨cs, _, _, h3⟩ := hq i _ (List.getElem?_eq_getElem hi)
      exact h3
    · have h5 := hz ((elems.length + rest.length) * Tryd.prog.bytesOf 66) (by rw [hx]; simp [DataW.weights, Tryd.underlying61])
      rw [show Tryd.prog.bytesOf 66 = 8 by kernel_rfl] at h5
      omega
theorem weights_kid {e : TypeId} {d : DataW H} : ∀ {l : List (DataW H)}, d ∈ l → ∀ n ∈ d.weights Tryd.prog e, n ∈ DataW.weightsAll Tryd.prog e l
  | y :: l, hd, n, hn => by
    rw [DataW.weightsAll]
    rcases List.mem_cons.1 hd with rfl | hd
    · exact List.mem_append.2 (.inl hn)
    · exact List.mem_append.2 (.inr (weights_kid hd n hn))
end
end Go.Proofs.YthclpabmbhpohaaDoor
namespace Go.Proofs.YthclpabmbhpohaaDoor
open Go.ChangeShapes Go.WideShapes Go.ChangeAt Go.RowKit
set_option linter.unusedVariables false
section
variable {H : Type} {enc : TypeId × Value → H} {w : World} {sp : Nat → Bool} {hd : Bool}
theorem instCells : Tryd.prog.cellsOf 64 = 5 := by kernel_rfl
theorem progCells : Tryd.prog.cellsOf 28 = 3 := by kernel_rfl
theorem oneCellsP : Tryd.prog.cellsOf 3 = 1 ∧ Tryd.prog.cellsOf 60 = 1 ∧ Tryd.prog.cellsOf 62 = 1 ∧ Tryd.prog.cellsOf 26 = 1 ∧ Tryd.prog.cellsOf 61 = 1 := by
  refine ⟨?_, ?_, ?_, ?_, ?_⟩ <;> kernel_rfl
/-- The fields of an instruction are values of their types. -/
def FieldsI (x : In) : Prop :=
  ((Lit.int .i64 x.op).wf = true ∧ (Lit.int .i64 x.out).wf = true ∧ (Lit.int .i64 x.arg).wf = true ∧ (Lit.int .i64 x.at_).wf = true) ∧ ∀ r ∈ x.set, (Lit.int .i32 r.lo).wf = true ∧ (Lit.int .i32 r.hi).wf = true
set_option maxRecDepth 100000 in
theorem inst_of {fuel : Nat} {cs : List Value} {x : DataW H × List MemPlace} (h : DataW.trod enc Tryd.prog w 0 sp hd fuel 64 cs = some x) :
    ∃ t : In, InO (fun b => b < w.heap.size) w t cs ∧ FieldsI t ∧ (SizedD x.1 64 → t.set.length ≤ 140737488351232) := by
  obtain ⟨xs, n, rfl, hxd, hl, hxs, hf⟩ := DataW.trod_struct Tryd.underlying64 h
  rw [instCells] at hl
  have hn : xs.length = 5 := hxs
  obtain ⟨c1, c2, c3, c4, c5⟩ := oneCellsP
  have f0 : DataW.trod enc Tryd.prog w 0 sp hd n 60 ((cs.drop 0).take (Tryd.prog.cellsOf 60)) = xs[0]? := hf 0 _ rfl
  have f1 : DataW.trod enc Tryd.prog w 0 sp hd n 3 ((cs.drop 1).take (Tryd.prog.cellsOf 3)) = xs[1]? := hf 1 _ rfl
  have f2 : DataW.trod enc Tryd.prog w 0 sp hd n 3 ((cs.drop 2).take (Tryd.prog.cellsOf 3)) = xs[2]? := hf 2 _ rfl
  have f3 : DataW.trod enc Tryd.prog w 0 sp hd n 61 ((cs.drop 3).take (Tryd.prog.cellsOf 61)) = xs[3]? := hf 3 _ rfl
  have f4 : DataW.trod enc Tryd.prog w 0 sp hd n 62 ((cs.drop 4).take (Tryd.prog.cellsOf 62)) = xs[4]? := hf 4 _ rfl
  rw [List.getElem?_eq_getElem (by omega)] at f0 f1 f2 f3 f4
  have hz : ∀ (j : Nat) (hj : j < xs.length) (ty : TypeId), (([60, 3, 3, 61, 62] : List TypeId)[j]? = some ty) → SizedD x.1 64 → SizedD xs[j].1 ty := by
    intro j hj ty hty hs m hm
    refine hs m ?_
    rw [hxd]
    simp only [DataW.weights, Tryd.underlying64]
    exact DataW.weights_mem_each (j := j) (t := ty) (by simpa using hty) (by rw [List.getElem?_map, List.getElem?_eq_getElem hj]; rfl) m hm
  simp only [c1, c2, c3, c5] at f0 f1 f2 f3 f4
  obtain ⟨op, e0, _, w0⟩ := DataW.trod_int Tryd.underlying60 f0
  obtain ⟨out, e1, _, w1⟩ := DataW.trod_int Tryd.underlying3 f1
  obtain ⟨arg, e2, _, w2⟩ := DataW.trod_int Tryd.underlying3 f2
  obtain ⟨B, d, set, e3, s1, s2, s3, s4, s5⟩ := ranges_of f3
  obtain ⟨at_, e4, _, w4⟩ := DataW.trod_int Tryd.underlying62 f4
  refine ⟨⟨op, out, arg, set, at_⟩, ⟨B, d, ?_, s1, s2, s3⟩, ⟨⟨w0, w1, w2, w4⟩, s4⟩, fun hsd => s5 (hz 3 (by omega) _ rfl hsd)⟩
  match cs, hl with
  | [a0, a1, a2, a3, a4], _ =>
    simp at e0 e1 e2 e3 e4
    simp [e0, e1, e2, e3, e4]
set_option maxRecDepth 100000 in
theorem prog_of {fuel : Nat} {cs : List Value} {x : DataW H × List MemPlace} (h : DataW.trod enc Tryd.prog w 0 sp hd fuel 28 cs = some x) :
    ∃ t : Pg, PgC (fun b => b < w.heap.size) w t cs ∧ ((Lit.int .i64 t.start).wf = true ∧ (Lit.int .i64 t.caps).wf = true) ∧ (∀ y ∈ t.ins, FieldsI y) ∧ (SizedD x.1 28 → t.ins.length * 56 ≤ 140737488351232 ∧ ∀ y ∈ t.ins, y.set.length ≤ 140737488351232) := by
  obtain ⟨xs, n, rfl, hxd, hl, hxs, hf⟩ := DataW.trod_struct Tryd.underlying28 h
  rw [progCells] at hl
  have hn : xs.length = 3 := hxs
  obtain ⟨c1, c2, c3, c4, c5⟩ := oneCellsP
  have f0 : DataW.trod enc Tryd.prog w 0 sp hd n 26 ((cs.drop 0).take (Tryd.prog.cellsOf 26)) = xs[0]? := hf 0 _ rfl
  have f1 : DataW.trod enc Tryd.prog w 0 sp hd n 3 ((cs.drop 1).take (Tryd.prog.cellsOf 3)) = xs[1]? := hf 1 _ rfl
  have f2 : DataW.trod enc Tryd.prog w 0 sp hd n 3 ((cs.drop 2).take (Tryd.prog.cellsOf 3)) = xs[2]? := hf 2 _ rfl
  rw [List.getElem?_eq_getElem (by omega)] at f0 f1 f2
  have hz : SizedD x.1 28 → SizedD (xs[0]'(by omega)).1 26 := by
    intro hs m hm
    refine hs m ?_
    rw [hxd]
    simp only [DataW.weights, Tryd.underlying28]
    exact DataW.weights_mem_each (j := 0) (t := 26) (by rfl) (by rw [List.getElem?_map, List.getElem?_eq_getElem (by omega)]; rfl) m hm
  simp only [c1, c4] at f0 f1 f2
  obtain ⟨st, e1, _, w1⟩ := DataW.trod_int Tryd.underlying3 f1
  obtain ⟨cp, e2, _, w2⟩ := DataW.trod_int Tryd.underlying3 f2
  have hk : ∃ (A : Option Addr) (c : Nat) (ins : List In), ((cs.drop 0).take 1) = [.slice A ins.length c] ∧ ins.length ≤ c ∧ c ≤ maxLen ∧ Arr (fun b => b < w.heap.size) w 5 (InO (fun b => b < w.heap.size) w) A ins ∧ (∀ y ∈ ins, FieldsI y) ∧ (SizedD (xs[0]'(by omega)).1 26 → ins.length * 56 ≤ 140737488351232 ∧ ∀ y ∈ ins, y.set.length ≤ 140737488351232) := by
    rcases DataW.trod_slice Tryd.underlying26 f0 with ⟨e1, _⟩ | ⟨a, len, cap, elems, rest, m, hnm, e1, hx1, _, hlc, hcm, hel, hE, _, _⟩
    · exact ⟨none, 0, [], e1, Nat.le_refl _, Nat.zero_le _, Arr.nil, by simp, fun _ => ⟨by simp, by simp⟩⟩
    · rw [instCells] at hE
      obtain ⟨ins, hkl, hq⟩ := list_of (α := In) (Q := fun i k => ∃ cs, w.cells? 0 (a.add (i * 5)) 5 = some cs ∧ InO (fun b => b < w.heap.size) w k cs ∧ FieldsI k ∧ ∀ d, (elems.map (·.1))[i]? = some d → SizedD d 64 → k.set.length ≤ 140737488351232) len (fun i hi => by
        have h1 := hE i hi
        rw [List.getElem?_eq_getElem (by omega), Option.bind_eq_some_iff] at h1
        obtain ⟨cs', hc, hy⟩ := h1
        obtain ⟨k, hk1, hk2, hk3⟩ := inst_of hy
        exact ⟨k, cs', hc, hk1, hk2, fun d hd => by
          rw [List.getElem?_map, List.getElem?_eq_getElem (by omega)] at hd
          simp only [Option.map_some, Option.some.injEq] at hd
          rw [← hd]; exact hk3⟩)
      refine ⟨some a, cap, ins, by rw [hkl]; exact e1, by omega, hcm, cells_arr hkl (by omega) (fun i r hi => ?_), fun k hk => ?_, fun hsd => ⟨?_, fun k hk => ?_⟩⟩
      · obtain ⟨cs, h1, h2, _⟩ := hq i r hi
        exact ⟨cs, h1, h2⟩
      · obtain ⟨i, hi, rfl⟩ := List.mem_iff_getElem.1 hk
        obtain ⟨cs, _, _, h3, _⟩ := hq i _ (List.getElem?_eq_getElem hi)
        exact h3
      · have h5 := hsd ((elems.length + rest.length) * Tryd.prog.bytesOf 64) (by rw [hx1]; simp [DataW.weights, Tryd.underlying26])
        rw [show Tryd.prog.bytesOf 64 = 56 by kernel_rfl] at h5
        omega
      · obtain ⟨i, hi, rfl⟩ := List.mem_iff_getElem.1 hk
        obtain ⟨cs, _, _, _, h4⟩ := hq i _ (List.getElem?_eq_getElem hi)
        have hie : i < (elems.map (·.1)).length := by simp; omega
        refine h4 _ (List.getElem?_eq_getElem hie) (fun m hm => hsd m ?_)
        rw [hx1]
        simp only [DataW.weights, Tryd.underlying26]
        exact List.mem_cons_of_mem _ (List.mem_append.2 (.inl (weights_kid (List.getElem_mem hie) m hm)))
  obtain ⟨A, c, ins, e0, k1, k2, k3, k4, k5⟩ := hk
  refine ⟨⟨ins, st, cp⟩, ⟨A, c, ?_, k1, k2, k3⟩, ⟨w1, w2⟩, k4, fun hsd => k5 (hz hsd)⟩
  obtain ⟨a0, a1, a2, rfl⟩ : ∃ a0 a1 a2, cs = [a0, a1, a2] := by
    match cs, hl with
    | [a0, a1, a2], _ => exact ⟨a0, a1, a2, rfl⟩
  simp at e0 e1 e2
  simp [e0, e1, e2]
end
end Go.Proofs.YthclpabmbhpohaaDoor
namespace Go.Proofs.YthclpabmbhpohaaDoor
open Go.RowKit
set_option linter.unusedVariables false
theorem wf_u8 {z : Int} (h : (Lit.int .u8 z).wf = true) : 0 ≤ z ∧ z ≤ 255 := by
  simp [Lit.wf, IntKind.min, IntKind.max, IntKind.signed, IntKind.bits] at h
  omega
theorem came_text {w : World} {A : Option Addr} {n c : Nat} {xs : List Int} (h : Came .u8 w A n c xs) : ∃ s : ByteArray, n = s.size ∧ TextC (fun b => b < w.heap.size) w A s ∧ n ≤ c ∧ c ≤ maxLen := by
  obtain ⟨hl, h1, h2, h3, h4⟩ := h
  refine ⟨⟨(xs.map fun x => UInt8.ofNat x.toNat).toArray⟩, ?_, ?_, h1, h2⟩
  · show n = ((xs.map fun x => UInt8.ofNat x.toNat).toArray).size
    simp [hl]
  · intro i y hi
    simp only [List.getElem?_map] at hi
    cases hx : xs[i]? with
    | none => rw [hx] at hi; cases hi
    | some x =>
      rw [hx] at hi
      cases hi
      obtain ⟨ad, cs, h5, h6, h7, h8, h9⟩ := h3 i x hx
      refine ⟨ad, cs, h5, h6, ?_, h8, h9⟩
      have hw := wf_u8 (h4 x (List.mem_of_getElem? hx))
      rw [h7]
      show [Value.int .u8 x] = [Value.int .u8 ((UInt8.ofNat x.toNat).toNat : Int)]
      rw [UInt8.toNat_ofNat', show x.toNat % 2 ^ 8 = x.toNat by omega, show (x.toNat : Int) = x by omega]
end Go.Proofs.YthclpabmbhpohaaDoor
