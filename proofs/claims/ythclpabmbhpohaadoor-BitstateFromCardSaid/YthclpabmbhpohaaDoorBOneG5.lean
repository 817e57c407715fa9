/-
  (*bitstate.Machine).try: a pass that reads. No condition but what holds at the labels.
  (*bitstate.Machine).try: a pass that asks what a place is. No condition but what holds at the labels.
  (*bitstate.Machine).try: a pass with two ways. No condition but what holds at the labels.
  (*bitstate.Machine).try: a pass that keeps a place. No condition but what holds at the labels.
  (*bitstate.Machine).try: a pass that comes to a match, the first one. No condition but what holds at the labels.
-/
import Derived.Test.YthclpabmbhpohaaDoorBOneG4
import Derived.BigRegion
import Derived.BigQuiet
import Derived.Lib.SliceRun
set_option linter.unusedVariables false
set_option linter.unusedSimpArgs false
namespace Go.Proofs.YthclpabmbhpohaaDoor
open Go.RowKit
set_option linter.unusedVariables false
set_option maxRecDepth 1000000 in
set_option maxHeartbeats 8000000 in
theorem on_set1 (p : Pg) (ad : Addr) (c G PB : Nat) (ia : Addr) (rs : List (Int × Int)) (lg : Bool) (D : Nat → Prop) (W0 : World) (Bd : Int) (Fw : Wk (Int × Int)) (C : TryCx p ad c G PB ia rs lg D W0 Bd) (i j : Nat) (J : List (Job (Int × Int))) (fit : List Int) (S : Wk (Int × Int)) (st : Int) (bv jv fv sv : Value) (ws : List Nat) (W : World) (h : OnI p ad c G PB rs lg D W0 Bd Fw i j J fit S st bv jv fv sv ws W) (hs : S.seen ((i : Int), (j : Int)) = false) (ho : (p.get i).op = 2) (hh : hasB (p.get i).set (runeAt rs j) = true)
    (g : Nat → Value) (Q0 : Exit → Act → World → Prop) (hQ : ∀ (tm : Array Value) w, EndI p G rs D W0 Bd Fw w → Q0 .ret ⟨tm, []⟩ w) (hQp : ∀ c (d : Tmp) v a w, Q0 (.panic c) (a.put (some d) v) w → Q0 (.panic c) a w) (JX : Nat → Act → World → Prop) (hJ : ∀ l a w, JJ p ad c G PB ia rs lg D W0 Bd Fw l a w → st < stOf G w → JX l a w) :
    (tryR 1).wp Tryd.prog (jumps JX Q0) ⟨#[.pointer (some ⟨G, 0, none⟩), g 1, .pointer (some ia), g 3, .bool lg, g 5, .pointer (some ⟨PB, 0, none⟩), g 7, g 8, g 9, .int .i64 i, .int .i64 j, g 12, g 13, g 14, g 15, g 16, g 17, g 18, g 19, g 20, g 21, g 22, g 23, g 24, g 25, g 26, g 27, g 28, g 29, g 30, g 31, g 32, g 33, g 34, g 35, g 36, g 37, g 38, g 39, g 40, g 41, g 42, g 43, g 44, g 45, g 46, g 47, g 48, g 49, g 50, g 51, g 52, g 53, g 54, g 55, g 56, g 57, g 58, g 59, g 60, g 61, g 62, g 63, g 64, g 65, g 66, g 67, g 68, g 69, g 70, g 71, g 72, g 73, g 74, g 75, g 76, g 77, g 78, g 79, g 80, g 81, g 82, g 83, g 84, g 85, g 86, g 87, g 88, g 89, g 90, g 91, g 92, g 93, g 94, g 95, g 96, g 97, g 98, g 99, g 100, g 101, g 102, g 103, g 104, g 105, g 106, g 107, g 108, g 109, g 110, g 111, g 112, g 113, g 114, g 115, g 116, g 117, g 118, g 119, g 120, g 121, g 122, g 123, g 124, g 125, g 126, g 127, g 128, g 129, g 130, g 131, g 132, g 133, g 134, g 135, g 136, g 137, g 138, g 139, g 140, g 141, g 142, g 143, g 144, g 145, g 146, g 147, g 148, g 149, g 150, g 151, g 152, g 153, g 154, g 155, g 156, g 157, g 158, g 159, g 160, g 161, g 162, g 163, g 164, g 165, g 166, g 167, g 168, g 169, g 170, g 171, g 172, g 173, g 174, g 175, g 176, g 177, g 178, g 179, g 180, g 181, g 182, g 183, g 184, g 185, g 186, g 187, g 188, g 189, g 190, g 191, g 192, g 193, g 194, g 195, g 196, g 197, g 198, g 199, g 200, g 201, g 202, g 203, g 204, g 205, g 206, g 207, g 208, g 209, g 210, g 211, g 212, g 213, g 214, g 215, g 216, g 217, g 218, g 219, g 220, g 221, g 222, g 223, g 224, g 225, g 226, g 227, g 228, g 229, g 230, g 231, g 232, g 233, g 234, g 235, g 236, g 237, g 238, g 239, g 240, g 241, g 242, g 243, g 244], []⟩ W := by
  obtain ⟨n, jL, gb, cb, Y, ws', hw1, hw2, hw0, rfl, hfr, hT2⟩ := on_begin C h
  obtain ⟨c0, c1, c2, c3, c4, f, nG, x0, x1, x2, nP, ne, ne2⟩ := h.1.cells
  have f4 := f 4
  rw [hs] at hfr
  have hi := h.2.2.2.1
  have hj := h.2.2.2.2
  have H := Lib.hid (And.intro h (And.intro hT2 (And.intro hs (And.intro hi hj))))
  clear h hT2 hs hi hj f c0 c1 c2 c3 x1 x2
  conv => arg 2; whnf
  go_wp2_with fail
  refine hfr.mono ?_
  clear hfr hw1 hw2 hw0 c4 f4 nG x0 nP ne ne2
  rintro e w2 ⟨rfl, rfl⟩
  dsimp only
  obtain ⟨c0, c1, c2, c3, c4, f, nG, x0, x1, x2, nP, ne, ne2⟩ := H.out.2.1.cells
  obtain ⟨B3, d3, hadD, hadb, hd3, hd3m, hset, k0, k1, k2, k3, k4⟩ := ins_D (C.pg.touch H.out.2.1.tch) i H.out.2.2.2.1
  have hge := get_at p i H.out.2.2.2.1
  have hq : ((i : Int), (j : Int)) ∈ allP p rs.length := allP_iff.2 ⟨⟨by show (0 : Int) ≤ (i : Int); omega, by show (i : Int) < _; have := H.out.2.2.2.1; omega⟩, by show (0 : Int) ≤ (j : Int); omega, by show (j : Int) < _; have := H.out.2.2.2.2; omega⟩
  have hgo := check_good C.chk (show Pc p ((i : Nat) : Int) from (allP_iff.1 hq).1)
  have hpm := pot_le (K := KB p) (J := J) hq H.out.2.2.1
  have hfr := C.newW H.out.2.1.tch
  have hjl : j + 1 < rs.length := by
    have hj := H.out.2.2.2.2
    rcases Nat.lt_or_ge (j + 1) rs.length with h9 | h9
    · exact h9
    · have e : ((rs.length : Int) - 1) = (j : Int) := by omega
      have h8 := C.out
      rw [e] at h8
      rw [has_neg h8] at hh; cases hh
  have HF0 := fin_step (rn := runeAt rs) (av := atOf rs) (lg := lg) (S := S) (J := J) (c := fit) C.chk hq H.out.2.1.hal H.out.2.2.1 (by show (p.get (i : Int)).op ≠ 1; omega) (by show (p.get (i : Int)).op ≠ 4; omega) (nexts_set1 ho hh (show ((j : Int) + 1) ≤ _ by omega))
  simp only [hge, List.map_cons, List.map_nil, List.nil_append, List.cons_append] at HF0
  have HN := Lib.hid (And.intro hq (And.intro hgo (And.intro hpm (And.intro hset (And.intro hadD (And.intro hfr ho))))))
  clear hq hgo hpm hset hfr
  have hi : i < p.ins.length := H.out.2.2.2.1
  have hxs : p.ins[i].set.length ≤ 1000000000 := C.set _ (List.getElem_mem hi)
  rw [hge] at ho HN
  rw [hge] at hh
  clear hge hadD
  generalize p.ins[i] = x at *
  have o1 : (x.op == 1) = false := by rw [ho]; rfl
  have o2 : (x.op == 2) = true := by rw [ho]; rfl
  have o3 : (x.op == 3) = false := by rw [ho]; rfl
  have o4 : (x.op == 4) = false := by rw [ho]; rfl
  have o5 : (x.op == 5) = false := by rw [ho]; rfl
  clear ho
  obtain ⟨j1, hj1⟩ : ∃ j1, j + 1 = j1 := ⟨_, rfl⟩
  rw [hj1] at hjl
  rw [show (j : Int) + 1 = (j1 : Int) by omega] at HF0
  have hC := C.hi
  have hwj : IntKind.i64.wrap ((j : Int) + 1) = (j1 : Int) := by rw [IntWalk.i64_in _ (by omega)]; omega
  have HJ := Lib.hid hjl
  clear hj1 hjl hC
  have hpo := HN.out.2.1.out (by have := HN.out.2.2.2.2.2.2; omega)
  obtain ⟨no, hno⟩ : ∃ no : Nat, x.out = (no : Int) := ⟨x.out.toNat, by have := hpo.1; omega⟩
  have HL := Lib.hid (show no < p.ins.length by have := hpo.2; omega)
  rw [hno] at k1
  try rw [hno] at HF0
  have HF := Lib.hid HF0
  clear HF0 hpo hno
  go_wp2_with fail
  obtain ⟨X, hX⟩ : ∃ X, w2.alloc (.cells #[.int .i64 x.op, .int .i64 no, .int .i64 x.arg, .slice B3 x.set.length d3, .int .i64 x.at_] 64) = X := ⟨_, rfl⟩
  have hXB : Below w2.heap.size w2 X := by rw [← hX]; exact below_al (Below.refl _ _) _
  have hX1 : X.heap[w2.heap.size]? = some (.cells #[.int .i64 x.op, .int .i64 no, .int .i64 x.arg, .slice B3 x.set.length d3, .int .i64 x.at_] 64 (0, 0)) := by rw [← hX]; exact heap_new1 _ _
  rw [hX]
  clear hX
  have hinp := (C.inp.move (w' := X) (ok' := fun k => ¬ D k) (fun k hk _ => ⟨((H.out.2.1.below C hXB).tch.block k hk), hk⟩))
  have hrs := HN.out.2.2.2.1.move (w' := X) (ok' := fun k => ¬ D k) (fun k hk hlt => ⟨hXB.block k hlt, hk⟩) (by omega)
  have HX := Lib.hid (And.intro hXB (And.intro hinp (And.intro hrs hX1)))
  have HC : Hid (∀ W, Below X.heap.size X W → W.cell? ⟨w2.heap.size, 3, none⟩ = some (.slice B3 x.set.length d3)) := Lib.hid (fun W hW => by rw [cell_of_blk ((hW.block _ (heap_lt hX1)).trans hX1)]; rfl)
  clear hXB hinp hrs hX1
  refine wp_region_scr (fun W' => Below X.heap.size X W') [(true, 0, 173), (true, 1, 174), (true, 2, 175), (true, 3, 176), (true, 4, 177), (true, 5, 178), (false, 6, 179), (false, 7, 180)] (by kernel_rfl) (by kernel_rfl) (fun c d v a w h => hQp c d v a w h) rfl (by kernel_rfl) ?_
  have HV := Lib.hid (show Below X.heap.size X X.drew from (Below.refl _ _).drew)
  refine Scr.take (v := .pointer (some ⟨w2.heap.size, 3, none⟩)) rfl rfl (yw_pure (by rfl) (fun _ => by go_simp)) HV.out ?_
  simp only [Act.put, List.setIfInBounds_toArray, List.set_cons_zero, List.set_cons_succ]
  refine Scr.take (v := .slice B3 x.set.length d3) rfl rfl (yw_cell 61 _ rfl ⟨w2.heap.size, 3, none⟩ (.slice B3 x.set.length d3) rfl (by rfl) _ Tryd.underlying61 rfl (fun W hS => HC.out W hS)) HV.out ?_
  simp only [Act.put, List.setIfInBounds_toArray, List.set_cons_zero, List.set_cons_succ]
  refine Scr.take (v := .pointer (some ia)) rfl rfl (yw_pure (by rfl) (fun _ => by go_simp)) HV.out ?_
  simp only [Act.put, List.setIfInBounds_toArray, List.set_cons_zero, List.set_cons_succ]
  refine Scr.take (v := .pointer (some ia)) rfl rfl (yw_pure (by rfl) (fun _ => by go_simp)) HV.out ?_
  simp only [Act.put, List.setIfInBounds_toArray, List.set_cons_zero, List.set_cons_succ]
  refine Scr.take (v := .pointer (some ia)) rfl rfl (yw_pure (by rfl) (fun _ => by go_simp)) HV.out ?_
  simp only [Act.put, List.setIfInBounds_toArray, List.set_cons_zero, List.set_cons_succ]
  refine Scr.take (v := .int .i64 j) rfl rfl (yw_pure (by rfl) (fun _ => by go_simp)) HV.out ?_
  simp only [Act.put, List.setIfInBounds_toArray, List.set_cons_zero, List.set_cons_succ]
  refine Scr.run rfl (by rfl) (fun K hK => ?_)
  go_simp
  refine (rune_any (fun k => ¬ D k) X.drew ia rs (HX.out.2.1.move (fun k hk _ => ⟨rfl, hk⟩)) j).mono ?_
  rintro e w3 ⟨rfl, rfl⟩
  dsimp only
  refine hK _ _ HV.out ?_
  clear hK K
  have hhas := has_any (fun k => ¬ D k) X.drew (runeAt rs j) x.set B3 d3 (HX.out.2.2.1.move (fun k hk _ => ⟨rfl, hk⟩) (by omega)) (by omega)
  rw [hh] at hhas
  refine Scr.run rfl (by rfl) (fun K hK => ?_)
  go_simp
  refine hhas.mono ?_
  clear hhas
  rintro e w4 ⟨rfl, hb4⟩
  dsimp only
  have hB4 : Below X.heap.size X w4 := below_and (w1 := X.drew) hb4 (Below.refl _ _).drew
  refine hK _ _ hB4 ?_
  clear hK K HV hb4
  simp only [Scr]
  have hb3 := (hB4.block w2.heap.size (heap_lt HX.out.2.2.2)).trans HX.out.2.2.2
  obtain ⟨y0, y1, y2, y3, y4⟩ := cells5 hb3
  have ny := heap_lt hb3
  have H4 := Lib.hid (HX.out.1.trans (hB4.mono HX.out.1.size))
  clear hB4 hb3 c0 c1 c2 c3 c4 f nG x0 x1 x2 nP k0 k1 k2 k3 k4 hadb
  go_wp2_with fail
  try go_step3
  have hT3 := H.out.2.1.below C H4.out
  have hKB := KB_le p
  exact hJ _ _ _ ⟨_, rfl, ⟨rfl, rfl, rfl, rfl, rfl⟩, .inr ⟨rfl, no, j1, rfl, rfl, _, _, _, _, _, _, _, _, _, H.out.1.on hT3 HF.out (by have := HN.out.2.2.1; omega) HL.out HJ.out⟩⟩ (lt_eq (by omega) (stOf_eq hT3.mem))
set_option maxRecDepth 1000000 in
set_option maxHeartbeats 8000000 in
theorem on_set0 (p : Pg) (ad : Addr) (c G PB : Nat) (ia : Addr) (rs : List (Int × Int)) (lg : Bool) (D : Nat → Prop) (W0 : World) (Bd : Int) (Fw : Wk (Int × Int)) (C : TryCx p ad c G PB ia rs lg D W0 Bd) (i j : Nat) (J : List (Job (Int × Int))) (fit : List Int) (S : Wk (Int × Int)) (st : Int) (bv jv fv sv : Value) (ws : List Nat) (W : World) (h : OnI p ad c G PB rs lg D W0 Bd Fw i j J fit S st bv jv fv sv ws W) (hs : S.seen ((i : Int), (j : Int)) = false) (ho : (p.get i).op = 2) (hh : hasB (p.get i).set (runeAt rs j) = false)
    (g : Nat → Value) (Q0 : Exit → Act → World → Prop) (hQ : ∀ (tm : Array Value) w, EndI p G rs D W0 Bd Fw w → Q0 .ret ⟨tm, []⟩ w) (hQp : ∀ c (d : Tmp) v a w, Q0 (.panic c) (a.put (some d) v) w → Q0 (.panic c) a w) (JX : Nat → Act → World → Prop) (hJ : ∀ l a w, JJ p ad c G PB ia rs lg D W0 Bd Fw l a w → st < stOf G w → JX l a w) :
    (tryR 1).wp Tryd.prog (jumps JX Q0) ⟨#[.pointer (some ⟨G, 0, none⟩), g 1, .pointer (some ia), g 3, .bool lg, g 5, .pointer (some ⟨PB, 0, none⟩), g 7, g 8, g 9, .int .i64 i, .int .i64 j, g 12, g 13, g 14, g 15, g 16, g 17, g 18, g 19, g 20, g 21, g 22, g 23, g 24, g 25, g 26, g 27, g 28, g 29, g 30, g 31, g 32, g 33, g 34, g 35, g 36, g 37, g 38, g 39, g 40, g 41, g 42, g 43, g 44, g 45, g 46, g 47, g 48, g 49, g 50, g 51, g 52, g 53, g 54, g 55, g 56, g 57, g 58, g 59, g 60, g 61, g 62, g 63, g 64, g 65, g 66, g 67, g 68, g 69, g 70, g 71, g 72, g 73, g 74, g 75, g 76, g 77, g 78, g 79, g 80, g 81, g 82, g 83, g 84, g 85, g 86, g 87, g 88, g 89, g 90, g 91, g 92, g 93, g 94, g 95, g 96, g 97, g 98, g 99, g 100, g 101, g 102, g 103, g 104, g 105, g 106, g 107, g 108, g 109, g 110, g 111, g 112, g 113, g 114, g 115, g 116, g 117, g 118, g 119, g 120, g 121, g 122, g 123, g 124, g 125, g 126, g 127, g 128, g 129, g 130, g 131, g 132, g 133, g 134, g 135, g 136, g 137, g 138, g 139, g 140, g 141, g 142, g 143, g 144, g 145, g 146, g 147, g 148, g 149, g 150, g 151, g 152, g 153, g 154, g 155, g 156, g 157, g 158, g 159, g 160, g 161, g 162, g 163, g 164, g 165, g 166, g 167, g 168, g 169, g 170, g 171, g 172, g 173, g 174, g 175, g 176, g 177, g 178, g 179, g 180, g 181, g 182, g 183, g 184, g 185, g 186, g 187, g 188, g 189, g 190, g 191, g 192, g 193, g 194, g 195, g 196, g 197, g 198, g 199, g 200, g 201, g 202, g 203, g 204, g 205, g 206, g 207, g 208, g 209, g 210, g 211, g 212, g 213, g 214, g 215, g 216, g 217, g 218, g 219, g 220, g 221, g 222, g 223, g 224, g 225, g 226, g 227, g 228, g 229, g 230, g 231, g 232, g 233, g 234, g 235, g 236, g 237, g 238, g 239, g 240, g 241, g 242, g 243, g 244], []⟩ W := by
  obtain ⟨n, jL, gb, cb, Y, ws', hw1, hw2, hw0, rfl, hfr, hT2⟩ := on_begin C h
  obtain ⟨c0, c1, c2, c3, c4, f, nG, x0, x1, x2, nP, ne, ne2⟩ := h.1.cells
  have f4 := f 4
  rw [hs] at hfr
  have hi := h.2.2.2.1
  have hj := h.2.2.2.2
  have H := Lib.hid (And.intro h (And.intro hT2 (And.intro hs (And.intro hi hj))))
  clear h hT2 hs hi hj f c0 c1 c2 c3 x1 x2
  conv => arg 2; whnf
  go_wp2_with fail
  refine hfr.mono ?_
  clear hfr hw1 hw2 hw0 c4 f4 nG x0 nP ne ne2
  rintro e w2 ⟨rfl, rfl⟩
  dsimp only
  obtain ⟨c0, c1, c2, c3, c4, f, nG, x0, x1, x2, nP, ne, ne2⟩ := H.out.2.1.cells
  obtain ⟨B3, d3, hadD, hadb, hd3, hd3m, hset, k0, k1, k2, k3, k4⟩ := ins_D (C.pg.touch H.out.2.1.tch) i H.out.2.2.2.1
  have hge := get_at p i H.out.2.2.2.1
  have hq : ((i : Int), (j : Int)) ∈ allP p rs.length := allP_iff.2 ⟨⟨by show (0 : Int) ≤ (i : Int); omega, by show (i : Int) < _; have := H.out.2.2.2.1; omega⟩, by show (0 : Int) ≤ (j : Int); omega, by show (j : Int) < _; have := H.out.2.2.2.2; omega⟩
  have hgo := check_good C.chk (show Pc p ((i : Nat) : Int) from (allP_iff.1 hq).1)
  have hpm := pot_le (K := KB p) (J := J) hq H.out.2.2.1
  have hfr := C.newW H.out.2.1.tch
  have HF0 := fin_step (rn := runeAt rs) (av := atOf rs) (lg := lg) (S := S) (J := J) (c := fit) C.chk hq H.out.2.1.hal H.out.2.2.1 (by show (p.get (i : Int)).op ≠ 1; omega) (by show (p.get (i : Int)).op ≠ 4; omega) (nexts_set0 ho hh _)
  simp only [hge, List.map_cons, List.map_nil, List.nil_append, List.cons_append] at HF0
  have HN := Lib.hid (And.intro hq (And.intro hgo (And.intro hpm (And.intro hset (And.intro hadD (And.intro hfr ho))))))
  clear hq hgo hpm hset hfr
  have hi : i < p.ins.length := H.out.2.2.2.1
  have hxs : p.ins[i].set.length ≤ 1000000000 := C.set _ (List.getElem_mem hi)
  rw [hge] at ho HN
  rw [hge] at hh
  clear hge hadD
  generalize p.ins[i] = x at *
  have o1 : (x.op == 1) = false := by rw [ho]; rfl
  have o2 : (x.op == 2) = true := by rw [ho]; rfl
  have o3 : (x.op == 3) = false := by rw [ho]; rfl
  have o4 : (x.op == 4) = false := by rw [ho]; rfl
  have o5 : (x.op == 5) = false := by rw [ho]; rfl
  clear ho
  have hpo := HN.out.2.1.out (by have := HN.out.2.2.2.2.2.2; omega)
  obtain ⟨no, hno⟩ : ∃ no : Nat, x.out = (no : Int) := ⟨x.out.toNat, by have := hpo.1; omega⟩
  have HL := Lib.hid (show no < p.ins.length by have := hpo.2; omega)
  rw [hno] at k1
  try rw [hno] at HF0
  have HF := Lib.hid HF0
  clear HF0 hpo hno
  go_wp2_with fail
  obtain ⟨X, hX⟩ : ∃ X, w2.alloc (.cells #[.int .i64 x.op, .int .i64 no, .int .i64 x.arg, .slice B3 x.set.length d3, .int .i64 x.at_] 64) = X := ⟨_, rfl⟩
  have hXB : Below w2.heap.size w2 X := by rw [← hX]; exact below_al (Below.refl _ _) _
  have hX1 : X.heap[w2.heap.size]? = some (.cells #[.int .i64 x.op, .int .i64 no, .int .i64 x.arg, .slice B3 x.set.length d3, .int .i64 x.at_] 64 (0, 0)) := by rw [← hX]; exact heap_new1 _ _
  rw [hX]
  clear hX
  have hinp := (C.inp.move (w' := X) (ok' := fun k => ¬ D k) (fun k hk _ => ⟨((H.out.2.1.below C hXB).tch.block k hk), hk⟩))
  have hrs := HN.out.2.2.2.1.move (w' := X) (ok' := fun k => ¬ D k) (fun k hk hlt => ⟨hXB.block k hlt, hk⟩) (by omega)
  have HX := Lib.hid (And.intro hXB (And.intro hinp (And.intro hrs hX1)))
  have HC : Hid (∀ W, Below X.heap.size X W → W.cell? ⟨w2.heap.size, 3, none⟩ = some (.slice B3 x.set.length d3)) := Lib.hid (fun W hW => by rw [cell_of_blk ((hW.block _ (heap_lt hX1)).trans hX1)]; rfl)
  clear hXB hinp hrs hX1
  refine wp_region_scr (fun W' => Below X.heap.size X W') [(true, 0, 173), (true, 1, 174), (true, 2, 175), (true, 3, 176), (true, 4, 177), (true, 5, 178), (false, 6, 179), (false, 7, 180)] (by kernel_rfl) (by kernel_rfl) (fun c d v a w h => hQp c d v a w h) rfl (by kernel_rfl) ?_
  have HV := Lib.hid (show Below X.heap.size X X.drew from (Below.refl _ _).drew)
  refine Scr.take (v := .pointer (some ⟨w2.heap.size, 3, none⟩)) rfl rfl (yw_pure (by rfl) (fun _ => by go_simp)) HV.out ?_
  simp only [Act.put, List.setIfInBounds_toArray, List.set_cons_zero, List.set_cons_succ]
  refine Scr.take (v := .slice B3 x.set.length d3) rfl rfl (yw_cell 61 _ rfl ⟨w2.heap.size, 3, none⟩ (.slice B3 x.set.length d3) rfl (by rfl) _ Tryd.underlying61 rfl (fun W hS => HC.out W hS)) HV.out ?_
  simp only [Act.put, List.setIfInBounds_toArray, List.set_cons_zero, List.set_cons_succ]
  refine Scr.take (v := .pointer (some ia)) rfl rfl (yw_pure (by rfl) (fun _ => by go_simp)) HV.out ?_
  simp only [Act.put, List.setIfInBounds_toArray, List.set_cons_zero, List.set_cons_succ]
  refine Scr.take (v := .pointer (some ia)) rfl rfl (yw_pure (by rfl) (fun _ => by go_simp)) HV.out ?_
  simp only [Act.put, List.setIfInBounds_toArray, List.set_cons_zero, List.set_cons_succ]
  refine Scr.take (v := .pointer (some ia)) rfl rfl (yw_pure (by rfl) (fun _ => by go_simp)) HV.out ?_
  simp only [Act.put, List.setIfInBounds_toArray, List.set_cons_zero, List.set_cons_succ]
  refine Scr.take (v := .int .i64 j) rfl rfl (yw_pure (by rfl) (fun _ => by go_simp)) HV.out ?_
  simp only [Act.put, List.setIfInBounds_toArray, List.set_cons_zero, List.set_cons_succ]
  refine Scr.run rfl (by rfl) (fun K hK => ?_)
  go_simp
  refine (rune_any (fun k => ¬ D k) X.drew ia rs (HX.out.2.1.move (fun k hk _ => ⟨rfl, hk⟩)) j).mono ?_
  rintro e w3 ⟨rfl, rfl⟩
  dsimp only
  refine hK _ _ HV.out ?_
  clear hK K
  have hhas := has_any (fun k => ¬ D k) X.drew (runeAt rs j) x.set B3 d3 (HX.out.2.2.1.move (fun k hk _ => ⟨rfl, hk⟩) (by omega)) (by omega)
  rw [hh] at hhas
  refine Scr.run rfl (by rfl) (fun K hK => ?_)
  go_simp
  refine hhas.mono ?_
  clear hhas
  rintro e w4 ⟨rfl, hb4⟩
  dsimp only
  have hB4 : Below X.heap.size X w4 := below_and (w1 := X.drew) hb4 (Below.refl _ _).drew
  refine hK _ _ hB4 ?_
  clear hK K HV hb4
  simp only [Scr]
  have hb3 := (hB4.block w2.heap.size (heap_lt HX.out.2.2.2)).trans HX.out.2.2.2
  obtain ⟨y0, y1, y2, y3, y4⟩ := cells5 hb3
  have ny := heap_lt hb3
  have H4 := Lib.hid (HX.out.1.trans (hB4.mono HX.out.1.size))
  clear hB4 hb3 c0 c1 c2 c3 c4 f nG x0 x1 x2 nP k0 k1 k2 k3 k4 hadb
  go_wp2_with fail
  try go_step3
  have hT3 := H.out.2.1.below C H4.out
  exact hJ _ _ _ ⟨_, rfl, ⟨rfl, rfl, rfl, rfl, rfl⟩, .inl ⟨rfl, _, _, _, _, _, _, _, _, _, H.out.1.next C.chk hT3 HF.out (by have := HN.out.2.2.1; omega)⟩⟩ (lt_eq (by omega) (stOf_eq hT3.mem))
end Go.Proofs.YthclpabmbhpohaaDoor
namespace Go.Proofs.YthclpabmbhpohaaDoor
open Go.RowKit
set_option linter.unusedVariables false
set_option maxRecDepth 1000000 in
set_option maxHeartbeats 8000000 in
theorem on_at1 (p : Pg) (ad : Addr) (c G PB : Nat) (ia : Addr) (rs : List (Int × Int)) (lg : Bool) (D : Nat → Prop) (W0 : World) (Bd : Int) (Fw : Wk (Int × Int)) (C : TryCx p ad c G PB ia rs lg D W0 Bd) (i j : Nat) (J : List (Job (Int × Int))) (fit : List Int) (S : Wk (Int × Int)) (st : Int) (bv jv fv sv : Value) (ws : List Nat) (W : World) (h : OnI p ad c G PB rs lg D W0 Bd Fw i j J fit S st bv jv fv sv ws W) (hs : S.seen ((i : Int), (j : Int)) = false) (ho : (p.get i).op = 5) (hh : hitB (atOf rs j) (p.get i).at_ = true)
    (g : Nat → Value) (Q0 : Exit → Act → World → Prop) (hQ : ∀ (tm : Array Value) w, EndI p G rs D W0 Bd Fw w → Q0 .ret ⟨tm, []⟩ w) (hQp : ∀ c (d : Tmp) v a w, Q0 (.panic c) (a.put (some d) v) w → Q0 (.panic c) a w) (JX : Nat → Act → World → Prop) (hJ : ∀ l a w, JJ p ad c G PB ia rs lg D W0 Bd Fw l a w → st < stOf G w → JX l a w) :
    (tryR 1).wp Tryd.prog (jumps JX Q0) ⟨#[.pointer (some ⟨G, 0, none⟩), g 1, .pointer (some ia), g 3, .bool lg, g 5, .pointer (some ⟨PB, 0, none⟩), g 7, g 8, g 9, .int .i64 i, .int .i64 j, g 12, g 13, g 14, g 15, g 16, g 17, g 18, g 19, g 20, g 21, g 22, g 23, g 24, g 25, g 26, g 27, g 28, g 29, g 30, g 31, g 32, g 33, g 34, g 35, g 36, g 37, g 38, g 39, g 40, g 41, g 42, g 43, g 44, g 45, g 46, g 47, g 48, g 49, g 50, g 51, g 52, g 53, g 54, g 55, g 56, g 57, g 58, g 59, g 60, g 61, g 62, g 63, g 64, g 65, g 66, g 67, g 68, g 69, g 70, g 71, g 72, g 73, g 74, g 75, g 76, g 77, g 78, g 79, g 80, g 81, g 82, g 83, g 84, g 85, g 86, g 87, g 88, g 89, g 90, g 91, g 92, g 93, g 94, g 95, g 96, g 97, g 98, g 99, g 100, g 101, g 102, g 103, g 104, g 105, g 106, g 107, g 108, g 109, g 110, g 111, g 112, g 113, g 114, g 115, g 116, g 117, g 118, g 119, g 120, g 121, g 122, g 123, g 124, g 125, g 126, g 127, g 128, g 129, g 130, g 131, g 132, g 133, g 134, g 135, g 136, g 137, g 138, g 139, g 140, g 141, g 142, g 143, g 144, g 145, g 146, g 147, g 148, g 149, g 150, g 151, g 152, g 153, g 154, g 155, g 156, g 157, g 158, g 159, g 160, g 161, g 162, g 163, g 164, g 165, g 166, g 167, g 168, g 169, g 170, g 171, g 172, g 173, g 174, g 175, g 176, g 177, g 178, g 179, g 180, g 181, g 182, g 183, g 184, g 185, g 186, g 187, g 188, g 189, g 190, g 191, g 192, g 193, g 194, g 195, g 196, g 197, g 198, g 199, g 200, g 201, g 202, g 203, g 204, g 205, g 206, g 207, g 208, g 209, g 210, g 211, g 212, g 213, g 214, g 215, g 216, g 217, g 218, g 219, g 220, g 221, g 222, g 223, g 224, g 225, g 226, g 227, g 228, g 229, g 230, g 231, g 232, g 233, g 234, g 235, g 236, g 237, g 238, g 239, g 240, g 241, g 242, g 243, g 244], []⟩ W := by
  obtain ⟨n, jL, gb, cb, Y, ws', hw1, hw2, hw0, rfl, hfr, hT2⟩ := on_begin C h
  obtain ⟨c0, c1, c2, c3, c4, f, nG, x0, x1, x2, nP, ne, ne2⟩ := h.1.cells
  have f4 := f 4
  rw [hs] at hfr
  have hi := h.2.2.2.1
  have hj := h.2.2.2.2
  have H := Lib.hid (And.intro h (And.intro hT2 (And.intro hs (And.intro hi hj))))
  clear h hT2 hs hi hj f c0 c1 c2 c3 x1 x2
  conv => arg 2; whnf
  go_wp2_with fail
  refine hfr.mono ?_
  clear hfr hw1 hw2 hw0 c4 f4 nG x0 nP ne ne2
  rintro e w2 ⟨rfl, rfl⟩
  dsimp only
  obtain ⟨c0, c1, c2, c3, c4, f, nG, x0, x1, x2, nP, ne, ne2⟩ := H.out.2.1.cells
  obtain ⟨B3, d3, hadD, hadb, hd3, hd3m, hset, k0, k1, k2, k3, k4⟩ := ins_D (C.pg.touch H.out.2.1.tch) i H.out.2.2.2.1
  have hge := get_at p i H.out.2.2.2.1
  have hq : ((i : Int), (j : Int)) ∈ allP p rs.length := allP_iff.2 ⟨⟨by show (0 : Int) ≤ (i : Int); omega, by show (i : Int) < _; have := H.out.2.2.2.1; omega⟩, by show (0 : Int) ≤ (j : Int); omega, by show (j : Int) < _; have := H.out.2.2.2.2; omega⟩
  have hgo := check_good C.chk (show Pc p ((i : Nat) : Int) from (allP_iff.1 hq).1)
  have hpm := pot_le (K := KB p) (J := J) hq H.out.2.2.1
  have hfr := C.newW H.out.2.1.tch
  have HF0 := fin_step (rn := runeAt rs) (av := atOf rs) (lg := lg) (S := S) (J := J) (c := fit) C.chk hq H.out.2.1.hal H.out.2.2.1 (by show (p.get (i : Int)).op ≠ 1; omega) (by show (p.get (i : Int)).op ≠ 4; omega) (nexts_at1 (p := p) (rn := runeAt rs) (av := atOf rs) (q := ((i : Int), (j : Int))) ho hh _)
  simp only [hge, List.map_cons, List.map_nil, List.nil_append, List.cons_append] at HF0
  have HN := Lib.hid (And.intro hq (And.intro hgo (And.intro hpm (And.intro hset (And.intro hadD (And.intro hfr ho))))))
  clear hq hgo hpm hset hfr
  have hi : i < p.ins.length := H.out.2.2.2.1
  have hxs : p.ins[i].set.length ≤ 1000000000 := C.set _ (List.getElem_mem hi)
  rw [hge] at ho HN
  rw [hge] at hh
  clear hge hadD
  generalize p.ins[i] = x at *
  have o1 : (x.op == 1) = false := by rw [ho]; rfl
  have o2 : (x.op == 2) = false := by rw [ho]; rfl
  have o3 : (x.op == 3) = false := by rw [ho]; rfl
  have o4 : (x.op == 4) = false := by rw [ho]; rfl
  have o5 : (x.op == 5) = true := by rw [ho]; rfl
  clear ho
  have hpo := HN.out.2.1.out (by have := HN.out.2.2.2.2.2.2; omega)
  obtain ⟨no, hno⟩ : ∃ no : Nat, x.out = (no : Int) := ⟨x.out.toNat, by have := hpo.1; omega⟩
  have HL := Lib.hid (show no < p.ins.length by have := hpo.2; omega)
  rw [hno] at k1
  try rw [hno] at HF0
  have HF := Lib.hid HF0
  clear HF0 hpo hno
  go_wp2_with fail
  obtain ⟨X, hX⟩ : ∃ X, w2.alloc (.cells #[.int .i64 x.op, .int .i64 no, .int .i64 x.arg, .slice B3 x.set.length d3, .int .i64 x.at_] 64) = X := ⟨_, rfl⟩
  have hXB : Below w2.heap.size w2 X := by rw [← hX]; exact below_al (Below.refl _ _) _
  have hX1 : X.heap[w2.heap.size]? = some (.cells #[.int .i64 x.op, .int .i64 no, .int .i64 x.arg, .slice B3 x.set.length d3, .int .i64 x.at_] 64 (0, 0)) := by rw [← hX]; exact heap_new1 _ _
  rw [hX]
  clear hX
  have hinp := (C.inp.move (w' := X) (ok' := fun k => ¬ D k) (fun k hk _ => ⟨((H.out.2.1.below C hXB).tch.block k hk), hk⟩))
  have HX := Lib.hid (And.intro hXB (And.intro hinp hX1))
  have HC : Hid (∀ W, Below X.heap.size X W → W.cell? ⟨w2.heap.size, 4, none⟩ = some (.int .i64 x.at_)) := Lib.hid (fun W hW => by rw [cell_of_blk ((hW.block _ (heap_lt hX1)).trans hX1)]; rfl)
  clear hXB hinp hX1
  refine wp_region_scr (fun W' => Below X.heap.size X W') [(true, 0, 236), (true, 1, 237), (true, 3, 239), (true, 4, 240), (false, 2, 238), (true, 5, 241), (true, 6, 242)] (by kernel_rfl) (by kernel_rfl) (fun c d v a w h => hQp c d v a w h) rfl (by kernel_rfl) ?_
  have HV := Lib.hid (show Below X.heap.size X X.drew from (Below.refl _ _).drew)
  refine Scr.take (v := .pointer (some ia)) rfl rfl (yw_pure (by rfl) (fun _ => by go_simp)) HV.out ?_
  simp only [Act.put, List.setIfInBounds_toArray, List.set_cons_zero, List.set_cons_succ]
  refine Scr.take (v := .int .i64 j) rfl rfl (yw_pure (by rfl) (fun _ => by go_simp)) HV.out ?_
  simp only [Act.put, List.setIfInBounds_toArray, List.set_cons_zero, List.set_cons_succ]
  refine Scr.take (v := .pointer (some ⟨w2.heap.size, 4, none⟩)) rfl rfl (yw_pure (by rfl) (fun _ => by go_simp)) HV.out ?_
  simp only [Act.put, List.setIfInBounds_toArray, List.set_cons_zero, List.set_cons_succ]
  refine Scr.take (v := .int .i64 x.at_) rfl rfl (yw_cell 62 _ rfl ⟨w2.heap.size, 4, none⟩ (.int .i64 x.at_) rfl (by rfl) _ Tryd.underlying62 rfl (fun W hS => HC.out W hS)) HV.out ?_
  simp only [Act.put, List.setIfInBounds_toArray, List.set_cons_zero, List.set_cons_succ]
  have hat := at_any (fun k => ¬ D k) X.drew ia rs (HX.out.2.1.move (fun k hk _ => ⟨rfl, hk⟩)) j (by omega)
  refine Scr.run rfl (by rfl) (fun K hK => ?_)
  go_simp
  refine hat.mono ?_
  clear hat
  rintro e w4 ⟨rfl, nq, hw4⟩
  dsimp only
  have hB4 : Below X.heap.size X w4 := by rw [hw4]; exact below_drewN (Below.refl _ _).drew nq
  refine hK _ _ hB4 ?_
  clear hK K HV hw4
  have HV := Lib.hid hB4
  have hh' : (bits .and .i64 (atOf rs j) x.at_ != 0) = true := hh
  generalize atOf rs j = av at hh' ⊢
  refine Scr.take (v := .int .i64 (bits .and .i64 av x.at_)) rfl rfl (yw_pure (by rfl) (fun _ => by go_simp)) HV.out ?_
  simp only [Act.put, List.setIfInBounds_toArray, List.set_cons_zero, List.set_cons_succ]
  refine Scr.take (v := .bool (bits .and .i64 av x.at_ != 0)) rfl rfl (yw_pure (by rfl) (fun _ => by go_simp)) HV.out ?_
  simp only [Act.put, List.setIfInBounds_toArray, List.set_cons_zero, List.set_cons_succ]
  simp only [Scr]
  rw [hh']
  clear hh' hh
  have hb3 := (HV.out.block w2.heap.size (heap_lt HX.out.2.2)).trans HX.out.2.2
  obtain ⟨y0, y1, y2, y3, y4⟩ := cells5 hb3
  have ny := heap_lt hb3
  have H4 := Lib.hid (HX.out.1.trans (HV.out.mono HX.out.1.size))
  clear hB4 hb3 c0 c1 c2 c3 c4 f nG x0 x1 x2 nP k0 k1 k2 k3 k4 hadb
  go_wp2_with fail
  try go_step3
  have hT3 := H.out.2.1.below C H4.out
  have hKB := KB_le p
  exact hJ _ _ _ ⟨_, rfl, ⟨rfl, rfl, rfl, rfl, rfl⟩, .inr ⟨rfl, no, j, rfl, rfl, _, _, _, _, _, _, _, _, _, H.out.1.on hT3 HF.out (by have := HN.out.2.2.1; omega) HL.out H.out.2.2.2.2⟩⟩ (lt_eq (by omega) (stOf_eq hT3.mem))
set_option maxRecDepth 1000000 in
set_option maxHeartbeats 8000000 in
theorem on_at0 (p : Pg) (ad : Addr) (c G PB : Nat) (ia : Addr) (rs : List (Int × Int)) (lg : Bool) (D : Nat → Prop) (W0 : World) (Bd : Int) (Fw : Wk (Int × Int)) (C : TryCx p ad c G PB ia rs lg D W0 Bd) (i j : Nat) (J : List (Job (Int × Int))) (fit : List Int) (S : Wk (Int × Int)) (st : Int) (bv jv fv sv : Value) (ws : List Nat) (W : World) (h : OnI p ad c G PB rs lg D W0 Bd Fw i j J fit S st bv jv fv sv ws W) (hs : S.seen ((i : Int), (j : Int)) = false) (ho : (p.get i).op = 5) (hh : hitB (atOf rs j) (p.get i).at_ = false)
    (g : Nat → Value) (Q0 : Exit → Act → World → Prop) (hQ : ∀ (tm : Array Value) w, EndI p G rs D W0 Bd Fw w → Q0 .ret ⟨tm, []⟩ w) (hQp : ∀ c (d : Tmp) v a w, Q0 (.panic c) (a.put (some d) v) w → Q0 (.panic c) a w) (JX : Nat → Act → World → Prop) (hJ : ∀ l a w, JJ p ad c G PB ia rs lg D W0 Bd Fw l a w → st < stOf G w → JX l a w) :
    (tryR 1).wp Tryd.prog (jumps JX Q0) ⟨#[.pointer (some ⟨G, 0, none⟩), g 1, .pointer (some ia), g 3, .bool lg, g 5, .pointer (some ⟨PB, 0, none⟩), g 7, g 8, g 9, .int .i64 i, .int .i64 j, g 12, g 13, g 14, g 15, g 16, g 17, g 18, g 19, g 20, g 21, g 22, g 23, g 24, g 25, g 26, g 27, g 28, g 29, g 30, g 31, g 32, g 33, g 34, g 35, g 36, g 37, g 38, g 39, g 40, g 41, g 42, g 43, g 44, g 45, g 46, g 47, g 48, g 49, g 50, g 51, g 52, g 53, g 54, g 55, g 56, g 57, g 58, g 59, g 60, g 61, g 62, g 63, g 64, g 65, g 66, g 67, g 68, g 69, g 70, g 71, g 72, g 73, g 74, g 75, g 76, g 77, g 78, g 79, g 80, g 81, g 82, g 83, g 84, g 85, g 86, g 87, g 88, g 89, g 90, g 91, g 92, g 93, g 94, g 95, g 96, g 97, g 98, g 99, g 100, g 101, g 102, g 103, g 104, g 105, g 106, g 107, g 108, g 109, g 110, g 111, g 112, g 113, g 114, g 115, g 116, g 117, g 118, g 119, g 120, g 121, g 122, g 123, g 124, g 125, g 126, g 127, g 128, g 129, g 130, g 131, g 132, g 133, g 134, g 135, g 136, g 137, g 138, g 139, g 140, g 141, g 142, g 143, g 144, g 145, g 146, g 147, g 148, g 149, g 150, g 151, g 152, g 153, g 154, g 155, g 156, g 157, g 158, g 159, g 160, g 161, g 162, g 163, g 164, g 165, g 166, g 167, g 168, g 169, g 170, g 171, g 172, g 173, g 174, g 175, g 176, g 177, g 178, g 179, g 180, g 181, g 182, g 183, g 184, g 185, g 186, g 187, g 188, g 189, g 190, g 191, g 192, g 193, g 194, g 195, g 196, g 197, g 198, g 199, g 200, g 201, g 202, g 203, g 204, g 205, g 206, g 207, g 208, g 209, g 210, g 211, g 212, g 213, g 214, g 215, g 216, g 217, g 218, g 219, g 220, g 221, g 222, g 223, g 224, g 225, g 226, g 227, g 228, g 229, g 230, g 231, g 232, g 233, g 234, g 235, g 236, g 237, g 238, g 239, g 240, g 241, g 242, g 243, g 244], []⟩ W := by
  obtain ⟨n, jL, gb, cb, Y, ws', hw1, hw2, hw0, rfl, hfr, hT2⟩ := on_begin C h
  obtain ⟨c0, c1, c2, c3, c4, f, nG, x0, x1, x2, nP, ne, ne2⟩ := h.1.cells
  have f4 := f 4
  rw [hs] at hfr
  have hi := h.2.2.2.1
  have hj := h.2.2.2.2
  have H := Lib.hid (And.intro h (And.intro hT2 (And.intro hs (And.intro hi hj))))
  clear h hT2 hs hi hj f c0 c1 c2 c3 x1 x2
  conv => arg 2; whnf
  go_wp2_with fail
  refine hfr.mono ?_
  clear hfr hw1 hw2 hw0 c4 f4 nG x0 nP ne ne2
  rintro e w2 ⟨rfl, rfl⟩
  dsimp only
  obtain ⟨c0, c1, c2, c3, c4, f, nG, x0, x1, x2, nP, ne, ne2⟩ := H.out.2.1.cells
  obtain ⟨B3, d3, hadD, hadb, hd3, hd3m, hset, k0, k1, k2, k3, k4⟩ := ins_D (C.pg.touch H.out.2.1.tch) i H.out.2.2.2.1
  have hge := get_at p i H.out.2.2.2.1
  have hq : ((i : Int), (j : Int)) ∈ allP p rs.length := allP_iff.2 ⟨⟨by show (0 : Int) ≤ (i : Int); omega, by show (i : Int) < _; have := H.out.2.2.2.1; omega⟩, by show (0 : Int) ≤ (j : Int); omega, by show (j : Int) < _; have := H.out.2.2.2.2; omega⟩
  have hgo := check_good C.chk (show Pc p ((i : Nat) : Int) from (allP_iff.1 hq).1)
  have hpm := pot_le (K := KB p) (J := J) hq H.out.2.2.1
  have hfr := C.newW H.out.2.1.tch
  have HF0 := fin_step (rn := runeAt rs) (av := atOf rs) (lg := lg) (S := S) (J := J) (c := fit) C.chk hq H.out.2.1.hal H.out.2.2.1 (by show (p.get (i : Int)).op ≠ 1; omega) (by show (p.get (i : Int)).op ≠ 4; omega) (nexts_at0 (p := p) (rn := runeAt rs) (av := atOf rs) (q := ((i : Int), (j : Int))) ho hh _)
  simp only [hge, List.map_cons, List.map_nil, List.nil_append, List.cons_append] at HF0
  have HN := Lib.hid (And.intro hq (And.intro hgo (And.intro hpm (And.intro hset (And.intro hadD (And.intro hfr ho))))))
  clear hq hgo hpm hset hfr
  have hi : i < p.ins.length := H.out.2.2.2.1
  have hxs : p.ins[i].set.length ≤ 1000000000 := C.set _ (List.getElem_mem hi)
  rw [hge] at ho HN
  rw [hge] at hh
  clear hge hadD
  generalize p.ins[i] = x at *
  have o1 : (x.op == 1) = false := by rw [ho]; rfl
  have o2 : (x.op == 2) = false := by rw [ho]; rfl
  have o3 : (x.op == 3) = false := by rw [ho]; rfl
  have o4 : (x.op == 4) = false := by rw [ho]; rfl
  have o5 : (x.op == 5) = true := by rw [ho]; rfl
  clear ho
  have hpo := HN.out.2.1.out (by have := HN.out.2.2.2.2.2.2; omega)
  obtain ⟨no, hno⟩ : ∃ no : Nat, x.out = (no : Int) := ⟨x.out.toNat, by have := hpo.1; omega⟩
  have HL := Lib.hid (show no < p.ins.length by have := hpo.2; omega)
  rw [hno] at k1
  try rw [hno] at HF0
  have HF := Lib.hid HF0
  clear HF0 hpo hno
  go_wp2_with fail
  obtain ⟨X, hX⟩ : ∃ X, w2.alloc (.cells #[.int .i64 x.op, .int .i64 no, .int .i64 x.arg, .slice B3 x.set.length d3, .int .i64 x.at_] 64) = X := ⟨_, rfl⟩
  have hXB : Below w2.heap.size w2 X := by rw [← hX]; exact below_al (Below.refl _ _) _
  have hX1 : X.heap[w2.heap.size]? = some (.cells #[.int .i64 x.op, .int .i64 no, .int .i64 x.arg, .slice B3 x.set.length d3, .int .i64 x.at_] 64 (0, 0)) := by rw [← hX]; exact heap_new1 _ _
  rw [hX]
  clear hX
  have hinp := (C.inp.move (w' := X) (ok' := fun k => ¬ D k) (fun k hk _ => ⟨((H.out.2.1.below C hXB).tch.block k hk), hk⟩))
  have HX := Lib.hid (And.intro hXB (And.intro hinp hX1))
  have HC : Hid (∀ W, Below X.heap.size X W → W.cell? ⟨w2.heap.size, 4, none⟩ = some (.int .i64 x.at_)) := Lib.hid (fun W hW => by rw [cell_of_blk ((hW.block _ (heap_lt hX1)).trans hX1)]; rfl)
  clear hXB hinp hX1
  refine wp_region_scr (fun W' => Below X.heap.size X W') [(true, 0, 236), (true, 1, 237), (true, 3, 239), (true, 4, 240), (false, 2, 238), (true, 5, 241), (true, 6, 242)] (by kernel_rfl) (by kernel_rfl) (fun c d v a w h => hQp c d v a w h) rfl (by kernel_rfl) ?_
  have HV := Lib.hid (show Below X.heap.size X X.drew from (Below.refl _ _).drew)
  refine Scr.take (v := .pointer (some ia)) rfl rfl (yw_pure (by rfl) (fun _ => by go_simp)) HV.out ?_
  simp only [Act.put, List.setIfInBounds_toArray, List.set_cons_zero, List.set_cons_succ]
  refine Scr.take (v := .int .i64 j) rfl rfl (yw_pure (by rfl) (fun _ => by go_simp)) HV.out ?_
  simp only [Act.put, List.setIfInBounds_toArray, List.set_cons_zero, List.set_cons_succ]
  refine Scr.take (v := .pointer (some ⟨w2.heap.size, 4, none⟩)) rfl rfl (yw_pure (by rfl) (fun _ => by go_simp)) HV.out ?_
  simp only [Act.put, List.setIfInBounds_toArray, List.set_cons_zero, List.set_cons_succ]
  refine Scr.take (v := .int .i64 x.at_) rfl rfl (yw_cell 62 _ rfl ⟨w2.heap.size, 4, none⟩ (.int .i64 x.at_) rfl (by rfl) _ Tryd.underlying62 rfl (fun W hS => HC.out W hS)) HV.out ?_
  simp only [Act.put, List.setIfInBounds_toArray, List.set_cons_zero, List.set_cons_succ]
  have hat := at_any (fun k => ¬ D k) X.drew ia rs (HX.out.2.1.move (fun k hk _ => ⟨rfl, hk⟩)) j (by omega)
  refine Scr.run rfl (by rfl) (fun K hK => ?_)
  go_simp
  refine hat.mono ?_
  clear hat
  rintro e w4 ⟨rfl, nq, hw4⟩
  dsimp only
  have hB4 : Below X.heap.size X w4 := by rw [hw4]; exact below_drewN (Below.refl _ _).drew nq
  refine hK _ _ hB4 ?_
  clear hK K HV hw4
  have HV := Lib.hid hB4
  have hh' : (bits .and .i64 (atOf rs j) x.at_ != 0) = false := hh
  generalize atOf rs j = av at hh' ⊢
  refine Scr.take (v := .int .i64 (bits .and .i64 av x.at_)) rfl rfl (yw_pure (by rfl) (fun _ => by go_simp)) HV.out ?_
  simp only [Act.put, List.setIfInBounds_toArray, List.set_cons_zero, List.set_cons_succ]
  refine Scr.take (v := .bool (bits .and .i64 av x.at_ != 0)) rfl rfl (yw_pure (by rfl) (fun _ => by go_simp)) HV.out ?_
  simp only [Act.put, List.setIfInBounds_toArray, List.set_cons_zero, List.set_cons_succ]
  simp only [Scr]
  rw [hh']
  clear hh' hh
  have hb3 := (HV.out.block w2.heap.size (heap_lt HX.out.2.2)).trans HX.out.2.2
  obtain ⟨y0, y1, y2, y3, y4⟩ := cells5 hb3
  have ny := heap_lt hb3
  have H4 := Lib.hid (HX.out.1.trans (HV.out.mono HX.out.1.size))
  clear hB4 hb3 c0 c1 c2 c3 c4 f nG x0 x1 x2 nP k0 k1 k2 k3 k4 hadb
  go_wp2_with fail
  try go_step3
  have hT3 := H.out.2.1.below C H4.out
  exact hJ _ _ _ ⟨_, rfl, ⟨rfl, rfl, rfl, rfl, rfl⟩, .inl ⟨rfl, _, _, _, _, _, _, _, _, _, H.out.1.next C.chk hT3 HF.out (by have := HN.out.2.2.1; omega)⟩⟩ (lt_eq (by omega) (stOf_eq hT3.mem))
end Go.Proofs.YthclpabmbhpohaaDoor
namespace Go.Proofs.YthclpabmbhpohaaDoor
open Go.RowKit
set_option linter.unusedVariables false
set_option maxRecDepth 1000000 in
set_option maxHeartbeats 8000000 in
theorem on_alt (p : Pg) (ad : Addr) (c G PB : Nat) (ia : Addr) (rs : List (Int × Int)) (lg : Bool) (D : Nat → Prop) (W0 : World) (Bd : Int) (Fw : Wk (Int × Int)) (C : TryCx p ad c G PB ia rs lg D W0 Bd) (i j : Nat) (J : List (Job (Int × Int))) (fit : List Int) (S : Wk (Int × Int)) (st : Int) (bv jv fv sv : Value) (ws : List Nat) (W : World) (h : OnI p ad c G PB rs lg D W0 Bd Fw i j J fit S st bv jv fv sv ws W) (hs : S.seen ((i : Int), (j : Int)) = false) (ho : (p.get i).op = 3)
    (g : Nat → Value) (Q0 : Exit → Act → World → Prop) (hQ : ∀ (tm : Array Value) w, EndI p G rs D W0 Bd Fw w → Q0 .ret ⟨tm, []⟩ w) (hQp : ∀ c (d : Tmp) v a w, Q0 (.panic c) (a.put (some d) v) w → Q0 (.panic c) a w) (JX : Nat → Act → World → Prop) (hJ : ∀ l a w, JJ p ad c G PB ia rs lg D W0 Bd Fw l a w → st < stOf G w → JX l a w) :
    (tryR 1).wp Tryd.prog (jumps JX Q0) ⟨#[.pointer (some ⟨G, 0, none⟩), g 1, .pointer (some ia), g 3, .bool lg, g 5, .pointer (some ⟨PB, 0, none⟩), g 7, g 8, g 9, .int .i64 i, .int .i64 j, g 12, g 13, g 14, g 15, g 16, g 17, g 18, g 19, g 20, g 21, g 22, g 23, g 24, g 25, g 26, g 27, g 28, g 29, g 30, g 31, g 32, g 33, g 34, g 35, g 36, g 37, g 38, g 39, g 40, g 41, g 42, g 43, g 44, g 45, g 46, g 47, g 48, g 49, g 50, g 51, g 52, g 53, g 54, g 55, g 56, g 57, g 58, g 59, g 60, g 61, g 62, g 63, g 64, g 65, g 66, g 67, g 68, g 69, g 70, g 71, g 72, g 73, g 74, g 75, g 76, g 77, g 78, g 79, g 80, g 81, g 82, g 83, g 84, g 85, g 86, g 87, g 88, g 89, g 90, g 91, g 92, g 93, g 94, g 95, g 96, g 97, g 98, g 99, g 100, g 101, g 102, g 103, g 104, g 105, g 106, g 107, g 108, g 109, g 110, g 111, g 112, g 113, g 114, g 115, g 116, g 117, g 118, g 119, g 120, g 121, g 122, g 123, g 124, g 125, g 126, g 127, g 128, g 129, g 130, g 131, g 132, g 133, g 134, g 135, g 136, g 137, g 138, g 139, g 140, g 141, g 142, g 143, g 144, g 145, g 146, g 147, g 148, g 149, g 150, g 151, g 152, g 153, g 154, g 155, g 156, g 157, g 158, g 159, g 160, g 161, g 162, g 163, g 164, g 165, g 166, g 167, g 168, g 169, g 170, g 171, g 172, g 173, g 174, g 175, g 176, g 177, g 178, g 179, g 180, g 181, g 182, g 183, g 184, g 185, g 186, g 187, g 188, g 189, g 190, g 191, g 192, g 193, g 194, g 195, g 196, g 197, g 198, g 199, g 200, g 201, g 202, g 203, g 204, g 205, g 206, g 207, g 208, g 209, g 210, g 211, g 212, g 213, g 214, g 215, g 216, g 217, g 218, g 219, g 220, g 221, g 222, g 223, g 224, g 225, g 226, g 227, g 228, g 229, g 230, g 231, g 232, g 233, g 234, g 235, g 236, g 237, g 238, g 239, g 240, g 241, g 242, g 243, g 244], []⟩ W := by
  obtain ⟨n, jL, gb, cb, Y, ws', hw1, hw2, hw0, rfl, hfr, hT2⟩ := on_begin C h
  obtain ⟨c0, c1, c2, c3, c4, f, nG, x0, x1, x2, nP, ne, ne2⟩ := h.1.cells
  have f4 := f 4
  rw [hs] at hfr
  have hi := h.2.2.2.1
  have hj := h.2.2.2.2
  have H := Lib.hid (And.intro h (And.intro hT2 (And.intro hs (And.intro hi hj))))
  clear h hT2 hs hi hj f c0 c1 c2 c3 x1 x2
  conv => arg 2; whnf
  go_wp2_with fail
  refine hfr.mono ?_
  clear hfr hw1 hw2 hw0 c4 f4 nG x0 nP ne ne2
  rintro e w2 ⟨rfl, rfl⟩
  dsimp only
  obtain ⟨c0, c1, c2, c3, c4, f, nG, x0, x1, x2, nP, ne, ne2⟩ := H.out.2.1.cells
  obtain ⟨B3, d3, hadD, hadb, hd3, hd3m, hset, k0, k1, k2, k3, k4⟩ := ins_D (C.pg.touch H.out.2.1.tch) i H.out.2.2.2.1
  have hge := get_at p i H.out.2.2.2.1
  have hq : ((i : Int), (j : Int)) ∈ allP p rs.length := allP_iff.2 ⟨⟨by show (0 : Int) ≤ (i : Int); omega, by show (i : Int) < _; have := H.out.2.2.2.1; omega⟩, by show (0 : Int) ≤ (j : Int); omega, by show (j : Int) < _; have := H.out.2.2.2.2; omega⟩
  have hgo := check_good C.chk (show Pc p ((i : Nat) : Int) from (allP_iff.1 hq).1)
  have hpm := pot_le (K := KB p) (J := J) hq H.out.2.2.1
  have hJl : J.length ≤ 1000000000000 := by have h1 := pot_len (KB p) (allP p rs.length) J S; have h2 := H.out.1.2.2.1; have h3 := C.bd; have h4 := H.out.1.1.pos; omega
  have hfr := hJl
  have HF0 := fin_step (rn := runeAt rs) (av := atOf rs) (lg := lg) (S := S) (J := J) (c := fit) C.chk hq H.out.2.1.hal H.out.2.2.1 (by show (p.get (i : Int)).op ≠ 1; omega) (by show (p.get (i : Int)).op ≠ 4; omega) (nexts_alt ho _)
  simp only [hge, List.map_cons, List.map_nil, List.nil_append, List.cons_append] at HF0
  have HN := Lib.hid (And.intro hq (And.intro hgo (And.intro hpm (And.intro hset (And.intro hadD (And.intro hJl ho))))))
  clear hq hgo hpm hset hfr
  have hi : i < p.ins.length := H.out.2.2.2.1
  have hxs : p.ins[i].set.length ≤ 1000000000 := C.set _ (List.getElem_mem hi)
  rw [hge] at ho HN
  clear hge hadD
  generalize p.ins[i] = x at *
  have o1 : (x.op == 1) = false := by rw [ho]; rfl
  have o2 : (x.op == 2) = false := by rw [ho]; rfl
  have o3 : (x.op == 3) = true := by rw [ho]; rfl
  have o4 : (x.op == 4) = false := by rw [ho]; rfl
  have o5 : (x.op == 5) = false := by rw [ho]; rfl
  clear ho
  have hpo := HN.out.2.1.out (by have := HN.out.2.2.2.2.2.2; omega)
  obtain ⟨no, hno⟩ : ∃ no : Nat, x.out = (no : Int) := ⟨x.out.toNat, by have := hpo.1; omega⟩
  have HL := Lib.hid (show no < p.ins.length by have := hpo.2; omega)
  rw [hno] at k1
  try rw [hno] at HF0
  have hpa := HN.out.2.1.arg (by have := HN.out.2.2.2.2.2.2; omega)
  obtain ⟨na, hna⟩ : ∃ na : Nat, x.arg = (na : Int) := ⟨x.arg.toNat, by have := hpa.1; omega⟩
  have HA := Lib.hid (show na < p.ins.length by have := hpa.2; omega)
  rw [hna] at k2
  try rw [hna] at HF0
  have HF := Lib.hid HF0
  clear HF0 hpo hno hpa hna
  go_wp2_with fail
  obtain ⟨X, hX⟩ : ∃ X, w2.alloc (.cells #[.int .i64 x.op, .int .i64 no, .int .i64 na, .slice B3 x.set.length d3, .int .i64 x.at_] 64) = X := ⟨_, rfl⟩
  have hXB : Below w2.heap.size w2 X := by rw [← hX]; exact below_al (Below.refl _ _) _
  have hX1 : X.heap[w2.heap.size]? = some (.cells #[.int .i64 x.op, .int .i64 no, .int .i64 na, .slice B3 x.set.length d3, .int .i64 x.at_] 64 (0, 0)) := by rw [← hX]; exact heap_new1 _ _
  rw [hX]
  clear hX
  have hT3 := H.out.2.1.below C hXB
  have HX1 := Lib.hid hX1
  have HX := Lib.hid (And.intro hXB hT3)
  clear hX1 hXB hT3
  have HC : Hid ((∀ W, Below X.heap.size X W → W.cell? ⟨G, 1, none⟩ = some jv ∧ W.cell? ⟨w2.heap.size, 2, none⟩ = some (.int .i64 na)) ∧ (∀ Y, Below X.heap.size X Y → ∀ W : World, (W.heap[G]? = Y.heap[G]? ∧ W.heap[PB]? = Y.heap[PB]? ∧ ∀ (b : Nat) (cs : Array Value) (fr : Nat × Nat), Y.heap[b]? = some (.cells cs 64 fr) → W.heap[b]? = Y.heap[b]?) → W.cell? ⟨G, 1, none⟩ = some jv ∧ W.cell? ⟨w2.heap.size, 2, none⟩ = some (.int .i64 na))) := Lib.hid (by
    have hg := HX.out.2.mem.blk
    refine ⟨fun W hW => ⟨by rw [cell_of_blk ((hW.block _ (heap_lt hg)).trans hg)]; rfl, by rw [cell_of_blk ((hW.block _ (heap_lt HX1.out)).trans HX1.out)]; rfl⟩, fun Y hY W hW => ?_⟩
    have h1 := (hY.block _ (heap_lt hg)).trans hg
    have h2 := (hY.block _ (heap_lt HX1.out)).trans HX1.out
    exact ⟨by rw [cell_of_blk (hW.1.trans h1)]; rfl, by rw [cell_of_blk ((hW.2.2 _ _ _ h2).trans h2)]; rfl⟩)
  clear c0 c1 c2 c3 c4 f x0 x1 x2 nP k0 k1 k2 k3 k4 hadb
  refine wp_region_scrT (fun W' => W'.cell? ⟨G, 1, none⟩ = some jv ∧ W'.cell? ⟨w2.heap.size, 2, none⟩ = some (.int .i64 na)) 13 [(true, 0, 187), (true, 1, 188), (true, 2, 189), (true, 3, 190), (true, 4, 191), (true, 5, 192), (true, 6, 193), (true, 7, 194), (true, 8, 195), (false, 9, 196), (false, 10, 197), (true, 11, 198), (true, 12, 199), (false, 13, 0)] (by kernel_rfl) (by kernel_rfl) (by kernel_rfl) (by kernel_rfl) rfl (fun c d v a w h => hQp c d v a w h) rfl (by kernel_rfl) ?_
  have HV := Lib.hid (show Below X.heap.size X X.drew from (Below.refl _ _).drew)
  have HS := Lib.hid (HC.out.1 _ HV.out)
  refine ScrT.take (v := .pointer (some ⟨G, 0, none⟩)) rfl rfl (yw_pure (by rfl) (fun _ => by go_simp)) HS.out ?_
  simp only [Act.put, List.setIfInBounds_toArray, List.set_cons_zero, List.set_cons_succ]
  refine ScrT.take (v := .pointer (some ⟨G, 0, none⟩)) rfl rfl (yw_pure (by rfl) (fun _ => by go_simp)) HS.out ?_
  simp only [Act.put, List.setIfInBounds_toArray, List.set_cons_zero, List.set_cons_succ]
  refine ScrT.take (v := .pointer (some ⟨G, 0, none⟩)) rfl rfl (yw_pure (by rfl) (fun _ => by go_simp)) HS.out ?_
  simp only [Act.put, List.setIfInBounds_toArray, List.set_cons_zero, List.set_cons_succ]
  refine ScrT.take (v := .pointer (some ⟨G, 1, none⟩)) rfl rfl (yw_pure (by rfl) (fun _ => by go_simp)) HS.out ?_
  simp only [Act.put, List.setIfInBounds_toArray, List.set_cons_zero, List.set_cons_succ]
  refine ScrT.take (v := jv) rfl rfl (yw_cell 68 _ rfl ⟨G, 1, none⟩ (jv) rfl (by rfl) _ Tryd.underlying68 rfl (fun W hS => hS.1)) HS.out ?_
  simp only [Act.put, List.setIfInBounds_toArray, List.set_cons_zero, List.set_cons_succ]
  refine ScrT.take (v := .pointer (some ⟨w2.heap.size, 2, none⟩)) rfl rfl (yw_pure (by rfl) (fun _ => by go_simp)) HS.out ?_
  simp only [Act.put, List.setIfInBounds_toArray, List.set_cons_zero, List.set_cons_succ]
  refine ScrT.take (v := .int .i64 na) rfl rfl (yw_cell 3 _ rfl ⟨w2.heap.size, 2, none⟩ (.int .i64 na) rfl (by rfl) _ Tryd.underlying3 rfl (fun W hS => hS.2)) HS.out ?_
  simp only [Act.put, List.setIfInBounds_toArray, List.set_cons_zero, List.set_cons_succ]
  refine ScrT.take (v := .int .i64 j) rfl rfl (yw_pure (by rfl) (fun _ => by go_simp)) HS.out ?_
  simp only [Act.put, List.setIfInBounds_toArray, List.set_cons_zero, List.set_cons_succ]
  refine ScrT.take (v := .agg #[.int .i64 na, .int .i64 j, .int .i64 0]) rfl rfl (yw_pure (by rfl) (fun _ => by go_simp)) HS.out ?_
  simp only [Act.put, List.setIfInBounds_toArray, List.set_cons_zero, List.set_cons_succ]
  refine ScrT.run rfl (by rfl) (fun K hK => ?_)
  go_simp
  refine hK _ _ (fun _ => HC.out.1 _ (below_al (w := X) HV.out _)) ?_
  clear hK K
  obtain ⟨Y, hY⟩ : ∃ Y, (X.alloc (.cells #[.int .i64 na, .int .i64 j, .int .i64 0] 105)).drew = Y := ⟨_, rfl⟩
  have hYB : Below X.heap.size X Y := by rw [← hY]; exact (below_al (Below.refl _ _) _).drew
  have hY1 : Y.heap[X.heap.size]? = some (.cells #[.int .i64 na, .int .i64 j, .int .i64 0] 105 (0, 0)) := by rw [← hY]; exact heap_new1 X _
  rw [hY]
  try rw [show X.drew.heap.size = X.heap.size from rfl]
  clear hY
  have hTY := HX.out.2.below C hYB
  have HY := Lib.hid (And.intro hYB (And.intro hTY hY1))
  clear hYB
  refine ScrT.run rfl (by rfl) (fun K hK => ?_)
  refine wp_app1 _ _ 68 rfl 0 105 _ 3 24 Tryd.underlying68 infoJob rfl (by decide) jv (J.reverse.map jobC) rfl hTY.mem.jobs X.heap.size [.int .i64 na, .int .i64 j, .int .i64 0] rfl rfl hY1 (by simp [Value.oneCell']) (by have := HN.out.2.2.2.2.2.1; unfold maxLen; simp only [List.length_map, List.length_reverse]; omega) (by have := HN.out.2.2.2.2.2.1; simp only [List.length_map, List.length_reverse]; omega) (Nat.zero_le _) ?_
  clear hTY hY1
  intro v' w4 hown hgrow hat
  obtain ⟨A5, c5, rfl, _, _⟩ := hown.shape
  obtain ⟨nl, hnl⟩ : ∃ nl, (J.reverse.map jobC ++ [([.int .i64 na, .int .i64 j, .int .i64 0] : List Value)]).length = nl := ⟨_, rfl⟩
  rw [hnl] at hown hat ⊢
  clear hnl
  have hk4 := HY.out.2.1.keptJ hgrow
  have HS4 := Lib.hid (HC.out.2 _ HY.out.1 w4 hk4)
  refine hK _ _ (fun _ => HS4.out) ?_
  clear hK K
  simp only [Act.put, List.setIfInBounds_toArray, List.set_cons_zero, List.set_cons_succ]
  refine ScrT.take (v := .pointer (some ⟨G, 0, none⟩)) rfl rfl (yw_pure (by rfl) (fun _ => by go_simp)) HS4.out ?_
  simp only [Act.put, List.setIfInBounds_toArray, List.set_cons_zero, List.set_cons_succ]
  refine ScrT.take (v := .pointer (some ⟨G, 1, none⟩)) rfl rfl (yw_pure (by rfl) (fun _ => by go_simp)) HS4.out ?_
  simp only [Act.put, List.setIfInBounds_toArray, List.set_cons_zero, List.set_cons_succ]
  have hT5 := HY.out.2.1.push C (.go ((na : Int), (j : Int))) (allP_iff.2 ⟨⟨by show (0 : Int) ≤ (na : Int); omega, by show (na : Int) < _; have := HA.out; omega⟩, (allP_iff.1 HN.out.1).2⟩) hown hgrow hat
  have hbG := hk4.1.trans HY.out.2.1.mem.blk
  have hG1 : w4.cell? ⟨G, 1, none⟩ = some jv := by rw [cell_of_blk hbG]; rfl
  have hGf : w4.frozen? ⟨G, 1, none⟩ = false := frozenOf hbG 1
  have hGn := heap_lt hbG
  have hbX := (hk4.2.2 _ _ _ ((HY.out.1.block _ (heap_lt HX1.out)).trans HX1.out)).trans ((HY.out.1.block _ (heap_lt HX1.out)).trans HX1.out)
  have H5 := Lib.hid (And.intro hT5 hbX)
  clear hT5 hk4 hbG hown hgrow hat hbX
  refine ScrT.run rfl (by rfl) (fun K hK => ?_)
  go_simp
  refine hK _ _ (fun h => absurd h (by decide)) ?_
  clear hK K
  simp only [ScrT]
  have hzb : (w4.setCell ⟨G, 1, none⟩ (.slice A5 nl c5)).heap[w2.heap.size]? = _ := (set_ne0 w4 (.slice A5 nl c5) (show w2.heap.size ≠ G from fun e => by omega)).trans H5.out.2
  obtain ⟨y0, y1, y2, y3, y4⟩ := cells5 hzb
  have ny := heap_lt hzb
  have hgg := H5.out.1.mem.blk
  generalize w4.setCell ⟨G, 1, none⟩ (.slice A5 nl c5) = Z at *
  go_wp2_with fail
  try go_step3
  have hT3 := H5.out.1
  have hKB := KB_le p
  exact hJ _ _ _ ⟨_, rfl, ⟨rfl, rfl, rfl, rfl, rfl⟩, .inr ⟨rfl, no, j, rfl, rfl, _, _, _, _, _, _, _, _, _, H.out.1.on hT3 HF.out (by have := HN.out.2.2.1; rw [pot_go]; omega) HL.out H.out.2.2.2.2⟩⟩ (lt_eq (by omega) (stOf_eq hT3.mem))
end Go.Proofs.YthclpabmbhpohaaDoor
namespace Go.Proofs.YthclpabmbhpohaaDoor
open Go.RowKit
set_option linter.unusedVariables false
set_option maxRecDepth 1000000 in
set_option maxHeartbeats 8000000 in
theorem on_cap (p : Pg) (ad : Addr) (c G PB : Nat) (ia : Addr) (rs : List (Int × Int)) (lg : Bool) (D : Nat → Prop) (W0 : World) (Bd : Int) (Fw : Wk (Int × Int)) (C : TryCx p ad c G PB ia rs lg D W0 Bd) (i j : Nat) (J : List (Job (Int × Int))) (fit : List Int) (S : Wk (Int × Int)) (st : Int) (bv jv fv sv : Value) (ws : List Nat) (W : World) (h : OnI p ad c G PB rs lg D W0 Bd Fw i j J fit S st bv jv fv sv ws W) (hs : S.seen ((i : Int), (j : Int)) = false) (ho : (p.get i).op = 4)
    (g : Nat → Value) (Q0 : Exit → Act → World → Prop) (hQ : ∀ (tm : Array Value) w, EndI p G rs D W0 Bd Fw w → Q0 .ret ⟨tm, []⟩ w) (hQp : ∀ c (d : Tmp) v a w, Q0 (.panic c) (a.put (some d) v) w → Q0 (.panic c) a w) (JX : Nat → Act → World → Prop) (hJ : ∀ l a w, JJ p ad c G PB ia rs lg D W0 Bd Fw l a w → st < stOf G w → JX l a w) :
    (tryR 1).wp Tryd.prog (jumps JX Q0) ⟨#[.pointer (some ⟨G, 0, none⟩), g 1, .pointer (some ia), g 3, .bool lg, g 5, .pointer (some ⟨PB, 0, none⟩), g 7, g 8, g 9, .int .i64 i, .int .i64 j, g 12, g 13, g 14, g 15, g 16, g 17, g 18, g 19, g 20, g 21, g 22, g 23, g 24, g 25, g 26, g 27, g 28, g 29, g 30, g 31, g 32, g 33, g 34, g 35, g 36, g 37, g 38, g 39, g 40, g 41, g 42, g 43, g 44, g 45, g 46, g 47, g 48, g 49, g 50, g 51, g 52, g 53, g 54, g 55, g 56, g 57, g 58, g 59, g 60, g 61, g 62, g 63, g 64, g 65, g 66, g 67, g 68, g 69, g 70, g 71, g 72, g 73, g 74, g 75, g 76, g 77, g 78, g 79, g 80, g 81, g 82, g 83, g 84, g 85, g 86, g 87, g 88, g 89, g 90, g 91, g 92, g 93, g 94, g 95, g 96, g 97, g 98, g 99, g 100, g 101, g 102, g 103, g 104, g 105, g 106, g 107, g 108, g 109, g 110, g 111, g 112, g 113, g 114, g 115, g 116, g 117, g 118, g 119, g 120, g 121, g 122, g 123, g 124, g 125, g 126, g 127, g 128, g 129, g 130, g 131, g 132, g 133, g 134, g 135, g 136, g 137, g 138, g 139, g 140, g 141, g 142, g 143, g 144, g 145, g 146, g 147, g 148, g 149, g 150, g 151, g 152, g 153, g 154, g 155, g 156, g 157, g 158, g 159, g 160, g 161, g 162, g 163, g 164, g 165, g 166, g 167, g 168, g 169, g 170, g 171, g 172, g 173, g 174, g 175, g 176, g 177, g 178, g 179, g 180, g 181, g 182, g 183, g 184, g 185, g 186, g 187, g 188, g 189, g 190, g 191, g 192, g 193, g 194, g 195, g 196, g 197, g 198, g 199, g 200, g 201, g 202, g 203, g 204, g 205, g 206, g 207, g 208, g 209, g 210, g 211, g 212, g 213, g 214, g 215, g 216, g 217, g 218, g 219, g 220, g 221, g 222, g 223, g 224, g 225, g 226, g 227, g 228, g 229, g 230, g 231, g 232, g 233, g 234, g 235, g 236, g 237, g 238, g 239, g 240, g 241, g 242, g 243, g 244], []⟩ W := by
  obtain ⟨n, jL, gb, cb, Y, ws', hw1, hw2, hw0, rfl, hfr, hT2⟩ := on_begin C h
  obtain ⟨c0, c1, c2, c3, c4, f, nG, x0, x1, x2, nP, ne, ne2⟩ := h.1.cells
  have f4 := f 4
  rw [hs] at hfr
  have hi := h.2.2.2.1
  have hj := h.2.2.2.2
  have H := Lib.hid (And.intro h (And.intro hT2 (And.intro hs (And.intro hi hj))))
  clear h hT2 hs hi hj f c0 c1 c2 c3 x1 x2
  conv => arg 2; whnf
  go_wp2_with fail
  refine hfr.mono ?_
  clear hfr hw1 hw2 hw0 c4 f4 nG x0 nP ne ne2
  rintro e w2 ⟨rfl, rfl⟩
  dsimp only
  obtain ⟨c0, c1, c2, c3, c4, f, nG, x0, x1, x2, nP, ne, ne2⟩ := H.out.2.1.cells
  obtain ⟨B3, d3, hadD, hadb, hd3, hd3m, hset, k0, k1, k2, k3, k4⟩ := ins_D (C.pg.touch H.out.2.1.tch) i H.out.2.2.2.1
  have hge := get_at p i H.out.2.2.2.1
  have hq : ((i : Int), (j : Int)) ∈ allP p rs.length := allP_iff.2 ⟨⟨by show (0 : Int) ≤ (i : Int); omega, by show (i : Int) < _; have := H.out.2.2.2.1; omega⟩, by show (0 : Int) ≤ (j : Int); omega, by show (j : Int) < _; have := H.out.2.2.2.2; omega⟩
  have hgo := check_good C.chk (show Pc p ((i : Nat) : Int) from (allP_iff.1 hq).1)
  have hpm := pot_le (K := KB p) (J := J) hq H.out.2.2.1
  have hJl : J.length ≤ 1000000000000 := by have h1 := pot_len (KB p) (allP p rs.length) J S; have h2 := H.out.1.2.2.1; have h3 := C.bd; have h4 := H.out.1.1.pos; omega
  have hfr := hJl
  have hnc : ∃ na : Nat, (p.get (i : Int)).arg = (na : Int) ∧ na < fit.length := by
    have h1 := hgo.cap ho
    have h2 := H.out.1.1.len
    exact ⟨(p.get (i : Int)).arg.toNat, by omega, by omega⟩
  obtain ⟨na, hna, hnf⟩ := hnc
  have HF0 := fin_capB (rn := runeAt rs) (av := atOf rs) (lg := lg) (S := S) (J := J) (c := fit) (q := ((i : Int), (j : Int))) C.chk hq H.out.2.1.hal H.out.2.2.1 ho hna hnf
  simp only [hge, List.map_cons, List.map_nil, List.nil_append, List.cons_append] at HF0
  have HN := Lib.hid (And.intro hq (And.intro hgo (And.intro hpm (And.intro hset (And.intro hadD (And.intro hJl ho))))))
  clear hq hgo hpm hset hfr
  have hi : i < p.ins.length := H.out.2.2.2.1
  have hxs : p.ins[i].set.length ≤ 1000000000 := C.set _ (List.getElem_mem hi)
  rw [hge] at ho HN
  rw [hge] at hna
  clear hge hadD
  generalize p.ins[i] = x at *
  have o1 : (x.op == 1) = false := by rw [ho]; rfl
  have o2 : (x.op == 2) = false := by rw [ho]; rfl
  have o3 : (x.op == 3) = false := by rw [ho]; rfl
  have o4 : (x.op == 4) = true := by rw [ho]; rfl
  have o5 : (x.op == 5) = false := by rw [ho]; rfl
  clear ho
  have hpo := HN.out.2.1.out (by have := HN.out.2.2.2.2.2.2; omega)
  obtain ⟨no, hno⟩ : ∃ no : Nat, x.out = (no : Int) := ⟨x.out.toNat, by have := hpo.1; omega⟩
  have HL := Lib.hid (show no < p.ins.length by have := hpo.2; omega)
  rw [hno] at k1
  try rw [hno] at HF0
  have hpa := HN.out.2.1.cap (by have := HN.out.2.2.2.2.2.2; omega)
  have HA := Lib.hid (show 2 ≤ na ∧ (na : Int) < p.caps by omega)
  rw [hna] at k2
  have HF := Lib.hid HF0
  clear HF0 hpo hno hpa hna
  obtain ⟨gf, cf, hfe, _, _, _, _⟩ := own_lit H.out.2.1.mem.fit (by rw [List.length_map]; omega)
  rw [List.length_map] at hfe
  subst hfe
  obtain ⟨fo, hfo⟩ : ∃ fo : Int, fit[na] = fo := ⟨_, rfl⟩
  rw [hfo] at HF
  go_wp2_with fail
  obtain ⟨X, hX⟩ : ∃ X, w2.alloc (.cells #[.int .i64 x.op, .int .i64 no, .int .i64 na, .slice B3 x.set.length d3, .int .i64 x.at_] 64) = X := ⟨_, rfl⟩
  have hXB : Below w2.heap.size w2 X := by rw [← hX]; exact below_al (Below.refl _ _) _
  have hX1 : X.heap[w2.heap.size]? = some (.cells #[.int .i64 x.op, .int .i64 no, .int .i64 na, .slice B3 x.set.length d3, .int .i64 x.at_] 64 (0, 0)) := by rw [← hX]; exact heap_new1 _ _
  rw [hX]
  clear hX
  have hT3 := H.out.2.1.below C hXB
  have HX1 := Lib.hid hX1
  have HX := Lib.hid (And.intro hXB hT3)
  clear hX1 hXB hT3
  have hfc : X.cell? ⟨gf, na, none⟩ = some (.int .i64 fo) := by
    have h9 := HX.out.2.mem.fit.1
    rw [flat_i64] at h9
    have := h9.cells (g := gf) rfl na (.int .i64 fit[na]) (by rw [List.getElem?_map, List.getElem?_eq_getElem hnf]; rfl)
    rwa [Addr.add_mid, Nat.zero_add, hfo] at this
  have HFO := Lib.hid hfc
  clear hfc hfo
  have HC : Hid ((∀ W, Below X.heap.size X W → W.cell? ⟨G, 1, none⟩ = some jv ∧ W.cell? ⟨w2.heap.size, 2, none⟩ = some (.int .i64 na) ∧ W.cell? ⟨G, 2, none⟩ = some (.slice (some ⟨gf, 0, none⟩) fit.length cf) ∧ W.cell? ⟨gf, na, none⟩ = some (.int .i64 fo)) ∧ (∀ Y, Below X.heap.size X Y → ∀ W : World, (W.heap[G]? = Y.heap[G]? ∧ W.heap[PB]? = Y.heap[PB]? ∧ ∀ (b : Nat) (cs : Array Value) (fr : Nat × Nat), Y.heap[b]? = some (.cells cs 64 fr) → W.heap[b]? = Y.heap[b]?) → W.heap[gf]? = Y.heap[gf]? → W.cell? ⟨G, 1, none⟩ = some jv ∧ W.cell? ⟨w2.heap.size, 2, none⟩ = some (.int .i64 na) ∧ W.cell? ⟨G, 2, none⟩ = some (.slice (some ⟨gf, 0, none⟩) fit.length cf) ∧ W.cell? ⟨gf, na, none⟩ = some (.int .i64 fo))) := Lib.hid (by
    have hg := HX.out.2.mem.blk
    have hfo := HFO.out
    have hgf : gf < X.heap.size := World.block_lt_of_cell? X _ hfo
    refine ⟨fun W hW => ⟨by rw [cell_of_blk ((hW.block _ (heap_lt hg)).trans hg)]; rfl, by rw [cell_of_blk ((hW.block _ (heap_lt HX1.out)).trans HX1.out)]; rfl, by rw [cell_of_blk ((hW.block _ (heap_lt hg)).trans hg)]; rfl, (World.cell?_of_block (hW.block _ hgf)).trans hfo⟩, fun Y hY W hW hWf => ?_⟩
    have h1 := (hY.block _ (heap_lt hg)).trans hg
    have h2 := (hY.block _ (heap_lt HX1.out)).trans HX1.out
    exact ⟨by rw [cell_of_blk (hW.1.trans h1)]; rfl, by rw [cell_of_blk ((hW.2.2 _ _ _ h2).trans h2)]; rfl, by rw [cell_of_blk (hW.1.trans h1)]; rfl, (World.cell?_of_block (hWf.trans (hY.block _ hgf))).trans hfo⟩)
  clear c0 c1 c2 c3 c4 f x0 x1 x2 nP k0 k1 k2 k3 k4 hadb
  refine wp_region_scrT (fun W' => W'.cell? ⟨G, 1, none⟩ = some jv ∧ W'.cell? ⟨w2.heap.size, 2, none⟩ = some (.int .i64 na) ∧ W'.cell? ⟨G, 2, none⟩ = some (.slice (some ⟨gf, 0, none⟩) fit.length cf) ∧ W'.cell? ⟨gf, na, none⟩ = some (.int .i64 fo)) 20 [(true, 0, 204), (true, 1, 205), (true, 2, 206), (true, 3, 207), (true, 4, 208), (true, 5, 209), (true, 6, 210), (true, 7, 211), (true, 8, 212), (true, 9, 213), (true, 10, 214), (true, 11, 215), (true, 12, 216), (true, 13, 217), (true, 14, 218), (true, 15, 219), (false, 16, 220), (false, 17, 221), (true, 18, 222), (true, 19, 223), (false, 20, 0)] (by kernel_rfl) (by kernel_rfl) (by kernel_rfl) (by kernel_rfl) rfl (fun c d v a w h => hQp c d v a w h) rfl (by kernel_rfl) ?_
  have HV := Lib.hid (show Below X.heap.size X X.drew from (Below.refl _ _).drew)
  have HS := Lib.hid (HC.out.1 _ HV.out)
  refine ScrT.take (v := .pointer (some ⟨G, 0, none⟩)) rfl rfl (yw_pure (by rfl) (fun _ => by go_simp)) HS.out ?_
  simp only [Act.put, List.setIfInBounds_toArray, List.set_cons_zero, List.set_cons_succ]
  refine ScrT.take (v := .pointer (some ⟨G, 0, none⟩)) rfl rfl (yw_pure (by rfl) (fun _ => by go_simp)) HS.out ?_
  simp only [Act.put, List.setIfInBounds_toArray, List.set_cons_zero, List.set_cons_succ]
  refine ScrT.take (v := .pointer (some ⟨G, 0, none⟩)) rfl rfl (yw_pure (by rfl) (fun _ => by go_simp)) HS.out ?_
  simp only [Act.put, List.setIfInBounds_toArray, List.set_cons_zero, List.set_cons_succ]
  refine ScrT.take (v := .pointer (some ⟨G, 1, none⟩)) rfl rfl (yw_pure (by rfl) (fun _ => by go_simp)) HS.out ?_
  simp only [Act.put, List.setIfInBounds_toArray, List.set_cons_zero, List.set_cons_succ]
  refine ScrT.take (v := jv) rfl rfl (yw_cell 68 _ rfl ⟨G, 1, none⟩ (jv) rfl (by rfl) _ Tryd.underlying68 rfl (fun W hS => hS.1)) HS.out ?_
  simp only [Act.put, List.setIfInBounds_toArray, List.set_cons_zero, List.set_cons_succ]
  refine ScrT.take (v := .pointer (some ⟨w2.heap.size, 2, none⟩)) rfl rfl (yw_pure (by rfl) (fun _ => by go_simp)) HS.out ?_
  simp only [Act.put, List.setIfInBounds_toArray, List.set_cons_zero, List.set_cons_succ]
  refine ScrT.take (v := .int .i64 na) rfl rfl (yw_cell 3 _ rfl ⟨w2.heap.size, 2, none⟩ (.int .i64 na) rfl (by rfl) _ Tryd.underlying3 rfl (fun W hS => hS.2.1)) HS.out ?_
  simp only [Act.put, List.setIfInBounds_toArray, List.set_cons_zero, List.set_cons_succ]
  refine ScrT.take (v := .pointer (some ⟨G, 0, none⟩)) rfl rfl (yw_pure (by rfl) (fun _ => by go_simp)) HS.out ?_
  simp only [Act.put, List.setIfInBounds_toArray, List.set_cons_zero, List.set_cons_succ]
  refine ScrT.take (v := .pointer (some ⟨G, 0, none⟩)) rfl rfl (yw_pure (by rfl) (fun _ => by go_simp)) HS.out ?_
  simp only [Act.put, List.setIfInBounds_toArray, List.set_cons_zero, List.set_cons_succ]
  refine ScrT.take (v := .pointer (some ⟨G, 2, none⟩)) rfl rfl (yw_pure (by rfl) (fun _ => by go_simp)) HS.out ?_
  simp only [Act.put, List.setIfInBounds_toArray, List.set_cons_zero, List.set_cons_succ]
  refine ScrT.take (v := .slice (some ⟨gf, 0, none⟩) fit.length cf) rfl rfl (yw_cell 35 _ rfl ⟨G, 2, none⟩ (.slice (some ⟨gf, 0, none⟩) fit.length cf) rfl (by rfl) _ Tryd.underlying35 rfl (fun W hS => hS.2.2.1)) HS.out ?_
  simp only [Act.put, List.setIfInBounds_toArray, List.set_cons_zero, List.set_cons_succ]
  refine ScrT.take (v := .pointer (some ⟨w2.heap.size, 2, none⟩)) rfl rfl (yw_pure (by rfl) (fun _ => by go_simp)) HS.out ?_
  simp only [Act.put, List.setIfInBounds_toArray, List.set_cons_zero, List.set_cons_succ]
  refine ScrT.take (v := .int .i64 na) rfl rfl (yw_cell 3 _ rfl ⟨w2.heap.size, 2, none⟩ (.int .i64 na) rfl (by rfl) _ Tryd.underlying3 rfl (fun W hS => hS.2.1)) HS.out ?_
  simp only [Act.put, List.setIfInBounds_toArray, List.set_cons_zero, List.set_cons_succ]
  refine ScrT.take (v := .pointer (some ⟨gf, na, none⟩)) rfl rfl (yw_pure (by rfl) (fun _ => by go_simp)) HS.out ?_
  simp only [Act.put, List.setIfInBounds_toArray, List.set_cons_zero, List.set_cons_succ]
  refine ScrT.take (v := .int .i64 fo) rfl rfl (yw_cell 3 _ rfl ⟨gf, na, none⟩ (.int .i64 fo) rfl (by rfl) _ Tryd.underlying3 rfl (fun W hS => hS.2.2.2)) HS.out ?_
  simp only [Act.put, List.setIfInBounds_toArray, List.set_cons_zero, List.set_cons_succ]
  refine ScrT.take (v := .agg #[.int .i64 (-1), .int .i64 fo, .int .i64 na]) rfl rfl (yw_pure (by rfl) (fun _ => by go_simp)) HS.out ?_
  simp only [Act.put, List.setIfInBounds_toArray, List.set_cons_zero, List.set_cons_succ]
  refine ScrT.run rfl (by rfl) (fun K hK => ?_)
  go_simp
  refine hK _ _ (fun _ => HC.out.1 _ (below_al (w := X) HV.out _)) ?_
  clear hK K
  obtain ⟨Y, hY⟩ : ∃ Y, (X.alloc (.cells #[.int .i64 (-1), .int .i64 fo, .int .i64 na] 105)).drew = Y := ⟨_, rfl⟩
  have hYB : Below X.heap.size X Y := by rw [← hY]; exact (below_al (Below.refl _ _) _).drew
  have hY1 : Y.heap[X.heap.size]? = some (.cells #[.int .i64 (-1), .int .i64 fo, .int .i64 na] 105 (0, 0)) := by rw [← hY]; exact heap_new1 X _
  rw [hY]
  try rw [show X.drew.heap.size = X.heap.size from rfl]
  clear hY
  have hTY := HX.out.2.below C hYB
  have HY := Lib.hid (And.intro hYB (And.intro hTY hY1))
  clear hYB
  refine ScrT.run rfl (by rfl) (fun K hK => ?_)
  refine wp_app1 _ _ 68 rfl 0 105 _ 3 24 Tryd.underlying68 infoJob rfl (by decide) jv (J.reverse.map jobC) rfl hTY.mem.jobs X.heap.size [.int .i64 (-1), .int .i64 fo, .int .i64 na] rfl rfl hY1 (by simp [Value.oneCell']) (by have := HN.out.2.2.2.2.2.1; unfold maxLen; simp only [List.length_map, List.length_reverse]; omega) (by have := HN.out.2.2.2.2.2.1; simp only [List.length_map, List.length_reverse]; omega) (Nat.zero_le _) ?_
  clear hTY hY1
  intro v' w4 hown hgrow hat
  obtain ⟨A5, c5, rfl, _, _⟩ := hown.shape
  obtain ⟨nl, hnl⟩ : ∃ nl, (J.reverse.map jobC ++ [([.int .i64 (-1), .int .i64 fo, .int .i64 na] : List Value)]).length = nl := ⟨_, rfl⟩
  rw [hnl] at hown hat ⊢
  clear hnl
  have hk4 := HY.out.2.1.keptJ hgrow
  have hgf4 : w4.heap[gf]? = Y.heap[gf]? := by
    have h9 := HY.out.2.1.mem.row HY.out.2.1.mem.jobs hgrow
    exact hgrow.block gf ((HY.out.2.1.mem.fit.1.lt gf rfl).2) (by
      have hty : TyB 3 Y gf := own_ty HY.out.2.1.mem.fit rfl
      exact hty.ne_own HY.out.2.1.mem.jobs (by decide))
  have HS4 := Lib.hid (HC.out.2 _ HY.out.1 w4 hk4 hgf4)
  refine hK _ _ (fun _ => HS4.out) ?_
  clear hK K
  simp only [Act.put, List.setIfInBounds_toArray, List.set_cons_zero, List.set_cons_succ]
  refine ScrT.take (v := .pointer (some ⟨G, 0, none⟩)) rfl rfl (yw_pure (by rfl) (fun _ => by go_simp)) HS4.out ?_
  simp only [Act.put, List.setIfInBounds_toArray, List.set_cons_zero, List.set_cons_succ]
  refine ScrT.take (v := .pointer (some ⟨G, 1, none⟩)) rfl rfl (yw_pure (by rfl) (fun _ => by go_simp)) HS4.out ?_
  simp only [Act.put, List.setIfInBounds_toArray, List.set_cons_zero, List.set_cons_succ]
  have hT5 := HY.out.2.1.push C (.back na fo) (HA.out) hown hgrow hat
  have hbG := hk4.1.trans HY.out.2.1.mem.blk
  have hG1 : w4.cell? ⟨G, 1, none⟩ = some jv := by rw [cell_of_blk hbG]; rfl
  have hGf : w4.frozen? ⟨G, 1, none⟩ = false := frozenOf hbG 1
  have hGn := heap_lt hbG
  have hbX := (hk4.2.2 _ _ _ ((HY.out.1.block _ (heap_lt HX1.out)).trans HX1.out)).trans ((HY.out.1.block _ (heap_lt HX1.out)).trans HX1.out)
  have H5 := Lib.hid (And.intro hT5 hbX)
  clear hT5 hk4 hbG hown hgrow hat hbX
  refine ScrT.run rfl (by rfl) (fun K hK => ?_)
  go_simp
  refine hK _ _ (fun h => absurd h (by decide)) ?_
  clear hK K
  simp only [ScrT]
  have hzb : (w4.setCell ⟨G, 1, none⟩ (.slice A5 nl c5)).heap[w2.heap.size]? = _ := (set_ne0 w4 (.slice A5 nl c5) (show w2.heap.size ≠ G from fun e => by omega)).trans H5.out.2
  obtain ⟨Z, hZ⟩ : ∃ Z, w4.setCell ⟨G, 1, none⟩ (.slice A5 nl c5) = Z := ⟨_, rfl⟩
  rw [hZ] at hzb H5 ⊢
  clear hZ
  have HZ := Lib.hid hzb
  clear hzb
  have hgg := H5.out.1.mem.blk
  have hngf := (H5.out.1.mem.fit.1.lt gf rfl).2
  obtain ⟨cuf, hkf⟩ := own_blk H5.out.1.mem.fit rfl
  have hff : Z.frozen? ⟨gf, na, none⟩ = false := frozenOf hkf na
  have hfc : ∃ u, Z.cell? ⟨gf, na, none⟩ = some u := by
    have h9 := H5.out.1.mem.fit.1
    rw [flat_i64] at h9
    have := h9.cells (g := gf) rfl na (.int .i64 fit[na]) (by rw [List.getElem?_map, List.getElem?_eq_getElem hnf]; rfl)
    rw [Addr.add_mid, Nat.zero_add] at this
    exact ⟨_, this⟩
  obtain ⟨u9, hfc⟩ := hfc
  have HC2 : Hid (∀ W, Below Z.heap.size Z W → W.cell? ⟨G, 2, none⟩ = some (.slice (some ⟨gf, 0, none⟩) fit.length cf) ∧ W.cell? ⟨w2.heap.size, 2, none⟩ = some (.int .i64 na)) := Lib.hid (fun W hW => ⟨by rw [cell_of_blk ((hW.block _ (heap_lt hgg)).trans hgg)]; rfl, by rw [cell_of_blk ((hW.block _ (heap_lt HZ.out)).trans HZ.out)]; rfl⟩)
  clear hkf hgg
  go_wp2_with fail
  refine wp_region_scrT (fun W' => W'.cell? ⟨G, 2, none⟩ = some (.slice (some ⟨gf, 0, none⟩) fit.length cf) ∧ W'.cell? ⟨w2.heap.size, 2, none⟩ = some (.int .i64 na)) 8 [(true, 0, 224), (true, 1, 225), (true, 2, 226), (true, 3, 227), (true, 4, 228), (true, 5, 229), (true, 6, 230), (true, 7, 231), (false, 8, 0)] (by kernel_rfl) (by kernel_rfl) (by kernel_rfl) (by kernel_rfl) rfl (fun c d v a w h => hQp c d v a w h) rfl (by kernel_rfl) ?_
  have HS2 := Lib.hid (HC2.out _ (Below.refl _ _).drew)
  refine ScrT.take (v := .pointer (some ⟨G, 0, none⟩)) rfl rfl (yw_pure (by rfl) (fun _ => by go_simp)) HS2.out ?_
  simp only [Act.put, List.setIfInBounds_toArray, List.set_cons_zero, List.set_cons_succ]
  refine ScrT.take (v := .pointer (some ⟨G, 0, none⟩)) rfl rfl (yw_pure (by rfl) (fun _ => by go_simp)) HS2.out ?_
  simp only [Act.put, List.setIfInBounds_toArray, List.set_cons_zero, List.set_cons_succ]
  refine ScrT.take (v := .pointer (some ⟨G, 2, none⟩)) rfl rfl (yw_pure (by rfl) (fun _ => by go_simp)) HS2.out ?_
  simp only [Act.put, List.setIfInBounds_toArray, List.set_cons_zero, List.set_cons_succ]
  refine ScrT.take (v := .slice (some ⟨gf, 0, none⟩) fit.length cf) rfl rfl (yw_cell 35 _ rfl ⟨G, 2, none⟩ (.slice (some ⟨gf, 0, none⟩) fit.length cf) rfl (by rfl) _ Tryd.underlying35 rfl (fun W hS => hS.1)) HS2.out ?_
  simp only [Act.put, List.setIfInBounds_toArray, List.set_cons_zero, List.set_cons_succ]
  refine ScrT.take (v := .pointer (some ⟨w2.heap.size, 2, none⟩)) rfl rfl (yw_pure (by rfl) (fun _ => by go_simp)) HS2.out ?_
  simp only [Act.put, List.setIfInBounds_toArray, List.set_cons_zero, List.set_cons_succ]
  refine ScrT.take (v := .int .i64 na) rfl rfl (yw_cell 3 _ rfl ⟨w2.heap.size, 2, none⟩ (.int .i64 na) rfl (by rfl) _ Tryd.underlying3 rfl (fun W hS => hS.2)) HS2.out ?_
  simp only [Act.put, List.setIfInBounds_toArray, List.set_cons_zero, List.set_cons_succ]
  refine ScrT.take (v := .int .i64 j) rfl rfl (yw_pure (by rfl) (fun _ => by go_simp)) HS2.out ?_
  simp only [Act.put, List.setIfInBounds_toArray, List.set_cons_zero, List.set_cons_succ]
  refine ScrT.take (v := .pointer (some ⟨gf, na, none⟩)) rfl rfl (yw_pure (by rfl) (fun _ => by go_simp)) HS2.out ?_
  simp only [Act.put, List.setIfInBounds_toArray, List.set_cons_zero, List.set_cons_succ]
  refine ScrT.run rfl (by rfl) (fun K hK => ?_)
  go_simp
  refine hK _ _ (fun h => absurd h (by decide)) ?_
  clear hK K
  simp only [ScrT]
  have hT6 := (H5.out.1.below C (W' := Z.drew) (Below.refl _ _).drew).putFit C rfl na (j : Int)
  have hzb6 : (Z.setCell ⟨gf, na, none⟩ (.int .i64 (j : Int))).drew.heap[w2.heap.size]? = _ := (set_ne0 Z.drew (a := ⟨gf, na, none⟩) (.int .i64 (j : Int)) (show w2.heap.size ≠ gf from fun e => by
    have hty : TyB 64 Z w2.heap.size := ⟨_, _, HZ.out⟩
    exact hty.ne_own H5.out.1.mem.fit (by decide) (by rw [e]; rfl))).trans (show Z.drew.heap[w2.heap.size]? = _ from HZ.out)
  obtain ⟨y0, y1, y2, y3, y4⟩ := cells5 hzb6
  have ny := heap_lt hzb6
  have H6 := Lib.hid hT6
  clear hT6 hzb6 hfc hff hngf
  go_wp2_with fail
  try go_step3
  have hT3 := H6.out
  have hKB := KB_le p
  exact hJ _ _ _ ⟨_, rfl, ⟨rfl, rfl, rfl, rfl, rfl⟩, .inr ⟨rfl, no, j, rfl, rfl, _, _, _, _, _, _, _, _, _, H.out.1.on hT3 HF.out (by have := HN.out.2.2.1; rw [pot_back]; omega) HL.out H.out.2.2.2.2⟩⟩ (lt_eq (by omega) (stOf_eq hT3.mem))
end Go.Proofs.YthclpabmbhpohaaDoor
namespace Go.Proofs.YthclpabmbhpohaaDoor
open Go.RowKit
set_option linter.unusedVariables false
set_option maxRecDepth 1000000 in
set_option maxHeartbeats 8000000 in
theorem on_mat_none_true (p : Pg) (ad : Addr) (c G PB : Nat) (ia : Addr) (rs : List (Int × Int)) (lg : Bool) (D : Nat → Prop) (W0 : World) (Bd : Int) (Fw : Wk (Int × Int)) (C : TryCx p ad c G PB ia rs lg D W0 Bd) (i j : Nat) (J : List (Job (Int × Int))) (fit : List Int) (S : Wk (Int × Int)) (st : Int) (bv jv fv sv : Value) (ws : List Nat) (W : World) (h : OnI p ad c G PB rs lg D W0 Bd Fw i j J fit S st bv jv fv sv ws W) (hs : S.seen ((i : Int), (j : Int)) = false) (ho : (p.get i).op = 1) (hlg : lg = true) (hb : S.best = none)
    (g : Nat → Value) (Q0 : Exit → Act → World → Prop) (hQ : ∀ (tm : Array Value) w, EndI p G rs D W0 Bd Fw w → Q0 .ret ⟨tm, []⟩ w) (hQp : ∀ c (d : Tmp) v a w, Q0 (.panic c) (a.put (some d) v) w → Q0 (.panic c) a w) (JX : Nat → Act → World → Prop) (hJ : ∀ l a w, JJ p ad c G PB ia rs lg D W0 Bd Fw l a w → st < stOf G w → JX l a w) :
    (tryR 1).wp Tryd.prog (jumps JX Q0) ⟨#[.pointer (some ⟨G, 0, none⟩), g 1, .pointer (some ia), g 3, .bool lg, g 5, .pointer (some ⟨PB, 0, none⟩), g 7, g 8, g 9, .int .i64 i, .int .i64 j, g 12, g 13, g 14, g 15, g 16, g 17, g 18, g 19, g 20, g 21, g 22, g 23, g 24, g 25, g 26, g 27, g 28, g 29, g 30, g 31, g 32, g 33, g 34, g 35, g 36, g 37, g 38, g 39, g 40, g 41, g 42, g 43, g 44, g 45, g 46, g 47, g 48, g 49, g 50, g 51, g 52, g 53, g 54, g 55, g 56, g 57, g 58, g 59, g 60, g 61, g 62, g 63, g 64, g 65, g 66, g 67, g 68, g 69, g 70, g 71, g 72, g 73, g 74, g 75, g 76, g 77, g 78, g 79, g 80, g 81, g 82, g 83, g 84, g 85, g 86, g 87, g 88, g 89, g 90, g 91, g 92, g 93, g 94, g 95, g 96, g 97, g 98, g 99, g 100, g 101, g 102, g 103, g 104, g 105, g 106, g 107, g 108, g 109, g 110, g 111, g 112, g 113, g 114, g 115, g 116, g 117, g 118, g 119, g 120, g 121, g 122, g 123, g 124, g 125, g 126, g 127, g 128, g 129, g 130, g 131, g 132, g 133, g 134, g 135, g 136, g 137, g 138, g 139, g 140, g 141, g 142, g 143, g 144, g 145, g 146, g 147, g 148, g 149, g 150, g 151, g 152, g 153, g 154, g 155, g 156, g 157, g 158, g 159, g 160, g 161, g 162, g 163, g 164, g 165, g 166, g 167, g 168, g 169, g 170, g 171, g 172, g 173, g 174, g 175, g 176, g 177, g 178, g 179, g 180, g 181, g 182, g 183, g 184, g 185, g 186, g 187, g 188, g 189, g 190, g 191, g 192, g 193, g 194, g 195, g 196, g 197, g 198, g 199, g 200, g 201, g 202, g 203, g 204, g 205, g 206, g 207, g 208, g 209, g 210, g 211, g 212, g 213, g 214, g 215, g 216, g 217, g 218, g 219, g 220, g 221, g 222, g 223, g 224, g 225, g 226, g 227, g 228, g 229, g 230, g 231, g 232, g 233, g 234, g 235, g 236, g 237, g 238, g 239, g 240, g 241, g 242, g 243, g 244], []⟩ W := by
  obtain ⟨n, jL, gb, cb, Y, ws', hw1, hw2, hw0, rfl, hfr, hT2⟩ := on_begin C h
  obtain ⟨c0, c1, c2, c3, c4, f, nG, x0, x1, x2, nP, ne, ne2⟩ := h.1.cells
  have f4 := f 4
  rw [hs] at hfr
  have hi := h.2.2.2.1
  have hj := h.2.2.2.2
  have H := Lib.hid (And.intro h (And.intro hT2 (And.intro hs (And.intro hi hj))))
  clear h hT2 hs hi hj f c0 c1 c2 c3 x1 x2
  conv => arg 2; whnf
  go_wp2_with fail
  refine hfr.mono ?_
  clear hfr hw1 hw2 hw0 c4 f4 nG x0 nP ne ne2
  rintro e w2 ⟨rfl, rfl⟩
  dsimp only
  obtain ⟨c0, c1, c2, c3, c4, f, nG, x0, x1, x2, nP, ne, ne2⟩ := H.out.2.1.cells
  obtain ⟨B3, d3, hadD, hadb, hd3, hd3m, hset, k0, k1, k2, k3, k4⟩ := ins_D (C.pg.touch H.out.2.1.tch) i H.out.2.2.2.1
  have hge := get_at p i H.out.2.2.2.1
  have hq : ((i : Int), (j : Int)) ∈ allP p rs.length := allP_iff.2 ⟨⟨by show (0 : Int) ≤ (i : Int); omega, by show (i : Int) < _; have := H.out.2.2.2.1; omega⟩, by show (0 : Int) ≤ (j : Int); omega, by show (j : Int) < _; have := H.out.2.2.2.2; omega⟩
  have hgo := check_good C.chk (show Pc p ((i : Nat) : Int) from (allP_iff.1 hq).1)
  have hpm := pot_le (K := KB p) (J := J) hq H.out.2.2.1
  have hfr := C.newW H.out.2.1.tch
  have HF0 := fin_matB (p := p) (rn := runeAt rs) (av := atOf rs) (lg := lg) (M := rs.length) (S := S) (J := J) (c := fit) (q := ((i : Int), (j : Int))) H.out.1.1.hal H.out.2.2.1 ho
  have hbo : bestOf (gB p (runeAt rs) (atOf rs) lg rs.length) ((i : Int), (j : Int)) fit S.best = some (fit.set 1 (j : Int)) := by
    rw [hb]
    rfl
  rw [hbo] at HF0
  have hc2 := (check_ok C.chk).2.2.2.1
  have hfl : 2 ≤ fit.length ∧ fit.length ≤ 4002 := by have h1 := H.out.1.1.len; have h2 := (check_ok C.chk).2.2.2.2.1; omega
  have HN := Lib.hid (And.intro hq (And.intro hgo (And.intro hpm (And.intro hset (And.intro hadD (And.intro hfr ho))))))
  clear hq hgo hpm hset hfr
  have hi : i < p.ins.length := H.out.2.2.2.1
  have hxs : p.ins[i].set.length ≤ 1000000000 := C.set _ (List.getElem_mem hi)
  rw [hge] at ho HN
  clear hge hadD
  generalize p.ins[i] = x at *
  have o1 : (x.op == 1) = true := by rw [ho]; rfl
  have o2 : (x.op == 2) = false := by rw [ho]; rfl
  have o3 : (x.op == 3) = false := by rw [ho]; rfl
  have o4 : (x.op == 4) = false := by rw [ho]; rfl
  have o5 : (x.op == 5) = false := by rw [ho]; rfl
  clear ho
  subst hlg
  have HF := Lib.hid HF0
  have HFL := Lib.hid (And.intro hfl hc2)
  clear HF0 hbo hc2
  obtain ⟨gf, cf, hfe, _, _, hgfn, _⟩ := own_lit H.out.2.1.mem.fit (by rw [List.length_map]; omega)
  rw [List.length_map] at hfe
  subst hfe
  have hbm : BestO w2 (.slice (some ⟨gf, 0, none⟩) fit.length cf) sv S.best := H.out.2.1.mem.best
  rw [hb] at hbm
  obtain rfl : sv = .slice none 0 0 := hbm
  have heqn := fun (W : World) (a : Option Addr) (n c : Nat) => Lib.run_eql_slice_nil (P := Tryd.prog) W 35 3 a n c 0 0 Tryd.underlying35
  have HB := Lib.hid hb
  clear hb
  have hT3 := H.out.2.1.below C (below_al (Below.refl _ _) (.cells #[.int .i64 x.op, .int .i64 x.out, .int .i64 x.arg, .slice B3 x.set.length d3, .int .i64 x.at_] 64))
  have hcl := cloneI_any (fun k => 0 ≤ k) (w2.alloc (.cells #[.int .i64 x.op, .int .i64 x.out, .int .i64 x.arg, .slice B3 x.set.length d3, .int .i64 x.at_] 64)) (some ⟨gf, 0, none⟩) cf fit (ownI64_arr0 hT3.mem.fit) (by omega) (by omega)
  have HT3 := Lib.hid hT3
  clear hT3
  go_wp2_with fail
  refine hcl.mono ?_
  clear hcl
  rintro e w4 ⟨g', c', rfl, hown, hb4⟩
  dsimp only
  have hT4 := HT3.out.below C hb4
  have hgn : w2.heap.size < g' := by have := (hown.lt g' rfl).1; rw [World.size_alloc] at this; omega
  have hgG : (g' = G) = False := by simp; omega
  have hgG2 : (G = g') = False := by simp; omega
  clear c0 c1 c2 c3 c4 f nG x0 x1 x2 nP ne ne2 k0 k1 k2 k3 k4 hadb
  obtain ⟨c0, c1, c2, c3, c4, f, nG, x0, x1, x2, nP, ne, ne2⟩ := hT4.cells
  have f3 := f 3
  have ownw : Owns w4 0 3 1 (.slice (some ⟨g', 0, none⟩) fit.length c') (fit.map i64C) := ⟨World.ownsRow.mono hown.1 (Nat.zero_le _), hown.2⟩
  obtain ⟨cuw, hkw⟩ := own_blk ownw rfl
  have hgw := heap_lt hkw
  have hgfz : w4.frozen? ⟨g', 1, none⟩ = false := frozenOf hkw 1
  have hcw : ∃ u, w4.cell? ⟨g', 1, none⟩ = some u := by
    have h9 := ownw.1
    rw [flat_i64] at h9
    have := h9.cells (g := g') rfl 1 (.int .i64 fit[1]) (by rw [List.getElem?_map, List.getElem?_eq_getElem (by omega)]; rfl)
    rw [Addr.add_mid, Nat.zero_add] at this
    exact ⟨_, this⟩
  obtain ⟨u9, hcw⟩ := hcw
  have hDg : D g' := C.newW H.out.2.1.tch g' (Nat.le_of_lt hgn)
  have hm5 := (hT4.mem.setBest HFL.out.1.1 ownw (by show some g' ≠ some gf; intro e; cases e; omega)).putBest rfl 1 (j : Int)
  have ht5 := hT4.tch.trans ((TouchD.set (j := 3) w4 (.slice (some ⟨g', 0, none⟩) fit.length c') C.dG).trans (TouchD.set (j := 1) _ (.int .i64 (j : Int)) hDg))
  have H4 := Lib.hid (And.intro hT4 (And.intro hm5 (And.intro ht5 hDg)))
  have hPg : (PB = g') = False := eq_false (fun e => by have hty : TyB 28 w4 PB := ⟨_, _, hT4.box⟩; exact hty.ne_own ownw (by decide) (by rw [e]; rfl))
  have HPG := Lib.hid hPg
  clear hT4 hm5 ht5 hkw ownw hown hb4 f hPg hDg
  go_wp2_with fail
  obtain ⟨V, hV⟩ : ∃ V, (w4.setCell ⟨G, 3, none⟩ (.slice (some ⟨g', 0, none⟩) fit.length c')).setCell ⟨g', 1, none⟩ (.int .i64 (j : Int)) = V := ⟨_, rfl⟩
  have hVb : V.heap[PB]? = some (.cells #[.slice (some ad) p.ins.length c, .int .i64 p.start, .int .i64 p.caps] 28 (0, 0)) := by
    rw [← hV, set_ne0 _ _ (show PB ≠ g' from ne_of HPG.out), set_ne0 _ _ (show PB ≠ G from ne_of ne)]; exact H4.out.1.box
  rw [hV] at H4 ⊢
  clear hV
  have hm5 := H4.out.2.1
  have hws : IntKind.i64.wrap (st + 1 + (fit.length : Int)) = st + 1 + (fit.length : Int) := IntWalk.i64_in _ (by have h1 := H.out.1.2.2.1; have h2 := C.bd; have h3 := H.out.1.1.pos; omega)
  have HC : Hid (∀ W, Below V.heap.size V W → W.cell? ⟨G, 4, none⟩ = some (.int .i64 (st + 1)) ∧ W.cell? ⟨G, 2, none⟩ = some (.slice (some ⟨gf, 0, none⟩) fit.length cf)) := Lib.hid (fun W hW => ⟨by rw [cell_of_blk ((hW.block _ (heap_lt hm5.blk)).trans hm5.blk)]; rfl, by rw [cell_of_blk ((hW.block _ (heap_lt hm5.blk)).trans hm5.blk)]; rfl⟩)
  clear c0 c1 c2 c3 c4 nG x0 x1 x2 nP hgfz hcw f3 hgw
  have nG := heap_lt hm5.blk
  have c4 : V.cell? ⟨G, 4, none⟩ = some (.int .i64 (st + 1)) := (HC.out V (Below.refl _ _)).1
  have f4 : V.frozen? ⟨G, 4, none⟩ = false := frozenOf hm5.blk 4
  have HVB := Lib.hid hVb
  clear hm5 hVb
  refine wp_region_scrT (fun W' => W'.cell? ⟨G, 4, none⟩ = some (.int .i64 (st + 1)) ∧ W'.cell? ⟨G, 2, none⟩ = some (.slice (some ⟨gf, 0, none⟩) fit.length cf)) 12 [(true, 0, 157), (true, 1, 158), (true, 2, 159), (true, 3, 160), (true, 4, 161), (true, 5, 162), (true, 6, 163), (true, 7, 164), (true, 8, 165), (true, 9, 166), (true, 10, 167), (true, 11, 168), (false, 12, 0)] (by kernel_rfl) (by kernel_rfl) (by kernel_rfl) (by kernel_rfl) rfl (fun c d v a w h => hQp c d v a w h) rfl (by kernel_rfl) ?_
  have HS := Lib.hid (HC.out _ (Below.refl _ _).drew)
  refine ScrT.take (v := .pointer (some ⟨G, 0, none⟩)) rfl rfl (yw_pure (by rfl) (fun _ => by go_simp)) HS.out ?_
  simp only [Act.put, List.setIfInBounds_toArray, List.set_cons_zero, List.set_cons_succ]
  refine ScrT.take (v := .pointer (some ⟨G, 0, none⟩)) rfl rfl (yw_pure (by rfl) (fun _ => by go_simp)) HS.out ?_
  simp only [Act.put, List.setIfInBounds_toArray, List.set_cons_zero, List.set_cons_succ]
  refine ScrT.take (v := .pointer (some ⟨G, 4, none⟩)) rfl rfl (yw_pure (by rfl) (fun _ => by go_simp)) HS.out ?_
  simp only [Act.put, List.setIfInBounds_toArray, List.set_cons_zero, List.set_cons_succ]
  refine ScrT.take (v := .int .i64 (st + 1)) rfl rfl (yw_cell 3 _ rfl ⟨G, 4, none⟩ (.int .i64 (st + 1)) rfl (by rfl) _ Tryd.underlying3 rfl (fun W hS => hS.1)) HS.out ?_
  simp only [Act.put, List.setIfInBounds_toArray, List.set_cons_zero, List.set_cons_succ]
  refine ScrT.take (v := .pointer (some ⟨G, 0, none⟩)) rfl rfl (yw_pure (by rfl) (fun _ => by go_simp)) HS.out ?_
  simp only [Act.put, List.setIfInBounds_toArray, List.set_cons_zero, List.set_cons_succ]
  refine ScrT.take (v := .pointer (some ⟨G, 0, none⟩)) rfl rfl (yw_pure (by rfl) (fun _ => by go_simp)) HS.out ?_
  simp only [Act.put, List.setIfInBounds_toArray, List.set_cons_zero, List.set_cons_succ]
  refine ScrT.take (v := .pointer (some ⟨G, 2, none⟩)) rfl rfl (yw_pure (by rfl) (fun _ => by go_simp)) HS.out ?_
  simp only [Act.put, List.setIfInBounds_toArray, List.set_cons_zero, List.set_cons_succ]
  refine ScrT.take (v := .slice (some ⟨gf, 0, none⟩) fit.length cf) rfl rfl (yw_cell 35 _ rfl ⟨G, 2, none⟩ (.slice (some ⟨gf, 0, none⟩) fit.length cf) rfl (by rfl) _ Tryd.underlying35 rfl (fun W hS => hS.2)) HS.out ?_
  simp only [Act.put, List.setIfInBounds_toArray, List.set_cons_zero, List.set_cons_succ]
  refine ScrT.take (v := .int .i64 fit.length) rfl rfl (yw_pure (by rfl) (fun _ => by go_simp)) HS.out ?_
  simp only [Act.put, List.setIfInBounds_toArray, List.set_cons_zero, List.set_cons_succ]
  refine ScrT.take (v := .int .i64 (st + 1 + (fit.length : Int))) rfl rfl (yw_pure (by rfl) (fun _ => by go_simp)) HS.out ?_
  simp only [Act.put, List.setIfInBounds_toArray, List.set_cons_zero, List.set_cons_succ]
  refine ScrT.take (v := .pointer (some ⟨G, 0, none⟩)) rfl rfl (yw_pure (by rfl) (fun _ => by go_simp)) HS.out ?_
  simp only [Act.put, List.setIfInBounds_toArray, List.set_cons_zero, List.set_cons_succ]
  refine ScrT.take (v := .pointer (some ⟨G, 4, none⟩)) rfl rfl (yw_pure (by rfl) (fun _ => by go_simp)) HS.out ?_
  simp only [Act.put, List.setIfInBounds_toArray, List.set_cons_zero, List.set_cons_succ]
  refine ScrT.run rfl (by rfl) (fun K hK => ?_)
  go_simp
  refine hK _ _ (fun h => absurd h (by decide)) ?_
  clear hK K
  simp only [ScrT]
  have hm6 := (H4.out.2.1.below (W' := V.drew) (Below.refl _ _).drew).setSteps (st + 1 + (fit.length : Int))
  have ht6 := H4.out.2.2.1.trans (((TouchD.of_below (Below.refl _ _).drew (C.newW H4.out.2.2.1))).trans (TouchD.set (j := 4) V.drew (.int .i64 (st + 1 + (fit.length : Int))) C.dG))
  have hb6 := (set_ne0 V.drew (a := ⟨G, 4, none⟩) (.int .i64 (st + 1 + (fit.length : Int))) (show PB ≠ G from ne_of ne)).trans (show V.drew.heap[PB]? = _ from HVB.out)
  have H6 := Lib.hid (And.intro hm6 (And.intro ht6 hb6))
  clear hm6 ht6 hb6 c4 f4
  have hDs : OwnD D (.slice (some ⟨g', 0, none⟩) fit.length c') := fun k e => by cases e; exact H4.out.2.2.2
  have hcl : (fit.length : Int) ≤ (KB p : Int) - 3 := by have h1 := H.out.1.1.len; have h2 := (KB_le p).1; omega
  go_wp2_with fail
  try go_step3
  have hT7 : TrAt p ad c G PB rs true D W0 J fit ⟨(markW ((i : Int), (j : Int)) S).seen, some (fit.set 1 (j : Int))⟩ (st + 1 + (fit.length : Int)) _ jv _ _ ws' _ := ⟨H6.out.1, H.out.2.1.bits, H.out.2.1.ob, H.out.2.1.oj, H.out.2.1.of, hDs, H6.out.2.2, H6.out.2.1, rfl, H.out.2.1.jok, H.out.2.1.len, by have := H.out.1.1.pos; omega⟩
  have hp7 : pot (KB p) (allP p rs.length) J ⟨(markW ((i : Int), (j : Int)) S).seen, some (fit.set 1 (j : Int))⟩ = pot (KB p) (allP p rs.length) J (markW ((i : Int), (j : Int)) S) := rfl
  exact hJ _ _ _ ⟨_, rfl, ⟨rfl, rfl, rfl, rfl, rfl⟩, .inl ⟨rfl, _, _, _, _, _, _, _, _, _, H.out.1.next C.chk hT7 HF.out (by have := HN.out.2.2.1; rw [hp7]; omega)⟩⟩ (lt_eq (by omega) (stOf_eq hT7.mem))
set_option maxRecDepth 1000000 in
set_option maxHeartbeats 8000000 in
theorem on_mat_none_false (p : Pg) (ad : Addr) (c G PB : Nat) (ia : Addr) (rs : List (Int × Int)) (lg : Bool) (D : Nat → Prop) (W0 : World) (Bd : Int) (Fw : Wk (Int × Int)) (C : TryCx p ad c G PB ia rs lg D W0 Bd) (i j : Nat) (J : List (Job (Int × Int))) (fit : List Int) (S : Wk (Int × Int)) (st : Int) (bv jv fv sv : Value) (ws : List Nat) (W : World) (h : OnI p ad c G PB rs lg D W0 Bd Fw i j J fit S st bv jv fv sv ws W) (hs : S.seen ((i : Int), (j : Int)) = false) (ho : (p.get i).op = 1) (hlg : lg = false) (hb : S.best = none)
    (g : Nat → Value) (Q0 : Exit → Act → World → Prop) (hQ : ∀ (tm : Array Value) w, EndI p G rs D W0 Bd Fw w → Q0 .ret ⟨tm, []⟩ w) (hQp : ∀ c (d : Tmp) v a w, Q0 (.panic c) (a.put (some d) v) w → Q0 (.panic c) a w) (JX : Nat → Act → World → Prop) (hJ : ∀ l a w, JJ p ad c G PB ia rs lg D W0 Bd Fw l a w → st < stOf G w → JX l a w) :
    (tryR 1).wp Tryd.prog (jumps JX Q0) ⟨#[.pointer (some ⟨G, 0, none⟩), g 1, .pointer (some ia), g 3, .bool lg, g 5, .pointer (some ⟨PB, 0, none⟩), g 7, g 8, g 9, .int .i64 i, .int .i64 j, g 12, g 13, g 14, g 15, g 16, g 17, g 18, g 19, g 20, g 21, g 22, g 23, g 24, g 25, g 26, g 27, g 28, g 29, g 30, g 31, g 32, g 33, g 34, g 35, g 36, g 37, g 38, g 39, g 40, g 41, g 42, g 43, g 44, g 45, g 46, g 47, g 48, g 49, g 50, g 51, g 52, g 53, g 54, g 55, g 56, g 57, g 58, g 59, g 60, g 61, g 62, g 63, g 64, g 65, g 66, g 67, g 68, g 69, g 70, g 71, g 72, g 73, g 74, g 75, g 76, g 77, g 78, g 79, g 80, g 81, g 82, g 83, g 84, g 85, g 86, g 87, g 88, g 89, g 90, g 91, g 92, g 93, g 94, g 95, g 96, g 97, g 98, g 99, g 100, g 101, g 102, g 103, g 104, g 105, g 106, g 107, g 108, g 109, g 110, g 111, g 112, g 113, g 114, g 115, g 116, g 117, g 118, g 119, g 120, g 121, g 122, g 123, g 124, g 125, g 126, g 127, g 128, g 129, g 130, g 131, g 132, g 133, g 134, g 135, g 136, g 137, g 138, g 139, g 140, g 141, g 142, g 143, g 144, g 145, g 146, g 147, g 148, g 149, g 150, g 151, g 152, g 153, g 154, g 155, g 156, g 157, g 158, g 159, g 160, g 161, g 162, g 163, g 164, g 165, g 166, g 167, g 168, g 169, g 170, g 171, g 172, g 173, g 174, g 175, g 176, g 177, g 178, g 179, g 180, g 181, g 182, g 183, g 184, g 185, g 186, g 187, g 188, g 189, g 190, g 191, g 192, g 193, g 194, g 195, g 196, g 197, g 198, g 199, g 200, g 201, g 202, g 203, g 204, g 205, g 206, g 207, g 208, g 209, g 210, g 211, g 212, g 213, g 214, g 215, g 216, g 217, g 218, g 219, g 220, g 221, g 222, g 223, g 224, g 225, g 226, g 227, g 228, g 229, g 230, g 231, g 232, g 233, g 234, g 235, g 236, g 237, g 238, g 239, g 240, g 241, g 242, g 243, g 244], []⟩ W := by
  obtain ⟨n, jL, gb, cb, Y, ws', hw1, hw2, hw0, rfl, hfr, hT2⟩ := on_begin C h
  obtain ⟨c0, c1, c2, c3, c4, f, nG, x0, x1, x2, nP, ne, ne2⟩ := h.1.cells
  have f4 := f 4
  rw [hs] at hfr
  have hi := h.2.2.2.1
  have hj := h.2.2.2.2
  have H := Lib.hid (And.intro h (And.intro hT2 (And.intro hs (And.intro hi hj))))
  clear h hT2 hs hi hj f c0 c1 c2 c3 x1 x2
  conv => arg 2; whnf
  go_wp2_with fail
  refine hfr.mono ?_
  clear hfr hw1 hw2 hw0 c4 f4 nG x0 nP ne ne2
  rintro e w2 ⟨rfl, rfl⟩
  dsimp only
  obtain ⟨c0, c1, c2, c3, c4, f, nG, x0, x1, x2, nP, ne, ne2⟩ := H.out.2.1.cells
  obtain ⟨B3, d3, hadD, hadb, hd3, hd3m, hset, k0, k1, k2, k3, k4⟩ := ins_D (C.pg.touch H.out.2.1.tch) i H.out.2.2.2.1
  have hge := get_at p i H.out.2.2.2.1
  have hq : ((i : Int), (j : Int)) ∈ allP p rs.length := allP_iff.2 ⟨⟨by show (0 : Int) ≤ (i : Int); omega, by show (i : Int) < _; have := H.out.2.2.2.1; omega⟩, by show (0 : Int) ≤ (j : Int); omega, by show (j : Int) < _; have := H.out.2.2.2.2; omega⟩
  have hgo := check_good C.chk (show Pc p ((i : Nat) : Int) from (allP_iff.1 hq).1)
  have hpm := pot_le (K := KB p) (J := J) hq H.out.2.2.1
  have hfr := C.newW H.out.2.1.tch
  have HF0 := fin_matB (p := p) (rn := runeAt rs) (av := atOf rs) (lg := lg) (M := rs.length) (S := S) (J := J) (c := fit) (q := ((i : Int), (j : Int))) H.out.1.1.hal H.out.2.2.1 ho
  have hbo : bestOf (gB p (runeAt rs) (atOf rs) lg rs.length) ((i : Int), (j : Int)) fit S.best = some (fit.set 1 (j : Int)) := by
    rw [hb]
    rfl
  rw [hbo] at HF0
  have hc2 := (check_ok C.chk).2.2.2.1
  have hfl : 2 ≤ fit.length ∧ fit.length ≤ 4002 := by have h1 := H.out.1.1.len; have h2 := (check_ok C.chk).2.2.2.2.1; omega
  have HN := Lib.hid (And.intro hq (And.intro hgo (And.intro hpm (And.intro hset (And.intro hadD (And.intro hfr ho))))))
  clear hq hgo hpm hset hfr
  have hi : i < p.ins.length := H.out.2.2.2.1
  have hxs : p.ins[i].set.length ≤ 1000000000 := C.set _ (List.getElem_mem hi)
  rw [hge] at ho HN
  clear hge hadD
  generalize p.ins[i] = x at *
  have o1 : (x.op == 1) = true := by rw [ho]; rfl
  have o2 : (x.op == 2) = false := by rw [ho]; rfl
  have o3 : (x.op == 3) = false := by rw [ho]; rfl
  have o4 : (x.op == 4) = false := by rw [ho]; rfl
  have o5 : (x.op == 5) = false := by rw [ho]; rfl
  clear ho
  subst hlg
  have HF := Lib.hid HF0
  have HFL := Lib.hid (And.intro hfl hc2)
  clear HF0 hbo hc2
  obtain ⟨gf, cf, hfe, _, _, hgfn, _⟩ := own_lit H.out.2.1.mem.fit (by rw [List.length_map]; omega)
  rw [List.length_map] at hfe
  subst hfe
  have hbm : BestO w2 (.slice (some ⟨gf, 0, none⟩) fit.length cf) sv S.best := H.out.2.1.mem.best
  rw [hb] at hbm
  obtain rfl : sv = .slice none 0 0 := hbm
  have heqn := fun (W : World) (a : Option Addr) (n c : Nat) => Lib.run_eql_slice_nil (P := Tryd.prog) W 35 3 a n c 0 0 Tryd.underlying35
  have HB := Lib.hid hb
  clear hb
  have hT3 := H.out.2.1.below C (below_al (Below.refl _ _) (.cells #[.int .i64 x.op, .int .i64 x.out, .int .i64 x.arg, .slice B3 x.set.length d3, .int .i64 x.at_] 64))
  have hcl := cloneI_any (fun k => 0 ≤ k) (w2.alloc (.cells #[.int .i64 x.op, .int .i64 x.out, .int .i64 x.arg, .slice B3 x.set.length d3, .int .i64 x.at_] 64)) (some ⟨gf, 0, none⟩) cf fit (ownI64_arr0 hT3.mem.fit) (by omega) (by omega)
  have HT3 := Lib.hid hT3
  clear hT3
  go_wp2_with fail
  refine hcl.mono ?_
  clear hcl
  rintro e w4 ⟨g', c', rfl, hown, hb4⟩
  dsimp only
  have hT4 := HT3.out.below C hb4
  have hgn : w2.heap.size < g' := by have := (hown.lt g' rfl).1; rw [World.size_alloc] at this; omega
  have hgG : (g' = G) = False := by simp; omega
  have hgG2 : (G = g') = False := by simp; omega
  clear c0 c1 c2 c3 c4 f nG x0 x1 x2 nP ne ne2 k0 k1 k2 k3 k4 hadb
  obtain ⟨c0, c1, c2, c3, c4, f, nG, x0, x1, x2, nP, ne, ne2⟩ := hT4.cells
  have f3 := f 3
  have ownw : Owns w4 0 3 1 (.slice (some ⟨g', 0, none⟩) fit.length c') (fit.map i64C) := ⟨World.ownsRow.mono hown.1 (Nat.zero_le _), hown.2⟩
  obtain ⟨cuw, hkw⟩ := own_blk ownw rfl
  have hgw := heap_lt hkw
  have hgfz : w4.frozen? ⟨g', 1, none⟩ = false := frozenOf hkw 1
  have hcw : ∃ u, w4.cell? ⟨g', 1, none⟩ = some u := by
    have h9 := ownw.1
    rw [flat_i64] at h9
    have := h9.cells (g := g') rfl 1 (.int .i64 fit[1]) (by rw [List.getElem?_map, List.getElem?_eq_getElem (by omega)]; rfl)
    rw [Addr.add_mid, Nat.zero_add] at this
    exact ⟨_, this⟩
  obtain ⟨u9, hcw⟩ := hcw
  have hDg : D g' := C.newW H.out.2.1.tch g' (Nat.le_of_lt hgn)
  have hm5 := (hT4.mem.setBest HFL.out.1.1 ownw (by show some g' ≠ some gf; intro e; cases e; omega)).putBest rfl 1 (j : Int)
  have ht5 := hT4.tch.trans ((TouchD.set (j := 3) w4 (.slice (some ⟨g', 0, none⟩) fit.length c') C.dG).trans (TouchD.set (j := 1) _ (.int .i64 (j : Int)) hDg))
  have H4 := Lib.hid (And.intro hT4 (And.intro hm5 (And.intro ht5 hDg)))
  have hPg : (PB = g') = False := eq_false (fun e => by have hty : TyB 28 w4 PB := ⟨_, _, hT4.box⟩; exact hty.ne_own ownw (by decide) (by rw [e]; rfl))
  have HPG := Lib.hid hPg
  clear hT4 hm5 ht5 hkw ownw hown hb4 f hPg hDg
  go_wp2_with fail
  obtain ⟨V, hV⟩ : ∃ V, (w4.setCell ⟨G, 3, none⟩ (.slice (some ⟨g', 0, none⟩) fit.length c')).setCell ⟨g', 1, none⟩ (.int .i64 (j : Int)) = V := ⟨_, rfl⟩
  have hVb : V.heap[PB]? = some (.cells #[.slice (some ad) p.ins.length c, .int .i64 p.start, .int .i64 p.caps] 28 (0, 0)) := by
    rw [← hV, set_ne0 _ _ (show PB ≠ g' from ne_of HPG.out), set_ne0 _ _ (show PB ≠ G from ne_of ne)]; exact H4.out.1.box
  rw [hV] at H4 ⊢
  clear hV
  have hm5 := H4.out.2.1
  have hws : IntKind.i64.wrap (st + 1 + (fit.length : Int)) = st + 1 + (fit.length : Int) := IntWalk.i64_in _ (by have h1 := H.out.1.2.2.1; have h2 := C.bd; have h3 := H.out.1.1.pos; omega)
  have HC : Hid (∀ W, Below V.heap.size V W → W.cell? ⟨G, 4, none⟩ = some (.int .i64 (st + 1)) ∧ W.cell? ⟨G, 2, none⟩ = some (.slice (some ⟨gf, 0, none⟩) fit.length cf)) := Lib.hid (fun W hW => ⟨by rw [cell_of_blk ((hW.block _ (heap_lt hm5.blk)).trans hm5.blk)]; rfl, by rw [cell_of_blk ((hW.block _ (heap_lt hm5.blk)).trans hm5.blk)]; rfl⟩)
  clear c0 c1 c2 c3 c4 nG x0 x1 x2 nP hgfz hcw f3 hgw
  have nG := heap_lt hm5.blk
  have c4 : V.cell? ⟨G, 4, none⟩ = some (.int .i64 (st + 1)) := (HC.out V (Below.refl _ _)).1
  have f4 : V.frozen? ⟨G, 4, none⟩ = false := frozenOf hm5.blk 4
  have HVB := Lib.hid hVb
  clear hm5 hVb
  refine wp_region_scrT (fun W' => W'.cell? ⟨G, 4, none⟩ = some (.int .i64 (st + 1)) ∧ W'.cell? ⟨G, 2, none⟩ = some (.slice (some ⟨gf, 0, none⟩) fit.length cf)) 12 [(true, 0, 157), (true, 1, 158), (true, 2, 159), (true, 3, 160), (true, 4, 161), (true, 5, 162), (true, 6, 163), (true, 7, 164), (true, 8, 165), (true, 9, 166), (true, 10, 167), (true, 11, 168), (false, 12, 0)] (by kernel_rfl) (by kernel_rfl) (by kernel_rfl) (by kernel_rfl) rfl (fun c d v a w h => hQp c d v a w h) rfl (by kernel_rfl) ?_
  have HS := Lib.hid (HC.out _ (Below.refl _ _).drew)
  refine ScrT.take (v := .pointer (some ⟨G, 0, none⟩)) rfl rfl (yw_pure (by rfl) (fun _ => by go_simp)) HS.out ?_
  simp only [Act.put, List.setIfInBounds_toArray, List.set_cons_zero, List.set_cons_succ]
  refine ScrT.take (v := .pointer (some ⟨G, 0, none⟩)) rfl rfl (yw_pure (by rfl) (fun _ => by go_simp)) HS.out ?_
  simp only [Act.put, List.setIfInBounds_toArray, List.set_cons_zero, List.set_cons_succ]
  refine ScrT.take (v := .pointer (some ⟨G, 4, none⟩)) rfl rfl (yw_pure (by rfl) (fun _ => by go_simp)) HS.out ?_
  simp only [Act.put, List.setIfInBounds_toArray, List.set_cons_zero, List.set_cons_succ]
  refine ScrT.take (v := .int .i64 (st + 1)) rfl rfl (yw_cell 3 _ rfl ⟨G, 4, none⟩ (.int .i64 (st + 1)) rfl (by rfl) _ Tryd.underlying3 rfl (fun W hS => hS.1)) HS.out ?_
  simp only [Act.put, List.setIfInBounds_toArray, List.set_cons_zero, List.set_cons_succ]
  refine ScrT.take (v := .pointer (some ⟨G, 0, none⟩)) rfl rfl (yw_pure (by rfl) (fun _ => by go_simp)) HS.out ?_
  simp only [Act.put, List.setIfInBounds_toArray, List.set_cons_zero, List.set_cons_succ]
  refine ScrT.take (v := .pointer (some ⟨G, 0, none⟩)) rfl rfl (yw_pure (by rfl) (fun _ => by go_simp)) HS.out ?_
  simp only [Act.put, List.setIfInBounds_toArray, List.set_cons_zero, List.set_cons_succ]
  refine ScrT.take (v := .pointer (some ⟨G, 2, none⟩)) rfl rfl (yw_pure (by rfl) (fun _ => by go_simp)) HS.out ?_
  simp only [Act.put, List.setIfInBounds_toArray, List.set_cons_zero, List.set_cons_succ]
  refine ScrT.take (v := .slice (some ⟨gf, 0, none⟩) fit.length cf) rfl rfl (yw_cell 35 _ rfl ⟨G, 2, none⟩ (.slice (some ⟨gf, 0, none⟩) fit.length cf) rfl (by rfl) _ Tryd.underlying35 rfl (fun W hS => hS.2)) HS.out ?_
  simp only [Act.put, List.setIfInBounds_toArray, List.set_cons_zero, List.set_cons_succ]
  refine ScrT.take (v := .int .i64 fit.length) rfl rfl (yw_pure (by rfl) (fun _ => by go_simp)) HS.out ?_
  simp only [Act.put, List.setIfInBounds_toArray, List.set_cons_zero, List.set_cons_succ]
  refine ScrT.take (v := .int .i64 (st + 1 + (fit.length : Int))) rfl rfl (yw_pure (by rfl) (fun _ => by go_simp)) HS.out ?_
  simp only [Act.put, List.setIfInBounds_toArray, List.set_cons_zero, List.set_cons_succ]
  refine ScrT.take (v := .pointer (some ⟨G, 0, none⟩)) rfl rfl (yw_pure (by rfl) (fun _ => by go_simp)) HS.out ?_
  simp only [Act.put, List.setIfInBounds_toArray, List.set_cons_zero, List.set_cons_succ]
  refine ScrT.take (v := .pointer (some ⟨G, 4, none⟩)) rfl rfl (yw_pure (by rfl) (fun _ => by go_simp)) HS.out ?_
  simp only [Act.put, List.setIfInBounds_toArray, List.set_cons_zero, List.set_cons_succ]
  refine ScrT.run rfl (by rfl) (fun K hK => ?_)
  go_simp
  refine hK _ _ (fun h => absurd h (by decide)) ?_
  clear hK K
  simp only [ScrT]
  have hm6 := (H4.out.2.1.below (W' := V.drew) (Below.refl _ _).drew).setSteps (st + 1 + (fit.length : Int))
  have ht6 := H4.out.2.2.1.trans (((TouchD.of_below (Below.refl _ _).drew (C.newW H4.out.2.2.1))).trans (TouchD.set (j := 4) V.drew (.int .i64 (st + 1 + (fit.length : Int))) C.dG))
  have hb6 := (set_ne0 V.drew (a := ⟨G, 4, none⟩) (.int .i64 (st + 1 + (fit.length : Int))) (show PB ≠ G from ne_of ne)).trans (show V.drew.heap[PB]? = _ from HVB.out)
  have H6 := Lib.hid (And.intro hm6 (And.intro ht6 hb6))
  clear hm6 ht6 hb6 c4 f4
  have hDs : OwnD D (.slice (some ⟨g', 0, none⟩) fit.length c') := fun k e => by cases e; exact H4.out.2.2.2
  have hcl : (fit.length : Int) ≤ (KB p : Int) - 3 := by have h1 := H.out.1.1.len; have h2 := (KB_le p).1; omega
  go_wp2_with fail
  have hFw : (⟨(markW ((i : Int), (j : Int)) S).seen, some (fit.set 1 (j : Int))⟩ : Wk (Int × Int)) = Fw := by rw [← H.out.1.2.1, HF.out, fin_halts rfl]
  have hp7 : pot (KB p) (allP p rs.length) J (markW ((i : Int), (j : Int)) S) = KB p * left (allP p rs.length) (markW ((i : Int), (j : Int)) S) + wt J := rfl
  have h1 := HN.out.2.2.1
  have h2 := H.out.1.2.2.1
  have h3 := H.out.1.1.pos
  have h4 : left (allP p rs.length) (⟨(markW ((i : Int), (j : Int)) S).seen, some (fit.set 1 (j : Int))⟩ : Wk (Int × Int)) = left (allP p rs.length) (markW ((i : Int), (j : Int)) S) := rfl
  subst hFw
  exact hQ _ _ ⟨J, fit, _, _, _, _, _, _, H6.out.1, H.out.2.1.bits, H.out.2.1.ob, H.out.2.1.oj, H.out.2.1.of, hDs, H6.out.2.1, H.out.2.1.len, by omega, by rw [h4]; omega⟩
end Go.Proofs.YthclpabmbhpohaaDoor
