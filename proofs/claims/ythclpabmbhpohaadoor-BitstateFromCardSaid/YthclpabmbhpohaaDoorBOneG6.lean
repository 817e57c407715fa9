/-
  (*bitstate.Machine).try: a pass that comes to a match, behind another one. No condition but what holds at the labels.
  (*bitstate.Machine).try: a pass from the label that is told an instruction at a place. No condition but what holds at the labels.
  (*bitstate.Machine).try: a pass that takes an instruction at a place. No condition but what holds at the labels.
  (*bitstate.Machine).try: a pass from the label of the next thing to do. No condition but what holds at the labels.
  slices.Repeat of one element, at each element type. No condition but on the size.
  (*bitstate.Machine).try: itself. No condition but what holds at the labels.
  slices.Grow of words, and a row of words cleared. No condition but bounds.
  Words of this seat's own: a set of whole numbers in a map from numbers to bools. No condition.
-/
import Derived.Test.YthclpabmbhpohaaDoorBOneG5
import Derived.Lib.SliceRun
import Derived.BigRegion
import Derived.BigQuiet
import Derived.Lib.AppendZerosOnto
import Derived.Maps.OwnIn
import Derived.Maps.Views
import Derived.Maps.Keyed
set_option linter.unusedVariables false
set_option linter.unusedSimpArgs false
namespace Go.Proofs.YthclpabmbhpohaaDoor
open Go.RowKit
set_option linter.unusedVariables false
set_option maxRecDepth 1000000 in
set_option maxHeartbeats 8000000 in
theorem on_mat_more_true (p : Pg) (ad : Addr) (c G PB : Nat) (ia : Addr) (rs : List (Int × Int)) (lg : Bool) (D : Nat → Prop) (W0 : World) (Bd : Int) (Fw : Wk (Int × Int)) (C : TryCx p ad c G PB ia rs lg D W0 Bd) (i j : Nat) (J : List (Job (Int × Int))) (fit : List Int) (S : Wk (Int × Int)) (st : Int) (bv jv fv sv : Value) (ws : List Nat) (W : World) (h : OnI p ad c G PB rs lg D W0 Bd Fw i j J fit S st bv jv fv sv ws W) (hs : S.seen ((i : Int), (j : Int)) = false) (ho : (p.get i).op = 1) (hlg : lg = true) (b : List Int) (hb : S.best = some b) (hm : b.getD 1 0 < (j : Int))
    (g : Nat → Value) (Q0 : Exit → Act → World → Prop) (hQ : ∀ (tm : Array Value) w, EndI p G rs D W0 Bd Fw w → Q0 .ret ⟨tm, []⟩ w) (hQp : ∀ c (d : Tmp) v a w, Q0 (.panic c) (a.put (some d) v) w → Q0 (.panic c) a w) (JX : Nat → Act → World → Prop) (hJ : ∀ l a w, JJ p ad c G PB ia rs lg D W0 Bd Fw l a w → st < stOf G w → JX l a w) :
    (tryR 1).wp Tryd.prog (jumps JX Q0) ⟨#[.pointer (some ⟨G, 0, none⟩), g 1, .pointer (some ia), g 3, .bool lg, g 5, .pointer (some ⟨PB, 0, none⟩), g 7, g 8, g 9, .int .i64 i, .int .i64 j, g 12, g 13, g 14, g 15, g 16, g 17, g 18, g 19, g 20, g 21, g 22, g 23, g 24, g 25, g 26, g 27, g 28, g 29, g 30, g 31, g 32, g 33, g 34, g 35, g 36, g 37, g 38, g 39, g 40, g 41, g 42, g 43, g 44, g 45, g 46, g 47, g 48, g 49, g 50, g 51, g 52, g 53, g 54, g 55, g 56, g 57, g 58, g 59, g 60, g 61, g 62, g 63, g 64, g 65, g 66, g 67, g 68, g 69, g 70, g 71, g 72, g 73, g 74, g 75, g 76, g 77, g 78, g 79, g 80, g 81, g 82, g 83, g 84, g 85, g 86, g 87, g 88, g 89, g 90, g 91, g 92, g 93, g 94, g 95, g 96, g 97, g 98, g 99, g 100, g 101, g 102, g 103, g 104, g 105, g 106, g 107, g 108, g 109, g 110, g 111, g 112, g 113, g 114, g 115, g 116, g 117, g 118, g 119, g 120, g 121, g 122, g 123, g 124, g 125, g 126, g 127, g 128, g 129, g 130, g 131, g 132, g 133, g 134, g 135, g 136, g 137, g 138, g 139, g 140, g 141, g 142, g 143, g 144, g 145, g 146, g 147, g 148, g 149, g 150, g 151, g 152, g 153, g 154, g 155, g 156, g 157, g 158, g 159, g 160, g 161, g 162, g 163, g 164, g 165, g 166, g 167, g 168, g 169, g 170, g 171, g 172, g 173, g 174, g 175, g 176, g 177, g 178, g 179, g 180, g 181, g 182, g 183, g 184, g 185, g 186, g 187, g 188, g 189, g 190, g 191, g 192, g 193, g 194, g 195, g 196, g 197, g 198, g 199, g 200, g 201, g 202, g 203, g 204, g 205, g 206, g 207, g 208, g 209, g 210, g 211, g 212, g 213, g 214, g 215, g 216, g 217, g 218, g 219, g 220, g 221, g 222, g 223, g 224, g 225, g 226, g 227, g 228, g 229, g 230, g 231, g 232, g 233, g 234, g 235, g 236, g 237, g 238, g 239, g 240, g 241, g 242, g 243, g 244], []⟩ W := by
  obtain ⟨n, jL, gb, cb, Y, ws', hw1, hw2, hw0, rfl, hfr, hT2⟩ := on_begin C h
  obtain ⟨c0, c1, c2, c3, c4, f, nG, x0, x1, x2, nP, ne, ne2⟩ := h.1.cells
  have f4 := f 4
  rw [hs] at hfr
  have hi := h.2.2.2.1
  have hj := h.2.2.2.2
  have H := Lib.hid (And.intro h (And.intro hT2 (And.intro hs (And.intro hi hj))))
  clear h hT2 hs hi hj f c0 c1 c2 c3 x1 x2
  conv => arg 2; whnf
  go_wp2_with fail
  refine hfr.mono ?_
  clear hfr hw1 hw2 hw0 c4 f4 nG x0 nP ne ne2
  rintro e w2 ⟨rfl, rfl⟩
  dsimp only
  obtain ⟨c0, c1, c2, c3, c4, f, nG, x0, x1, x2, nP, ne, ne2⟩ := H.out.2.1.cells
  obtain ⟨B3, d3, hadD, hadb, hd3, hd3m, hset, k0, k1, k2, k3, k4⟩ := ins_D (C.pg.touch H.out.2.1.tch) i H.out.2.2.2.1
  have hge := get_at p i H.out.2.2.2.1
  have hq : ((i : Int), (j : Int)) ∈ allP p rs.length := allP_iff.2 ⟨⟨by show (0 : Int) ≤ (i : Int); omega, by show (i : Int) < _; have := H.out.2.2.2.1; omega⟩, by show (0 : Int) ≤ (j : Int); omega, by show (j : Int) < _; have := H.out.2.2.2.2; omega⟩
  have hgo := check_good C.chk (show Pc p ((i : Nat) : Int) from (allP_iff.1 hq).1)
  have hpm := pot_le (K := KB p) (J := J) hq H.out.2.2.1
  have hfr := C.newW H.out.2.1.tch
  have HF0 := fin_matB (p := p) (rn := runeAt rs) (av := atOf rs) (lg := lg) (M := rs.length) (S := S) (J := J) (c := fit) (q := ((i : Int), (j : Int))) H.out.1.1.hal H.out.2.2.1 ho
  have hbo : bestOf (gB p (runeAt rs) (atOf rs) lg rs.length) ((i : Int), (j : Int)) fit S.best = some (fit.set 1 (j : Int)) := by
    rw [hb]
    exact if_pos hm
  rw [hbo] at HF0
  have hc2 := (check_ok C.chk).2.2.2.1
  have hfl : 2 ≤ fit.length ∧ fit.length ≤ 4002 := by have h1 := H.out.1.1.len; have h2 := (check_ok C.chk).2.2.2.2.1; omega
  have HN := Lib.hid (And.intro hq (And.intro hgo (And.intro hpm (And.intro hset (And.intro hadD (And.intro hfr ho))))))
  clear hq hgo hpm hset hfr
  have hi : i < p.ins.length := H.out.2.2.2.1
  have hxs : p.ins[i].set.length ≤ 1000000000 := C.set _ (List.getElem_mem hi)
  rw [hge] at ho HN
  clear hge hadD
  generalize p.ins[i] = x at *
  have o1 : (x.op == 1) = true := by rw [ho]; rfl
  have o2 : (x.op == 2) = false := by rw [ho]; rfl
  have o3 : (x.op == 3) = false := by rw [ho]; rfl
  have o4 : (x.op == 4) = false := by rw [ho]; rfl
  have o5 : (x.op == 5) = false := by rw [ho]; rfl
  clear ho
  subst hlg
  have HF := Lib.hid HF0
  have HFL := Lib.hid (And.intro hfl hc2)
  clear HF0 hbo hc2
  obtain ⟨gf, cf, hfe, _, _, hgfn, _⟩ := own_lit H.out.2.1.mem.fit (by rw [List.length_map]; omega)
  rw [List.length_map] at hfe
  subst hfe
  have hbm : BestO w2 (.slice (some ⟨gf, 0, none⟩) fit.length cf) sv S.best := H.out.2.1.mem.best
  rw [hb] at hbm
  obtain ⟨hb2, hbo, hbn⟩ := hbm
  obtain ⟨gs, cs, hse, _, _, hgsn, _⟩ := own_lit hbo (by rw [List.length_map]; omega)
  rw [List.length_map] at hse
  subst hse
  have hb1 : w2.cell? ⟨gs, 1, none⟩ = some (.int .i64 (b.getD 1 0)) := by
    have h9 := hbo.1
    rw [flat_i64] at h9
    have := h9.cells (g := gs) rfl 1 (.int .i64 b[1]) (by rw [List.getElem?_map, List.getElem?_eq_getElem (by omega)]; rfl)
    rw [Addr.add_mid, Nat.zero_add] at this
    rw [this, List.getD_eq_getElem?_getD, List.getElem?_eq_getElem (by omega)]; rfl
  have hd : decide (b.getD 1 0 < (j : Int)) = true := decide_eq_true (by omega)
  generalize hbb : b.getD 1 0 = bb at *
  have HB := Lib.hid (And.intro hb (And.intro hbo hbn))
  clear hb hbo hbn hm hbb
  have heqn := fun (W : World) (a : Option Addr) (n c : Nat) => Lib.run_eql_slice_nil (P := Tryd.prog) W 35 3 a n c 0 0 Tryd.underlying35
  have hT3 := H.out.2.1.below C (below_al (Below.refl _ _) (.cells #[.int .i64 x.op, .int .i64 x.out, .int .i64 x.arg, .slice B3 x.set.length d3, .int .i64 x.at_] 64))
  have hcl := cloneI_any (fun k => 0 ≤ k) (w2.alloc (.cells #[.int .i64 x.op, .int .i64 x.out, .int .i64 x.arg, .slice B3 x.set.length d3, .int .i64 x.at_] 64)) (some ⟨gf, 0, none⟩) cf fit (ownI64_arr0 hT3.mem.fit) (by omega) (by omega)
  have HT3 := Lib.hid hT3
  clear hT3
  go_wp2_with fail
  refine hcl.mono ?_
  clear hcl
  rintro e w4 ⟨g', c', rfl, hown, hb4⟩
  dsimp only
  have hT4 := HT3.out.below C hb4
  have hgn : w2.heap.size < g' := by have := (hown.lt g' rfl).1; rw [World.size_alloc] at this; omega
  have hgG : (g' = G) = False := by simp; omega
  have hgG2 : (G = g') = False := by simp; omega
  clear c0 c1 c2 c3 c4 f nG x0 x1 x2 nP ne ne2 k0 k1 k2 k3 k4 hadb
  obtain ⟨c0, c1, c2, c3, c4, f, nG, x0, x1, x2, nP, ne, ne2⟩ := hT4.cells
  have f3 := f 3
  have ownw : Owns w4 0 3 1 (.slice (some ⟨g', 0, none⟩) fit.length c') (fit.map i64C) := ⟨World.ownsRow.mono hown.1 (Nat.zero_le _), hown.2⟩
  obtain ⟨cuw, hkw⟩ := own_blk ownw rfl
  have hgw := heap_lt hkw
  have hgfz : w4.frozen? ⟨g', 1, none⟩ = false := frozenOf hkw 1
  have hcw : ∃ u, w4.cell? ⟨g', 1, none⟩ = some u := by
    have h9 := ownw.1
    rw [flat_i64] at h9
    have := h9.cells (g := g') rfl 1 (.int .i64 fit[1]) (by rw [List.getElem?_map, List.getElem?_eq_getElem (by omega)]; rfl)
    rw [Addr.add_mid, Nat.zero_add] at this
    exact ⟨_, this⟩
  obtain ⟨u9, hcw⟩ := hcw
  have hDg : D g' := C.newW H.out.2.1.tch g' (Nat.le_of_lt hgn)
  have hm5 := (hT4.mem.setBest HFL.out.1.1 ownw (by show some g' ≠ some gf; intro e; cases e; omega)).putBest rfl 1 (j : Int)
  have ht5 := hT4.tch.trans ((TouchD.set (j := 3) w4 (.slice (some ⟨g', 0, none⟩) fit.length c') C.dG).trans (TouchD.set (j := 1) _ (.int .i64 (j : Int)) hDg))
  have H4 := Lib.hid (And.intro hT4 (And.intro hm5 (And.intro ht5 hDg)))
  have hPg : (PB = g') = False := eq_false (fun e => by have hty : TyB 28 w4 PB := ⟨_, _, hT4.box⟩; exact hty.ne_own ownw (by decide) (by rw [e]; rfl))
  have HPG := Lib.hid hPg
  clear hT4 hm5 ht5 hkw ownw hown hb4 f hPg hDg
  go_wp2_with fail
  obtain ⟨V, hV⟩ : ∃ V, (w4.setCell ⟨G, 3, none⟩ (.slice (some ⟨g', 0, none⟩) fit.length c')).setCell ⟨g', 1, none⟩ (.int .i64 (j : Int)) = V := ⟨_, rfl⟩
  have hVb : V.heap[PB]? = some (.cells #[.slice (some ad) p.ins.length c, .int .i64 p.start, .int .i64 p.caps] 28 (0, 0)) := by
    rw [← hV, set_ne0 _ _ (show PB ≠ g' from ne_of HPG.out), set_ne0 _ _ (show PB ≠ G from ne_of ne)]; exact H4.out.1.box
  rw [hV] at H4 ⊢
  clear hV
  have hm5 := H4.out.2.1
  have hws : IntKind.i64.wrap (st + 1 + (fit.length : Int)) = st + 1 + (fit.length : Int) := IntWalk.i64_in _ (by have h1 := H.out.1.2.2.1; have h2 := C.bd; have h3 := H.out.1.1.pos; omega)
  have HC : Hid (∀ W, Below V.heap.size V W → W.cell? ⟨G, 4, none⟩ = some (.int .i64 (st + 1)) ∧ W.cell? ⟨G, 2, none⟩ = some (.slice (some ⟨gf, 0, none⟩) fit.length cf)) := Lib.hid (fun W hW => ⟨by rw [cell_of_blk ((hW.block _ (heap_lt hm5.blk)).trans hm5.blk)]; rfl, by rw [cell_of_blk ((hW.block _ (heap_lt hm5.blk)).trans hm5.blk)]; rfl⟩)
  clear c0 c1 c2 c3 c4 nG x0 x1 x2 nP hgfz hcw f3 hgw
  have nG := heap_lt hm5.blk
  have c4 : V.cell? ⟨G, 4, none⟩ = some (.int .i64 (st + 1)) := (HC.out V (Below.refl _ _)).1
  have f4 : V.frozen? ⟨G, 4, none⟩ = false := frozenOf hm5.blk 4
  have HVB := Lib.hid hVb
  clear hm5 hVb
  refine wp_region_scrT (fun W' => W'.cell? ⟨G, 4, none⟩ = some (.int .i64 (st + 1)) ∧ W'.cell? ⟨G, 2, none⟩ = some (.slice (some ⟨gf, 0, none⟩) fit.length cf)) 12 [(true, 0, 157), (true, 1, 158), (true, 2, 159), (true, 3, 160), (true, 4, 161), (true, 5, 162), (true, 6, 163), (true, 7, 164), (true, 8, 165), (true, 9, 166), (true, 10, 167), (true, 11, 168), (false, 12, 0)] (by kernel_rfl) (by kernel_rfl) (by kernel_rfl) (by kernel_rfl) rfl (fun c d v a w h => hQp c d v a w h) rfl (by kernel_rfl) ?_
  have HS := Lib.hid (HC.out _ (Below.refl _ _).drew)
  refine ScrT.take (v := .pointer (some ⟨G, 0, none⟩)) rfl rfl (yw_pure (by rfl) (fun _ => by go_simp)) HS.out ?_
  simp only [Act.put, List.setIfInBounds_toArray, List.set_cons_zero, List.set_cons_succ]
  refine ScrT.take (v := .pointer (some ⟨G, 0, none⟩)) rfl rfl (yw_pure (by rfl) (fun _ => by go_simp)) HS.out ?_
  simp only [Act.put, List.setIfInBounds_toArray, List.set_cons_zero, List.set_cons_succ]
  refine ScrT.take (v := .pointer (some ⟨G, 4, none⟩)) rfl rfl (yw_pure (by rfl) (fun _ => by go_simp)) HS.out ?_
  simp only [Act.put, List.setIfInBounds_toArray, List.set_cons_zero, List.set_cons_succ]
  refine ScrT.take (v := .int .i64 (st + 1)) rfl rfl (yw_cell 3 _ rfl ⟨G, 4, none⟩ (.int .i64 (st + 1)) rfl (by rfl) _ Tryd.underlying3 rfl (fun W hS => hS.1)) HS.out ?_
  simp only [Act.put, List.setIfInBounds_toArray, List.set_cons_zero, List.set_cons_succ]
  refine ScrT.take (v := .pointer (some ⟨G, 0, none⟩)) rfl rfl (yw_pure (by rfl) (fun _ => by go_simp)) HS.out ?_
  simp only [Act.put, List.setIfInBounds_toArray, List.set_cons_zero, List.set_cons_succ]
  refine ScrT.take (v := .pointer (some ⟨G, 0, none⟩)) rfl rfl (yw_pure (by rfl) (fun _ => by go_simp)) HS.out ?_
  simp only [Act.put, List.setIfInBounds_toArray, List.set_cons_zero, List.set_cons_succ]
  refine ScrT.take (v := .pointer (some ⟨G, 2, none⟩)) rfl rfl (yw_pure (by rfl) (fun _ => by go_simp)) HS.out ?_
  simp only [Act.put, List.setIfInBounds_toArray, List.set_cons_zero, List.set_cons_succ]
  refine ScrT.take (v := .slice (some ⟨gf, 0, none⟩) fit.length cf) rfl rfl (yw_cell 35 _ rfl ⟨G, 2, none⟩ (.slice (some ⟨gf, 0, none⟩) fit.length cf) rfl (by rfl) _ Tryd.underlying35 rfl (fun W hS => hS.2)) HS.out ?_
  simp only [Act.put, List.setIfInBounds_toArray, List.set_cons_zero, List.set_cons_succ]
  refine ScrT.take (v := .int .i64 fit.length) rfl rfl (yw_pure (by rfl) (fun _ => by go_simp)) HS.out ?_
  simp only [Act.put, List.setIfInBounds_toArray, List.set_cons_zero, List.set_cons_succ]
  refine ScrT.take (v := .int .i64 (st + 1 + (fit.length : Int))) rfl rfl (yw_pure (by rfl) (fun _ => by go_simp)) HS.out ?_
  simp only [Act.put, List.setIfInBounds_toArray, List.set_cons_zero, List.set_cons_succ]
  refine ScrT.take (v := .pointer (some ⟨G, 0, none⟩)) rfl rfl (yw_pure (by rfl) (fun _ => by go_simp)) HS.out ?_
  simp only [Act.put, List.setIfInBounds_toArray, List.set_cons_zero, List.set_cons_succ]
  refine ScrT.take (v := .pointer (some ⟨G, 4, none⟩)) rfl rfl (yw_pure (by rfl) (fun _ => by go_simp)) HS.out ?_
  simp only [Act.put, List.setIfInBounds_toArray, List.set_cons_zero, List.set_cons_succ]
  refine ScrT.run rfl (by rfl) (fun K hK => ?_)
  go_simp
  refine hK _ _ (fun h => absurd h (by decide)) ?_
  clear hK K
  simp only [ScrT]
  have hm6 := (H4.out.2.1.below (W' := V.drew) (Below.refl _ _).drew).setSteps (st + 1 + (fit.length : Int))
  have ht6 := H4.out.2.2.1.trans (((TouchD.of_below (Below.refl _ _).drew (C.newW H4.out.2.2.1))).trans (TouchD.set (j := 4) V.drew (.int .i64 (st + 1 + (fit.length : Int))) C.dG))
  have hb6 := (set_ne0 V.drew (a := ⟨G, 4, none⟩) (.int .i64 (st + 1 + (fit.length : Int))) (show PB ≠ G from ne_of ne)).trans (show V.drew.heap[PB]? = _ from HVB.out)
  have H6 := Lib.hid (And.intro hm6 (And.intro ht6 hb6))
  clear hm6 ht6 hb6 c4 f4
  have hDs : OwnD D (.slice (some ⟨g', 0, none⟩) fit.length c') := fun k e => by cases e; exact H4.out.2.2.2
  have hcl : (fit.length : Int) ≤ (KB p : Int) - 3 := by have h1 := H.out.1.1.len; have h2 := (KB_le p).1; omega
  go_wp2_with fail
  try go_step3
  have hT7 : TrAt p ad c G PB rs true D W0 J fit ⟨(markW ((i : Int), (j : Int)) S).seen, some (fit.set 1 (j : Int))⟩ (st + 1 + (fit.length : Int)) _ jv _ _ ws' _ := ⟨H6.out.1, H.out.2.1.bits, H.out.2.1.ob, H.out.2.1.oj, H.out.2.1.of, hDs, H6.out.2.2, H6.out.2.1, rfl, H.out.2.1.jok, H.out.2.1.len, by have := H.out.1.1.pos; omega⟩
  have hp7 : pot (KB p) (allP p rs.length) J ⟨(markW ((i : Int), (j : Int)) S).seen, some (fit.set 1 (j : Int))⟩ = pot (KB p) (allP p rs.length) J (markW ((i : Int), (j : Int)) S) := rfl
  exact hJ _ _ _ ⟨_, rfl, ⟨rfl, rfl, rfl, rfl, rfl⟩, .inl ⟨rfl, _, _, _, _, _, _, _, _, _, H.out.1.next C.chk hT7 HF.out (by have := HN.out.2.2.1; rw [hp7]; omega)⟩⟩ (lt_eq (by omega) (stOf_eq hT7.mem))
set_option maxRecDepth 1000000 in
set_option maxHeartbeats 8000000 in
theorem on_mat_less_true (p : Pg) (ad : Addr) (c G PB : Nat) (ia : Addr) (rs : List (Int × Int)) (lg : Bool) (D : Nat → Prop) (W0 : World) (Bd : Int) (Fw : Wk (Int × Int)) (C : TryCx p ad c G PB ia rs lg D W0 Bd) (i j : Nat) (J : List (Job (Int × Int))) (fit : List Int) (S : Wk (Int × Int)) (st : Int) (bv jv fv sv : Value) (ws : List Nat) (W : World) (h : OnI p ad c G PB rs lg D W0 Bd Fw i j J fit S st bv jv fv sv ws W) (hs : S.seen ((i : Int), (j : Int)) = false) (ho : (p.get i).op = 1) (hlg : lg = true) (b : List Int) (hb : S.best = some b) (hm : ¬ b.getD 1 0 < (j : Int))
    (g : Nat → Value) (Q0 : Exit → Act → World → Prop) (hQ : ∀ (tm : Array Value) w, EndI p G rs D W0 Bd Fw w → Q0 .ret ⟨tm, []⟩ w) (hQp : ∀ c (d : Tmp) v a w, Q0 (.panic c) (a.put (some d) v) w → Q0 (.panic c) a w) (JX : Nat → Act → World → Prop) (hJ : ∀ l a w, JJ p ad c G PB ia rs lg D W0 Bd Fw l a w → st < stOf G w → JX l a w) :
    (tryR 1).wp Tryd.prog (jumps JX Q0) ⟨#[.pointer (some ⟨G, 0, none⟩), g 1, .pointer (some ia), g 3, .bool lg, g 5, .pointer (some ⟨PB, 0, none⟩), g 7, g 8, g 9, .int .i64 i, .int .i64 j, g 12, g 13, g 14, g 15, g 16, g 17, g 18, g 19, g 20, g 21, g 22, g 23, g 24, g 25, g 26, g 27, g 28, g 29, g 30, g 31, g 32, g 33, g 34, g 35, g 36, g 37, g 38, g 39, g 40, g 41, g 42, g 43, g 44, g 45, g 46, g 47, g 48, g 49, g 50, g 51, g 52, g 53, g 54, g 55, g 56, g 57, g 58, g 59, g 60, g 61, g 62, g 63, g 64, g 65, g 66, g 67, g 68, g 69, g 70, g 71, g 72, g 73, g 74, g 75, g 76, g 77, g 78, g 79, g 80, g 81, g 82, g 83, g 84, g 85, g 86, g 87, g 88, g 89, g 90, g 91, g 92, g 93, g 94, g 95, g 96, g 97, g 98, g 99, g 100, g 101, g 102, g 103, g 104, g 105, g 106, g 107, g 108, g 109, g 110, g 111, g 112, g 113, g 114, g 115, g 116, g 117, g 118, g 119, g 120, g 121, g 122, g 123, g 124, g 125, g 126, g 127, g 128, g 129, g 130, g 131, g 132, g 133, g 134, g 135, g 136, g 137, g 138, g 139, g 140, g 141, g 142, g 143, g 144, g 145, g 146, g 147, g 148, g 149, g 150, g 151, g 152, g 153, g 154, g 155, g 156, g 157, g 158, g 159, g 160, g 161, g 162, g 163, g 164, g 165, g 166, g 167, g 168, g 169, g 170, g 171, g 172, g 173, g 174, g 175, g 176, g 177, g 178, g 179, g 180, g 181, g 182, g 183, g 184, g 185, g 186, g 187, g 188, g 189, g 190, g 191, g 192, g 193, g 194, g 195, g 196, g 197, g 198, g 199, g 200, g 201, g 202, g 203, g 204, g 205, g 206, g 207, g 208, g 209, g 210, g 211, g 212, g 213, g 214, g 215, g 216, g 217, g 218, g 219, g 220, g 221, g 222, g 223, g 224, g 225, g 226, g 227, g 228, g 229, g 230, g 231, g 232, g 233, g 234, g 235, g 236, g 237, g 238, g 239, g 240, g 241, g 242, g 243, g 244], []⟩ W := by
  obtain ⟨n, jL, gb, cb, Y, ws', hw1, hw2, hw0, rfl, hfr, hT2⟩ := on_begin C h
  obtain ⟨c0, c1, c2, c3, c4, f, nG, x0, x1, x2, nP, ne, ne2⟩ := h.1.cells
  have f4 := f 4
  rw [hs] at hfr
  have hi := h.2.2.2.1
  have hj := h.2.2.2.2
  have H := Lib.hid (And.intro h (And.intro hT2 (And.intro hs (And.intro hi hj))))
  clear h hT2 hs hi hj f c0 c1 c2 c3 x1 x2
  conv => arg 2; whnf
  go_wp2_with fail
  refine hfr.mono ?_
  clear hfr hw1 hw2 hw0 c4 f4 nG x0 nP ne ne2
  rintro e w2 ⟨rfl, rfl⟩
  dsimp only
  obtain ⟨c0, c1, c2, c3, c4, f, nG, x0, x1, x2, nP, ne, ne2⟩ := H.out.2.1.cells
  obtain ⟨B3, d3, hadD, hadb, hd3, hd3m, hset, k0, k1, k2, k3, k4⟩ := ins_D (C.pg.touch H.out.2.1.tch) i H.out.2.2.2.1
  have hge := get_at p i H.out.2.2.2.1
  have hq : ((i : Int), (j : Int)) ∈ allP p rs.length := allP_iff.2 ⟨⟨by show (0 : Int) ≤ (i : Int); omega, by show (i : Int) < _; have := H.out.2.2.2.1; omega⟩, by show (0 : Int) ≤ (j : Int); omega, by show (j : Int) < _; have := H.out.2.2.2.2; omega⟩
  have hgo := check_good C.chk (show Pc p ((i : Nat) : Int) from (allP_iff.1 hq).1)
  have hpm := pot_le (K := KB p) (J := J) hq H.out.2.2.1
  have hfr := C.newW H.out.2.1.tch
  have HF0 := fin_matB (p := p) (rn := runeAt rs) (av := atOf rs) (lg := lg) (M := rs.length) (S := S) (J := J) (c := fit) (q := ((i : Int), (j : Int))) H.out.1.1.hal H.out.2.2.1 ho
  have hbo : bestOf (gB p (runeAt rs) (atOf rs) lg rs.length) ((i : Int), (j : Int)) fit S.best = some b := by
    rw [hb]
    exact if_neg (show ¬ b.getD 1 0 < (j : Int) from by omega)
  rw [hbo] at HF0
  have hc2 := (check_ok C.chk).2.2.2.1
  have hfl : 2 ≤ fit.length ∧ fit.length ≤ 4002 := by have h1 := H.out.1.1.len; have h2 := (check_ok C.chk).2.2.2.2.1; omega
  have HN := Lib.hid (And.intro hq (And.intro hgo (And.intro hpm (And.intro hset (And.intro hadD (And.intro hfr ho))))))
  clear hq hgo hpm hset hfr
  have hi : i < p.ins.length := H.out.2.2.2.1
  have hxs : p.ins[i].set.length ≤ 1000000000 := C.set _ (List.getElem_mem hi)
  rw [hge] at ho HN
  clear hge hadD
  generalize p.ins[i] = x at *
  have o1 : (x.op == 1) = true := by rw [ho]; rfl
  have o2 : (x.op == 2) = false := by rw [ho]; rfl
  have o3 : (x.op == 3) = false := by rw [ho]; rfl
  have o4 : (x.op == 4) = false := by rw [ho]; rfl
  have o5 : (x.op == 5) = false := by rw [ho]; rfl
  clear ho
  subst hlg
  have HF := Lib.hid HF0
  have HFL := Lib.hid (And.intro hfl hc2)
  clear HF0 hbo hc2
  obtain ⟨gf, cf, hfe, _, _, hgfn, _⟩ := own_lit H.out.2.1.mem.fit (by rw [List.length_map]; omega)
  rw [List.length_map] at hfe
  subst hfe
  have hbm : BestO w2 (.slice (some ⟨gf, 0, none⟩) fit.length cf) sv S.best := H.out.2.1.mem.best
  rw [hb] at hbm
  obtain ⟨hb2, hbo, hbn⟩ := hbm
  obtain ⟨gs, cs, hse, _, _, hgsn, _⟩ := own_lit hbo (by rw [List.length_map]; omega)
  rw [List.length_map] at hse
  subst hse
  have hb1 : w2.cell? ⟨gs, 1, none⟩ = some (.int .i64 (b.getD 1 0)) := by
    have h9 := hbo.1
    rw [flat_i64] at h9
    have := h9.cells (g := gs) rfl 1 (.int .i64 b[1]) (by rw [List.getElem?_map, List.getElem?_eq_getElem (by omega)]; rfl)
    rw [Addr.add_mid, Nat.zero_add] at this
    rw [this, List.getD_eq_getElem?_getD, List.getElem?_eq_getElem (by omega)]; rfl
  have hd : decide (b.getD 1 0 < (j : Int)) = false := decide_eq_false (by omega)
  generalize hbb : b.getD 1 0 = bb at *
  have HB := Lib.hid (And.intro hb (And.intro hbo hbn))
  clear hb hbo hbn hm hbb
  have heqn := fun (W : World) (a : Option Addr) (n c : Nat) => Lib.run_eql_slice_nil (P := Tryd.prog) W 35 3 a n c 0 0 Tryd.underlying35
  have hT3 := H.out.2.1.below C (below_al (Below.refl _ _) (.cells #[.int .i64 x.op, .int .i64 x.out, .int .i64 x.arg, .slice B3 x.set.length d3, .int .i64 x.at_] 64))
  have hbs : S.best = some b := HB.out.1
  have hme : (⟨(markW ((i : Int), (j : Int)) S).seen, some b⟩ : Wk (Int × Int)) = markW ((i : Int), (j : Int)) S := by rw [← hbs]; rfl
  have HT3 := Lib.hid (And.intro hT3 hme)
  clear hT3 hbs hme
  go_wp2_with fail
  try go_step3
  exact hJ _ _ _ ⟨_, rfl, ⟨rfl, rfl, rfl, rfl, rfl⟩, .inl ⟨rfl, _, _, _, _, _, _, _, _, _, H.out.1.next C.chk HT3.out.1 (by rw [HF.out, HT3.out.2]) (by have := HN.out.2.2.1; omega)⟩⟩ (lt_eq (by omega) (stOf_eq HT3.out.1.mem))
end Go.Proofs.YthclpabmbhpohaaDoor
namespace Go.Proofs.YthclpabmbhpohaaDoor
open Go.RowKit
set_option linter.unusedVariables false
set_option maxRecDepth 1000000 in
set_option maxHeartbeats 8000000 in
theorem on_all (p : Pg) (ad : Addr) (c G PB : Nat) (ia : Addr) (rs : List (Int × Int)) (lg : Bool) (D : Nat → Prop) (W0 : World) (Bd : Int) (Fw : Wk (Int × Int)) (C : TryCx p ad c G PB ia rs lg D W0 Bd) (i j : Nat) (J : List (Job (Int × Int))) (fit : List Int) (S : Wk (Int × Int)) (st : Int) (bv jv fv sv : Value) (ws : List Nat) (W : World) (h : OnI p ad c G PB rs lg D W0 Bd Fw i j J fit S st bv jv fv sv ws W)
    (L : List Value) (hL : FrOK G PB ia lg L) (l10 : L[10]? = some (.int .i64 i)) (l11 : L[11]? = some (.int .i64 j)) (Q0 : Exit → Act → World → Prop) (hQ : ∀ (tm : Array Value) w, EndI p G rs D W0 Bd Fw w → Q0 .ret ⟨tm, []⟩ w) (hQp : ∀ c (d : Tmp) v a w, Q0 (.panic c) (a.put (some d) v) w → Q0 (.panic c) a w) (JX : Nat → Act → World → Prop) (hJ : ∀ l a w, JJ p ad c G PB ia rs lg D W0 Bd Fw l a w → st < stOf G w → JX l a w) :
    (tryR 1).wp Tryd.prog (jumps JX Q0) ⟨L.toArray, []⟩ W := by
  obtain ⟨hL, l0, l2, l4, l6⟩ := hL
  have hLL : L = [L.getD 0 undef, L.getD 1 undef, L.getD 2 undef, L.getD 3 undef, L.getD 4 undef, L.getD 5 undef, L.getD 6 undef, L.getD 7 undef, L.getD 8 undef, L.getD 9 undef, L.getD 10 undef, L.getD 11 undef, L.getD 12 undef, L.getD 13 undef, L.getD 14 undef, L.getD 15 undef, L.getD 16 undef, L.getD 17 undef, L.getD 18 undef, L.getD 19 undef, L.getD 20 undef, L.getD 21 undef, L.getD 22 undef, L.getD 23 undef, L.getD 24 undef, L.getD 25 undef, L.getD 26 undef, L.getD 27 undef, L.getD 28 undef, L.getD 29 undef, L.getD 30 undef, L.getD 31 undef, L.getD 32 undef, L.getD 33 undef, L.getD 34 undef, L.getD 35 undef, L.getD 36 undef, L.getD 37 undef, L.getD 38 undef, L.getD 39 undef, L.getD 40 undef, L.getD 41 undef, L.getD 42 undef, L.getD 43 undef, L.getD 44 undef, L.getD 45 undef, L.getD 46 undef, L.getD 47 undef, L.getD 48 undef, L.getD 49 undef, L.getD 50 undef, L.getD 51 undef, L.getD 52 undef, L.getD 53 undef, L.getD 54 undef, L.getD 55 undef, L.getD 56 undef, L.getD 57 undef, L.getD 58 undef, L.getD 59 undef, L.getD 60 undef, L.getD 61 undef, L.getD 62 undef, L.getD 63 undef, L.getD 64 undef, L.getD 65 undef, L.getD 66 undef, L.getD 67 undef, L.getD 68 undef, L.getD 69 undef, L.getD 70 undef, L.getD 71 undef, L.getD 72 undef, L.getD 73 undef, L.getD 74 undef, L.getD 75 undef, L.getD 76 undef, L.getD 77 undef, L.getD 78 undef, L.getD 79 undef, L.getD 80 undef, L.getD 81 undef, L.getD 82 undef, L.getD 83 undef, L.getD 84 undef, L.getD 85 undef, L.getD 86 undef, L.getD 87 undef, L.getD 88 undef, L.getD 89 undef, L.getD 90 undef, L.getD 91 undef, L.getD 92 undef, L.getD 93 undef, L.getD 94 undef, L.getD 95 undef, L.getD 96 undef, L.getD 97 undef, L.getD 98 undef, L.getD 99 undef, L.getD 100 undef, L.getD 101 undef, L.getD 102 undef, L.getD 103 undef, L.getD 104 undef, L.getD 105 undef, L.getD 106 undef, L.getD 107 undef, L.getD 108 undef, L.getD 109 undef, L.getD 110 undef, L.getD 111 undef, L.getD 112 undef, L.getD 113 undef, L.getD 114 undef, L.getD 115 undef, L.getD 116 undef, L.getD 117 undef, L.getD 118 undef, L.getD 119 undef, L.getD 120 undef, L.getD 121 undef, L.getD 122 undef, L.getD 123 undef, L.getD 124 undef, L.getD 125 undef, L.getD 126 undef, L.getD 127 undef, L.getD 128 undef, L.getD 129 undef, L.getD 130 undef, L.getD 131 undef, L.getD 132 undef, L.getD 133 undef, L.getD 134 undef, L.getD 135 undef, L.getD 136 undef, L.getD 137 undef, L.getD 138 undef, L.getD 139 undef, L.getD 140 undef, L.getD 141 undef, L.getD 142 undef, L.getD 143 undef, L.getD 144 undef, L.getD 145 undef, L.getD 146 undef, L.getD 147 undef, L.getD 148 undef, L.getD 149 undef, L.getD 150 undef, L.getD 151 undef, L.getD 152 undef, L.getD 153 undef, L.getD 154 undef, L.getD 155 undef, L.getD 156 undef, L.getD 157 undef, L.getD 158 undef, L.getD 159 undef, L.getD 160 undef, L.getD 161 undef, L.getD 162 undef, L.getD 163 undef, L.getD 164 undef, L.getD 165 undef, L.getD 166 undef, L.getD 167 undef, L.getD 168 undef, L.getD 169 undef, L.getD 170 undef, L.getD 171 undef, L.getD 172 undef, L.getD 173 undef, L.getD 174 undef, L.getD 175 undef, L.getD 176 undef, L.getD 177 undef, L.getD 178 undef, L.getD 179 undef, L.getD 180 undef, L.getD 181 undef, L.getD 182 undef, L.getD 183 undef, L.getD 184 undef, L.getD 185 undef, L.getD 186 undef, L.getD 187 undef, L.getD 188 undef, L.getD 189 undef, L.getD 190 undef, L.getD 191 undef, L.getD 192 undef, L.getD 193 undef, L.getD 194 undef, L.getD 195 undef, L.getD 196 undef, L.getD 197 undef, L.getD 198 undef, L.getD 199 undef, L.getD 200 undef, L.getD 201 undef, L.getD 202 undef, L.getD 203 undef, L.getD 204 undef, L.getD 205 undef, L.getD 206 undef, L.getD 207 undef, L.getD 208 undef, L.getD 209 undef, L.getD 210 undef, L.getD 211 undef, L.getD 212 undef, L.getD 213 undef, L.getD 214 undef, L.getD 215 undef, L.getD 216 undef, L.getD 217 undef, L.getD 218 undef, L.getD 219 undef, L.getD 220 undef, L.getD 221 undef, L.getD 222 undef, L.getD 223 undef, L.getD 224 undef, L.getD 225 undef, L.getD 226 undef, L.getD 227 undef, L.getD 228 undef, L.getD 229 undef, L.getD 230 undef, L.getD 231 undef, L.getD 232 undef, L.getD 233 undef, L.getD 234 undef, L.getD 235 undef, L.getD 236 undef, L.getD 237 undef, L.getD 238 undef, L.getD 239 undef, L.getD 240 undef, L.getD 241 undef, L.getD 242 undef, L.getD 243 undef, L.getD 244 undef] := frame_open undef 245 L hL
  have k0 : L.getD 0 undef = .pointer (some ⟨G, 0, none⟩) := by rw [List.getD_eq_getElem?_getD, l0]; rfl
  have k2 : L.getD 2 undef = .pointer (some ia) := by rw [List.getD_eq_getElem?_getD, l2]; rfl
  have k4 : L.getD 4 undef = .bool lg := by rw [List.getD_eq_getElem?_getD, l4]; rfl
  have k6 : L.getD 6 undef = .pointer (some ⟨PB, 0, none⟩) := by rw [List.getD_eq_getElem?_getD, l6]; rfl
  have k10 : L.getD 10 undef = .int .i64 i := by rw [List.getD_eq_getElem?_getD, l10]; rfl
  have k11 : L.getD 11 undef = .int .i64 j := by rw [List.getD_eq_getElem?_getD, l11]; rfl
  rw [k0, k2, k4, k6, k10, k11] at hLL
  clear k0 k2 k4 k6 l0 l2 l4 l6 k10 k11 l10 l11 hL
  obtain ⟨g, hg⟩ : ∃ g : Nat → Value, ∀ n, L.getD n undef = g n := ⟨_, fun _ => rfl⟩
  simp only [hg] at hLL
  clear hg
  subst hLL
  by_cases hs : S.seen ((i : Int), (j : Int)) = true
  · exact on_seen p ad c G PB ia rs lg D W0 Bd Fw C i j J fit S st bv jv fv sv ws W h hs g Q0 hQ hQp JX hJ
  have hs : S.seen ((i : Int), (j : Int)) = false := by simpa using hs
  by_cases o1 : (p.get (i : Int)).op = 1
  · by_cases hl : lg = true
    · cases hb : S.best with
      | none => exact on_mat_none_true p ad c G PB ia rs lg D W0 Bd Fw C i j J fit S st bv jv fv sv ws W h hs o1 hl hb g Q0 hQ hQp JX hJ
      | some b =>
        by_cases hm : b.getD 1 0 < (j : Int)
        · exact on_mat_more_true p ad c G PB ia rs lg D W0 Bd Fw C i j J fit S st bv jv fv sv ws W h hs o1 hl b hb hm g Q0 hQ hQp JX hJ
        · exact on_mat_less_true p ad c G PB ia rs lg D W0 Bd Fw C i j J fit S st bv jv fv sv ws W h hs o1 hl b hb hm g Q0 hQ hQp JX hJ
    · have hl : lg = false := by simpa using hl
      cases hb : S.best with
      | none => exact on_mat_none_false p ad c G PB ia rs lg D W0 Bd Fw C i j J fit S st bv jv fv sv ws W h hs o1 hl hb g Q0 hQ hQp JX hJ
      | some b =>
        exfalso
        have h9 := h.1.hal
        unfold halts gB grP at h9
        rw [hb, hl] at h9
        cases h9
  by_cases o2 : (p.get (i : Int)).op = 2
  · cases hh : hasB (p.get (i : Int)).set (runeAt rs j) with
    | true => exact on_set1 p ad c G PB ia rs lg D W0 Bd Fw C i j J fit S st bv jv fv sv ws W h hs o2 hh g Q0 hQ hQp JX hJ
    | false => exact on_set0 p ad c G PB ia rs lg D W0 Bd Fw C i j J fit S st bv jv fv sv ws W h hs o2 hh g Q0 hQ hQp JX hJ
  by_cases o3 : (p.get (i : Int)).op = 3
  · exact on_alt p ad c G PB ia rs lg D W0 Bd Fw C i j J fit S st bv jv fv sv ws W h hs o3 g Q0 hQ hQp JX hJ
  by_cases o4 : (p.get (i : Int)).op = 4
  · exact on_cap p ad c G PB ia rs lg D W0 Bd Fw C i j J fit S st bv jv fv sv ws W h hs o4 g Q0 hQ hQp JX hJ
  by_cases o5 : (p.get (i : Int)).op = 5
  · cases hh : hitB (atOf rs j) (p.get (i : Int)).at_ with
    | true => exact on_at1 p ad c G PB ia rs lg D W0 Bd Fw C i j J fit S st bv jv fv sv ws W h hs o5 hh g Q0 hQ hQp JX hJ
    | false => exact on_at0 p ad c G PB ia rs lg D W0 Bd Fw C i j J fit S st bv jv fv sv ws W h hs o5 hh g Q0 hQ hQp JX hJ
  exact on_fail p ad c G PB ia rs lg D W0 Bd Fw C i j J fit S st bv jv fv sv ws W h hs ⟨o1, o2, o3, o4, o5⟩ g Q0 hQ hQp JX hJ
end Go.Proofs.YthclpabmbhpohaaDoor
namespace Go.Proofs.YthclpabmbhpohaaDoor
open Go.RowKit
set_option linter.unusedVariables false
set_option maxRecDepth 1000000 in
set_option maxHeartbeats 8000000 in
theorem next_go (p : Pg) (ad : Addr) (c G PB : Nat) (ia : Addr) (rs : List (Int × Int)) (lg : Bool) (D : Nat → Prop) (W0 : World) (Bd : Int) (Fw : Wk (Int × Int)) (C : TryCx p ad c G PB ia rs lg D W0 Bd) (J : List (Job (Int × Int))) (fit : List Int) (S : Wk (Int × Int)) (st : Int) (bv jv fv sv : Value) (ws : List Nat) (W : World) (i j : Nat) (h : NextI p ad c G PB rs lg D W0 Bd Fw (.go ((i : Int), (j : Int)) :: J) fit S st bv jv fv sv ws W)
    (g : Nat → Value) (Q0 : Exit → Act → World → Prop) (hQ : ∀ (tm : Array Value) w, EndI p G rs D W0 Bd Fw w → Q0 .ret ⟨tm, []⟩ w) (hQp : ∀ c (d : Tmp) v a w, Q0 (.panic c) (a.put (some d) v) w → Q0 (.panic c) a w) (JX : Nat → Act → World → Prop) (hJ : ∀ l a w, JJ p ad c G PB ia rs lg D W0 Bd Fw l a w → st < stOf G w → JX l a w) :
    (tryR 0).wp Tryd.prog (jumps JX Q0) ⟨#[.pointer (some ⟨G, 0, none⟩), g 1, .pointer (some ia), g 3, .bool lg, g 5, .pointer (some ⟨PB, 0, none⟩), g 7, g 8, g 9, g 10, g 11, g 12, g 13, g 14, g 15, g 16, g 17, g 18, g 19, g 20, g 21, g 22, g 23, g 24, g 25, g 26, g 27, g 28, g 29, g 30, g 31, g 32, g 33, g 34, g 35, g 36, g 37, g 38, g 39, g 40, g 41, g 42, g 43, g 44, g 45, g 46, g 47, g 48, g 49, g 50, g 51, g 52, g 53, g 54, g 55, g 56, g 57, g 58, g 59, g 60, g 61, g 62, g 63, g 64, g 65, g 66, g 67, g 68, g 69, g 70, g 71, g 72, g 73, g 74, g 75, g 76, g 77, g 78, g 79, g 80, g 81, g 82, g 83, g 84, g 85, g 86, g 87, g 88, g 89, g 90, g 91, g 92, g 93, g 94, g 95, g 96, g 97, g 98, g 99, g 100, g 101, g 102, g 103, g 104, g 105, g 106, g 107, g 108, g 109, g 110, g 111, g 112, g 113, g 114, g 115, g 116, g 117, g 118, g 119, g 120, g 121, g 122, g 123, g 124, g 125, g 126, g 127, g 128, g 129, g 130, g 131, g 132, g 133, g 134, g 135, g 136, g 137, g 138, g 139, g 140, g 141, g 142, g 143, g 144, g 145, g 146, g 147, g 148, g 149, g 150, g 151, g 152, g 153, g 154, g 155, g 156, g 157, g 158, g 159, g 160, g 161, g 162, g 163, g 164, g 165, g 166, g 167, g 168, g 169, g 170, g 171, g 172, g 173, g 174, g 175, g 176, g 177, g 178, g 179, g 180, g 181, g 182, g 183, g 184, g 185, g 186, g 187, g 188, g 189, g 190, g 191, g 192, g 193, g 194, g 195, g 196, g 197, g 198, g 199, g 200, g 201, g 202, g 203, g 204, g 205, g 206, g 207, g 208, g 209, g 210, g 211, g 212, g 213, g 214, g 215, g 216, g 217, g 218, g 219, g 220, g 221, g 222, g 223, g 224, g 225, g 226, g 227, g 228, g 229, g 230, g 231, g 232, g 233, g 234, g 235, g 236, g 237, g 238, g 239, g 240, g 241, g 242, g 243, g 244], []⟩ W := by
  obtain ⟨gj, cj, hje, hcj, hcm, hgjn, hgjf, hGg, hPg, hrow⟩ := h.1.last
  subst hje
  obtain ⟨ln, hln⟩ : ∃ ln, J.length + 1 = ln := ⟨_, rfl⟩
  obtain ⟨l0, hl0⟩ : ∃ l0, J.length = l0 := ⟨_, rfl⟩
  have hst : IntKind.i64.wrap (st + 1) = st + 1 := IntWalk.i64_in _ (by have h1 := h.2.2; have h2 := C.bd; have h3 := h.1.pos; omega)
  have hT1 := h.1.steps C (show 0 ≤ st + 1 by have := h.1.pos; omega)
  obtain ⟨c0, c1, c2, c3, c4, f, nG, x0, x1, x2, nP, ne, ne2⟩ := h.1.cells
  have f4 := f 4
  have hlen0 : ((ln : Int) == 0) = false := by simp; omega
  have hwl : IntKind.i64.wrap ((ln : Int) - 1) = (l0 : Int) := by rw [IntWalk.i64_in _ (by unfold maxLen at hcm; omega)]; omega
  have hr0 : ∀ r u, (jobC (.go ((i : Int), (j : Int))))[r]? = some u → (W.setCell ⟨G, 4, none⟩ (.int .i64 (st + 1))).cell? ⟨gj, l0 * 3 + r, none⟩ = some u := fun r u hu => by
    rw [← hrow r u hu, hl0]
    exact World.cell?_of_block (set_ne0 W _ (Ne.symm hGg))
  rw [hln] at c1
  have H := Lib.hid (And.intro h (And.intro hr0 (And.intro hl0 (And.intro hgjf (And.intro hGg hPg)))))
  have hlt : l0 < ln := by omega
  have hlc : ln ≤ cj := by omega
  have hl0c : l0 ≤ cj := by omega
  have hl0d : ¬ cj < l0 := by omega
  clear h hrow hr0 c0 c2 c3 x0 x1 x2 nP f hgjf hcj
  conv => arg 2; whnf
  go_wp2_with fail
  obtain ⟨X, hX⟩ : ∃ X, W.setCell ⟨G, 4, none⟩ (.int .i64 (st + 1)) = X := ⟨_, rfl⟩
  rw [hX] at hT1 H ⊢
  clear hX hlen0 c1 c4 f4 nG hst
  have hcE : ∀ W', Below X.heap.size X W' → W'.cell? ⟨G, 1, none⟩ = some (.slice (some ⟨gj, 0, none⟩) ln cj) ∧ ∀ r u, (jobC (.go ((i : Int), (j : Int))))[r]? = some u → W'.cell? ⟨gj, l0 * 3 + r, none⟩ = some u := fun W' hW => ⟨by rw [cell_of_blk ((hW.block _ (heap_lt hT1.mem.blk)).trans hT1.mem.blk), ← hln]; rfl, fun r u hu => (World.cell?_of_block (hW.block gj (by have h9 := H.out.2.1 r u hu; exact World.block_lt_of_cell? X _ h9))).trans (H.out.2.1 r u hu)⟩
  have HC := Lib.hid hcE
  have HT1 := Lib.hid hT1
  clear hcE hT1
  refine wp_region_scrT (fun W' => W'.cell? ⟨G, 1, none⟩ = some (.slice (some ⟨gj, 0, none⟩) ln cj) ∧ ∀ r u, (jobC (.go ((i : Int), (j : Int))))[r]? = some u → W'.cell? ⟨gj, l0 * 3 + r, none⟩ = some u) 13 [(true, 0, 60), (true, 1, 61), (true, 2, 62), (true, 3, 63), (true, 4, 64), (true, 5, 65), (true, 6, 66), (true, 7, 67), (true, 8, 68), (true, 9, 69), (true, 10, 70), (true, 11, 71), (false, 12, 12), (false, 13, 0)] (by kernel_rfl) (by kernel_rfl) (by kernel_rfl) (by kernel_rfl) rfl (fun c d v a w h => hQp c d v a w h) rfl (by kernel_rfl) ?_
  have HS := Lib.hid (HC.out _ (Below.refl _ _).drew)
  refine ScrT.take (v := .pointer (some ⟨G, 0, none⟩)) rfl rfl (yw_pure (by rfl) (fun _ => by go_simp)) HS.out ?_
  simp only [Act.put, List.setIfInBounds_toArray, List.set_cons_zero, List.set_cons_succ]
  refine ScrT.take (v := .pointer (some ⟨G, 0, none⟩)) rfl rfl (yw_pure (by rfl) (fun _ => by go_simp)) HS.out ?_
  simp only [Act.put, List.setIfInBounds_toArray, List.set_cons_zero, List.set_cons_succ]
  refine ScrT.take (v := .pointer (some ⟨G, 1, none⟩)) rfl rfl (yw_pure (by rfl) (fun _ => by go_simp)) HS.out ?_
  simp only [Act.put, List.setIfInBounds_toArray, List.set_cons_zero, List.set_cons_succ]
  refine ScrT.take (v := .slice (some ⟨gj, 0, none⟩) ln cj) rfl rfl (yw_cell 68 _ rfl ⟨G, 1, none⟩ (.slice (some ⟨gj, 0, none⟩) ln cj) rfl (by rfl) _ Tryd.underlying68 rfl (fun W hS => hS.1)) HS.out ?_
  simp only [Act.put, List.setIfInBounds_toArray, List.set_cons_zero, List.set_cons_succ]
  refine ScrT.take (v := .pointer (some ⟨G, 0, none⟩)) rfl rfl (yw_pure (by rfl) (fun _ => by go_simp)) HS.out ?_
  simp only [Act.put, List.setIfInBounds_toArray, List.set_cons_zero, List.set_cons_succ]
  refine ScrT.take (v := .pointer (some ⟨G, 0, none⟩)) rfl rfl (yw_pure (by rfl) (fun _ => by go_simp)) HS.out ?_
  simp only [Act.put, List.setIfInBounds_toArray, List.set_cons_zero, List.set_cons_succ]
  refine ScrT.take (v := .pointer (some ⟨G, 1, none⟩)) rfl rfl (yw_pure (by rfl) (fun _ => by go_simp)) HS.out ?_
  simp only [Act.put, List.setIfInBounds_toArray, List.set_cons_zero, List.set_cons_succ]
  refine ScrT.take (v := .slice (some ⟨gj, 0, none⟩) ln cj) rfl rfl (yw_cell 68 _ rfl ⟨G, 1, none⟩ (.slice (some ⟨gj, 0, none⟩) ln cj) rfl (by rfl) _ Tryd.underlying68 rfl (fun W hS => hS.1)) HS.out ?_
  simp only [Act.put, List.setIfInBounds_toArray, List.set_cons_zero, List.set_cons_succ]
  refine ScrT.take (v := .int .i64 ln) rfl rfl (yw_pure (by rfl) (fun _ => by go_simp)) HS.out ?_
  simp only [Act.put, List.setIfInBounds_toArray, List.set_cons_zero, List.set_cons_succ]
  refine ScrT.take (v := .int .i64 l0) rfl rfl (yw_pure (by rfl) (fun _ => by go_simp)) HS.out ?_
  simp only [Act.put, List.setIfInBounds_toArray, List.set_cons_zero, List.set_cons_succ]
  refine ScrT.take (v := .pointer (some ⟨gj, l0 * 3, none⟩)) rfl rfl (yw_pure (by rfl) (fun _ => by go_simp)) HS.out ?_
  simp only [Act.put, List.setIfInBounds_toArray, List.set_cons_zero, List.set_cons_succ]
  refine ScrT.take (v := .agg #[.int .i64 i, .int .i64 j, .int .i64 0]) rfl rfl (yw_rowB 105 _ rfl ⟨gj, l0 * 3, none⟩ ([.int .i64 i, .int .i64 j, .int .i64 0] : List Value) rfl (by rfl) _ Tryd.underlying105 rfl (by rfl) (fun W hS r u hu => by rw [Addr.add_mid]; exact hS.2 r u hu)) HS.out ?_
  simp only [Act.put, List.setIfInBounds_toArray, List.set_cons_zero, List.set_cons_succ]
  refine ScrT.run rfl (by rfl) (fun K hK => ?_)
  go_simp
  refine hK _ _ (fun _ => HC.out _ (below_al (Below.refl _ _).drew _)) ?_
  clear hK K
  try rw [show X.drew.heap.size = X.heap.size from rfl]
  obtain ⟨Y, hY⟩ : ∃ Y, (X.alloc (.cells #[.int .i64 0, .int .i64 0, .int .i64 0] 105)).drew = Y := ⟨_, rfl⟩
  have hYB : Below X.heap.size X Y := by rw [← hY]; exact (below_al (Below.refl _ _) _).drew
  have hY1 : Y.heap[X.heap.size]? = some (.cells #[.int .i64 0, .int .i64 0, .int .i64 0] 105 (0, 0)) := by rw [← hY]; exact heap_new1 X _
  rw [hY]
  clear hY
  refine ScrT.run rfl (by rfl) (fun K hK => ?_)
  refine wp_storeB 105 _ _ rfl X.heap.size ([.int .i64 i, .int .i64 j, .int .i64 0] : List Value) ([.int .i64 0, .int .i64 0, .int .i64 0] : List Value) 105 rfl rfl hY1 rfl (by rfl) (by simp [Value.oneCell']) ?_
  intro V hV1 hVg hVs
  have hVB : Below X.heap.size X V := hYB.grown hVg hYB.size (fun k e => by cases e; exact Nat.le_refl _)
  refine hK _ _ (fun h => absurd h (by decide)) ?_
  clear hK K hYB hY1 hVg hVs
  simp only [Act.put, ScrT]
  have hT2 := HT1.out.below C hVB
  obtain ⟨c0, c1, c2, c3, c4, f, nG, x0, x1, x2, nP, ne, ne2⟩ := hT2.cells
  rw [hln] at c1
  have f1 := f 1
  have nbV := heap_lt hV1
  have hnbG : (X.heap.size = G) = False := eq_false (fun e => by have h9 := heap_lt HT1.out.mem.blk; omega)
  have HV := Lib.hid (And.intro hT2 hV1)
  clear hT2 hV1 hVB c0 c2 c3 c4 f x0 x1 x2 nP
  go_wp2_with fail
  have hcF : ∀ W', Below V.heap.size V W' → W'.cell? ⟨G, 1, none⟩ = some (.slice (some ⟨gj, 0, none⟩) ln cj) := fun W' hW => by rw [cell_of_blk ((hW.block _ (heap_lt HV.out.1.mem.blk)).trans HV.out.1.mem.blk), ← hln]; rfl
  have HCF := Lib.hid hcF
  clear hcF
  refine wp_region_scrT (fun W' => W'.cell? ⟨G, 1, none⟩ = some (.slice (some ⟨gj, 0, none⟩) ln cj)) 14 [(true, 0, 72), (true, 1, 73), (true, 2, 74), (true, 3, 75), (true, 4, 76), (true, 5, 77), (true, 6, 78), (true, 7, 79), (true, 8, 80), (true, 9, 81), (true, 10, 82), (true, 11, 83), (true, 12, 84), (true, 13, 85), (false, 14, 0)] (by kernel_rfl) (by kernel_rfl) (by kernel_rfl) (by kernel_rfl) rfl (fun c d v a w h => hQp c d v a w h) rfl (by kernel_rfl) ?_
  have HS2 := Lib.hid (HCF.out _ (Below.refl _ _).drew)
  refine ScrT.take (v := .pointer (some ⟨G, 0, none⟩)) rfl rfl (yw_pure (by rfl) (fun _ => by go_simp)) HS2.out ?_
  simp only [Act.put, List.setIfInBounds_toArray, List.set_cons_zero, List.set_cons_succ]
  refine ScrT.take (v := .pointer (some ⟨G, 0, none⟩)) rfl rfl (yw_pure (by rfl) (fun _ => by go_simp)) HS2.out ?_
  simp only [Act.put, List.setIfInBounds_toArray, List.set_cons_zero, List.set_cons_succ]
  refine ScrT.take (v := .pointer (some ⟨G, 0, none⟩)) rfl rfl (yw_pure (by rfl) (fun _ => by go_simp)) HS2.out ?_
  simp only [Act.put, List.setIfInBounds_toArray, List.set_cons_zero, List.set_cons_succ]
  refine ScrT.take (v := .pointer (some ⟨G, 1, none⟩)) rfl rfl (yw_pure (by rfl) (fun _ => by go_simp)) HS2.out ?_
  simp only [Act.put, List.setIfInBounds_toArray, List.set_cons_zero, List.set_cons_succ]
  refine ScrT.take (v := .slice (some ⟨gj, 0, none⟩) ln cj) rfl rfl (yw_cell 68 _ rfl ⟨G, 1, none⟩ (.slice (some ⟨gj, 0, none⟩) ln cj) rfl (by rfl) _ Tryd.underlying68 rfl (fun W hS => hS)) HS2.out ?_
  simp only [Act.put, List.setIfInBounds_toArray, List.set_cons_zero, List.set_cons_succ]
  refine ScrT.take (v := .pointer (some ⟨G, 0, none⟩)) rfl rfl (yw_pure (by rfl) (fun _ => by go_simp)) HS2.out ?_
  simp only [Act.put, List.setIfInBounds_toArray, List.set_cons_zero, List.set_cons_succ]
  refine ScrT.take (v := .pointer (some ⟨G, 0, none⟩)) rfl rfl (yw_pure (by rfl) (fun _ => by go_simp)) HS2.out ?_
  simp only [Act.put, List.setIfInBounds_toArray, List.set_cons_zero, List.set_cons_succ]
  refine ScrT.take (v := .pointer (some ⟨G, 1, none⟩)) rfl rfl (yw_pure (by rfl) (fun _ => by go_simp)) HS2.out ?_
  simp only [Act.put, List.setIfInBounds_toArray, List.set_cons_zero, List.set_cons_succ]
  refine ScrT.take (v := .slice (some ⟨gj, 0, none⟩) ln cj) rfl rfl (yw_cell 68 _ rfl ⟨G, 1, none⟩ (.slice (some ⟨gj, 0, none⟩) ln cj) rfl (by rfl) _ Tryd.underlying68 rfl (fun W hS => hS)) HS2.out ?_
  simp only [Act.put, List.setIfInBounds_toArray, List.set_cons_zero, List.set_cons_succ]
  refine ScrT.take (v := .int .i64 ln) rfl rfl (yw_pure (by rfl) (fun _ => by go_simp)) HS2.out ?_
  simp only [Act.put, List.setIfInBounds_toArray, List.set_cons_zero, List.set_cons_succ]
  refine ScrT.take (v := .int .i64 l0) rfl rfl (yw_pure (by rfl) (fun _ => by go_simp)) HS2.out ?_
  simp only [Act.put, List.setIfInBounds_toArray, List.set_cons_zero, List.set_cons_succ]
  refine ScrT.take (v := .slice (some ⟨gj, 0, none⟩) l0 cj) rfl rfl (yw_pure (by rfl) (fun _ => by go_simp)) HS2.out ?_
  simp only [Act.put, List.setIfInBounds_toArray, List.set_cons_zero, List.set_cons_succ]
  refine ScrT.take (v := .pointer (some ⟨G, 0, none⟩)) rfl rfl (yw_pure (by rfl) (fun _ => by go_simp)) HS2.out ?_
  simp only [Act.put, List.setIfInBounds_toArray, List.set_cons_zero, List.set_cons_succ]
  refine ScrT.take (v := .pointer (some ⟨G, 1, none⟩)) rfl rfl (yw_pure (by rfl) (fun _ => by go_simp)) HS2.out ?_
  simp only [Act.put, List.setIfInBounds_toArray, List.set_cons_zero, List.set_cons_succ]
  refine ScrT.run rfl (by rfl) (fun K hK => ?_)
  go_simp
  refine hK _ _ (fun h => absurd h (by decide)) ?_
  clear hK K
  simp only [ScrT]
  have hT3 := (HV.out.1.below C (W' := V.drew) (Below.refl _ _).drew).pop C
  have hnb3 := (set_ne0 V.drew (a := ⟨G, 1, none⟩) (.slice (some ⟨gj, 0, none⟩) J.length cj) (show X.heap.size ≠ G from ne_of hnbG)).trans (show V.drew.heap[X.heap.size]? = _ from HV.out.2)
  rw [hl0] at hT3 hnb3
  clear c1 f1 nG nbV
  obtain ⟨U, hU⟩ : ∃ U, V.drew.setCell ⟨G, 1, none⟩ (.slice (some ⟨gj, 0, none⟩) l0 cj) = U := ⟨_, rfl⟩
  rw [hU] at hT3 hnb3
  try rw [show (V.setCell ⟨G, 1, none⟩ (.slice (some ⟨gj, 0, none⟩) l0 cj)).drew = U from hU]
  try rw [hU]
  clear hU
  have b0 : U.cell? ⟨X.heap.size, 0, none⟩ = some (.int .i64 i) := by rw [cell_of_blk hnb3]; rfl
  have b1 : U.cell? ⟨X.heap.size, 1, none⟩ = some (.int .i64 j) := by rw [cell_of_blk hnb3]; rfl
  have b2 : U.cell? ⟨X.heap.size, 2, none⟩ = some (.int .i64 0) := by rw [cell_of_blk hnb3]; rfl
  have nb := heap_lt hnb3
  have HU := Lib.hid (And.intro hT3 hnb3)
  clear hT3 hnb3
  go_wp2_with fail
  have hij := allP_iff.1 (show ((i : Int), (j : Int)) ∈ allP p rs.length from H.out.1.1.jok _ (List.mem_cons_self ..))
  have hi : i < p.ins.length := by have h9 := hij.1.2; dsimp only at h9; omega
  have hj : j < rs.length := by have h9 := hij.2.2; dsimp only at h9; omega
  have HC3 : Hid (∀ W, Below U.heap.size U W → W.cell? ⟨X.heap.size, 0, none⟩ = some (.int .i64 i) ∧ W.cell? ⟨X.heap.size, 1, none⟩ = some (.int .i64 j)) := Lib.hid (fun W hW => by
    have h2 := (hW.block _ (heap_lt HU.out.2)).trans HU.out.2
    exact ⟨by rw [cell_of_blk h2]; rfl, by rw [cell_of_blk h2]; rfl⟩)
  have HI := Lib.hid (And.intro hi hj)
  clear hij b0 b1 b2 hi hj
  refine wp_region_scr (fun W => Below U.heap.size U W) [(true, 0, 98), (true, 1, 99), (true, 2, 100), (true, 3, 101), (true, 4, 10), (true, 5, 11)] (by kernel_rfl) (by kernel_rfl) (fun c d v a w h => hQp c d v a w h) rfl (by kernel_rfl) ?_
  have HS3 := Lib.hid (show Below U.heap.size U U.drew from (Below.refl _ _).drew)
  refine Scr.take (v := .pointer (some ⟨X.heap.size, 0, none⟩)) rfl rfl (yw_pure (by rfl) (fun _ => by go_simp)) HS3.out ?_
  simp only [Act.put, List.setIfInBounds_toArray, List.set_cons_zero, List.set_cons_succ]
  refine Scr.take (v := .int .i64 i) rfl rfl (yw_cell 3 _ rfl ⟨X.heap.size, 0, none⟩ (.int .i64 i) rfl (by rfl) _ Tryd.underlying3 rfl (fun W hS => (HC3.out W hS).1)) HS3.out ?_
  simp only [Act.put, List.setIfInBounds_toArray, List.set_cons_zero, List.set_cons_succ]
  refine Scr.take (v := .pointer (some ⟨X.heap.size, 1, none⟩)) rfl rfl (yw_pure (by rfl) (fun _ => by go_simp)) HS3.out ?_
  simp only [Act.put, List.setIfInBounds_toArray, List.set_cons_zero, List.set_cons_succ]
  refine Scr.take (v := .int .i64 j) rfl rfl (yw_cell 3 _ rfl ⟨X.heap.size, 1, none⟩ (.int .i64 j) rfl (by rfl) _ Tryd.underlying3 rfl (fun W hS => (HC3.out W hS).2)) HS3.out ?_
  simp only [Act.put, List.setIfInBounds_toArray, List.set_cons_zero, List.set_cons_succ]
  refine Scr.take (v := .int .i64 i) rfl rfl (yw_pure (by rfl) (fun _ => by go_simp)) HS3.out ?_
  simp only [Act.put, List.setIfInBounds_toArray, List.set_cons_zero, List.set_cons_succ]
  refine Scr.take (v := .int .i64 j) rfl rfl (yw_pure (by rfl) (fun _ => by go_simp)) HS3.out ?_
  simp only [Act.put, List.setIfInBounds_toArray, List.set_cons_zero, List.set_cons_succ]
  simp only [Scr]
  have hT4 := HU.out.1.below C (W' := U.drew) (Below.refl _ _).drew
  have hp6 : pot (KB p) (allP p rs.length) (.go ((i : Int), (j : Int)) :: J) S = pot (KB p) (allP p rs.length) J S + 2 := rfl
  have hon : OnI p ad c G PB rs lg D W0 Bd Fw i j J fit S (st + 1) bv _ fv sv ws U.drew := ⟨hT4, H.out.1.2.1, by have h9 := H.out.1.2.2; rw [hp6] at h9; omega, HI.out.1, HI.out.2⟩
  have HON := Lib.hid hon
  clear hon hT4
  refine (show ∀ (K : Act → World → Prop) a w, K a w → Exit.then K (jumps JX Q0) .normal a w from fun _ _ _ h => h) _ _ _ ?_
  apply_assumption
  refine wp_seq ?_
  refine wp_label ?_
  refine (show ∀ (K : Act → World → Prop) a w, K a w → Exit.then K (jumps JX Q0) .normal a w from fun _ _ _ h => h) _ _ _ ?_
  refine on_all p ad c G PB ia rs lg D W0 Bd Fw C i j J fit S (st + 1) _ _ _ _ _ _ HON.out _ ?h1 ?h2 ?h3 Q0 hQ hQp JX (fun l a w h1 h2 => hJ l a w h1 (by omega))
  case h1 => exact ⟨rfl, rfl, rfl, rfl, rfl⟩
  case h2 => rfl
  case h3 => rfl
end Go.Proofs.YthclpabmbhpohaaDoor
namespace Go.Proofs.YthclpabmbhpohaaDoor
open Go.RowKit
set_option linter.unusedVariables false
set_option maxRecDepth 1000000 in
set_option maxHeartbeats 8000000 in
theorem next_all (p : Pg) (ad : Addr) (c G PB : Nat) (ia : Addr) (rs : List (Int × Int)) (lg : Bool) (D : Nat → Prop) (W0 : World) (Bd : Int) (Fw : Wk (Int × Int)) (C : TryCx p ad c G PB ia rs lg D W0 Bd) (J : List (Job (Int × Int))) (fit : List Int) (S : Wk (Int × Int)) (st : Int) (bv jv fv sv : Value) (ws : List Nat) (W : World) (h : NextI p ad c G PB rs lg D W0 Bd Fw J fit S st bv jv fv sv ws W)
    (L : List Value) (hL : FrOK G PB ia lg L) (Q0 : Exit → Act → World → Prop) (hQ : ∀ (tm : Array Value) w, EndI p G rs D W0 Bd Fw w → Q0 .ret ⟨tm, []⟩ w) (hQp : ∀ c (d : Tmp) v a w, Q0 (.panic c) (a.put (some d) v) w → Q0 (.panic c) a w) (JX : Nat → Act → World → Prop) (hJ : ∀ l a w, JJ p ad c G PB ia rs lg D W0 Bd Fw l a w → st < stOf G w → JX l a w) :
    (tryR 0).wp Tryd.prog (jumps JX Q0) ⟨L.toArray, []⟩ W := by
  obtain ⟨hL, l0, l2, l4, l6⟩ := hL
  have hLL : L = [L.getD 0 undef, L.getD 1 undef, L.getD 2 undef, L.getD 3 undef, L.getD 4 undef, L.getD 5 undef, L.getD 6 undef, L.getD 7 undef, L.getD 8 undef, L.getD 9 undef, L.getD 10 undef, L.getD 11 undef, L.getD 12 undef, L.getD 13 undef, L.getD 14 undef, L.getD 15 undef, L.getD 16 undef, L.getD 17 undef, L.getD 18 undef, L.getD 19 undef, L.getD 20 undef, L.getD 21 undef, L.getD 22 undef, L.getD 23 undef, L.getD 24 undef, L.getD 25 undef, L.getD 26 undef, L.getD 27 undef, L.getD 28 undef, L.getD 29 undef, L.getD 30 undef, L.getD 31 undef, L.getD 32 undef, L.getD 33 undef, L.getD 34 undef, L.getD 35 undef, L.getD 36 undef, L.getD 37 undef, L.getD 38 undef, L.getD 39 undef, L.getD 40 undef, L.getD 41 undef, L.getD 42 undef, L.getD 43 undef, L.getD 44 undef, L.getD 45 undef, L.getD 46 undef, L.getD 47 undef, L.getD 48 undef, L.getD 49 undef, L.getD 50 undef, L.getD 51 undef, L.getD 52 undef, L.getD 53 undef, L.getD 54 undef, L.getD 55 undef, L.getD 56 undef, L.getD 57 undef, L.getD 58 undef, L.getD 59 undef, L.getD 60 undef, L.getD 61 undef, L.getD 62 undef, L.getD 63 undef, L.getD 64 undef, L.getD 65 undef, L.getD 66 undef, L.getD 67 undef, L.getD 68 undef, L.getD 69 undef, L.getD 70 undef, L.getD 71 undef, L.getD 72 undef, L.getD 73 undef, L.getD 74 undef, L.getD 75 undef, L.getD 76 undef, L.getD 77 undef, L.getD 78 undef, L.getD 79 undef, L.getD 80 undef, L.getD 81 undef, L.getD 82 undef, L.getD 83 undef, L.getD 84 undef, L.getD 85 undef, L.getD 86 undef, L.getD 87 undef, L.getD 88 undef, L.getD 89 undef, L.getD 90 undef, L.getD 91 undef, L.getD 92 undef, L.getD 93 undef, L.getD 94 undef, L.getD 95 undef, L.getD 96 undef, L.getD 97 undef, L.getD 98 undef, L.getD 99 undef, L.getD 100 undef, L.getD 101 undef, L.getD 102 undef, L.getD 103 undef, L.getD 104 undef, L.getD 105 undef, L.getD 106 undef, L.getD 107 undef, L.getD 108 undef, L.getD 109 undef, L.getD 110 undef, L.getD 111 undef, L.getD 112 undef, L.getD 113 undef, L.getD 114 undef, L.getD 115 undef, L.getD 116 undef, L.getD 117 undef, L.getD 118 undef, L.getD 119 undef, L.getD 120 undef, L.getD 121 undef, L.getD 122 undef, L.getD 123 undef, L.getD 124 undef, L.getD 125 undef, L.getD 126 undef, L.getD 127 undef, L.getD 128 undef, L.getD 129 undef, L.getD 130 undef, L.getD 131 undef, L.getD 132 undef, L.getD 133 undef, L.getD 134 undef, L.getD 135 undef, L.getD 136 undef, L.getD 137 undef, L.getD 138 undef, L.getD 139 undef, L.getD 140 undef, L.getD 141 undef, L.getD 142 undef, L.getD 143 undef, L.getD 144 undef, L.getD 145 undef, L.getD 146 undef, L.getD 147 undef, L.getD 148 undef, L.getD 149 undef, L.getD 150 undef, L.getD 151 undef, L.getD 152 undef, L.getD 153 undef, L.getD 154 undef, L.getD 155 undef, L.getD 156 undef, L.getD 157 undef, L.getD 158 undef, L.getD 159 undef, L.getD 160 undef, L.getD 161 undef, L.getD 162 undef, L.getD 163 undef, L.getD 164 undef, L.getD 165 undef, L.getD 166 undef, L.getD 167 undef, L.getD 168 undef, L.getD 169 undef, L.getD 170 undef, L.getD 171 undef, L.getD 172 undef, L.getD 173 undef, L.getD 174 undef, L.getD 175 undef, L.getD 176 undef, L.getD 177 undef, L.getD 178 undef, L.getD 179 undef, L.getD 180 undef, L.getD 181 undef, L.getD 182 undef, L.getD 183 undef, L.getD 184 undef, L.getD 185 undef, L.getD 186 undef, L.getD 187 undef, L.getD 188 undef, L.getD 189 undef, L.getD 190 undef, L.getD 191 undef, L.getD 192 undef, L.getD 193 undef, L.getD 194 undef, L.getD 195 undef, L.getD 196 undef, L.getD 197 undef, L.getD 198 undef, L.getD 199 undef, L.getD 200 undef, L.getD 201 undef, L.getD 202 undef, L.getD 203 undef, L.getD 204 undef, L.getD 205 undef, L.getD 206 undef, L.getD 207 undef, L.getD 208 undef, L.getD 209 undef, L.getD 210 undef, L.getD 211 undef, L.getD 212 undef, L.getD 213 undef, L.getD 214 undef, L.getD 215 undef, L.getD 216 undef, L.getD 217 undef, L.getD 218 undef, L.getD 219 undef, L.getD 220 undef, L.getD 221 undef, L.getD 222 undef, L.getD 223 undef, L.getD 224 undef, L.getD 225 undef, L.getD 226 undef, L.getD 227 undef, L.getD 228 undef, L.getD 229 undef, L.getD 230 undef, L.getD 231 undef, L.getD 232 undef, L.getD 233 undef, L.getD 234 undef, L.getD 235 undef, L.getD 236 undef, L.getD 237 undef, L.getD 238 undef, L.getD 239 undef, L.getD 240 undef, L.getD 241 undef, L.getD 242 undef, L.getD 243 undef, L.getD 244 undef] := frame_open undef 245 L hL
  have k0 : L.getD 0 undef = .pointer (some ⟨G, 0, none⟩) := by rw [List.getD_eq_getElem?_getD, l0]; rfl
  have k2 : L.getD 2 undef = .pointer (some ia) := by rw [List.getD_eq_getElem?_getD, l2]; rfl
  have k4 : L.getD 4 undef = .bool lg := by rw [List.getD_eq_getElem?_getD, l4]; rfl
  have k6 : L.getD 6 undef = .pointer (some ⟨PB, 0, none⟩) := by rw [List.getD_eq_getElem?_getD, l6]; rfl
  rw [k0, k2, k4, k6] at hLL
  clear k0 k2 k4 k6 l0 l2 l4 l6 hL
  obtain ⟨g, hg⟩ : ∃ g : Nat → Value, ∀ n, L.getD n undef = g n := ⟨_, fun _ => rfl⟩
  simp only [hg] at hLL
  clear hg
  subst hLL
  cases J with
  | nil => exact next_empty p ad c G PB ia rs lg D W0 Bd Fw C fit S st bv jv fv sv ws W h g Q0 hQ hQp JX hJ
  | cons job J =>
    cases job with
    | back k v => exact next_back p ad c G PB ia rs lg D W0 Bd Fw C J fit S st bv jv fv sv ws W k v h g Q0 hQ hQp JX hJ
    | go q =>
      have hq := allP_iff.1 (show q ∈ allP p rs.length from h.1.jok _ (List.mem_cons_self ..))
      obtain ⟨a, b⟩ := q
      obtain ⟨i, rfl⟩ := Int.eq_ofNat_of_zero_le hq.1.1
      obtain ⟨j, rfl⟩ := Int.eq_ofNat_of_zero_le hq.2.1
      exact next_go p ad c G PB ia rs lg D W0 Bd Fw C J fit S st bv jv fv sv ws W i j h g Q0 hQ hQp JX hJ
end Go.Proofs.YthclpabmbhpohaaDoor
namespace Go.Proofs.YthclpabmbhpohaaDoor
open Go.RowKit
set_option linter.unusedVariables false
def RepRel (w : World) (e : TypeId) (sz n : Nat) (X : List Value) (s8 : Value) (wr : World) : Prop :=
  ∃ (m : Nat) (R : List Value), s8 = .int .i64 m ∧ m ≤ n ∧ (0 < n → 0 < m) ∧ Below w.heap.size w wr ∧ wr.heap[w.heap.size]? = some (.cells ((List.replicate m X).flatten ++ R).toArray e (0, 0)) ∧ R.length = (n - m) * sz
def RepPost (e : TypeId) (sz n : Nat) (X : List Value) (w : World) (en : Ending) (w' : World) : Prop :=
  ∃ v', en = .returned v' ∧ Owns w' w.heap.size e sz v' (List.replicate n X) ∧ Below w.heap.size w w'
theorem flat_rep {X : List Value} {sz : Nat} (hX : X.length = sz) (n : Nat) : (List.replicate n X).flatten.length = n * sz := by
  induction n with
  | zero => simp
  | succ n ih => rw [List.replicate_succ, List.flatten_cons, List.length_append, ih, hX, Nat.succ_mul]; omega
theorem rep_splice {X : List Value} {sz : Nat} (hX : X.length = sz) {m k n : Nat} {R : List Value} (hR : R.length = (n - m) * sz) (hk : k ≤ n - m) :
    ∃ R', splice ((List.replicate m X).flatten ++ R) (m * sz) (List.replicate k X).flatten = (List.replicate (m + k) X).flatten ++ R' ∧ R'.length = (n - (m + k)) * sz := by
  refine ⟨R.drop (k * sz), ?_, ?_⟩
  · have h1 := flat_rep hX m
    have h2 := flat_rep hX k
    unfold splice
    rw [h2, List.take_left' h1, ← Nat.add_mul, ← List.replicate_append_replicate, List.flatten_append, List.append_assoc, List.drop_append, h1, List.drop_eq_nil_of_le (by rw [h1]; exact Nat.mul_le_mul_right _ (by omega)), List.nil_append, show (m + k) * sz - m * sz = k * sz by rw [Nat.add_mul]; omega]
  · rw [List.length_drop, hR, ← Nat.sub_mul]
    congr 1
    omega
theorem rep_pre {X : List Value} {m k : Nat} (hk : k ≤ m) (R : List Value) {j : Nat} {v : Value} (h : (List.replicate k X).flatten[j]? = some v) : ((List.replicate m X).flatten ++ R)[j]? = some v := by
  obtain ⟨d, rfl⟩ : ∃ d, m = k + d := ⟨m - k, by omega⟩
  rw [← List.replicate_append_replicate, List.flatten_append, List.append_assoc, List.getElem?_append_left (List.getElem?_eq_some_iff.1 h).1]
  exact h
theorem copy_src (gx : Nat) (X : List Value) (k m : Nat) (hk : k ≤ m) (R : List Value) (w : World) {T : TypeId} (h : w.heap[gx]? = some (.cells ((List.replicate m X).flatten ++ R).toArray T (0, 0))) : ∀ j v, (List.replicate k X).flatten[j]? = some v → w.cell? ((⟨gx, 0, none⟩ : Addr).add j) = some v := by
  intro j v hj
  have h9 := rep_pre (X := X) (m := m) hk R hj
  rw [show (⟨gx, 0, none⟩ : Addr).add j = ⟨gx, j, none⟩ by unfold Addr.add; split <;> simp_all, cell_of_blk h]
  simpa using h9
theorem infoRInt : (Tryd.prog.info? 3).map (fun i => (i.zero, i.size, i.bytes)) = some (some (.int .i64 0), 1, 8) := by kernel_rfl
theorem infoRsInt : (Tryd.prog.info? 3).map (·.size) = some 1 := by kernel_rfl
set_option maxRecDepth 100000 in
set_option maxHeartbeats 2000000 in
theorem repInt (w : World) (gx n : Nat) (X : List Value) (hX : X.length = 1) (h1 : ∀ u ∈ X, u.oneCell' = true) (hg : w.heap[gx]? = some (.cells X.toArray 3 (0, 0))) (hn : n ≤ 1000000) :
    Calls Tryd.prog 41 #[.slice (some ⟨gx, 0, none⟩) 1 1, .int .i64 n] w (RepPost 3 1 n X w) := by
  obtain ⟨i0, hi, hz0, hz1, hz2⟩ := info_parts infoRInt
  have hmul := fun W => mul_one n (by omega) W
  have hone : ∀ k, ∀ u ∈ (List.replicate k X).flatten, u.oneCell' = true := fun k u hu => by
    obtain ⟨c', hc', hu'⟩ := List.mem_flatten.1 hu
    rw [(List.mem_replicate.1 hc').2] at hu'
    exact h1 u hu'
  have H := Lib.hid (And.intro hX (And.intro hg hone))
  clear hX hg hone h1
  have hsz : gx < w.heap.size := heap_lt H.out.2.1
  obtain ⟨m0, hm0⟩ : ∃ m0, Nat.min 1 n = m0 := ⟨_, rfl⟩
  have HM := Lib.hid hm0
  clear hm0
  go_enter Tryd.func41, Tryd.ntmps41
  go_wp2_with (first | (go_at_call 63; refine (hmul _).mono ?_; clear hmul; rintro e w' ⟨rfl, rfl⟩) | (at_make; refine wpList_make_full _ rfl _ _ 35 rfl w.heap.size 3 i0 (.int .i64 0) 1 Tryd.underlying35 hi hz0 hz1 _ _ _ _ n rfl rfl rfl rfl (by rw [hz2]; omega) (by unfold maxLen; omega) (Nat.le_refl _) ?_))
  intro w1 hown hgr
  have hs1 : w1.heap.size = w1.heap.size := rfl
  rcases hown.2 with ⟨hv, _⟩ | ⟨g, cap, cur, hv, _, hcur, _, _, hcs, _⟩
  · simp at hv
  simp only [Value.slice.injEq, Option.some.injEq, Addr.mk.injEq, and_true, true_and] at hv
  obtain ⟨rfl, rfl⟩ := hv
  have hb1 : Below w.heap.size w w1 := (Below.refl _ _).grown hgr (Nat.le_refl _) (fun k e => by cases e)
  have hgx1 := (hb1.block gx hsz).trans H.out.2.1
  have H1 := Lib.hid (And.intro hb1 (And.intro hcur (And.intro (show cur.toList.length = n * 1 by simpa using hcs) hgx1)))
  clear hown hgr hb1 hcur hcs hgx1 hs1
  have hc1 := copy_src gx X m0 1 (by rw [← HM.out]; exact Nat.min_le_left 1 n) [] w1 (by simpa using H1.out.2.2.2)
  have hc2 : 0 + (List.replicate m0 X).flatten.length ≤ cur.toList.length := by
    rw [flat_rep H.out.1, H1.out.2.2.1, Nat.zero_add]
    exact Nat.mul_le_mul_right _ (by rw [← HM.out]; exact Nat.min_le_right 1 n)
  have HC := Lib.hid (And.intro hc1 hc2)
  clear hc1 hc2
  go_wp2_with ((refine wpList_copyS rfl _ _ 35 35 rfl 3 1 Tryd.underlying35 infoRsInt _ _ _ _ _ _ rfl rfl w.heap.size 0 cur.toList 3 (by simpa using H1.out.2.1) (List.replicate m0 X).flatten (by rw [HM.out]; exact flat_rep H.out.1 _) (fun _ => ⟨rfl, _, rfl, HC.out.1⟩) (by decide) HC.out.2 (H.out.2.2 _) m0 HM.out ?_))
  intro w2 HG2 hgr2 hs2
  have hm : m0 ≤ n := by rw [← HM.out]; exact Nat.min_le_right 1 n
  have hm0 : 0 < n → 0 < m0 := fun h => by rw [← HM.out]; show 0 < min 1 n; omega
  obtain ⟨R, hR1, hR2⟩ := rep_splice (X := X) H.out.1 (m := 0) (n := n) (R := cur.toList) (by rw [H1.out.2.2.1, Nat.sub_zero]) hm
  simp only [List.replicate_zero, List.flatten_nil, List.nil_append, Nat.zero_mul, Nat.zero_add] at hR1 hR2
  have hb2 : Below w.heap.size w w2 := H1.out.1.grown hgr2 H1.out.1.size (fun k e => by cases e; exact Nat.le_refl _)
  have hc2 := HG2.out
  rw [hR1] at hc2
  have H2 := Lib.hid (And.intro hb2 (And.intro hc2 hR2))
  clear HG2 hgr2 hs2 hR1 hR2 hb2 hc2
  go_wp2_with fail
  go_loopw [8] (fun s8 wr => RepRel w 3 1 n X s8 wr) (fun s8 _ => n - (intOf s8).toNat)
  case atStart => exact ⟨m0, R, rfl, hm, hm0, H2.out.1, H2.out.2.1, H2.out.2.2⟩
  case round =>
    obtain ⟨m, R, rfl, hmn, hmp, hBr, hcr, hRl⟩ := hrel
    have HR := Lib.hid (And.intro hBr (And.intro hcr (And.intro hRl hmp)))
    clear hBr hcr hRl hmp H2 H1 hm hm0
    by_cases hlt : m < n
    · obtain ⟨k, hk⟩ : ∃ k, k = Nat.min m (n - m) := ⟨_, rfl⟩
      have hmp := HR.out.2.2.2 (by omega)
      have hkb : 0 < k ∧ k ≤ m ∧ k ≤ n - m := by have hk' : k = min m (n - m) := hk; omega
      obtain ⟨hk1, hk2, hk3⟩ := hkb
      have HK := Lib.hid hk
      clear hk
      have hi1 : (0 : Int) ≤ (m : Int) := by omega
      have hi2 : (m : Int) ≤ (n : Int) := by omega
      have hw9 : IntKind.i64.wrap ((m : Int) + (k : Int)) = (m : Int) + (k : Int) := IntWalk.i64_in _ (by omega)
      go_wp2_with fail
      have hsrc := copy_src w.heap.size X k m hk2 R wr.drew HR.out.2.1
      have hfit : m * 1 + (List.replicate k X).flatten.length ≤ ((List.replicate m X).flatten ++ R).length := by
        rw [List.length_append, flat_rep H.out.1, flat_rep H.out.1, HR.out.2.2.1]
        exact Nat.add_le_add_left (Nat.mul_le_mul_right _ hk3) _
      have HS := Lib.hid (And.intro hsrc hfit)
      clear hsrc hfit
      go_region_law ((refine step_copyS (by rfl) (.tmp 41) (.tmp 44) 35 35 (by rfl) 3 1 Tryd.underlying35 infoRsInt (if n = m then some ⟨w.heap.size, 0, none⟩ else some ⟨w.heap.size, m, none⟩) (some ⟨w.heap.size, 0, none⟩) (n - m) (n - m) m n (by simp [Act.eval, Act.put]) (by simp [Act.eval, Act.put]) w.heap.size (m * 1) ((List.replicate m X).flatten ++ R) 3 HR.out.2.1 (List.replicate k X).flatten (by rw [← HK.out]; exact flat_rep H.out.1 _) (fun _ => ⟨by rw [if_neg (by omega)] <;> simp, _, rfl, HS.out.1⟩) (by decide) HS.out.2 (H.out.2.2 _) k HK.out.symm ?_; intro w3 HG3 hgr3 hs3))
      obtain ⟨R', hR1, hR2⟩ := rep_splice (X := X) H.out.1 (m := m) (n := n) (R := R) HR.out.2.2.1 hk3
      have hc3 := HG3.out
      rw [hR1] at hc3
      have hb3 : Below w.heap.size w w3 := (HR.out.1.drew).grown hgr3 HR.out.1.size (fun k e => by cases e; exact Nat.le_refl _)
      have H3 := Lib.hid (And.intro hb3 (And.intro hc3 hR2))
      clear HG3 hgr3 hs3 hR1 hR2 hb3 hc3
      go_wp2_with fail
      go_roundw
      case rel => exact ⟨m + k, R', by go_num, by omega, fun _ => by omega, H3.out.1, H3.out.2.1, H3.out.2.2⟩
      case measure => simp [intOf]; omega
    · obtain rfl : m = n := by omega
      go_wp2_with fail
      go_ret
      refine ⟨.slice (some ⟨w.heap.size, 0, none⟩) m m, rfl, ⟨⟨?_, .inr ⟨w.heap.size, m, ((List.replicate m X).flatten ++ R).toArray, by rw [List.length_replicate], Nat.le_refl _, HR.out.2.1, by rw [List.length_replicate]; exact Nat.le_refl _, by unfold maxLen; omega, ?_, ?_⟩⟩, fun c hc => by rw [(List.mem_replicate.1 hc).2]; exact H.out.1⟩, HR.out.1⟩
      · rw [List.length_replicate]; exact flat_rep H.out.1 _
      · have h9 := flat_rep H.out.1 m
        have h8 := HR.out.2.2.1
        rw [List.size_toArray, List.length_append, h9, h8]; omega
      · rw [List.length_replicate]
        exact List.take_left' (flat_rep H.out.1 m)
end Go.Proofs.YthclpabmbhpohaaDoor
namespace Go.Proofs.YthclpabmbhpohaaDoor
open Go.RowKit
set_option linter.unusedVariables false
theorem BmAt.growFit {W W' : World} {G : Nat} {bv jv fv sv : Value} {ws : List Nat} {js : List (Job (Int × Int))} {fit : List Int} {st : Int} (h : BmAt W G bv jv fv sv ws js fit none st) {fv' : Value} {fit' : List Int} (hg : W.grownBy W' fv.ownBlock) (hj : Owns W' 0 3 1 fv' (fit'.map i64C)) : BmAt (W'.setCell ⟨G, 2, none⟩ fv') G bv jv fv' sv ws js fit' none st := by
  obtain ⟨h1, h2, h3, _⟩ := h.row h.fit hg
  have hW : W'.heap[G]? = _ := (h1 (by decide)).trans h.blk
  have hty : TyB 70 W' G := ⟨_, _, hW⟩
  have hn : ∀ {e : TypeId} {sz : Nat} {v : Value} {css : List (List Value)}, Owns W' 0 e sz v css → 70 ≠ e → Owns (W'.setCell ⟨G, 2, none⟩ fv') 0 e sz v css := fun ho hne => ho.kept (grown_set0 W' G 2 fv') (.inr (fun e => hty.ne_own ho hne e.symm))
  exact ⟨by rw [heap_set0 hW 2]; simp, hn (h2 (by decide)) (by decide), hn (h3 (by decide)) (by decide), hn hj (by decide), h.best⟩
theorem JJ_le {p : Pg} {ad : Addr} {c G PB : Nat} {ia : Addr} {rs : List (Int × Int)} {lg : Bool} {D : Nat → Prop} {W0 : World} {Bd : Int} {Fw : Wk (Int × Int)} {l : Nat} {a : Act} {w : World} (h : JJ p ad c G PB ia rs lg D W0 Bd Fw l a w) : stOf G w ≤ Bd := by
  obtain ⟨L, _, _, ⟨_, J, fit, S, st, bv, jv, fv, sv, ws, hN⟩ | ⟨_, i, j, _, _, J, fit, S, st, bv, jv, fv, sv, ws, hO⟩⟩ := h
  · rw [stOf_eq hN.1.mem]; have := hN.2.2; omega
  · rw [stOf_eq hO.1.mem]; have := hO.2.2.1; omega
/-- What begins a try, in memory. -/
structure PreT (p : Pg) (ad : Addr) (c G PB : Nat) (rs : List (Int × Int)) (D : Nat → Prop) (W0 : World) (S : Wk (Int × Int)) (bv jv fv : Value) (ws : List Nat) (js : List (Job (Int × Int))) (fit : List Int) (st : Int) (W : World) : Prop where
  mem : BmAt W G bv jv fv (.slice none 0 0) ws js fit none st
  bits : BitsOK p.ins.length rs.length ws S.seen
  ob : OwnD D bv
  oj : OwnD D jv
  of : OwnD D fv
  box : W.heap[PB]? = some (.cells #[.slice (some ad) p.ins.length c, .int .i64 p.start, .int .i64 p.caps] 28 (0, 0))
  tch : TouchD D W0 W
theorem slice_forms {w : World} {e : TypeId} {sz : Nat} {v : Value} {css : List (List Value)} (h : Owns w 0 e sz v css) : ∃ A n c, v = .slice A n c ∧ n ≤ c ∧ c ≤ maxLen ∧ ((A = none ∧ n = 0 ∧ c = 0) ∨ ∃ g, A = some ⟨g, 0, none⟩) := by
  rcases h.1.2 with ⟨rfl, _⟩ | ⟨g, cap, cur, rfl, _, _, h1, h2, _⟩
  · exact ⟨none, 0, 0, rfl, Nat.le_refl _, Nat.zero_le _, .inl ⟨rfl, rfl, rfl⟩⟩
  · exact ⟨_, _, _, rfl, h1, h2, .inr ⟨g, rfl⟩⟩
set_option maxRecDepth 1000000 in
set_option maxHeartbeats 8000000 in
theorem try_any (p : Pg) (ad : Addr) (c G : Nat) (ia : Addr) (rs : List (Int × Int)) (lg : Bool) (D : Nat → Prop) (W : World) (bv jv fv : Value) (ws : List Nat) (js : List (Job (Int × Int))) (fit : List Int) (st : Int) (S : Wk (Int × Int)) (fr : Nat)
    (hm : BmAt W G bv jv fv (.slice none 0 0) ws js fit none st) (hb : BitsOK p.ins.length rs.length ws S.seen) (hS : S.best = none) (ob : OwnD D bv) (oj : OwnD D jv) (of : OwnD D fv)
    (pg : PgC (fun k => ¬ D k) W p [.slice (some ad) p.ins.length c, .int .i64 p.start, .int .i64 p.caps]) (inp : InpC (fun k => ¬ D k) W ia rs) (new : ∀ k, W.heap.size ≤ k → D k) (dG : D G) (chk : checkS rightR p = 0) (hi : rs.length ≤ 1000000) (LM : p.ins.length * rs.length ≤ 100000000) (set : ∀ x ∈ p.ins, x.set.length ≤ 1000000000)
    (out : runeAt rs ((rs.length : Int) - 1) < 0) (hfr : fr < rs.length) (h0 : 0 ≤ st) (hbd : st + (KB p * left (allP p rs.length) S : Nat) + 2 ≤ 1000000000000) :
    Calls Tryd.prog 29 #[.pointer (some ⟨G, 0, none⟩), .agg #[.slice (some ad) p.ins.length c, .int .i64 p.start, .int .i64 p.caps], .pointer (some ia), .int .i64 fr, .bool lg] W fun e W' => e = .returned (.tuple #[]) ∧ EndI p G rs D W (st + (KB p * left (allP p rs.length) S : Nat) + 2) (tryW p (runeAt rs) (atOf rs) lg rs.length fr S) W' := by
  have C : TryCx p ad c G W.heap.size ia rs lg D W (st + (KB p * left (allP p rs.length) S : Nat) + 2) := ⟨pg, inp, new, dG, chk, by omega, hi, LM, set, out, hbd⟩
  have hck := check_ok chk
  obtain ⟨i0, hi0⟩ : ∃ i0 : Nat, p.start = (i0 : Int) := ⟨p.start.toNat, by have := hck.2.2.1.1; omega⟩
  obtain ⟨m, hmc⟩ : ∃ m : Nat, p.caps = (m : Int) := ⟨p.caps.toNat, by have := hck.2.2.2.1; omega⟩
  have hil : i0 < p.ins.length := by have := hck.2.2.1.2; omega
  have hml : 2 ≤ m ∧ m ≤ 4002 := by have := hck.2.2.2; omega
  have hbl := below_al (Below.refl W.heap.size W) (.cells #[.slice (some ad) p.ins.length c, .int .i64 p.start, .int .i64 p.caps] 28)
  have hP0 : PreT p ad c G W.heap.size rs D W S bv jv fv ws js fit st (W.alloc (.cells #[.slice (some ad) p.ins.length c, .int .i64 p.start, .int .i64 p.caps] 28)) := ⟨hm.below hbl, hb, ob, oj, of, heap_new1 _ _, TouchD.of_below hbl new⟩
  obtain ⟨Af, nf, cf, hfe, hnf, hcf, hAf⟩ := slice_forms hm.fit
  obtain ⟨Aj, nj, cj, hje, hnj, hcj, hAj⟩ := slice_forms hm.jobs
  subst hfe
  subst hje
  have H := Lib.hid (And.intro C (And.intro hP0 (And.intro hS (And.intro hi0 (And.intro hmc (And.intro h0 hck))))))
  clear C hP0 hS hck hm hb ob oj of pg inp new dG chk hi LM set out hbd hbl h0 hi0 hmc
  go_enter Tryd.func29, Tryd.ntmps29
  go_wp2_with fail
  refine wp_scope_jumpsN (JJ p ad c G W.heap.size ia rs lg D W (st + (KB p * left (allP p rs.length) S : Nat) + 2) (tryW p (runeAt rs) (atOf rs) lg rs.length fr S)) (fun _ _ w => ((st + (KB p * left (allP p rs.length) S : Nat) + 2) - stOf G w).toNat) ?_ ?_
  rotate_left
  · intro l a W' hJ
    obtain ⟨L, rfl, hL, h9⟩ := hJ
    rcases h9 with ⟨rfl, J, fit', S', st', bv', jv', fv', sv', ws', hN⟩ | ⟨rfl, i, j, l10, l11, J, fit', S', st', bv', jv', fv', sv', ws', hO⟩
    · refine ⟨_, rfl, wp_seq (wp_skip ?_)⟩
      refine (show ∀ (K : Act → World → Prop) (Q : Exit → Act → World → Prop) a w, K a w → Exit.then K Q .normal a w from fun _ _ _ _ h => h) _ _ _ _ ?_
      refine next_all p ad c G W.heap.size ia rs lg D W (st + (KB p * left (allP p rs.length) S : Nat) + 2) (tryW p (runeAt rs) (atOf rs) lg rs.length fr S) H.out.1 J fit' S' st' bv' jv' fv' sv' ws' W' hN L hL _ ?_ ?_ _ ?_
      · intro a w hE
        exact bodyPost_ret (results_none rfl _ _ _) rfl ⟨rfl, hE⟩
      · exact fun _ _ _ _ _ h => h
      · intro l a w h1 h2
        refine ⟨h1, ?_⟩
        have h3 := stOf_eq hN.1.mem
        have h4 := JJ_le h1
        omega
    · refine ⟨_, rfl, wp_seq (wp_skip ?_)⟩
      refine (show ∀ (K : Act → World → Prop) (Q : Exit → Act → World → Prop) a w, K a w → Exit.then K Q .normal a w from fun _ _ _ _ h => h) _ _ _ _ ?_
      refine on_all p ad c G W.heap.size ia rs lg D W (st + (KB p * left (allP p rs.length) S : Nat) + 2) (tryW p (runeAt rs) (atOf rs) lg rs.length fr S) H.out.1 i j J fit' S' st' bv' jv' fv' sv' ws' W' hO L hL l10 l11 _ ?_ ?_ _ ?_
      · intro a w hE
        exact bodyPost_ret (results_none rfl _ _ _) rfl ⟨rfl, hE⟩
      · exact fun _ _ _ _ _ h => h
      · intro l a w h1 h2
        refine ⟨h1, ?_⟩
        have h3 := stOf_eq hO.1.mem
        have h4 := JJ_le h1
        omega
  go_wp2_with fail
  obtain ⟨X, hX⟩ : ∃ X, W.alloc (.cells #[.slice (some ad) p.ins.length c, .int .i64 p.start, .int .i64 p.caps] 28) = X := ⟨_, rfl⟩
  have hXs : W.heap.size < X.heap.size := by rw [← hX, World.size_alloc]; omega
  rw [hX] at H ⊢
  clear hX
  obtain ⟨C, hP0, hS, hi0, hmc, h0, hck⟩ := H.out
  have hx2 : ∀ W' : World, W'.heap[W.heap.size]? = X.heap[W.heap.size]? → W'.cell? ⟨W.heap.size, 2, none⟩ = some (.int .i64 m) ∧ W'.cell? ⟨W.heap.size, 1, none⟩ = some (.int .i64 i0) := fun W' hW => by
    have h9 := hW.trans hP0.box
    exact ⟨by rw [cell_of_blk h9, ← hmc]; rfl, by rw [cell_of_blk h9, ← hi0]; rfl⟩
  have hgne : W.heap.size ≠ G := by
    intro e
    have h1 := hP0.mem.blk
    have h2 := hP0.box
    rw [e, h1] at h2
    simp only [Option.some.injEq, Obj.cells.injEq] at h2
    exact absurd h2.2.1 (by decide)
  have HX := Lib.hid (And.intro hx2 (And.intro hgne hXs))
  clear hx2 hgne C hP0 hS hi0 hmc h0 hck hXs
  refine wp_region_scrT (fun W' => W'.cell? ⟨G, 2, none⟩ = some (.slice Af nf cf) ∧ W'.cell? ⟨W.heap.size, 2, none⟩ = some (.int .i64 m)) 13 [(true, 0, 14), (true, 1, 15), (true, 2, 16), (true, 3, 17), (true, 4, 18), (true, 5, 19), (true, 7, 21), (true, 8, 22), (false, 6, 20), (false, 9, 23), (false, 10, 24), (true, 11, 25), (true, 12, 26), (false, 13, 0)] (by kernel_rfl) (by kernel_rfl) (by kernel_rfl) (by kernel_rfl) rfl (fun _ _ _ _ _ h => h) rfl (by kernel_rfl) ?_
  have hcG : ∀ W' : World, W'.heap[G]? = X.heap[G]? → W'.cell? ⟨G, 2, none⟩ = some (.slice Af nf cf) := fun W' hW => by rw [cell_of_blk (hW.trans H.out.2.1.mem.blk)]; rfl
  have HG := Lib.hid hcG
  clear hcG
  have HS := Lib.hid (And.intro (HG.out X.drew rfl) (HX.out.1 X.drew rfl).1)
  refine ScrT.take (v := .pointer (some ⟨G, 0, none⟩)) rfl rfl (yw_pure (by rfl) (fun _ => by go_simp)) HS.out ?_
  simp only [Act.put, List.setIfInBounds_toArray, List.set_cons_zero, List.set_cons_succ]
  refine ScrT.take (v := .pointer (some ⟨G, 0, none⟩)) rfl rfl (yw_pure (by rfl) (fun _ => by go_simp)) HS.out ?_
  simp only [Act.put, List.setIfInBounds_toArray, List.set_cons_zero, List.set_cons_succ]
  refine ScrT.take (v := .pointer (some ⟨G, 0, none⟩)) rfl rfl (yw_pure (by rfl) (fun _ => by go_simp)) HS.out ?_
  simp only [Act.put, List.setIfInBounds_toArray, List.set_cons_zero, List.set_cons_succ]
  refine ScrT.take (v := .pointer (some ⟨G, 2, none⟩)) rfl rfl (yw_pure (by rfl) (fun _ => by go_simp)) HS.out ?_
  simp only [Act.put, List.setIfInBounds_toArray, List.set_cons_zero, List.set_cons_succ]
  refine ScrT.take (v := .slice Af nf cf) rfl rfl (yw_cell 35 _ rfl ⟨G, 2, none⟩ (.slice Af nf cf) rfl (by rfl) _ Tryd.underlying35 rfl (fun W hS => hS.1)) HS.out ?_
  simp only [Act.put, List.setIfInBounds_toArray, List.set_cons_zero, List.set_cons_succ]
  refine ScrT.take (v := .slice Af 0 cf) rfl rfl (yw_pure (by rfl) (fun _ => by (rcases hAf with ⟨rfl, rfl, rfl⟩ | ⟨gf, rfl⟩ <;> go_simp))) HS.out ?_
  simp only [Act.put, List.setIfInBounds_toArray, List.set_cons_zero, List.set_cons_succ]
  refine ScrT.take (v := .pointer (some ⟨W.heap.size, 2, none⟩)) rfl rfl (yw_pure (by rfl) (fun _ => by go_simp)) HS.out ?_
  simp only [Act.put, List.setIfInBounds_toArray, List.set_cons_zero, List.set_cons_succ]
  refine ScrT.take (v := .int .i64 m) rfl rfl (yw_cell 3 _ rfl ⟨W.heap.size, 2, none⟩ (.int .i64 m) rfl (by rfl) _ Tryd.underlying3 rfl (fun W hS => hS.2)) HS.out ?_
  simp only [Act.put, List.setIfInBounds_toArray, List.set_cons_zero, List.set_cons_succ]
  refine ScrT.run rfl (by rfl) (fun K hK => ?_)
  go_simp
  have hGl := heap_lt H.out.2.1.mem.blk
  obtain ⟨Y, hY⟩ : ∃ Y, (X.alloc (.cells #[.int .i64 (-1)] 3)).drew = Y := ⟨_, rfl⟩
  have hYB : Below X.heap.size X Y := by rw [← hY]; exact (below_al (Below.refl _ _) _).drew
  have hY1 : Y.heap[X.heap.size]? = some (.cells #[.int .i64 (-1)] 3 (0, 0)) := by rw [← hY]; exact heap_new1 X _
  have HS1 := Lib.hid (And.intro (HG.out Y (hYB.block _ hGl)) (HX.out.1 Y (hYB.block _ HX.out.2.2)).1)
  refine hK _ _ (fun _ => by (first | (rw [hY]; exact HS1.out) | (show _ ∧ _; exact hY ▸ HS1.out))) ?_
  clear hK K
  try rw [hY]
  try rw [show X.drew.heap.size = X.heap.size from rfl]
  clear hY
  have hrep := repInt Y X.heap.size m [.int .i64 (-1)] rfl (one_i64 _) hY1 (by omega)
  refine ScrT.run rfl (by rfl) (fun K hK => ?_)
  go_simp
  refine hrep.mono ?_
  clear hrep
  rintro e V ⟨v2, rfl, hown, hb2⟩
  dsimp only
  have hVB : Below X.heap.size X V := hYB.trans (hb2.mono hYB.size)
  have HS2 := Lib.hid (And.intro (HG.out V (hVB.block _ hGl)) (HX.out.1 V (hVB.block _ HX.out.2.2)).1)
  refine hK _ _ (fun _ => HS2.out) ?_
  clear hK K hYB hY1 hb2
  have hmV := H.out.2.1.mem.below hVB
  have hrl : List.replicate m [Value.int .i64 (-1)] = (List.replicate m (-1 : Int)).map i64C := by simp [i64C]
  rw [hrl] at hown
  have HV := Lib.hid (And.intro hVB hmV)
  refine ScrT.run rfl (by rfl) (fun K hK => ?_)
  refine wp_appN _ _ 35 rfl 0 3 _ 1 8 Tryd.underlying35 infoI rfl (by decide) (.slice Af 0 cf) [] rfl hmV.fit.cut0 v2 ((List.replicate m (-1 : Int)).map i64C) _ rfl hown (by simp; omega) (fun c hc u hu => by obtain ⟨y, _, rfl⟩ := List.mem_map.1 hc; exact one_i64 y u hu) (by simp; unfold maxLen; omega) (by simp; omega) (Nat.zero_le _) ?_
  clear hown hmV hVB
  intro v' w4 hown hgrow hat
  rw [List.nil_append] at hown
  obtain ⟨g5, c5, hve, _, _, _, hfz5⟩ := own_lit hown (by simp; omega)
  rw [List.length_map, List.length_replicate] at hve
  subst hve
  have hob : (Value.slice Af nf cf).ownBlock = (Value.slice Af 0 cf).ownBlock := by cases Af <;> rfl
  have hrw := HV.out.2.row HV.out.2.fit (W' := w4) (by rw [hob]; exact hgrow)
  have hG4 := hrw.1 (by decide)
  have hpb : w4.heap[W.heap.size]? = X.heap[W.heap.size]? := by
    refine (hgrow.block _ (by have := HX.out.2.2; have := HV.out.1.size; omega) ?_).trans (HV.out.1.block _ HX.out.2.2)
    have hty : TyB 28 V W.heap.size := ⟨_, _, (HV.out.1.block _ HX.out.2.2).trans H.out.2.1.box⟩
    rw [← hob]
    exact hty.ne_own HV.out.2.fit (by decide)
  have HS3 := Lib.hid (And.intro (HG.out w4 (hG4.trans (HV.out.1.block _ hGl))) (HX.out.1 w4 hpb).1)
  refine hK _ _ (fun _ => HS3.out) ?_
  clear hK K
  refine ScrT.take (v := .pointer (some ⟨G, 0, none⟩)) rfl rfl (yw_pure (by rfl) (fun _ => by go_simp)) HS3.out ?_
  simp only [Act.put, List.setIfInBounds_toArray, List.set_cons_zero, List.set_cons_succ]
  refine ScrT.take (v := .pointer (some ⟨G, 2, none⟩)) rfl rfl (yw_pure (by rfl) (fun _ => by go_simp)) HS3.out ?_
  simp only [Act.put, List.setIfInBounds_toArray, List.set_cons_zero, List.set_cons_succ]
  have hmem := HV.out.2.growFit (fv' := .slice (some ⟨g5, 0, none⟩) m c5) (fit' := List.replicate m (-1 : Int)) (by rw [hob]; exact hgrow) hown
  have htc : TouchD D W (w4.setCell ⟨G, 2, none⟩ (.slice (some ⟨g5, 0, none⟩) m c5)) := by
    have hn := H.out.1.newW H.out.2.1.tch
    have h1 := H.out.2.1.tch.trans (TouchD.of_below HV.out.1 hn)
    exact h1.trans ((TouchD.of_grown hgrow (H.out.1.newW h1) (fun k e => H.out.2.1.of k (by rw [hob]; exact e))).trans (TouchD.set w4 _ H.out.1.dG))
  have hof : OwnD D (.slice (some ⟨g5, 0, none⟩) m c5) := fun k e => by
    rcases hat with h9 | h9
    · exact H.out.2.1.of k (by rw [hob, ← h9]; exact e)
    · rw [h9] at e; cases e
      have h1 := H.out.2.1.tch.trans (TouchD.of_below HV.out.1 (H.out.1.newW H.out.2.1.tch))
      exact H.out.1.newW h1 _ (Nat.le_refl _)
  have hbx : (w4.setCell ⟨G, 2, none⟩ (.slice (some ⟨g5, 0, none⟩) m c5)).heap[W.heap.size]? = X.heap[W.heap.size]? := (set_ne0 w4 (a := ⟨G, 2, none⟩) (.slice (some ⟨g5, 0, none⟩) m c5) (show W.heap.size ≠ G from HX.out.2.1)).trans hpb
  have c2 : w4.cell? ⟨G, 2, none⟩ = some (.slice Af nf cf) := HS3.out.1
  have hGb4 := hG4.trans (HV.out.1.block _ hGl)
  have f2 : w4.frozen? ⟨G, 2, none⟩ = false := frozenOf (hGb4.trans H.out.2.1.mem.blk) 2
  have nG : G < w4.heap.size := heap_lt (hGb4.trans H.out.2.1.mem.blk)
  have hP1 : PreT p ad c G W.heap.size rs D W S bv (.slice Aj nj cj) (.slice (some ⟨g5, 0, none⟩) m c5) ws js (List.replicate m (-1 : Int)) st (w4.setCell ⟨G, 2, none⟩ (.slice (some ⟨g5, 0, none⟩) m c5)) := ⟨hmem, H.out.2.1.bits, H.out.2.1.ob, H.out.2.1.oj, hof, hbx.trans H.out.2.1.box, htc⟩
  have H4 := Lib.hid (And.intro hP1 hbx)
  clear hmem htc hof hbx hGb4 hP1 hown hgrow hat hrw hG4 hpb hfz5 hob hGl
  refine ScrT.run rfl (by rfl) (fun K hK => ?_)
  go_simp
  refine hK _ _ (fun h => absurd h (by decide)) ?_
  clear hK K
  simp only [ScrT]
  obtain ⟨Z, hZ⟩ : ∃ Z, w4.setCell ⟨G, 2, none⟩ (.slice (some ⟨g5, 0, none⟩) m c5) = Z := ⟨_, rfl⟩
  rw [hZ] at H4 ⊢
  clear hZ c2 f2 nG
  have hmZ := H4.out.1.mem
  have c2 : Z.cell? ⟨G, 2, none⟩ = some (.slice (some ⟨g5, 0, none⟩) m c5) := by rw [cell_of_blk hmZ.blk]; rfl
  have nG := heap_lt hmZ.blk
  obtain ⟨g6, c6, he6, _, _, hng5, hfz5⟩ := own_lit hmZ.fit (by simp; omega)
  simp only [List.length_map, List.length_replicate, Value.slice.injEq, Option.some.injEq, Addr.mk.injEq, and_true, true_and] at he6
  obtain ⟨rfl, rfl⟩ := he6
  have f0 := hfz5 0
  have hc5 : Z.cell? ⟨g5, 0, none⟩ = some (.int .i64 (-1)) := by
    have h9 := hmZ.fit.1
    rw [flat_i64] at h9
    have := h9.cells (g := g5) rfl 0 (.int .i64 (-1)) (by rw [List.getElem?_map, List.getElem?_replicate, if_pos (by omega)]; rfl)
    rwa [Addr.add_mid, Nat.zero_add] at this
  have hm0 : 0 < m := by omega
  clear hmZ hfz5
  go_wp2_with fail
  obtain ⟨U, hU⟩ : ∃ U, Z.setCell ⟨g5, 0, none⟩ (.int .i64 (fr : Int)) = U := ⟨_, rfl⟩
  have hfp : (List.replicate m (-1 : Int)).set 0 (fr : Int) = fitP p fr := by unfold fitP; rw [H.out.2.2.2.2.1]; simp
  have hPU : PreT p ad c G W.heap.size rs D W S bv (.slice Aj nj cj) (.slice (some ⟨g5, 0, none⟩) m c5) ws js (fitP p fr) st U := by
    have h1 := H4.out.1.mem.putFit (g := g5) (c := c5) (by simp) 0 (fr : Int)
    rw [hfp, hU] at h1
    have hD5 := H4.out.1.of g5 rfl
    have hne5 : W.heap.size ≠ g5 := fun e => by
      have hty : TyB 28 Z W.heap.size := ⟨_, _, H4.out.1.box⟩
      exact hty.ne_own H4.out.1.mem.fit (by decide) (by rw [e]; rfl)
    exact ⟨h1, H4.out.1.bits, H4.out.1.ob, H4.out.1.oj, H4.out.1.of, by rw [← hU, set_ne0 _ _ (show W.heap.size ≠ g5 from hne5)]; exact H4.out.1.box, by rw [← hU]; exact H4.out.1.tch.trans (TouchD.set Z _ hD5)⟩
  rw [hU]
  clear hU c2 nG hng5 f0 hc5 hm0 hfp
  have HU := Lib.hid hPU
  clear hPU
  have hUP := heap_lt HU.out.box
  have hUG := heap_lt HU.out.mem.blk
  have hcJ : ∀ W' : World, W'.heap[G]? = U.heap[G]? → W'.cell? ⟨G, 1, none⟩ = some (.slice Aj nj cj) := fun W' hW => by rw [cell_of_blk (hW.trans HU.out.mem.blk)]; rfl
  have hcP : ∀ W' : World, W'.heap[W.heap.size]? = U.heap[W.heap.size]? → W'.cell? ⟨W.heap.size, 1, none⟩ = some (.int .i64 i0) := fun W' hW => by rw [cell_of_blk (hW.trans HU.out.box), ← H.out.2.2.2.1]; rfl
  have HJ := Lib.hid (And.intro hcJ (And.intro hcP (And.intro hUP hUG)))
  clear hcJ hcP hUP hUG
  refine wp_region_scrT (fun W' => W'.cell? ⟨G, 1, none⟩ = some (.slice Aj nj cj) ∧ W'.cell? ⟨W.heap.size, 1, none⟩ = some (.int .i64 i0)) 14 [(true, 0, 33), (true, 1, 34), (true, 2, 35), (true, 3, 36), (true, 4, 37), (true, 5, 38), (true, 6, 39), (true, 7, 40), (true, 8, 41), (true, 9, 42), (false, 10, 43), (false, 11, 44), (true, 12, 45), (true, 13, 46), (false, 14, 0)] (by kernel_rfl) (by kernel_rfl) (by kernel_rfl) (by kernel_rfl) rfl (fun _ _ _ _ _ h => h) rfl (by kernel_rfl) ?_
  have HS4 := Lib.hid (And.intro (HJ.out.1 U.drew rfl) (HJ.out.2.1 U.drew rfl))
  refine ScrT.take (v := .pointer (some ⟨G, 0, none⟩)) rfl rfl (yw_pure (by rfl) (fun _ => by go_simp)) HS4.out ?_
  simp only [Act.put, List.setIfInBounds_toArray, List.set_cons_zero, List.set_cons_succ]
  refine ScrT.take (v := .pointer (some ⟨G, 0, none⟩)) rfl rfl (yw_pure (by rfl) (fun _ => by go_simp)) HS4.out ?_
  simp only [Act.put, List.setIfInBounds_toArray, List.set_cons_zero, List.set_cons_succ]
  refine ScrT.take (v := .pointer (some ⟨G, 0, none⟩)) rfl rfl (yw_pure (by rfl) (fun _ => by go_simp)) HS4.out ?_
  simp only [Act.put, List.setIfInBounds_toArray, List.set_cons_zero, List.set_cons_succ]
  refine ScrT.take (v := .pointer (some ⟨G, 1, none⟩)) rfl rfl (yw_pure (by rfl) (fun _ => by go_simp)) HS4.out ?_
  simp only [Act.put, List.setIfInBounds_toArray, List.set_cons_zero, List.set_cons_succ]
  refine ScrT.take (v := .slice Aj nj cj) rfl rfl (yw_cell 68 _ rfl ⟨G, 1, none⟩ (.slice Aj nj cj) rfl (by rfl) _ Tryd.underlying68 rfl (fun W hS => hS.1)) HS4.out ?_
  simp only [Act.put, List.setIfInBounds_toArray, List.set_cons_zero, List.set_cons_succ]
  refine ScrT.take (v := .slice Aj 0 cj) rfl rfl (yw_pure (by rfl) (fun _ => by (rcases hAj with ⟨rfl, rfl, rfl⟩ | ⟨gf, rfl⟩ <;> go_simp))) HS4.out ?_
  simp only [Act.put, List.setIfInBounds_toArray, List.set_cons_zero, List.set_cons_succ]
  refine ScrT.take (v := .pointer (some ⟨W.heap.size, 1, none⟩)) rfl rfl (yw_pure (by rfl) (fun _ => by go_simp)) HS4.out ?_
  simp only [Act.put, List.setIfInBounds_toArray, List.set_cons_zero, List.set_cons_succ]
  refine ScrT.take (v := .int .i64 i0) rfl rfl (yw_cell 3 _ rfl ⟨W.heap.size, 1, none⟩ (.int .i64 i0) rfl (by rfl) _ Tryd.underlying3 rfl (fun W hS => hS.2)) HS4.out ?_
  simp only [Act.put, List.setIfInBounds_toArray, List.set_cons_zero, List.set_cons_succ]
  refine ScrT.take (v := .int .i64 fr) rfl rfl (yw_pure (by rfl) (fun _ => by go_simp)) HS4.out ?_
  simp only [Act.put, List.setIfInBounds_toArray, List.set_cons_zero, List.set_cons_succ]
  refine ScrT.take (v := .agg #[.int .i64 i0, .int .i64 fr, .int .i64 0]) rfl rfl (yw_pure (by rfl) (fun _ => by go_simp)) HS4.out ?_
  simp only [Act.put, List.setIfInBounds_toArray, List.set_cons_zero, List.set_cons_succ]
  refine ScrT.run rfl (by rfl) (fun K hK => ?_)
  go_simp
  obtain ⟨Y, hY⟩ : ∃ Y, (U.alloc (.cells #[.int .i64 i0, .int .i64 fr, .int .i64 0] 105)).drew = Y := ⟨_, rfl⟩
  have hYB : Below U.heap.size U Y := by rw [← hY]; exact (below_al (Below.refl _ _) _).drew
  have hY1 : Y.heap[U.heap.size]? = some (.cells #[.int .i64 i0, .int .i64 fr, .int .i64 0] 105 (0, 0)) := by rw [← hY]; exact heap_new1 U _
  have HS5 := Lib.hid (And.intro (HJ.out.1 Y (hYB.block _ HJ.out.2.2.2)) (HJ.out.2.1 Y (hYB.block _ HJ.out.2.2.1)))
  refine hK _ _ (fun _ => by (first | (rw [hY]; exact HS5.out) | exact hY ▸ HS5.out)) ?_
  clear hK K
  try rw [hY]
  try rw [show U.drew.heap.size = U.heap.size from rfl]
  clear hY
  have hmY := HU.out.mem.below hYB
  have hoj : (Value.slice Aj nj cj).ownBlock = (Value.slice Aj 0 cj).ownBlock := by cases Aj <;> rfl
  have HY := Lib.hid (And.intro hYB (And.intro hmY hoj))
  refine ScrT.run rfl (by rfl) (fun K hK => ?_)
  refine wp_app1 _ _ 68 rfl 0 105 _ 3 24 Tryd.underlying68 infoJob rfl (by decide) (.slice Aj 0 cj) [] rfl hmY.jobs.cut0 U.heap.size [.int .i64 i0, .int .i64 fr, .int .i64 0] rfl rfl hY1 (by simp [Value.oneCell']) (by unfold maxLen; simp) (by simp) (Nat.zero_le _) ?_
  clear hYB hY1 hmY hoj
  intro v' w5 hown hgrow hat
  rw [List.nil_append] at hown
  have hrw := HY.out.2.1.row HY.out.2.1.jobs (W' := w5) (by rw [HY.out.2.2]; exact hgrow)
  have hG5 := (hrw.1 (by decide)).trans (HY.out.1.block _ HJ.out.2.2.2)
  have hpb : w5.heap[W.heap.size]? = U.heap[W.heap.size]? := by
    refine (hgrow.block _ (by have := HJ.out.2.2.1; have := HY.out.1.size; omega) ?_).trans (HY.out.1.block _ HJ.out.2.2.1)
    have hty : TyB 28 Y W.heap.size := ⟨_, _, (HY.out.1.block _ HJ.out.2.2.1).trans HU.out.box⟩
    rw [← HY.out.2.2]
    exact hty.ne_own HY.out.2.1.jobs (by decide)
  have HS6 := Lib.hid (And.intro (HJ.out.1 w5 hG5) (HJ.out.2.1 w5 hpb))
  obtain ⟨g7, c7, hv7, _, _, _, _⟩ := own_lit hown (by simp)
  subst hv7
  refine hK _ _ (fun _ => HS6.out) ?_
  clear hK K
  refine ScrT.take (v := .pointer (some ⟨G, 0, none⟩)) rfl rfl (yw_pure (by rfl) (fun _ => by go_simp)) HS6.out ?_
  simp only [Act.put, List.setIfInBounds_toArray, List.set_cons_zero, List.set_cons_succ]
  refine ScrT.take (v := .pointer (some ⟨G, 1, none⟩)) rfl rfl (yw_pure (by rfl) (fun _ => by go_simp)) HS6.out ?_
  simp only [Act.put, List.setIfInBounds_toArray, List.set_cons_zero, List.set_cons_succ]
  have hmem := HY.out.2.1.growJobs (js' := [.go ((i0 : Int), (fr : Int))]) (by rw [HY.out.2.2]; exact hgrow) hown
  have hn := H.out.1.newW HU.out.tch
  have h1 := HU.out.tch.trans (TouchD.of_below HY.out.1 hn)
  have htc := h1.trans ((TouchD.of_grown hgrow (H.out.1.newW h1) (fun k e => HU.out.oj k (by rw [HY.out.2.2]; exact e))).trans (TouchD.set (j := 1) w5 (.slice (some ⟨g7, 0, none⟩) [[Value.int .i64 i0, .int .i64 fr, .int .i64 0]].length c7) H.out.1.dG))
  have hojD : OwnD D (.slice (some ⟨g7, 0, none⟩) [[Value.int .i64 i0, .int .i64 fr, .int .i64 0]].length c7) := fun k e => by
    rcases hat with h9 | h9
    · exact HU.out.oj k (by rw [HY.out.2.2, ← h9]; exact e)
    · rw [h9] at e; cases e
      exact H.out.1.newW h1 _ (Nat.le_refl _)
  have hbx := (set_ne0 w5 (a := ⟨G, 1, none⟩) (.slice (some ⟨g7, 0, none⟩) [[Value.int .i64 i0, .int .i64 fr, .int .i64 0]].length c7) (show W.heap.size ≠ G from HX.out.2.1)).trans hpb
  have c1 : w5.cell? ⟨G, 1, none⟩ = some (.slice Aj nj cj) := HS6.out.1
  have f1 : w5.frozen? ⟨G, 1, none⟩ = false := frozenOf (hG5.trans HU.out.mem.blk) 1
  have nG : G < w5.heap.size := heap_lt (hG5.trans HU.out.mem.blk)
  have hT : TrAt p ad c G W.heap.size rs lg D W [.go ((i0 : Int), (fr : Int))] (fitP p fr) S st bv _ _ _ ws _ := ⟨by rw [H.out.2.2.1]; exact hmem, HU.out.bits, HU.out.ob, hojD, HU.out.of, OwnD.nil D, hbx.trans HU.out.box, htc, by unfold halts; rw [H.out.2.2.1]; rfl, fun j hj => by
    rw [List.mem_singleton.1 hj]
    exact allP_iff.2 ⟨⟨by show (0 : Int) ≤ (i0 : Int); omega, by show (i0 : Int) < _; omega⟩, by show (0 : Int) ≤ (fr : Int); omega, by show (fr : Int) < _; omega⟩, fitP_len p H.out.2.2.2.2.2.2.2.2.2.1 fr, H.out.2.2.2.2.2.1⟩
  have hNI := Lib.hid (show NextI p ad c G W.heap.size rs lg D W (st + (KB p * left (allP p rs.length) S : Nat) + 2) (tryW p (runeAt rs) (atOf rs) lg rs.length fr S) [.go ((i0 : Int), (fr : Int))] (fitP p fr) S st _ _ _ _ _ _ from ⟨hT, by unfold tryW; rw [H.out.2.2.2.1]; rfl, by unfold pot; rw [wt, wt]; omega⟩)
  clear hmem hn h1 htc hojD hbx hT hown hgrow hat hrw hG5 hpb
  refine ScrT.run rfl (by rfl) (fun K hK => ?_)
  go_simp
  refine hK _ _ (fun h => absurd h (by decide)) ?_
  clear hK K
  simp only [ScrT]
  refine (show ∀ (K : Act → World → Prop) (Q : Exit → Act → World → Prop) a w, K a w → Exit.then K Q .normal a w from fun _ _ _ _ h => h) _ _ _ _ ?_
  apply_assumption
  refine wp_seq ?_
  refine wp_label ?_
  refine (show ∀ (K : Act → World → Prop) (Q : Exit → Act → World → Prop) a w, K a w → Exit.then K Q .normal a w from fun _ _ _ _ h => h) _ _ _ _ ?_
  refine next_all p ad c G W.heap.size ia rs lg D W (st + (KB p * left (allP p rs.length) S : Nat) + 2) (tryW p (runeAt rs) (atOf rs) lg rs.length fr S) H.out.1 _ _ _ _ _ _ _ _ _ _ hNI.out _ ?h1 _ ?h2 ?h3 _ ?h4
  case h1 => exact ⟨rfl, rfl, rfl, rfl, rfl⟩
  case h2 => exact fun tm w hE => bodyPost_ret (results_none rfl _ _ _) rfl ⟨rfl, hE⟩
  case h3 => exact fun _ _ _ _ _ h => h
  case h4 => exact fun l a w h1 h2 => h1
end Go.Proofs.YthclpabmbhpohaaDoor
namespace Go.Proofs.YthclpabmbhpohaaDoor
open Go.RowKit
set_option linter.unusedVariables false
theorem infoU : (Tryd.prog.info? 74).map (fun i => (i.zero, i.size, i.bytes)) = some (some (.int .u64 0), 1, 8) := by kernel_rfl
/-- A row of words: c of them, whatever they are. -/
def RowU (w : World) (g c : Nat) : Prop := ∃ cur, w.heap[g]? = some (.cells cur 74 (0, 0)) ∧ cur.size = c ∧ c ≤ maxLen
def GrowPost (A : Option Addr) (n : Nat) (w : World) (e : Ending) (w' : World) : Prop :=
  ∃ g c, e = .returned (.slice (some ⟨g, 0, none⟩) 0 c) ∧ n ≤ c ∧ RowU w' g c ∧ Below w.heap.size w w' ∧ (A = some ⟨g, 0, none⟩ ∨ w.heap.size ≤ g)
set_option maxHeartbeats 4000000 in
set_option maxRecDepth 100000 in
theorem grow_room (g c n : Nat) (w : World) (h : RowU w g c) (hn : n ≤ c) : Calls Tryd.prog 28 #[.slice (some ⟨g, 0, none⟩) 0 c, .int .i64 n] w (GrowPost (some ⟨g, 0, none⟩) n w) := by
  have hm : c ≤ 9223372036854775807 := by obtain ⟨_, _, _, h9⟩ := h; unfold maxLen at h9; omega
  have hP : GrowPost (some ⟨g, 0, none⟩) n w (.returned (.slice (some ⟨g, 0, none⟩) 0 c)) w := ⟨g, c, rfl, hn, h, Below.refl _ _, .inl rfl⟩
  have HP := Lib.hid hP
  clear hP h
  have h1 : decide ((n : Int) < 0) = false := decide_eq_false (by omega)
  have h2 : IntKind.i64.wrap ((c : Int) - 0) = (c : Int) := by rw [IntWalk.i64_in _ (by omega)]; omega
  have h2b : IntKind.i64.wrap (c : Int) = (c : Int) := IntWalk.i64_in _ (by omega)
  have h3 : IntKind.i64.wrap ((n : Int) - (c : Int)) = (n : Int) - (c : Int) := IntWalk.i64_in _ (by omega)
  have h4 : decide (0 < (n : Int) - (c : Int)) = false := decide_eq_false (by omega)
  go_enter Tryd.func28, Tryd.ntmps28
  go_wp2_with fail
  go_ret
  exact HP.out
set_option maxHeartbeats 4000000 in
set_option maxRecDepth 100000 in
theorem grow_new (A : Option Addr) (c n : Nat) (w : World) (h : (A = none ∧ c = 0) ∨ ∃ g, A = some ⟨g, 0, none⟩ ∧ RowU w g c) (hn : c < n) (hb : n ≤ 100000000) : Calls Tryd.prog 28 #[.slice A 0 c, .int .i64 n] w (GrowPost A n w) := by
  obtain ⟨i0, hi0, hz0, hz1, hz2⟩ := info_parts infoU
  have hcs : ∃ cs : List Value, cs.length = c ∧ (Builtin.firstCells i0.size c (.slice A c c)).run Tryd.prog w.drew = .ok cs.toArray w.drew := by
    rcases h with ⟨rfl, rfl⟩ | ⟨g, rfl, cur, hk, hs, _⟩
    · exact ⟨[], rfl, run_firstCells_none w.drew i0.size 0 0 0⟩
    · refine ⟨cur.toList, by simpa using hs, run_firstCells_some w.drew i0.size c ⟨g, 0, none⟩ c c cur.toList (by rw [hz1]; simpa using hs) (fun j v hj => ?_)⟩
      rw [Addr.add_mid, Nat.zero_add]
      have hk' : w.drew.heap[g]? = some (.cells cur 74 (0, 0)) := hk
      rw [cell_of_blk hk']; simpa using hj
  obtain ⟨cs, hcl, hold⟩ := hcs
  obtain ⟨G, hG⟩ : ∃ G, G = grownCap w n c 74 := ⟨_, rfl⟩
  have hGn : n ≤ G := by rw [hG]; exact grownCap_ge w _ _ _
  have hGm : G ≤ maxLen := by rw [hG]; exact grownCap_le_maxLen w n c _ (by unfold maxLen; omega)
  have hrz : ∀ ty, (Builtin.append_ #[67, 3] ty #[.slice A c c, .int .i64 ((n : Int) - (c : Int))]).run Tryd.prog w =
      .ok (.slice (some ⟨w.heap.size, 0, none⟩) n G) (w.drew.alloc (.cells (cs.toArray ++ Builtin.zeroCells (Value.cells (.int .u64 0)) (n - c) ++ Builtin.zeroCells (Value.cells (.int .u64 0)) (G - n)) 74)) := fun ty => by
    have hck : c + (n - c) = n := by omega
    have h := Lib.run_append_grow_zeros (P := Tryd.prog) w 67 3 ty 74 i0 _ .i64 .i64 Tryd.underlying67 Tryd.underlying3 hi0 hz0 A c c cs hold (n - c) (by omega) (by rw [hz1]; omega) (by omega) (by omega)
      (by rw [hz2]; omega) (by rw [hck, hz2]; exact growslice_fits (by omega) (by omega))
    rw [hck, ← hG] at h
    rw [show (n : Int) - (c : Int) = ((n - c : Nat) : Int) by omega]
    exact h
  have hsz : (cs.toArray ++ Builtin.zeroCells (Value.cells (.int .u64 0)) (n - c) ++ Builtin.zeroCells (Value.cells (.int .u64 0)) (G - n)).size = G := by
    simp [Builtin.zeroCells, Value.cells, hcl]; omega
  generalize hcells : cs.toArray ++ Builtin.zeroCells (Value.cells (.int .u64 0)) (n - c) ++ Builtin.zeroCells (Value.cells (.int .u64 0)) (G - n) = cells at *
  have hP : GrowPost A n w (.returned (.slice (some ⟨w.heap.size, 0, none⟩) 0 G)) (w.drew.alloc (.cells cells 74)) :=
    ⟨w.heap.size, G, rfl, hGn, ⟨cells, World.alloc_heap_new w.drew _, hsz, hGm⟩, below_al (w := w) (Below.refl _ _).drew _, .inr (Nat.le_refl _)⟩
  have HP := Lib.hid hP
  have hGm2 : G ≤ 9223372036854775807 := by unfold maxLen at hGm; omega
  clear hP hcells hsz hcl hold hG
  have h1 : decide ((n : Int) < 0) = false := decide_eq_false (by omega)
  have h2 : IntKind.i64.wrap ((c : Int) - 0) = (c : Int) := by rw [IntWalk.i64_in _ (by omega)]; omega
  have h2b : IntKind.i64.wrap (c : Int) = (c : Int) := IntWalk.i64_in _ (by omega)
  have h3 : IntKind.i64.wrap ((n : Int) - (c : Int)) = (n : Int) - (c : Int) := IntWalk.i64_in _ (by omega)
  have h4 : decide (0 < (n : Int) - (c : Int)) = true := decide_eq_true (by omega)
  rcases h with ⟨rfl, rfl⟩ | ⟨g, rfl, _⟩
  · go_enter Tryd.func28, Tryd.ntmps28
    go_wp2_with (at_builtin; refine Lib.wpList_append_run _ rfl _ _ _ _ rfl _ _ rfl rfl _ _ (hrz _) ?_)
    all_goals (go_ret; exact HP.out)
  · go_enter Tryd.func28, Tryd.ntmps28
    go_wp2_with (at_builtin; refine Lib.wpList_append_run _ rfl _ _ _ _ rfl _ _ rfl rfl _ _ (hrz _) ?_)
    all_goals (go_ret; exact HP.out)
theorem grow_any (A : Option Addr) (c n : Nat) (w : World) (h : (A = none ∧ c = 0) ∨ ∃ g, A = some ⟨g, 0, none⟩ ∧ RowU w g c) (hn : 1 ≤ n) (hb : n ≤ 100000000) : Calls Tryd.prog 28 #[.slice A 0 c, .int .i64 n] w (GrowPost A n w) := by
  rcases Nat.lt_or_ge c n with h9 | h9
  · exact grow_new A c n w h h9 hb
  · rcases h with ⟨rfl, rfl⟩ | ⟨g, rfl, h⟩
    · omega
    · exact grow_room g c n w h h9
/-- A row that was cleared: zero words of one's own. -/
theorem clear_own {w : World} {g c n : Nat} (h : RowU w g c) (hn : n ≤ c) : Owns (w.setCells g 0 (List.replicate n (.int .u64 0))) 0 74 1 (.slice (some ⟨g, 0, none⟩) n c) ((List.replicate n (0 : Nat)).map u64C) ∧ w.grownBy (w.setCells g 0 (List.replicate n (.int .u64 0))) (some g) ∧ (w.setCells g 0 (List.replicate n (.int .u64 0))).heap.size = w.heap.size := by
  obtain ⟨cur, hk, hs, hm⟩ := h
  have key : ∀ (vs : List Value) (o : Nat) (w : World) (cur : Array Value), w.heap[g]? = some (.cells cur 74 (0, 0)) → o + vs.length ≤ cur.size →
      ∃ cur', (w.setCells g o vs).heap[g]? = some (.cells cur' 74 (0, 0)) ∧ cur'.size = cur.size ∧ (∀ j, j < o → cur'[j]? = cur[j]?) ∧ (∀ j, j < vs.length → cur'[o + j]? = vs[j]?) ∧ w.grownBy (w.setCells g o vs) (some g) ∧ (w.setCells g o vs).heap.size = w.heap.size := by
    intro vs
    induction vs with
    | nil => intro o w cur hk _; exact ⟨cur, hk, rfl, fun _ _ => rfl, fun j hj => by simp at hj, World.grownBy.refl _ _, rfl⟩
    | cons v vs ih =>
      intro o w cur hk hl
      have h1 := heap_set0 hk o v
      obtain ⟨cur', k1, k2, k3, k4, k5, k6⟩ := ih (o + 1) (w.setCell ⟨g, o, none⟩ v) _ h1 (by simp at hl ⊢; omega)
      refine ⟨cur', k1, by rw [k2]; simp, fun j hj => ?_, fun j hj => ?_, ?_, ?_⟩
      · rw [k3 j (by omega), Array.getElem?_setIfInBounds_ne (by omega)]
      · cases j with
        | zero =>
          rw [Nat.add_zero, k3 o (by omega), Array.getElem?_setIfInBounds_self_of_lt (by simp at hl; omega)]; rfl
        | succ j => rw [show o + (j + 1) = o + 1 + j by omega, k4 j (by simpa using hj)]; rfl
      · exact ⟨k5.os.trans rfl, k5.tape.trans rfl, k5.output.trans rfl, Nat.le_trans (Nat.le_of_eq (by simp [World.setCell])) k5.size, fun b hb hne => (k5.block b (by simpa [World.setCell] using hb) hne).trans (set_ne0 w v (fun e => hne (by rw [e])))⟩
      · show ((w.setCell ⟨g, o, none⟩ v).setCells g (o + 1) vs).heap.size = _
        rw [k6]; simp [World.setCell]
  obtain ⟨cur', k1, k2, _, k4, k5, k6⟩ := key (List.replicate n (.int .u64 0)) 0 w cur hk (by simp; omega)
  refine ⟨⟨⟨by rw [flat_u64]; simp, .inr ⟨g, c, cur', by simp, Nat.zero_le _, k1, by simpa using hn, hm, by rw [k2]; omega, ?_⟩⟩, fun x hx => by obtain ⟨y, _, rfl⟩ := List.mem_map.1 hx; rfl⟩, k5, k6⟩
  rw [flat_u64]
  apply List.ext_getElem?
  intro j
  by_cases hj : j < n
  · have h9 := k4 j (by simpa using hj)
    rw [Nat.zero_add] at h9
    rw [List.getElem?_take_of_lt (by simpa using hj), Array.getElem?_toList, h9]
    simp [hj]
  · rw [List.getElem?_eq_none (by simp; omega), List.getElem?_eq_none (by simp; omega)]
end Go.Proofs.YthclpabmbhpohaaDoor
namespace Go.Proofs.YthclpabmbhpohaaDoor
open Go.RowKit Go.Maps
set_option linter.unusedVariables false
/-- In block b lies a map of at most n entries that is true at the numbers, else false. -/
def IntsAt (W : World) (b n : Nat) (l : List Int) : Prop :=
  ∃ D : DataW Unit, W.ownsMap Tryd.prog 3 (plainElem Tryd.prog 4) b n D ∧ ∀ x : Int, (Lit.int .i64 x).wf = true → D.atKey (.int .i64 x) (.lit (.bool false)) = .lit (.bool (l.contains x))
theorem IntsAt.made (w : World) : IntsAt (w.alloc (.map #[] 0)) w.heap.size 0 [] := ⟨_, World.ownsMap_made w _ _ _, fun s _ => by simp [DataW.atKey]⟩
theorem IntsAt.kept {W W' : World} {b n : Nat} {l : List Int} {row : Option Nat} (h : IntsAt W b n l) (hg : W.grownBy W' row) (hne : some b ≠ row) : IntsAt W' b n l := by
  obtain ⟨D, h1, h2⟩ := h
  exact ⟨D, h1.kept hg hne, h2⟩
theorem IntsAt.lt {W : World} {b n : Nat} {l : List Int} (h : IntsAt W b n l) : b < W.heap.size := by
  obtain ⟨D, h1, h2⟩ := h
  exact h1.lt
theorem IntsAt.blk {W W' : World} {b n : Nat} {l : List Int} (h : IntsAt W b n l) (hb : W'.heap[b]? = W.heap[b]?) : IntsAt W' b n l := by
  obtain ⟨D, ⟨es, clock, h1, h3⟩, h2⟩ := h
  exact ⟨D, ⟨es, clock, hb.trans h1, h3⟩, h2⟩
theorem ints_look {W : World} {b n : Nat} {l : List Int} (h : IntsAt W b n l) (x : Int) (hx : (Lit.int .i64 x).wf = true) : (Instr.lookup 116 (.map (some b)) (.int .i64 x) false).run Tryd.prog W = .ok (.bool (l.contains x)) W := by
  obtain ⟨D, h1, h2⟩ := h
  obtain ⟨v, ps, hr, hv⟩ := h1.lookup (int_keyed Tryd.underlying3) Tryd.underlying116 (z := .bool false) (by kernel_rfl) (zd := .lit (.bool false)) (zp := []) (plainElem_bool Tryd.underlying4 false) (keyOf_int_mk Tryd.underlying3 hx)
  rw [h2 x hx] at hv
  rw [hr]
  have hu : Tryd.prog.underlying 4 = some .bool := Tryd.underlying4
  unfold plainElem at hv
  simp only [hu] at hv
  cases v <;> simp at hv
  rename_i bb
  rw [hv.1]
  simp
theorem ints_put {D : DataW Unit} (hD : IsMap D) {l : List Int} {n : Int} (h : ∀ x : Int, (Lit.int .i64 x).wf = true → D.atKey (.int .i64 x) (.lit (.bool false)) = .lit (.bool (l.contains x))) :
    ∀ x : Int, (Lit.int .i64 x).wf = true → (D.put (.int .i64 n) (.lit (.bool true))).atKey (.int .i64 x) (.lit (.bool false)) = .lit (.bool ((n :: l).contains x)) := fun x hx => by
  by_cases e : n = x
  · subst e; rw [atKey_put_same hD (by simp [WideAt.IsKeyLit])]; simp
  · rw [atKey_put_other (fun h => e (by injection h with _ h; exact h.symm)), h x hx]
    simp only [List.contains_cons]
    rw [beq_eq_false_iff_ne.2 (fun h => e h.symm), Bool.false_or]
section
variable {ops : Array Oper} {rest : List Oper} {o : Oper} {a : Act} {Q : Exit → Act → World → Prop} {w : World}
theorem wpList_ints (hg : o.guard = none) (m x v : Operand) (hop : o.op = Op.mapUpdate 116 m x v) (b n : Nat) (l : List Int) (hm : a.eval m = .map (some b)) (h : IntsAt w b n l) (hn : n < maxLen) (s : Int) (hs : (Lit.int .i64 s).wf = true) (hx : a.eval x = .int .i64 s) (hv : a.eval v = .bool true)
    (hK : ∀ w', IntsAt w' b (n + 1) (s :: l) → w.grownBy w' (some b) → wpList Tryd.prog ops Q rest (a.put o.dst undef) w') : wpList Tryd.prog ops Q (o :: rest) a w := by
  obtain ⟨D, h1, h2⟩ := h
  exact wpList_mapUpdate_own w hg m x v 116 hop 3 4 (int_keyed Tryd.underlying3) Tryd.underlying116 _ b n D hm h1 hn _ _ _ hx hv (keyOf_int_mk Tryd.underlying3 hs) _ [] (plainElem_bool Tryd.underlying4 true) (fun w' k1 k2 => hK w' ⟨_, k1, ints_put h1.isMap h2⟩ k2)
end
theorem wf_small {x : Int} (h0 : 0 ≤ x) (h1 : x ≤ 1000000000000) : (Lit.int .i64 x).wf = true := by
  simp [Lit.wf, IntKind.min, IntKind.max, IntKind.signed, IntKind.bits]
  omega
end Go.Proofs.YthclpabmbhpohaaDoor
