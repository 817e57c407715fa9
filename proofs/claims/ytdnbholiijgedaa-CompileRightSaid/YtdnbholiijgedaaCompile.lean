/-
  compile.Compile. No condition.
-/
import Derived.Test.YtdnbholiijgedaaComp9
import Derived.Test.YtdnbholiijgedaaCounted
import Derived.Test.YtdnbholiijgedaaRight
namespace Go.Proofs.Ytdnbholiijgedaa
open Go.RowKit
set_option linter.unusedVariables false

theorem bld_st {W : World} {B0 G : Nat} {v : Value} {st cp gr : Int} {s : St} (h : BldAt W B0 G v st cp gr s) (st' : Int) : BldAt (W.setCell ⟨G, 1, none⟩ (.int .i64 st')) B0 G v st' cp gr s := by
  obtain ⟨k0, k1, css, k2, k3⟩ := h
  refine ⟨k0, blk_set k1 1 _, css, ⟨ownsRow_setCell_other k2.1 (fun e => ?_) _, k2.2⟩, k3.move (fun b' hb' => Below.heap_setCell _ _ _ _ (hb'.ne k1 (by decide)))⟩
  obtain ⟨cs, fr, hc⟩ := own_ty k2 e
  rw [k1] at hc
  injection hc with hc
  injection hc with _ h4
  exact absurd h4 (by decide)
def compS (t : Tr) (g : Int) : Int × St := codeS g t 0 ([⟨1, 0, 0, [], 0⟩], false)
def compB (t : Tr) (g : Int) : Bool := shapedB rightR t && !countedB t && decide (0 ≤ g) && decide (g ≤ 2000)
/-- Instructions, start, caps, the error. -/
def compR (t : Tr) (g : Int) : List In × Int × Int × Int :=
  if compB t g = true then (if (compS t g).2.2 = true then ([], 0, 0, 2) else ((compS t g).2.1, (compS t g).1, 2 * g + 2, 0)) else ([], 0, 0, 51)
def CompPost (r : List In × Int × Int × Int) (w : World) (e : Ending) (w' : World) : Prop :=
  ∃ v, e = .returned (.tuple #[.agg #[v, .int .i64 r.2.1, .int .i64 r.2.2.1], .int .i64 r.2.2.2]) ∧ (∃ css, Owns w' w.heap.size 39 5 v css ∧ InsC w' css r.1) ∧ Below w.heap.size w w'
theorem comp_none {w w' : World} {e : Ending} {n : Int} (he : e = .returned (.tuple #[.agg #[.slice none 0 0, .int .i64 0, .int .i64 0], .int .i64 n])) (h : Below w.heap.size w w') : CompPost ([], 0, 0, n) w e w' :=
  ⟨_, he, ⟨[], Owns.nil _ _ _ _, rfl, fun i x c hx => by simp at hx⟩, h⟩
theorem owns_lit {W : World} {b base : Nat} {T : TypeId} {sz : Nat} {cs : List Value} (h : W.heap[b]? = some (.cells cs.toArray T (0, 0))) (hl : cs.length = sz) (hb : base ≤ b) (hsz : 0 < sz) : Owns W base T sz (.slice (some ⟨b, 0, none⟩) 1 1) [cs] := by
  refine ⟨⟨by simp [hl], .inr ⟨b, 1, cs.toArray, rfl, hb, h, by simp, by unfold maxLen; simp, by simp [hl], ?_⟩⟩, fun c hc => by simp at hc; subst hc; exact hl⟩
  simp
  exact List.take_of_length_le (by omega)
theorem prog3 {W : World} {b : Nat} {x y z : Value} {T : TypeId} (h : W.heap[b]? = some (.cells #[x, y, z] T (0, 0))) : W.cell? ⟨b, 0, none⟩ = some x ∧ W.cell? ⟨b, 1, none⟩ = some y ∧ W.cell? ⟨b, 2, none⟩ = some z ∧ W.frozen? ⟨b, 0, none⟩ = false ∧ W.frozen? ⟨b, 1, none⟩ = false ∧ W.frozen? ⟨b, 2, none⟩ = false :=
  ⟨by rw [cell_of_blk h]; rfl, by rw [cell_of_blk h]; rfl, by rw [cell_of_blk h]; rfl, by simp [World.frozen?, h], by simp [World.frozen?, h], by simp [World.frozen?, h]⟩
theorem set3_blk {W : World} {b : Nat} {x y z : Value} {T : TypeId} (h : W.heap[b]? = some (.cells #[x, y, z] T (0, 0))) (x' y' z' : Value) : (((W.setCell ⟨b, 0, none⟩ x').setCell ⟨b, 1, none⟩ y').setCell ⟨b, 2, none⟩ z').heap[b]? = some (.cells #[x', y', z'] T (0, 0)) := blk_set (blk_set (blk_set h 0 x') 1 y') 2 z'
theorem below_set3 {B : Nat} {w W : World} {b : Nat} (h : Below B w W) (hb : B ≤ b) (x y z : Value) : Below B w (((W.setCell ⟨b, 0, none⟩ x).setCell ⟨b, 1, none⟩ y).setCell ⟨b, 2, none⟩ z) := ((h.setCell hb _).setCell hb _).setCell hb _
set_option maxRecDepth 100000 in
set_option maxHeartbeats 1000000 in
theorem compile_any (ok : Nat → Prop) (w : World) (t : Tr) (cs : List Value) (g : Int) (ht : TrC ok w t cs) (hs : ∀ p ∈ parts t, p.set.length ≤ 1000000000 ∧ p.kids.length ≤ 1000000000) :
    Calls Try.prog 11 #[.agg cs.toArray, .int .i64 g] w (CompPost (compR t g) w) := by
  have ht0 : TrC (fun b => b < w.heap.size) w t cs := ht.old.mono (fun b h => h.2)
  obtain ⟨A, c, B, d, rfl, _⟩ := trC_iff.1 ht
  have hsh := fun (W : World) (hW : Below w.heap.size w W) => shaped_any rightR _ W t _ (ht0.move (fun b hb _ => ⟨hW.block b hb, hb⟩)) (fun p hp _ => right_ok p.set (hs p hp).1)
  have hco := fun (W : World) (hW : Below w.heap.size w W) => counted_any _ _ t _ W (Nat.le_refl _) (ht0.move (fun b hb _ => ⟨hW.block b hb, hb⟩)) (fun p hp => by have := (hs p hp).2; omega)
  have HR : Hid (compR t g = if (shapedB rightR t && !countedB t && decide (0 ≤ g) && decide (g ≤ 2000)) = true then (if (compS t g).2.2 = true then ([], 0, 0, 2) else ((compS t g).2.1, (compS t g).1, 2 * g + 2, 0)) else ([], 0, 0, 51)) := Lib.hid rfl
  generalize compR t g = R at *
  have HF := Lib.hid (And.intro (fun h => fine_of (R := rightR) (t := t) h hs) (And.intro ht0 (show codeS g t 0 ([⟨1, 0, 0, [], 0⟩], false) = compS t g from rfl)))
  generalize compS t g = E at *
  clear ht ht0 hs
  have x1 : ((w.alloc (.cells #[.int .i64 t.op, .slice A t.kids.length c, .int .i32 t.rune, .slice B t.set.length d, .int .i64 t.at_, .int .i64 t.cap, .string t.name, .int .i64 t.mn, .int .i64 t.mx, .bool t.lz] 27)).alloc (.cells #[.slice none 0 0, .int .i64 0, .int .i64 0] 32)).heap[w.heap.size + 1]? = _ := heap_new2 _ _ _
  have xb : Below w.heap.size w ((w.alloc (.cells #[.int .i64 t.op, .slice A t.kids.length c, .int .i32 t.rune, .slice B t.set.length d, .int .i64 t.at_, .int .i64 t.cap, .string t.name, .int .i64 t.mn, .int .i64 t.mx, .bool t.lz] 27)).alloc (.cells #[.slice none 0 0, .int .i64 0, .int .i64 0] 32)) := below_al (below_al (Below.refl _ _) _) _
  have xt : ((w.alloc (.cells #[.int .i64 t.op, .slice A t.kids.length c, .int .i32 t.rune, .slice B t.set.length d, .int .i64 t.at_, .int .i64 t.cap, .string t.name, .int .i64 t.mn, .int .i64 t.mx, .bool t.lz] 27)).alloc (.cells #[.slice none 0 0, .int .i64 0, .int .i64 0] 32)).heap[w.heap.size]? = some (.cells #[.int .i64 t.op, .slice A t.kids.length c, .int .i32 t.rune, .slice B t.set.length d, .int .i64 t.at_, .int .i64 t.cap, .string t.name, .int .i64 t.mn, .int .i64 t.mx, .bool t.lz] 27) := (Below.heap_alloc _ _ _ (by simp)).trans (heap_new1 _ _)
  have xs : ((w.alloc (.cells #[.int .i64 t.op, .slice A t.kids.length c, .int .i32 t.rune, .slice B t.set.length d, .int .i64 t.at_, .int .i64 t.cap, .string t.name, .int .i64 t.mn, .int .i64 t.mx, .bool t.lz] 27)).alloc (.cells #[.slice none 0 0, .int .i64 0, .int .i64 0] 32)).heap.size = w.heap.size + 2 := by simp
  have HX := Lib.hid (And.intro x1 (And.intro xb (And.intro xs xt)))
  clear x1 xb xs xt
  cases hA : shapedB rightR t
  · rw [hA] at hsh HR
    have HA := Lib.hid hA
    clear hA hco
    go_enter Try.func11, Try.ntmps11
    go_wp2_with fail
    refine (hsh _ (by repeat (first | exact Below.refl _ _ | apply below_al))).mono ?_
    clear hsh
    rintro e w1 ⟨rfl, hb1⟩
    obtain ⟨x1, xb, xs, xt⟩ := HX.out
    have y1 := (hb1.block _ (by rw [xs]; omega)).trans x1
    obtain ⟨p0, p1, p2, q0, q1, q2⟩ := prog3 y1
    have HB := Lib.hid (And.intro (below_and hb1 xb) y1)
    clear hb1 x1 xb xs xt y1
    go_wp2_with fail
    obtain ⟨z0, z1, z2, _⟩ := prog3 (set3_blk HB.out.2 (.slice none 0 0) (.int .i64 0) (.int .i64 0))
    refine bodyPost_ret (v := .tuple #[.agg #[.slice none 0 0, .int .i64 0, .int .i64 0], .int .i64 51]) (by simp [results, Try.f11, go_sem, z0, z1, z2]) rfl ?_
    have h9 := HR.out
    simp at h9
    subst h9
    exact comp_none rfl (below_set3 HB.out.1 (by omega) _ _ _)
  · rw [hA] at hsh HR
    have HA := Lib.hid (HF.out.1 hA)
    clear hA
    go_enter Try.func11, Try.ntmps11
    go_wp2_with fail
    refine (hsh _ (by repeat (first | exact Below.refl _ _ | apply below_al))).mono ?_
    clear hsh
    rintro e w1 ⟨rfl, hb1⟩
    obtain ⟨x1, xb, xs, xt⟩ := HX.out
    have y1 := (hb1.block _ (by rw [xs]; omega)).trans x1
    have yt := (hb1.block _ (by rw [xs]; omega)).trans xt
    obtain ⟨g0, g1, g2, g3, g4, g5, g6, g7, g8, g9⟩ := cells10 yt
    have HB := Lib.hid (And.intro (below_and hb1 xb) (And.intro y1 yt))
    clear hb1 x1 xb xs y1 yt xt
    go_wp2_with fail
    refine (hco _ HB.out.1).mono ?_
    clear hco g0 g1 g2 g3 g4 g5 g6 g7 g8 g9
    rintro e w2 ⟨rfl, hb2⟩
    have y1 := (hb2.block _ (heap_lt HB.out.2.1)).trans HB.out.2.1
    have yt := (hb2.block _ (heap_lt HB.out.2.2)).trans HB.out.2.2
    have yb := below_and hb2 HB.out.1
    clear hb2
    cases hB : countedB t
    · rw [hB] at HR
      clear hB
      by_cases hg0 : g < 0
      · obtain ⟨p0, p1, p2, q0, q1, q2⟩ := prog3 y1
        have HC := Lib.hid (And.intro yb y1)
        clear y1 yb yt
        go_wp2_with fail
        obtain ⟨z0, z1, z2, _⟩ := prog3 (set3_blk HC.out.2 (.slice none 0 0) (.int .i64 0) (.int .i64 0))
        refine bodyPost_ret (v := .tuple #[.agg #[.slice none 0 0, .int .i64 0, .int .i64 0], .int .i64 51]) (by simp [results, Try.f11, go_sem, z0, z1, z2]) rfl ?_
        have h9 := HR.out
        rw [if_neg (by simp <;> omega)] at h9
        subst h9
        exact comp_none rfl (below_set3 HC.out.1 (by omega) _ _ _)
      by_cases hg1 : 2000 < g
      · obtain ⟨p0, p1, p2, q0, q1, q2⟩ := prog3 y1
        have HC := Lib.hid (And.intro yb y1)
        clear y1 yb yt
        go_wp2_with fail
        obtain ⟨z0, z1, z2, _⟩ := prog3 (set3_blk HC.out.2 (.slice none 0 0) (.int .i64 0) (.int .i64 0))
        refine bodyPost_ret (v := .tuple #[.agg #[.slice none 0 0, .int .i64 0, .int .i64 0], .int .i64 51]) (by simp [results, Try.f11, go_sem, z0, z1, z2]) rfl ?_
        have h9 := HR.out
        rw [if_neg (by simp <;> omega)] at h9
        subst h9
        exact comp_none rfl (below_set3 HC.out.1 (by omega) _ _ _)
      have hl0 := heap_lt y1
      have hl1 : w.heap.size < w2.heap.size := by omega
      have hl2 : w.heap.size < w2.heap.size + 1 := by omega
      have hl3 : w.heap.size + 1 < w2.heap.size + 1 := by omega
      have hl4 : w.heap.size < w2.heap.size + 1 + 1 := by omega
      obtain ⟨g0, g1, g2, g3, g4, g5, g6, g7, g8, g9⟩ := cells10 yt
      have HC := Lib.hid (And.intro yb (And.intro y1 yt))
      clear y1 yb yt
      go_wp2_with fail
      clear g0 g1 g2 g3 g4 g5 g6 g7 g8 g9
      obtain ⟨yb, y1, yt⟩ := HC.out
      have e1 : ((w2.alloc (.cells #[.int .i64 1, .int .i64 0, .int .i64 0, .slice none 0 0, .int .i64 0] 39)).alloc (.cells #[.slice (some ⟨w2.heap.size, 0, none⟩) 1 1, .int .i64 0, .int .i64 (2 * g + 2), .int .i64 g, .bool false] 49)).heap[w2.heap.size]? = _ := (Below.heap_alloc _ _ _ (by simp)).trans (heap_new1 w2 (.cells #[.int .i64 1, .int .i64 0, .int .i64 0, .slice none 0 0, .int .i64 0] 39))
      have e2 : ((w2.alloc (.cells #[.int .i64 1, .int .i64 0, .int .i64 0, .slice none 0 0, .int .i64 0] 39)).alloc (.cells #[.slice (some ⟨w2.heap.size, 0, none⟩) 1 1, .int .i64 0, .int .i64 (2 * g + 2), .int .i64 g, .bool false] 49)).heap[w2.heap.size + 1]? = _ := heap_new2 _ _ _
      have eb : Below w2.heap.size w2 ((w2.alloc (.cells #[.int .i64 1, .int .i64 0, .int .i64 0, .slice none 0 0, .int .i64 0] 39)).alloc (.cells #[.slice (some ⟨w2.heap.size, 0, none⟩) 1 1, .int .i64 0, .int .i64 (2 * g + 2), .int .i64 g, .bool false] 49)) := below_al (below_al (Below.refl _ _) _) _
      have e3 := (eb.block _ hl0).trans y1
      generalize (w2.alloc (.cells #[.int .i64 1, .int .i64 0, .int .i64 0, .slice none 0 0, .int .i64 0] 39)).alloc (.cells #[.slice (some ⟨w2.heap.size, 0, none⟩) 1 1, .int .i64 0, .int .i64 (2 * g + 2), .int .i64 g, .bool false] 49) = w3 at *
      have hbd : BldAt w3 w.heap.size (w2.heap.size + 1) (.slice (some ⟨w2.heap.size, 0, none⟩) 1 1) 0 (2 * g + 2) g ([⟨1, 0, 0, [], 0⟩], false) :=
        ⟨by omega, e2, [[.int .i64 1, .int .i64 0, .int .i64 0, .slice none 0 0, .int .i64 0]], owns_lit e1 rfl (by omega) (by omega), rfl, fun i x c hx hc => by
          have hi := (List.getElem?_eq_some_iff.1 hx).1
          simp at hi
          subst hi
          simp at hx hc
          subst hx
          subst hc
          exact inC_lit _ _ _ _ _⟩
      have ebw := below_and eb yb
      have hcode := code_any w.heap.size (w2.heap.size + 1) 0 (2 * g + 2) g ⟨hg0, hg1⟩ _ t (Nat.le_refl _) HA.out _ 0 w3 _ _ (HF.out.2.1.move (fun b hb _ => ⟨ebw.block b hb, hb⟩)) hbd (by simp)
      rw [HF.out.2.2] at hcode
      refine hcode.mono ?_
      rintro e w4 ⟨v4, rfl, hb4, ht4⟩
      have f1 := ht4.keep hbd e3 (by decide) (by decide)
      have fb := ebw.trans (ht4.old hbd)
      obtain ⟨css, fo, fi⟩ := hb4.row
      obtain ⟨A4, c4, rfl, m1, m2⟩ := Owns.shape fo
      obtain ⟨p0, p1, p2, q0, q1, q2⟩ := prog3 f1
      have k0 : w4.cell? ⟨w2.heap.size + 1, 0, none⟩ = some (.slice A4 css.length c4) := by rw [cell_of_blk hb4.blk]; rfl
      have k1 : w4.cell? ⟨w2.heap.size + 1, 1, none⟩ = some (.int .i64 0) := by rw [cell_of_blk hb4.blk]; rfl
      have k2 : w4.cell? ⟨w2.heap.size + 1, 2, none⟩ = some (.int .i64 (2 * g + 2)) := by rw [cell_of_blk hb4.blk]; rfl
      have k4 : w4.cell? ⟨w2.heap.size + 1, 4, none⟩ = some (.bool E.2.2) := by rw [cell_of_blk hb4.blk]; rfl
      have kf : w4.frozen? ⟨w2.heap.size + 1, 1, none⟩ = false := by simp [World.frozen?, hb4.blk]
      have HD := Lib.hid (And.intro hb4 (And.intro f1 fb))
      clear hb4 f1 fb fo fi hcode hbd e1 e2 e3 eb ebw y1 yb yt ht4
      cases hmn : E.2.2
      · rw [hmn] at k4 HR
        have HM := Lib.hid hmn
        clear hmn
        go_wp2_with fail
        obtain ⟨hb4, f1, fb⟩ := HD.out
        have c1 := bld_st hb4 E.1
        have y1 : (w4.setCell ⟨w2.heap.size + 1, 1, none⟩ (.int .i64 E.1)).heap[w.heap.size + 1]? = _ := (Below.heap_setCell _ _ _ _ (by show w.heap.size + 1 ≠ w2.heap.size + 1; omega)).trans f1
        have d1 := bld_far c1 y1 (by decide) (by decide) (by decide) 0 (.slice A4 css.length c4)
        have d2 := bld_far d1 (blk_set y1 0 _) (by decide) (by decide) (by decide) 1 (.int .i64 E.1)
        have d3 := bld_far d2 (blk_set (blk_set y1 0 _) 1 _) (by decide) (by decide) (by decide) 2 (.int .i64 (2 * g + 2))
        obtain ⟨z0, z1, z2, _⟩ := prog3 (set3_blk y1 (.slice A4 css.length c4) (.int .i64 E.1) (.int .i64 (2 * g + 2)))
        refine bodyPost_ret (v := .tuple #[.agg #[.slice A4 css.length c4, .int .i64 E.1, .int .i64 (2 * g + 2)], .int .i64 0]) (by simp [results, Try.f11, go_sem, z0, z1, z2]) rfl ?_
        have h9 := HR.out
        rw [if_pos (by simp <;> omega)] at h9
        simp only [Bool.false_eq_true, if_false] at h9
        subst h9
        exact ⟨_, rfl, d3.row, below_set3 (fb.setCell (by show w.heap.size ≤ w2.heap.size + 1; omega) _) (by omega) _ _ _⟩
      · rw [hmn] at k4 HR
        have HM := Lib.hid hmn
        clear hmn
        go_wp2_with fail
        obtain ⟨z0, z1, z2, _⟩ := prog3 (set3_blk HD.out.2.1 (.slice none 0 0) (.int .i64 0) (.int .i64 0))
        refine bodyPost_ret (v := .tuple #[.agg #[.slice none 0 0, .int .i64 0, .int .i64 0], .int .i64 2]) (by simp [results, Try.f11, go_sem, z0, z1, z2]) rfl ?_
        have h9 := HR.out
        rw [if_pos (by simp <;> omega)] at h9
        subst h9
        exact comp_none rfl (below_set3 HD.out.2.2 (by omega) _ _ _)
    · rw [hB] at HR
      clear hB
      · obtain ⟨p0, p1, p2, q0, q1, q2⟩ := prog3 y1
        have HC := Lib.hid (And.intro yb y1)
        clear y1 yb yt
        go_wp2_with fail
        obtain ⟨z0, z1, z2, _⟩ := prog3 (set3_blk HC.out.2 (.slice none 0 0) (.int .i64 0) (.int .i64 0))
        refine bodyPost_ret (v := .tuple #[.agg #[.slice none 0 0, .int .i64 0, .int .i64 0], .int .i64 51]) (by simp [results, Try.f11, go_sem, z0, z1, z2]) rfl ?_
        have h9 := HR.out
        rw [if_neg (by simp <;> omega)] at h9
        subst h9
        exact comp_none rfl (below_set3 HC.out.1 (by omega) _ _ _)
end Go.Proofs.Ytdnbholiijgedaa
