/-
  martelloref02.Right: is a list of ranges a set, as the document has it? No condition.
-/
import Derived.Test.YthclpabmbhpohaaDoorOneMatG4
import Derived.Deep.LoopGhost
namespace Go.Proofs.YthclpabmbhpohaaDoor
open Go.RowKit
set_option linter.unusedVariables false
def GoodAt (l : List Rg) (i : Nat) : Prop := ∀ x, l[i]? = some x → RgOK x ∧ ∀ j y, i = j + 1 → l[j]? = some y → y.hi + 2 ≤ x.lo
theorem setOK_at (l : List Rg) : SetOK l ↔ ∀ i, i < l.length → GoodAt l i := by
  constructor
  · rintro ⟨h1, h2⟩ i hi x hx
    refine ⟨h1 x (List.mem_of_getElem? hx), fun j y hj hy => ?_⟩
    obtain ⟨hi', rfl⟩ := List.getElem?_eq_some_iff.1 hx
    obtain ⟨hj', rfl⟩ := List.getElem?_eq_some_iff.1 hy
    exact List.pairwise_iff_getElem.1 h2 j i hj' hi' (by omega)
  · intro h
    have h1 : ∀ x ∈ l, RgOK x := fun x hx => by
      obtain ⟨i, hi, rfl⟩ := List.mem_iff_getElem.1 hx
      exact (h i hi _ (List.getElem?_eq_getElem hi)).1
    refine ⟨h1, List.pairwise_iff_getElem.2 ?_⟩
    have key : ∀ (d i : Nat) (hi : i < l.length) (hj : i + d + 1 < l.length), l[i].hi + 2 ≤ l[i + d + 1].lo := by
      intro d
      induction d with
      | zero => intro i hi hj; exact (h (i + 1) hj _ (List.getElem?_eq_getElem hj)).2 i _ rfl (List.getElem?_eq_getElem hi)
      | succ d ih =>
        intro i hi hj
        have h2 := ih i hi (by omega)
        have h3 := (h (i + d + 1 + 1) (by omega) _ (List.getElem?_eq_getElem (by omega))).2 (i + d + 1) _ rfl (List.getElem?_eq_getElem (by omega))
        have h4 := (h1 l[i + d + 1] (List.getElem_mem _)).2.1
        simp only [show i + (d + 1) + 1 = i + d + 1 + 1 by omega]
        omega
    intro i j hi hj hij
    have := key (j - i - 1) i hi (by omega)
    simp only [show i + (j - i - 1) + 1 = j by omega] at this
    exact this
theorem right_no {l : List Rg} {i : Nat} (hi : i < l.length) (h : ¬ GoodAt l i) : rightR l = false := by
  rw [Bool.eq_false_iff]
  exact fun e => h ((setOK_at l).1 ((right_iff l).1 e) i hi)
theorem right_yes {l : List Rg} (h : ∀ i, i < l.length → GoodAt l i) : rightR l = true := (right_iff l).2 ((setOK_at l).2 h)
theorem bad_at {l : List Rg} {i : Nat} (hi : i < l.length) (h : ¬ RgOK l[i]) : ¬ GoodAt l i := fun hg => h (hg _ (List.getElem?_eq_getElem hi)).1
set_option maxRecDepth 100000 in
set_option maxHeartbeats 4000000 in
theorem right02_any (ok : Nat → Prop) (w : World) (l : List Rg) (A : Option Addr) (d : Nat) (h6 : Arr ok w 2 RgC A l) (hN : l.length ≤ 140737488351232) :
    Calls Tryd.prog 51 #[.slice A l.length d] w fun e w' => e = .returned (.bool (rightR l)) ∧ Below w.heap.size w w' := by
  have HA := Lib.hid h6
  clear h6
  go_enter Tryd.func51, Tryd.ntmps51
  go_wp2_with fail
  go_loopg [3] (l.length + 1) (fun g s3 wr => ∃ i : Nat, s3 = .int .i64 i ∧ i ≤ l.length ∧ l.length + 1 - i ≤ g ∧ Hid (∀ j, j < i → GoodAt l j) ∧ Below w.heap.size w wr)
  case atStart => exact ⟨0, rfl, Nat.zero_le _, by omega, Lib.hid (fun j h => by omega), Below.refl _ _⟩
  case round =>
    obtain ⟨i, rfl, hi, hg, HF0, hB⟩ := hrel
    by_cases hil : i < l.length
    · have hdi : decide ((i : Int) < (l.length : Int)) = true := decide_eq_true (by omega)
      obtain ⟨ad, rfl, _, _⟩ := rg_at2 HA.out _ (Below.refl _ _) i hil
      obtain ⟨X, rfl⟩ : ∃ X : World, X = wr := ⟨_, rfl⟩
      have hcx : ∀ W, Below X.heap.size X W → W.cell? (ad.add (i * 2)) = some (.int .i32 l[i].lo) ∧ W.cell? ⟨(ad.add (i * 2)).block, (ad.add (i * 2)).off + 1, none⟩ = some (.int .i32 l[i].hi) := fun W hW => by
        obtain ⟨ad2, e2, k0, k1⟩ := rg_at2 HA.out W (hB.trans (hW.mono hB.size)) i hil
        cases e2; exact ⟨k0, k1⟩
      have HB := Lib.hid hB
      clear hB
      by_cases hi0 : i = 0
      · skip
        have HG1 : Hid (¬ RgOK l[i] → rightR l = false) := Lib.hid (fun h => right_no hil (bad_at hil h))
        have HG2 : Hid (RgOK l[i] → ∀ j, j < i + 1 → GoodAt l j) := Lib.hid (fun h j hj x hx => by
          have hji : j = i := by omega
          rw [hji, List.getElem?_eq_getElem hil] at hx
          cases hx
          exact ⟨h, fun j2 y hj2 _ => by omega⟩)
        have HC : Hid (∀ W, Below X.heap.size X W → W.cell? (ad.add (i * 2)) = some (.int .i32 l[i].lo) ∧ W.cell? ⟨(ad.add (i * 2)).block, (ad.add (i * 2)).off + 1, none⟩ = some (.int .i32 l[i].hi) ∧ True) := Lib.hid (fun W hW => ⟨(hcx W hW).1, (hcx W hW).2, trivial⟩)
        clear hcx
        have dp : decide ((0 : Int) < (i : Int)) = false := decide_eq_false (by omega)
        generalize l[i] = x at *
        by_cases hc1 : x.lo < 0
        · have c1 : decide (x.lo < 0) = true := decide_eq_true hc1
          have HF := Lib.hid (HG1.out (fun h => by have := h.1; have := h.2.1; have := h.2.2; omega))
          go_wp2_with fail
          refine wp_region_scr (fun W' => Below X.heap.size X W') [(true, 0, 10), (true, 1, 11), (true, 2, 12), (true, 3, 13), (true, 4, 14), (true, 5, 15), (true, 6, 16), (true, 7, 17), (true, 8, 18), (true, 9, 19), (true, 10, 20), (true, 11, 21), (true, 12, 22), (true, 13, 23), (true, 14, 24), (true, 15, 25), (true, 16, 26), (true, 17, 27), (true, 18, 28), (true, 19, 29), (true, 20, 30), (true, 21, 31), (true, 22, 32), (true, 23, 33), (true, 24, 34), (true, 25, 35), (true, 26, 36)] (by kernel_rfl) (by kernel_rfl) (fun _ _ _ _ _ h => h) rfl (by kernel_rfl) ?_
          have HV := Lib.hid (show Below X.heap.size X X.drew from (Below.refl _ _).drew)
          refine Scr.take (v := .slice (some ad) l.length d) rfl rfl (yw_pure (by rfl) (fun _ => by go_simp)) HV.out ?_
          simp only [Act.put, List.setIfInBounds_toArray, List.set_cons_zero, List.set_cons_succ]
          refine Scr.take (v := .int .i64 i) rfl rfl (yw_pure (by rfl) (fun _ => by go_simp)) HV.out ?_
          simp only [Act.put, List.setIfInBounds_toArray, List.set_cons_zero, List.set_cons_succ]
          refine Scr.take (v := .pointer (some (ad.add (i * 2)))) rfl rfl (yw_pure (by rfl) (fun _ => by go_simp)) HV.out ?_
          simp only [Act.put, List.setIfInBounds_toArray, List.set_cons_zero, List.set_cons_succ]
          refine Scr.take (v := .pointer (some (ad.add (i * 2)))) rfl rfl (yw_pure (by rfl) (fun _ => by go_simp)) HV.out ?_
          simp only [Act.put, List.setIfInBounds_toArray, List.set_cons_zero, List.set_cons_succ]
          refine Scr.take (v := .int .i32 x.lo) rfl rfl (yw_cell 21 _ rfl (ad.add (i * 2)) (.int .i32 x.lo) rfl (by rfl) _ Tryd.underlying21 rfl (fun W hS => (HC.out W hS).1)) HV.out ?_
          simp only [Act.put, List.setIfInBounds_toArray, List.set_cons_zero, List.set_cons_succ]
          refine Scr.take (v := .bool true) rfl rfl (yw_pure (by rfl) (fun _ => by go_simp)) HV.out ?_
          simp only [Act.put, List.setIfInBounds_toArray, List.set_cons_zero, List.set_cons_succ]
          refine Scr.take (v := .bool true) rfl rfl (yw_pure (by rfl) (fun _ => by go_simp)) HV.out ?_
          simp only [Act.put, List.setIfInBounds_toArray, List.set_cons_zero, List.set_cons_succ]
          refine Scr.take (v := undef) rfl rfl (yw_no (by rfl)) HV.out ?_
          simp only [Act.put, List.setIfInBounds_toArray, List.set_cons_zero, List.set_cons_succ]
          refine Scr.take (v := undef) rfl rfl (yw_no (by rfl)) HV.out ?_
          simp only [Act.put, List.setIfInBounds_toArray, List.set_cons_zero, List.set_cons_succ]
          refine Scr.take (v := undef) rfl rfl (yw_no (by rfl)) HV.out ?_
          simp only [Act.put, List.setIfInBounds_toArray, List.set_cons_zero, List.set_cons_succ]
          refine Scr.take (v := undef) rfl rfl (yw_no (by rfl)) HV.out ?_
          simp only [Act.put, List.setIfInBounds_toArray, List.set_cons_zero, List.set_cons_succ]
          refine Scr.take (v := undef) rfl rfl (yw_no (by rfl)) HV.out ?_
          simp only [Act.put, List.setIfInBounds_toArray, List.set_cons_zero, List.set_cons_succ]
          refine Scr.take (v := undef) rfl rfl (yw_no (by rfl)) HV.out ?_
          simp only [Act.put, List.setIfInBounds_toArray, List.set_cons_zero, List.set_cons_succ]
          refine Scr.take (v := .bool true) rfl rfl (yw_pure (by rfl) (fun _ => by go_simp)) HV.out ?_
          simp only [Act.put, List.setIfInBounds_toArray, List.set_cons_zero, List.set_cons_succ]
          refine Scr.take (v := .bool true) rfl rfl (yw_pure (by rfl) (fun _ => by go_simp)) HV.out ?_
          simp only [Act.put, List.setIfInBounds_toArray, List.set_cons_zero, List.set_cons_succ]
          refine Scr.take (v := undef) rfl rfl (yw_no (by rfl)) HV.out ?_
          simp only [Act.put, List.setIfInBounds_toArray, List.set_cons_zero, List.set_cons_succ]
          refine Scr.take (v := undef) rfl rfl (yw_no (by rfl)) HV.out ?_
          simp only [Act.put, List.setIfInBounds_toArray, List.set_cons_zero, List.set_cons_succ]
          refine Scr.take (v := undef) rfl rfl (yw_no (by rfl)) HV.out ?_
          simp only [Act.put, List.setIfInBounds_toArray, List.set_cons_zero, List.set_cons_succ]
          refine Scr.take (v := undef) rfl rfl (yw_no (by rfl)) HV.out ?_
          simp only [Act.put, List.setIfInBounds_toArray, List.set_cons_zero, List.set_cons_succ]
          refine Scr.take (v := undef) rfl rfl (yw_no (by rfl)) HV.out ?_
          simp only [Act.put, List.setIfInBounds_toArray, List.set_cons_zero, List.set_cons_succ]
          refine Scr.take (v := undef) rfl rfl (yw_no (by rfl)) HV.out ?_
          simp only [Act.put, List.setIfInBounds_toArray, List.set_cons_zero, List.set_cons_succ]
          refine Scr.take (v := undef) rfl rfl (yw_no (by rfl)) HV.out ?_
          simp only [Act.put, List.setIfInBounds_toArray, List.set_cons_zero, List.set_cons_succ]
          refine Scr.take (v := undef) rfl rfl (yw_no (by rfl)) HV.out ?_
          simp only [Act.put, List.setIfInBounds_toArray, List.set_cons_zero, List.set_cons_succ]
          refine Scr.take (v := undef) rfl rfl (yw_no (by rfl)) HV.out ?_
          simp only [Act.put, List.setIfInBounds_toArray, List.set_cons_zero, List.set_cons_succ]
          refine Scr.take (v := undef) rfl rfl (yw_no (by rfl)) HV.out ?_
          simp only [Act.put, List.setIfInBounds_toArray, List.set_cons_zero, List.set_cons_succ]
          refine Scr.take (v := undef) rfl rfl (yw_no (by rfl)) HV.out ?_
          simp only [Act.put, List.setIfInBounds_toArray, List.set_cons_zero, List.set_cons_succ]
          refine Scr.take (v := .bool true) rfl rfl (yw_pure (by rfl) (fun _ => by go_simp)) HV.out ?_
          simp only [Act.put, List.setIfInBounds_toArray, List.set_cons_zero, List.set_cons_succ]
          simp only [Scr]
          obtain ⟨Y, hY⟩ : ∃ Y, X.drew = Y := ⟨_, rfl⟩
          rw [hY] at HV ⊢
          clear hY
          go_wp2_with fail
          go_ret
          exact ⟨by rw [HF.out]; rfl, HB.out.trans (HV.out.mono HB.out.size)⟩
        · have c1 : decide (x.lo < 0) = false := decide_eq_false hc1
          by_cases hc2 : 1114111 < x.hi
          · have c2 : decide (1114111 < x.hi) = true := decide_eq_true hc2
            have HF := Lib.hid (HG1.out (fun h => by have := h.1; have := h.2.1; have := h.2.2; omega))
            go_wp2_with fail
            refine wp_region_scr (fun W' => Below X.heap.size X W') [(true, 0, 10), (true, 1, 11), (true, 2, 12), (true, 3, 13), (true, 4, 14), (true, 5, 15), (true, 6, 16), (true, 7, 17), (true, 8, 18), (true, 9, 19), (true, 10, 20), (true, 11, 21), (true, 12, 22), (true, 13, 23), (true, 14, 24), (true, 15, 25), (true, 16, 26), (true, 17, 27), (true, 18, 28), (true, 19, 29), (true, 20, 30), (true, 21, 31), (true, 22, 32), (true, 23, 33), (true, 24, 34), (true, 25, 35), (true, 26, 36)] (by kernel_rfl) (by kernel_rfl) (fun _ _ _ _ _ h => h) rfl (by kernel_rfl) ?_
            have HV := Lib.hid (show Below X.heap.size X X.drew from (Below.refl _ _).drew)
            refine Scr.take (v := .slice (some ad) l.length d) rfl rfl (yw_pure (by rfl) (fun _ => by go_simp)) HV.out ?_
            simp only [Act.put, List.setIfInBounds_toArray, List.set_cons_zero, List.set_cons_succ]
            refine Scr.take (v := .int .i64 i) rfl rfl (yw_pure (by rfl) (fun _ => by go_simp)) HV.out ?_
            simp only [Act.put, List.setIfInBounds_toArray, List.set_cons_zero, List.set_cons_succ]
            refine Scr.take (v := .pointer (some (ad.add (i * 2)))) rfl rfl (yw_pure (by rfl) (fun _ => by go_simp)) HV.out ?_
            simp only [Act.put, List.setIfInBounds_toArray, List.set_cons_zero, List.set_cons_succ]
            refine Scr.take (v := .pointer (some (ad.add (i * 2)))) rfl rfl (yw_pure (by rfl) (fun _ => by go_simp)) HV.out ?_
            simp only [Act.put, List.setIfInBounds_toArray, List.set_cons_zero, List.set_cons_succ]
            refine Scr.take (v := .int .i32 x.lo) rfl rfl (yw_cell 21 _ rfl (ad.add (i * 2)) (.int .i32 x.lo) rfl (by rfl) _ Tryd.underlying21 rfl (fun W hS => (HC.out W hS).1)) HV.out ?_
            simp only [Act.put, List.setIfInBounds_toArray, List.set_cons_zero, List.set_cons_succ]
            refine Scr.take (v := .bool false) rfl rfl (yw_pure (by rfl) (fun _ => by go_simp)) HV.out ?_
            simp only [Act.put, List.setIfInBounds_toArray, List.set_cons_zero, List.set_cons_succ]
            refine Scr.take (v := .bool false) rfl rfl (yw_pure (by rfl) (fun _ => by go_simp)) HV.out ?_
            simp only [Act.put, List.setIfInBounds_toArray, List.set_cons_zero, List.set_cons_succ]
            refine Scr.take (v := .slice (some ad) l.length d) rfl rfl (yw_pure (by rfl) (fun _ => by go_simp)) HV.out ?_
            simp only [Act.put, List.setIfInBounds_toArray, List.set_cons_zero, List.set_cons_succ]
            refine Scr.take (v := .int .i64 i) rfl rfl (yw_pure (by rfl) (fun _ => by go_simp)) HV.out ?_
            simp only [Act.put, List.setIfInBounds_toArray, List.set_cons_zero, List.set_cons_succ]
            refine Scr.take (v := .pointer (some (ad.add (i * 2)))) rfl rfl (yw_pure (by rfl) (fun _ => by go_simp)) HV.out ?_
            simp only [Act.put, List.setIfInBounds_toArray, List.set_cons_zero, List.set_cons_succ]
            refine Scr.take (v := .pointer (some ⟨(ad.add (i * 2)).block, (ad.add (i * 2)).off + 1, none⟩)) rfl rfl (yw_pure (by rfl) (fun _ => by go_simp)) HV.out ?_
            simp only [Act.put, List.setIfInBounds_toArray, List.set_cons_zero, List.set_cons_succ]
            refine Scr.take (v := .int .i32 x.hi) rfl rfl (yw_cell 21 _ rfl ⟨(ad.add (i * 2)).block, (ad.add (i * 2)).off + 1, none⟩ (.int .i32 x.hi) rfl (by rfl) _ Tryd.underlying21 rfl (fun W hS => (HC.out W hS).2.1)) HV.out ?_
            simp only [Act.put, List.setIfInBounds_toArray, List.set_cons_zero, List.set_cons_succ]
            refine Scr.take (v := .bool true) rfl rfl (yw_pure (by rfl) (fun _ => by go_simp)) HV.out ?_
            simp only [Act.put, List.setIfInBounds_toArray, List.set_cons_zero, List.set_cons_succ]
            refine Scr.take (v := .bool true) rfl rfl (yw_pure (by rfl) (fun _ => by go_simp)) HV.out ?_
            simp only [Act.put, List.setIfInBounds_toArray, List.set_cons_zero, List.set_cons_succ]
            refine Scr.take (v := .bool true) rfl rfl (yw_pure (by rfl) (fun _ => by go_simp)) HV.out ?_
            simp only [Act.put, List.setIfInBounds_toArray, List.set_cons_zero, List.set_cons_succ]
            refine Scr.take (v := undef) rfl rfl (yw_no (by rfl)) HV.out ?_
            simp only [Act.put, List.setIfInBounds_toArray, List.set_cons_zero, List.set_cons_succ]
            refine Scr.take (v := undef) rfl rfl (yw_no (by rfl)) HV.out ?_
            simp only [Act.put, List.setIfInBounds_toArray, List.set_cons_zero, List.set_cons_succ]
            refine Scr.take (v := undef) rfl rfl (yw_no (by rfl)) HV.out ?_
            simp only [Act.put, List.setIfInBounds_toArray, List.set_cons_zero, List.set_cons_succ]
            refine Scr.take (v := undef) rfl rfl (yw_no (by rfl)) HV.out ?_
            simp only [Act.put, List.setIfInBounds_toArray, List.set_cons_zero, List.set_cons_succ]
            refine Scr.take (v := undef) rfl rfl (yw_no (by rfl)) HV.out ?_
            simp only [Act.put, List.setIfInBounds_toArray, List.set_cons_zero, List.set_cons_succ]
            refine Scr.take (v := undef) rfl rfl (yw_no (by rfl)) HV.out ?_
            simp only [Act.put, List.setIfInBounds_toArray, List.set_cons_zero, List.set_cons_succ]
            refine Scr.take (v := undef) rfl rfl (yw_no (by rfl)) HV.out ?_
            simp only [Act.put, List.setIfInBounds_toArray, List.set_cons_zero, List.set_cons_succ]
            refine Scr.take (v := undef) rfl rfl (yw_no (by rfl)) HV.out ?_
            simp only [Act.put, List.setIfInBounds_toArray, List.set_cons_zero, List.set_cons_succ]
            refine Scr.take (v := undef) rfl rfl (yw_no (by rfl)) HV.out ?_
            simp only [Act.put, List.setIfInBounds_toArray, List.set_cons_zero, List.set_cons_succ]
            refine Scr.take (v := undef) rfl rfl (yw_no (by rfl)) HV.out ?_
            simp only [Act.put, List.setIfInBounds_toArray, List.set_cons_zero, List.set_cons_succ]
            refine Scr.take (v := undef) rfl rfl (yw_no (by rfl)) HV.out ?_
            simp only [Act.put, List.setIfInBounds_toArray, List.set_cons_zero, List.set_cons_succ]
            refine Scr.take (v := .bool true) rfl rfl (yw_pure (by rfl) (fun _ => by go_simp)) HV.out ?_
            simp only [Act.put, List.setIfInBounds_toArray, List.set_cons_zero, List.set_cons_succ]
            simp only [Scr]
            obtain ⟨Y, hY⟩ : ∃ Y, X.drew = Y := ⟨_, rfl⟩
            rw [hY] at HV ⊢
            clear hY
            go_wp2_with fail
            go_ret
            exact ⟨by rw [HF.out]; rfl, HB.out.trans (HV.out.mono HB.out.size)⟩
          · have c2 : decide (1114111 < x.hi) = false := decide_eq_false hc2
            by_cases hc3 : x.hi < x.lo
            · have c3 : decide (x.hi < x.lo) = true := decide_eq_true hc3
              have HF := Lib.hid (HG1.out (fun h => by have := h.1; have := h.2.1; have := h.2.2; omega))
              go_wp2_with fail
              refine wp_region_scr (fun W' => Below X.heap.size X W') [(true, 0, 10), (true, 1, 11), (true, 2, 12), (true, 3, 13), (true, 4, 14), (true, 5, 15), (true, 6, 16), (true, 7, 17), (true, 8, 18), (true, 9, 19), (true, 10, 20), (true, 11, 21), (true, 12, 22), (true, 13, 23), (true, 14, 24), (true, 15, 25), (true, 16, 26), (true, 17, 27), (true, 18, 28), (true, 19, 29), (true, 20, 30), (true, 21, 31), (true, 22, 32), (true, 23, 33), (true, 24, 34), (true, 25, 35), (true, 26, 36)] (by kernel_rfl) (by kernel_rfl) (fun _ _ _ _ _ h => h) rfl (by kernel_rfl) ?_
              have HV := Lib.hid (show Below X.heap.size X X.drew from (Below.refl _ _).drew)
              refine Scr.take (v := .slice (some ad) l.length d) rfl rfl (yw_pure (by rfl) (fun _ => by go_simp)) HV.out ?_
              simp only [Act.put, List.setIfInBounds_toArray, List.set_cons_zero, List.set_cons_succ]
              refine Scr.take (v := .int .i64 i) rfl rfl (yw_pure (by rfl) (fun _ => by go_simp)) HV.out ?_
              simp only [Act.put, List.setIfInBounds_toArray, List.set_cons_zero, List.set_cons_succ]
              refine Scr.take (v := .pointer (some (ad.add (i * 2)))) rfl rfl (yw_pure (by rfl) (fun _ => by go_simp)) HV.out ?_
              simp only [Act.put, List.setIfInBounds_toArray, List.set_cons_zero, List.set_cons_succ]
              refine Scr.take (v := .pointer (some (ad.add (i * 2)))) rfl rfl (yw_pure (by rfl) (fun _ => by go_simp)) HV.out ?_
              simp only [Act.put, List.setIfInBounds_toArray, List.set_cons_zero, List.set_cons_succ]
              refine Scr.take (v := .int .i32 x.lo) rfl rfl (yw_cell 21 _ rfl (ad.add (i * 2)) (.int .i32 x.lo) rfl (by rfl) _ Tryd.underlying21 rfl (fun W hS => (HC.out W hS).1)) HV.out ?_
              simp only [Act.put, List.setIfInBounds_toArray, List.set_cons_zero, List.set_cons_succ]
              refine Scr.take (v := .bool false) rfl rfl (yw_pure (by rfl) (fun _ => by go_simp)) HV.out ?_
              simp only [Act.put, List.setIfInBounds_toArray, List.set_cons_zero, List.set_cons_succ]
              refine Scr.take (v := .bool false) rfl rfl (yw_pure (by rfl) (fun _ => by go_simp)) HV.out ?_
              simp only [Act.put, List.setIfInBounds_toArray, List.set_cons_zero, List.set_cons_succ]
              refine Scr.take (v := .slice (some ad) l.length d) rfl rfl (yw_pure (by rfl) (fun _ => by go_simp)) HV.out ?_
              simp only [Act.put, List.setIfInBounds_toArray, List.set_cons_zero, List.set_cons_succ]
              refine Scr.take (v := .int .i64 i) rfl rfl (yw_pure (by rfl) (fun _ => by go_simp)) HV.out ?_
              simp only [Act.put, List.setIfInBounds_toArray, List.set_cons_zero, List.set_cons_succ]
              refine Scr.take (v := .pointer (some (ad.add (i * 2)))) rfl rfl (yw_pure (by rfl) (fun _ => by go_simp)) HV.out ?_
              simp only [Act.put, List.setIfInBounds_toArray, List.set_cons_zero, List.set_cons_succ]
              refine Scr.take (v := .pointer (some ⟨(ad.add (i * 2)).block, (ad.add (i * 2)).off + 1, none⟩)) rfl rfl (yw_pure (by rfl) (fun _ => by go_simp)) HV.out ?_
              simp only [Act.put, List.setIfInBounds_toArray, List.set_cons_zero, List.set_cons_succ]
              refine Scr.take (v := .int .i32 x.hi) rfl rfl (yw_cell 21 _ rfl ⟨(ad.add (i * 2)).block, (ad.add (i * 2)).off + 1, none⟩ (.int .i32 x.hi) rfl (by rfl) _ Tryd.underlying21 rfl (fun W hS => (HC.out W hS).2.1)) HV.out ?_
              simp only [Act.put, List.setIfInBounds_toArray, List.set_cons_zero, List.set_cons_succ]
              refine Scr.take (v := .bool false) rfl rfl (yw_pure (by rfl) (fun _ => by go_simp)) HV.out ?_
              simp only [Act.put, List.setIfInBounds_toArray, List.set_cons_zero, List.set_cons_succ]
              refine Scr.take (v := .bool false) rfl rfl (yw_pure (by rfl) (fun _ => by go_simp)) HV.out ?_
              simp only [Act.put, List.setIfInBounds_toArray, List.set_cons_zero, List.set_cons_succ]
              refine Scr.take (v := .bool false) rfl rfl (yw_pure (by rfl) (fun _ => by go_simp)) HV.out ?_
              simp only [Act.put, List.setIfInBounds_toArray, List.set_cons_zero, List.set_cons_succ]
              refine Scr.take (v := .slice (some ad) l.length d) rfl rfl (yw_pure (by rfl) (fun _ => by go_simp)) HV.out ?_
              simp only [Act.put, List.setIfInBounds_toArray, List.set_cons_zero, List.set_cons_succ]
              refine Scr.take (v := .int .i64 i) rfl rfl (yw_pure (by rfl) (fun _ => by go_simp)) HV.out ?_
              simp only [Act.put, List.setIfInBounds_toArray, List.set_cons_zero, List.set_cons_succ]
              refine Scr.take (v := .pointer (some (ad.add (i * 2)))) rfl rfl (yw_pure (by rfl) (fun _ => by go_simp)) HV.out ?_
              simp only [Act.put, List.setIfInBounds_toArray, List.set_cons_zero, List.set_cons_succ]
              refine Scr.take (v := .pointer (some (ad.add (i * 2)))) rfl rfl (yw_pure (by rfl) (fun _ => by go_simp)) HV.out ?_
              simp only [Act.put, List.setIfInBounds_toArray, List.set_cons_zero, List.set_cons_succ]
              refine Scr.take (v := .int .i32 x.lo) rfl rfl (yw_cell 21 _ rfl (ad.add (i * 2)) (.int .i32 x.lo) rfl (by rfl) _ Tryd.underlying21 rfl (fun W hS => (HC.out W hS).1)) HV.out ?_
              simp only [Act.put, List.setIfInBounds_toArray, List.set_cons_zero, List.set_cons_succ]
              refine Scr.take (v := .slice (some ad) l.length d) rfl rfl (yw_pure (by rfl) (fun _ => by go_simp)) HV.out ?_
              simp only [Act.put, List.setIfInBounds_toArray, List.set_cons_zero, List.set_cons_succ]
              refine Scr.take (v := .int .i64 i) rfl rfl (yw_pure (by rfl) (fun _ => by go_simp)) HV.out ?_
              simp only [Act.put, List.setIfInBounds_toArray, List.set_cons_zero, List.set_cons_succ]
              refine Scr.take (v := .pointer (some (ad.add (i * 2)))) rfl rfl (yw_pure (by rfl) (fun _ => by go_simp)) HV.out ?_
              simp only [Act.put, List.setIfInBounds_toArray, List.set_cons_zero, List.set_cons_succ]
              refine Scr.take (v := .pointer (some ⟨(ad.add (i * 2)).block, (ad.add (i * 2)).off + 1, none⟩)) rfl rfl (yw_pure (by rfl) (fun _ => by go_simp)) HV.out ?_
              simp only [Act.put, List.setIfInBounds_toArray, List.set_cons_zero, List.set_cons_succ]
              refine Scr.take (v := .int .i32 x.hi) rfl rfl (yw_cell 21 _ rfl ⟨(ad.add (i * 2)).block, (ad.add (i * 2)).off + 1, none⟩ (.int .i32 x.hi) rfl (by rfl) _ Tryd.underlying21 rfl (fun W hS => (HC.out W hS).2.1)) HV.out ?_
              simp only [Act.put, List.setIfInBounds_toArray, List.set_cons_zero, List.set_cons_succ]
              refine Scr.take (v := .bool true) rfl rfl (yw_pure (by rfl) (fun _ => by go_simp)) HV.out ?_
              simp only [Act.put, List.setIfInBounds_toArray, List.set_cons_zero, List.set_cons_succ]
              refine Scr.take (v := .bool true) rfl rfl (yw_pure (by rfl) (fun _ => by go_simp)) HV.out ?_
              simp only [Act.put, List.setIfInBounds_toArray, List.set_cons_zero, List.set_cons_succ]
              simp only [Scr]
              obtain ⟨Y, hY⟩ : ∃ Y, X.drew = Y := ⟨_, rfl⟩
              rw [hY] at HV ⊢
              clear hY
              go_wp2_with fail
              go_ret
              exact ⟨by rw [HF.out]; rfl, HB.out.trans (HV.out.mono HB.out.size)⟩
            · have c3 : decide (x.hi < x.lo) = false := decide_eq_false hc3
              have hrg : RgOK x := ⟨by omega, by omega, by omega⟩
              have HG := Lib.hid (HG2.out hrg)
              clear hrg
              go_wp2_with fail
              refine wp_region_scr (fun W' => Below X.heap.size X W') [(true, 0, 10), (true, 1, 11), (true, 2, 12), (true, 3, 13), (true, 4, 14), (true, 5, 15), (true, 6, 16), (true, 7, 17), (true, 8, 18), (true, 9, 19), (true, 10, 20), (true, 11, 21), (true, 12, 22), (true, 13, 23), (true, 14, 24), (true, 15, 25), (true, 16, 26), (true, 17, 27), (true, 18, 28), (true, 19, 29), (true, 20, 30), (true, 21, 31), (true, 22, 32), (true, 23, 33), (true, 24, 34), (true, 25, 35), (true, 26, 36)] (by kernel_rfl) (by kernel_rfl) (fun _ _ _ _ _ h => h) rfl (by kernel_rfl) ?_
              have HV := Lib.hid (show Below X.heap.size X X.drew from (Below.refl _ _).drew)
              refine Scr.take (v := .slice (some ad) l.length d) rfl rfl (yw_pure (by rfl) (fun _ => by go_simp)) HV.out ?_
              simp only [Act.put, List.setIfInBounds_toArray, List.set_cons_zero, List.set_cons_succ]
              refine Scr.take (v := .int .i64 i) rfl rfl (yw_pure (by rfl) (fun _ => by go_simp)) HV.out ?_
              simp only [Act.put, List.setIfInBounds_toArray, List.set_cons_zero, List.set_cons_succ]
              refine Scr.take (v := .pointer (some (ad.add (i * 2)))) rfl rfl (yw_pure (by rfl) (fun _ => by go_simp)) HV.out ?_
              simp only [Act.put, List.setIfInBounds_toArray, List.set_cons_zero, List.set_cons_succ]
              refine Scr.take (v := .pointer (some (ad.add (i * 2)))) rfl rfl (yw_pure (by rfl) (fun _ => by go_simp)) HV.out ?_
              simp only [Act.put, List.setIfInBounds_toArray, List.set_cons_zero, List.set_cons_succ]
              refine Scr.take (v := .int .i32 x.lo) rfl rfl (yw_cell 21 _ rfl (ad.add (i * 2)) (.int .i32 x.lo) rfl (by rfl) _ Tryd.underlying21 rfl (fun W hS => (HC.out W hS).1)) HV.out ?_
              simp only [Act.put, List.setIfInBounds_toArray, List.set_cons_zero, List.set_cons_succ]
              refine Scr.take (v := .bool false) rfl rfl (yw_pure (by rfl) (fun _ => by go_simp)) HV.out ?_
              simp only [Act.put, List.setIfInBounds_toArray, List.set_cons_zero, List.set_cons_succ]
              refine Scr.take (v := .bool false) rfl rfl (yw_pure (by rfl) (fun _ => by go_simp)) HV.out ?_
              simp only [Act.put, List.setIfInBounds_toArray, List.set_cons_zero, List.set_cons_succ]
              refine Scr.take (v := .slice (some ad) l.length d) rfl rfl (yw_pure (by rfl) (fun _ => by go_simp)) HV.out ?_
              simp only [Act.put, List.setIfInBounds_toArray, List.set_cons_zero, List.set_cons_succ]
              refine Scr.take (v := .int .i64 i) rfl rfl (yw_pure (by rfl) (fun _ => by go_simp)) HV.out ?_
              simp only [Act.put, List.setIfInBounds_toArray, List.set_cons_zero, List.set_cons_succ]
              refine Scr.take (v := .pointer (some (ad.add (i * 2)))) rfl rfl (yw_pure (by rfl) (fun _ => by go_simp)) HV.out ?_
              simp only [Act.put, List.setIfInBounds_toArray, List.set_cons_zero, List.set_cons_succ]
              refine Scr.take (v := .pointer (some ⟨(ad.add (i * 2)).block, (ad.add (i * 2)).off + 1, none⟩)) rfl rfl (yw_pure (by rfl) (fun _ => by go_simp)) HV.out ?_
              simp only [Act.put, List.setIfInBounds_toArray, List.set_cons_zero, List.set_cons_succ]
              refine Scr.take (v := .int .i32 x.hi) rfl rfl (yw_cell 21 _ rfl ⟨(ad.add (i * 2)).block, (ad.add (i * 2)).off + 1, none⟩ (.int .i32 x.hi) rfl (by rfl) _ Tryd.underlying21 rfl (fun W hS => (HC.out W hS).2.1)) HV.out ?_
              simp only [Act.put, List.setIfInBounds_toArray, List.set_cons_zero, List.set_cons_succ]
              refine Scr.take (v := .bool false) rfl rfl (yw_pure (by rfl) (fun _ => by go_simp)) HV.out ?_
              simp only [Act.put, List.setIfInBounds_toArray, List.set_cons_zero, List.set_cons_succ]
              refine Scr.take (v := .bool false) rfl rfl (yw_pure (by rfl) (fun _ => by go_simp)) HV.out ?_
              simp only [Act.put, List.setIfInBounds_toArray, List.set_cons_zero, List.set_cons_succ]
              refine Scr.take (v := .bool false) rfl rfl (yw_pure (by rfl) (fun _ => by go_simp)) HV.out ?_
              simp only [Act.put, List.setIfInBounds_toArray, List.set_cons_zero, List.set_cons_succ]
              refine Scr.take (v := .slice (some ad) l.length d) rfl rfl (yw_pure (by rfl) (fun _ => by go_simp)) HV.out ?_
              simp only [Act.put, List.setIfInBounds_toArray, List.set_cons_zero, List.set_cons_succ]
              refine Scr.take (v := .int .i64 i) rfl rfl (yw_pure (by rfl) (fun _ => by go_simp)) HV.out ?_
              simp only [Act.put, List.setIfInBounds_toArray, List.set_cons_zero, List.set_cons_succ]
              refine Scr.take (v := .pointer (some (ad.add (i * 2)))) rfl rfl (yw_pure (by rfl) (fun _ => by go_simp)) HV.out ?_
              simp only [Act.put, List.setIfInBounds_toArray, List.set_cons_zero, List.set_cons_succ]
              refine Scr.take (v := .pointer (some (ad.add (i * 2)))) rfl rfl (yw_pure (by rfl) (fun _ => by go_simp)) HV.out ?_
              simp only [Act.put, List.setIfInBounds_toArray, List.set_cons_zero, List.set_cons_succ]
              refine Scr.take (v := .int .i32 x.lo) rfl rfl (yw_cell 21 _ rfl (ad.add (i * 2)) (.int .i32 x.lo) rfl (by rfl) _ Tryd.underlying21 rfl (fun W hS => (HC.out W hS).1)) HV.out ?_
              simp only [Act.put, List.setIfInBounds_toArray, List.set_cons_zero, List.set_cons_succ]
              refine Scr.take (v := .slice (some ad) l.length d) rfl rfl (yw_pure (by rfl) (fun _ => by go_simp)) HV.out ?_
              simp only [Act.put, List.setIfInBounds_toArray, List.set_cons_zero, List.set_cons_succ]
              refine Scr.take (v := .int .i64 i) rfl rfl (yw_pure (by rfl) (fun _ => by go_simp)) HV.out ?_
              simp only [Act.put, List.setIfInBounds_toArray, List.set_cons_zero, List.set_cons_succ]
              refine Scr.take (v := .pointer (some (ad.add (i * 2)))) rfl rfl (yw_pure (by rfl) (fun _ => by go_simp)) HV.out ?_
              simp only [Act.put, List.setIfInBounds_toArray, List.set_cons_zero, List.set_cons_succ]
              refine Scr.take (v := .pointer (some ⟨(ad.add (i * 2)).block, (ad.add (i * 2)).off + 1, none⟩)) rfl rfl (yw_pure (by rfl) (fun _ => by go_simp)) HV.out ?_
              simp only [Act.put, List.setIfInBounds_toArray, List.set_cons_zero, List.set_cons_succ]
              refine Scr.take (v := .int .i32 x.hi) rfl rfl (yw_cell 21 _ rfl ⟨(ad.add (i * 2)).block, (ad.add (i * 2)).off + 1, none⟩ (.int .i32 x.hi) rfl (by rfl) _ Tryd.underlying21 rfl (fun W hS => (HC.out W hS).2.1)) HV.out ?_
              simp only [Act.put, List.setIfInBounds_toArray, List.set_cons_zero, List.set_cons_succ]
              refine Scr.take (v := .bool false) rfl rfl (yw_pure (by rfl) (fun _ => by go_simp)) HV.out ?_
              simp only [Act.put, List.setIfInBounds_toArray, List.set_cons_zero, List.set_cons_succ]
              refine Scr.take (v := .bool false) rfl rfl (yw_pure (by rfl) (fun _ => by go_simp)) HV.out ?_
              simp only [Act.put, List.setIfInBounds_toArray, List.set_cons_zero, List.set_cons_succ]
              simp only [Scr]
              obtain ⟨Y, hY⟩ : ∃ Y, X.drew = Y := ⟨_, rfl⟩
              rw [hY] at HV ⊢
              clear hY
              go_wp2_with fail
              refine wp_region_scr (fun W' => Below Y.heap.size Y W') [(true, 0, 37), (true, 1, 38), (true, 2, 39), (true, 3, 40), (true, 4, 41), (true, 5, 42), (true, 6, 43), (true, 7, 44), (true, 8, 45), (true, 9, 46), (true, 10, 47), (true, 11, 48), (true, 12, 49), (true, 13, 50), (true, 14, 51), (true, 15, 52), (true, 16, 53), (true, 17, 54), (true, 18, 55), (true, 19, 56), (true, 20, 57), (true, 21, 58), (true, 22, 59), (true, 23, 60), (true, 24, 61), (true, 25, 62), (true, 26, 63), (true, 27, 64), (true, 28, 65), (true, 29, 66), (true, 30, 67)] (by kernel_rfl) (by kernel_rfl) (fun _ _ _ _ _ h => h) rfl (by kernel_rfl) ?_
              have HU := Lib.hid (show Below Y.heap.size Y Y.drew from (Below.refl _ _).drew)
              refine Scr.take (v := .int .i64 i) rfl rfl (yw_pure (by rfl) (fun _ => by go_simp)) HU.out ?_
              simp only [Act.put, List.setIfInBounds_toArray, List.set_cons_zero, List.set_cons_succ]
              refine Scr.take (v := .bool false) rfl rfl (yw_pure (by rfl) (fun _ => by go_simp)) HU.out ?_
              simp only [Act.put, List.setIfInBounds_toArray, List.set_cons_zero, List.set_cons_succ]
              refine Scr.take (v := .bool false) rfl rfl (yw_pure (by rfl) (fun _ => by go_simp)) HU.out ?_
              simp only [Act.put, List.setIfInBounds_toArray, List.set_cons_zero, List.set_cons_succ]
              refine Scr.take (v := undef) rfl rfl (yw_no (by rfl)) HU.out ?_
              simp only [Act.put, List.setIfInBounds_toArray, List.set_cons_zero, List.set_cons_succ]
              refine Scr.take (v := undef) rfl rfl (yw_no (by rfl)) HU.out ?_
              simp only [Act.put, List.setIfInBounds_toArray, List.set_cons_zero, List.set_cons_succ]
              refine Scr.take (v := undef) rfl rfl (yw_no (by rfl)) HU.out ?_
              simp only [Act.put, List.setIfInBounds_toArray, List.set_cons_zero, List.set_cons_succ]
              refine Scr.take (v := undef) rfl rfl (yw_no (by rfl)) HU.out ?_
              simp only [Act.put, List.setIfInBounds_toArray, List.set_cons_zero, List.set_cons_succ]
              refine Scr.take (v := undef) rfl rfl (yw_no (by rfl)) HU.out ?_
              simp only [Act.put, List.setIfInBounds_toArray, List.set_cons_zero, List.set_cons_succ]
              refine Scr.take (v := undef) rfl rfl (yw_no (by rfl)) HU.out ?_
              simp only [Act.put, List.setIfInBounds_toArray, List.set_cons_zero, List.set_cons_succ]
              refine Scr.take (v := undef) rfl rfl (yw_no (by rfl)) HU.out ?_
              simp only [Act.put, List.setIfInBounds_toArray, List.set_cons_zero, List.set_cons_succ]
              refine Scr.take (v := undef) rfl rfl (yw_no (by rfl)) HU.out ?_
              simp only [Act.put, List.setIfInBounds_toArray, List.set_cons_zero, List.set_cons_succ]
              refine Scr.take (v := undef) rfl rfl (yw_no (by rfl)) HU.out ?_
              simp only [Act.put, List.setIfInBounds_toArray, List.set_cons_zero, List.set_cons_succ]
              refine Scr.take (v := undef) rfl rfl (yw_no (by rfl)) HU.out ?_
              simp only [Act.put, List.setIfInBounds_toArray, List.set_cons_zero, List.set_cons_succ]
              refine Scr.take (v := undef) rfl rfl (yw_no (by rfl)) HU.out ?_
              simp only [Act.put, List.setIfInBounds_toArray, List.set_cons_zero, List.set_cons_succ]
              refine Scr.take (v := undef) rfl rfl (yw_no (by rfl)) HU.out ?_
              simp only [Act.put, List.setIfInBounds_toArray, List.set_cons_zero, List.set_cons_succ]
              refine Scr.take (v := undef) rfl rfl (yw_no (by rfl)) HU.out ?_
              simp only [Act.put, List.setIfInBounds_toArray, List.set_cons_zero, List.set_cons_succ]
              refine Scr.take (v := undef) rfl rfl (yw_no (by rfl)) HU.out ?_
              simp only [Act.put, List.setIfInBounds_toArray, List.set_cons_zero, List.set_cons_succ]
              refine Scr.take (v := undef) rfl rfl (yw_no (by rfl)) HU.out ?_
              simp only [Act.put, List.setIfInBounds_toArray, List.set_cons_zero, List.set_cons_succ]
              refine Scr.take (v := undef) rfl rfl (yw_no (by rfl)) HU.out ?_
              simp only [Act.put, List.setIfInBounds_toArray, List.set_cons_zero, List.set_cons_succ]
              refine Scr.take (v := undef) rfl rfl (yw_no (by rfl)) HU.out ?_
              simp only [Act.put, List.setIfInBounds_toArray, List.set_cons_zero, List.set_cons_succ]
              refine Scr.take (v := undef) rfl rfl (yw_no (by rfl)) HU.out ?_
              simp only [Act.put, List.setIfInBounds_toArray, List.set_cons_zero, List.set_cons_succ]
              refine Scr.take (v := undef) rfl rfl (yw_no (by rfl)) HU.out ?_
              simp only [Act.put, List.setIfInBounds_toArray, List.set_cons_zero, List.set_cons_succ]
              refine Scr.take (v := undef) rfl rfl (yw_no (by rfl)) HU.out ?_
              simp only [Act.put, List.setIfInBounds_toArray, List.set_cons_zero, List.set_cons_succ]
              refine Scr.take (v := undef) rfl rfl (yw_no (by rfl)) HU.out ?_
              simp only [Act.put, List.setIfInBounds_toArray, List.set_cons_zero, List.set_cons_succ]
              refine Scr.take (v := undef) rfl rfl (yw_no (by rfl)) HU.out ?_
              simp only [Act.put, List.setIfInBounds_toArray, List.set_cons_zero, List.set_cons_succ]
              refine Scr.take (v := undef) rfl rfl (yw_no (by rfl)) HU.out ?_
              simp only [Act.put, List.setIfInBounds_toArray, List.set_cons_zero, List.set_cons_succ]
              refine Scr.take (v := undef) rfl rfl (yw_no (by rfl)) HU.out ?_
              simp only [Act.put, List.setIfInBounds_toArray, List.set_cons_zero, List.set_cons_succ]
              refine Scr.take (v := undef) rfl rfl (yw_no (by rfl)) HU.out ?_
              simp only [Act.put, List.setIfInBounds_toArray, List.set_cons_zero, List.set_cons_succ]
              refine Scr.take (v := undef) rfl rfl (yw_no (by rfl)) HU.out ?_
              simp only [Act.put, List.setIfInBounds_toArray, List.set_cons_zero, List.set_cons_succ]
              refine Scr.take (v := undef) rfl rfl (yw_no (by rfl)) HU.out ?_
              simp only [Act.put, List.setIfInBounds_toArray, List.set_cons_zero, List.set_cons_succ]
              refine Scr.take (v := .bool false) rfl rfl (yw_pure (by rfl) (fun _ => by go_simp)) HU.out ?_
              simp only [Act.put, List.setIfInBounds_toArray, List.set_cons_zero, List.set_cons_succ]
              simp only [Scr]
              go_wp2_with fail
              go_roundg (gk - 1)
              case measure => omega
              case rel => exact ⟨i + 1, by go_num, by omega, by omega, HG, HB.out.trans ((HV.out.trans (HU.out.mono HV.out.size)).mono HB.out.size)⟩
      · obtain ⟨i1, hi1⟩ : ∃ i1, i1 + 1 = i := ⟨i - 1, by omega⟩
        have hi1l : i1 < l.length := by omega
        have hcy : ∀ W, Below X.heap.size X W → W.cell? ⟨(ad.add (i1 * 2)).block, (ad.add (i1 * 2)).off + 1, none⟩ = some (.int .i32 l[i1].hi) := fun W hW => by
          obtain ⟨ad2, e2, k0, k1⟩ := rg_at2 HA.out W (HB.out.trans (hW.mono HB.out.size)) i1 hi1l
          cases e2; exact k1
        have HG1 : Hid (¬ RgOK l[i] → rightR l = false) := Lib.hid (fun h => right_no hil (bad_at hil h))
        have hy0 := (HF0.out i1 (by omega) _ (List.getElem?_eq_getElem hi1l)).1
        have HG2 : Hid (RgOK l[i] → l[i1].hi + 2 ≤ l[i].lo → ∀ j, j < i + 1 → GoodAt l j) := Lib.hid (fun h h2 j hj => by
          rcases Nat.lt_or_ge j i with h9 | h9
          · exact HF0.out j h9
          · have hji : j = i := by omega
            intro x hx
            rw [hji, List.getElem?_eq_getElem hil] at hx
            cases hx
            refine ⟨h, fun j2 y hj2 hy => ?_⟩
            have hj2 : j2 = i1 := by omega
            rw [hj2, List.getElem?_eq_getElem hi1l] at hy
            cases hy
            exact h2)
        have HG3 : Hid (¬ (l[i1].hi + 2 ≤ l[i].lo) → rightR l = false) := Lib.hid (fun h => right_no hil (fun hg => h ((hg _ (List.getElem?_eq_getElem hil)).2 i1 _ hi1.symm (List.getElem?_eq_getElem hi1l))))
        have HC : Hid (∀ W, Below X.heap.size X W → W.cell? (ad.add (i * 2)) = some (.int .i32 l[i].lo) ∧ W.cell? ⟨(ad.add (i * 2)).block, (ad.add (i * 2)).off + 1, none⟩ = some (.int .i32 l[i].hi) ∧ W.cell? ⟨(ad.add (i1 * 2)).block, (ad.add (i1 * 2)).off + 1, none⟩ = some (.int .i32 l[i1].hi)) := Lib.hid (fun W hW => ⟨(hcx W hW).1, (hcx W hW).2, hcy W hW⟩)
        clear hcx hcy
        have dp : decide ((0 : Int) < (i : Int)) = true := decide_eq_true (by omega)
        have hip : 0 < i := by omega
        have wi : IntKind.i64.wrap ((i : Int) - 1) = (i1 : Int) := by rw [IntWalk.i64_in _ (by omega)]; omega
        obtain ⟨hy1, hy2⟩ : 0 ≤ l[i1].hi ∧ l[i1].hi ≤ 1114111 := ⟨by have := hy0.1; have := hy0.2.1; omega, hy0.2.2⟩
        clear hy0
        generalize l[i1].hi = yhi at *
        generalize l[i] = x at *
        by_cases hc1 : x.lo < 0
        · have c1 : decide (x.lo < 0) = true := decide_eq_true hc1
          have HF := Lib.hid (HG1.out (fun h => by have := h.1; have := h.2.1; have := h.2.2; omega))
          go_wp2_with fail
          refine wp_region_scr (fun W' => Below X.heap.size X W') [(true, 0, 10), (true, 1, 11), (true, 2, 12), (true, 3, 13), (true, 4, 14), (true, 5, 15), (true, 6, 16), (true, 7, 17), (true, 8, 18), (true, 9, 19), (true, 10, 20), (true, 11, 21), (true, 12, 22), (true, 13, 23), (true, 14, 24), (true, 15, 25), (true, 16, 26), (true, 17, 27), (true, 18, 28), (true, 19, 29), (true, 20, 30), (true, 21, 31), (true, 22, 32), (true, 23, 33), (true, 24, 34), (true, 25, 35), (true, 26, 36)] (by kernel_rfl) (by kernel_rfl) (fun _ _ _ _ _ h => h) rfl (by kernel_rfl) ?_
          have HV := Lib.hid (show Below X.heap.size X X.drew from (Below.refl _ _).drew)
          refine Scr.take (v := .slice (some ad) l.length d) rfl rfl (yw_pure (by rfl) (fun _ => by go_simp)) HV.out ?_
          simp only [Act.put, List.setIfInBounds_toArray, List.set_cons_zero, List.set_cons_succ]
          refine Scr.take (v := .int .i64 i) rfl rfl (yw_pure (by rfl) (fun _ => by go_simp)) HV.out ?_
          simp only [Act.put, List.setIfInBounds_toArray, List.set_cons_zero, List.set_cons_succ]
          refine Scr.take (v := .pointer (some (ad.add (i * 2)))) rfl rfl (yw_pure (by rfl) (fun _ => by go_simp)) HV.out ?_
          simp only [Act.put, List.setIfInBounds_toArray, List.set_cons_zero, List.set_cons_succ]
          refine Scr.take (v := .pointer (some (ad.add (i * 2)))) rfl rfl (yw_pure (by rfl) (fun _ => by go_simp)) HV.out ?_
          simp only [Act.put, List.setIfInBounds_toArray, List.set_cons_zero, List.set_cons_succ]
          refine Scr.take (v := .int .i32 x.lo) rfl rfl (yw_cell 21 _ rfl (ad.add (i * 2)) (.int .i32 x.lo) rfl (by rfl) _ Tryd.underlying21 rfl (fun W hS => (HC.out W hS).1)) HV.out ?_
          simp only [Act.put, List.setIfInBounds_toArray, List.set_cons_zero, List.set_cons_succ]
          refine Scr.take (v := .bool true) rfl rfl (yw_pure (by rfl) (fun _ => by go_simp)) HV.out ?_
          simp only [Act.put, List.setIfInBounds_toArray, List.set_cons_zero, List.set_cons_succ]
          refine Scr.take (v := .bool true) rfl rfl (yw_pure (by rfl) (fun _ => by go_simp)) HV.out ?_
          simp only [Act.put, List.setIfInBounds_toArray, List.set_cons_zero, List.set_cons_succ]
          refine Scr.take (v := undef) rfl rfl (yw_no (by rfl)) HV.out ?_
          simp only [Act.put, List.setIfInBounds_toArray, List.set_cons_zero, List.set_cons_succ]
          refine Scr.take (v := undef) rfl rfl (yw_no (by rfl)) HV.out ?_
          simp only [Act.put, List.setIfInBounds_toArray, List.set_cons_zero, List.set_cons_succ]
          refine Scr.take (v := undef) rfl rfl (yw_no (by rfl)) HV.out ?_
          simp only [Act.put, List.setIfInBounds_toArray, List.set_cons_zero, List.set_cons_succ]
          refine Scr.take (v := undef) rfl rfl (yw_no (by rfl)) HV.out ?_
          simp only [Act.put, List.setIfInBounds_toArray, List.set_cons_zero, List.set_cons_succ]
          refine Scr.take (v := undef) rfl rfl (yw_no (by rfl)) HV.out ?_
          simp only [Act.put, List.setIfInBounds_toArray, List.set_cons_zero, List.set_cons_succ]
          refine Scr.take (v := undef) rfl rfl (yw_no (by rfl)) HV.out ?_
          simp only [Act.put, List.setIfInBounds_toArray, List.set_cons_zero, List.set_cons_succ]
          refine Scr.take (v := .bool true) rfl rfl (yw_pure (by rfl) (fun _ => by go_simp)) HV.out ?_
          simp only [Act.put, List.setIfInBounds_toArray, List.set_cons_zero, List.set_cons_succ]
          refine Scr.take (v := .bool true) rfl rfl (yw_pure (by rfl) (fun _ => by go_simp)) HV.out ?_
          simp only [Act.put, List.setIfInBounds_toArray, List.set_cons_zero, List.set_cons_succ]
          refine Scr.take (v := undef) rfl rfl (yw_no (by rfl)) HV.out ?_
          simp only [Act.put, List.setIfInBounds_toArray, List.set_cons_zero, List.set_cons_succ]
          refine Scr.take (v := undef) rfl rfl (yw_no (by rfl)) HV.out ?_
          simp only [Act.put, List.setIfInBounds_toArray, List.set_cons_zero, List.set_cons_succ]
          refine Scr.take (v := undef) rfl rfl (yw_no (by rfl)) HV.out ?_
          simp only [Act.put, List.setIfInBounds_toArray, List.set_cons_zero, List.set_cons_succ]
          refine Scr.take (v := undef) rfl rfl (yw_no (by rfl)) HV.out ?_
          simp only [Act.put, List.setIfInBounds_toArray, List.set_cons_zero, List.set_cons_succ]
          refine Scr.take (v := undef) rfl rfl (yw_no (by rfl)) HV.out ?_
          simp only [Act.put, List.setIfInBounds_toArray, List.set_cons_zero, List.set_cons_succ]
          refine Scr.take (v := undef) rfl rfl (yw_no (by rfl)) HV.out ?_
          simp only [Act.put, List.setIfInBounds_toArray, List.set_cons_zero, List.set_cons_succ]
          refine Scr.take (v := undef) rfl rfl (yw_no (by rfl)) HV.out ?_
          simp only [Act.put, List.setIfInBounds_toArray, List.set_cons_zero, List.set_cons_succ]
          refine Scr.take (v := undef) rfl rfl (yw_no (by rfl)) HV.out ?_
          simp only [Act.put, List.setIfInBounds_toArray, List.set_cons_zero, List.set_cons_succ]
          refine Scr.take (v := undef) rfl rfl (yw_no (by rfl)) HV.out ?_
          simp only [Act.put, List.setIfInBounds_toArray, List.set_cons_zero, List.set_cons_succ]
          refine Scr.take (v := undef) rfl rfl (yw_no (by rfl)) HV.out ?_
          simp only [Act.put, List.setIfInBounds_toArray, List.set_cons_zero, List.set_cons_succ]
          refine Scr.take (v := undef) rfl rfl (yw_no (by rfl)) HV.out ?_
          simp only [Act.put, List.setIfInBounds_toArray, List.set_cons_zero, List.set_cons_succ]
          refine Scr.take (v := .bool true) rfl rfl (yw_pure (by rfl) (fun _ => by go_simp)) HV.out ?_
          simp only [Act.put, List.setIfInBounds_toArray, List.set_cons_zero, List.set_cons_succ]
          simp only [Scr]
          obtain ⟨Y, hY⟩ : ∃ Y, X.drew = Y := ⟨_, rfl⟩
          rw [hY] at HV ⊢
          clear hY
          go_wp2_with fail
          go_ret
          exact ⟨by rw [HF.out]; rfl, HB.out.trans (HV.out.mono HB.out.size)⟩
        · have c1 : decide (x.lo < 0) = false := decide_eq_false hc1
          by_cases hc2 : 1114111 < x.hi
          · have c2 : decide (1114111 < x.hi) = true := decide_eq_true hc2
            have HF := Lib.hid (HG1.out (fun h => by have := h.1; have := h.2.1; have := h.2.2; omega))
            go_wp2_with fail
            refine wp_region_scr (fun W' => Below X.heap.size X W') [(true, 0, 10), (true, 1, 11), (true, 2, 12), (true, 3, 13), (true, 4, 14), (true, 5, 15), (true, 6, 16), (true, 7, 17), (true, 8, 18), (true, 9, 19), (true, 10, 20), (true, 11, 21), (true, 12, 22), (true, 13, 23), (true, 14, 24), (true, 15, 25), (true, 16, 26), (true, 17, 27), (true, 18, 28), (true, 19, 29), (true, 20, 30), (true, 21, 31), (true, 22, 32), (true, 23, 33), (true, 24, 34), (true, 25, 35), (true, 26, 36)] (by kernel_rfl) (by kernel_rfl) (fun _ _ _ _ _ h => h) rfl (by kernel_rfl) ?_
            have HV := Lib.hid (show Below X.heap.size X X.drew from (Below.refl _ _).drew)
            refine Scr.take (v := .slice (some ad) l.length d) rfl rfl (yw_pure (by rfl) (fun _ => by go_simp)) HV.out ?_
            simp only [Act.put, List.setIfInBounds_toArray, List.set_cons_zero, List.set_cons_succ]
            refine Scr.take (v := .int .i64 i) rfl rfl (yw_pure (by rfl) (fun _ => by go_simp)) HV.out ?_
            simp only [Act.put, List.setIfInBounds_toArray, List.set_cons_zero, List.set_cons_succ]
            refine Scr.take (v := .pointer (some (ad.add (i * 2)))) rfl rfl (yw_pure (by rfl) (fun _ => by go_simp)) HV.out ?_
            simp only [Act.put, List.setIfInBounds_toArray, List.set_cons_zero, List.set_cons_succ]
            refine Scr.take (v := .pointer (some (ad.add (i * 2)))) rfl rfl (yw_pure (by rfl) (fun _ => by go_simp)) HV.out ?_
            simp only [Act.put, List.setIfInBounds_toArray, List.set_cons_zero, List.set_cons_succ]
            refine Scr.take (v := .int .i32 x.lo) rfl rfl (yw_cell 21 _ rfl (ad.add (i * 2)) (.int .i32 x.lo) rfl (by rfl) _ Tryd.underlying21 rfl (fun W hS => (HC.out W hS).1)) HV.out ?_
            simp only [Act.put, List.setIfInBounds_toArray, List.set_cons_zero, List.set_cons_succ]
            refine Scr.take (v := .bool false) rfl rfl (yw_pure (by rfl) (fun _ => by go_simp)) HV.out ?_
            simp only [Act.put, List.setIfInBounds_toArray, List.set_cons_zero, List.set_cons_succ]
            refine Scr.take (v := .bool false) rfl rfl (yw_pure (by rfl) (fun _ => by go_simp)) HV.out ?_
            simp only [Act.put, List.setIfInBounds_toArray, List.set_cons_zero, List.set_cons_succ]
            refine Scr.take (v := .slice (some ad) l.length d) rfl rfl (yw_pure (by rfl) (fun _ => by go_simp)) HV.out ?_
            simp only [Act.put, List.setIfInBounds_toArray, List.set_cons_zero, List.set_cons_succ]
            refine Scr.take (v := .int .i64 i) rfl rfl (yw_pure (by rfl) (fun _ => by go_simp)) HV.out ?_
            simp only [Act.put, List.setIfInBounds_toArray, List.set_cons_zero, List.set_cons_succ]
            refine Scr.take (v := .pointer (some (ad.add (i * 2)))) rfl rfl (yw_pure (by rfl) (fun _ => by go_simp)) HV.out ?_
            simp only [Act.put, List.setIfInBounds_toArray, List.set_cons_zero, List.set_cons_succ]
            refine Scr.take (v := .pointer (some ⟨(ad.add (i * 2)).block, (ad.add (i * 2)).off + 1, none⟩)) rfl rfl (yw_pure (by rfl) (fun _ => by go_simp)) HV.out ?_
            simp only [Act.put, List.setIfInBounds_toArray, List.set_cons_zero, List.set_cons_succ]
            refine Scr.take (v := .int .i32 x.hi) rfl rfl (yw_cell 21 _ rfl ⟨(ad.add (i * 2)).block, (ad.add (i * 2)).off + 1, none⟩ (.int .i32 x.hi) rfl (by rfl) _ Tryd.underlying21 rfl (fun W hS => (HC.out W hS).2.1)) HV.out ?_
            simp only [Act.put, List.setIfInBounds_toArray, List.set_cons_zero, List.set_cons_succ]
            refine Scr.take (v := .bool true) rfl rfl (yw_pure (by rfl) (fun _ => by go_simp)) HV.out ?_
            simp only [Act.put, List.setIfInBounds_toArray, List.set_cons_zero, List.set_cons_succ]
            refine Scr.take (v := .bool true) rfl rfl (yw_pure (by rfl) (fun _ => by go_simp)) HV.out ?_
            simp only [Act.put, List.setIfInBounds_toArray, List.set_cons_zero, List.set_cons_succ]
            refine Scr.take (v := .bool true) rfl rfl (yw_pure (by rfl) (fun _ => by go_simp)) HV.out ?_
            simp only [Act.put, List.setIfInBounds_toArray, List.set_cons_zero, List.set_cons_succ]
            refine Scr.take (v := undef) rfl rfl (yw_no (by rfl)) HV.out ?_
            simp only [Act.put, List.setIfInBounds_toArray, List.set_cons_zero, List.set_cons_succ]
            refine Scr.take (v := undef) rfl rfl (yw_no (by rfl)) HV.out ?_
            simp only [Act.put, List.setIfInBounds_toArray, List.set_cons_zero, List.set_cons_succ]
            refine Scr.take (v := undef) rfl rfl (yw_no (by rfl)) HV.out ?_
            simp only [Act.put, List.setIfInBounds_toArray, List.set_cons_zero, List.set_cons_succ]
            refine Scr.take (v := undef) rfl rfl (yw_no (by rfl)) HV.out ?_
            simp only [Act.put, List.setIfInBounds_toArray, List.set_cons_zero, List.set_cons_succ]
            refine Scr.take (v := undef) rfl rfl (yw_no (by rfl)) HV.out ?_
            simp only [Act.put, List.setIfInBounds_toArray, List.set_cons_zero, List.set_cons_succ]
            refine Scr.take (v := undef) rfl rfl (yw_no (by rfl)) HV.out ?_
            simp only [Act.put, List.setIfInBounds_toArray, List.set_cons_zero, List.set_cons_succ]
            refine Scr.take (v := undef) rfl rfl (yw_no (by rfl)) HV.out ?_
            simp only [Act.put, List.setIfInBounds_toArray, List.set_cons_zero, List.set_cons_succ]
            refine Scr.take (v := undef) rfl rfl (yw_no (by rfl)) HV.out ?_
            simp only [Act.put, List.setIfInBounds_toArray, List.set_cons_zero, List.set_cons_succ]
            refine Scr.take (v := undef) rfl rfl (yw_no (by rfl)) HV.out ?_
            simp only [Act.put, List.setIfInBounds_toArray, List.set_cons_zero, List.set_cons_succ]
            refine Scr.take (v := undef) rfl rfl (yw_no (by rfl)) HV.out ?_
            simp only [Act.put, List.setIfInBounds_toArray, List.set_cons_zero, List.set_cons_succ]
            refine Scr.take (v := undef) rfl rfl (yw_no (by rfl)) HV.out ?_
            simp only [Act.put, List.setIfInBounds_toArray, List.set_cons_zero, List.set_cons_succ]
            refine Scr.take (v := .bool true) rfl rfl (yw_pure (by rfl) (fun _ => by go_simp)) HV.out ?_
            simp only [Act.put, List.setIfInBounds_toArray, List.set_cons_zero, List.set_cons_succ]
            simp only [Scr]
            obtain ⟨Y, hY⟩ : ∃ Y, X.drew = Y := ⟨_, rfl⟩
            rw [hY] at HV ⊢
            clear hY
            go_wp2_with fail
            go_ret
            exact ⟨by rw [HF.out]; rfl, HB.out.trans (HV.out.mono HB.out.size)⟩
          · have c2 : decide (1114111 < x.hi) = false := decide_eq_false hc2
            by_cases hc3 : x.hi < x.lo
            · have c3 : decide (x.hi < x.lo) = true := decide_eq_true hc3
              have HF := Lib.hid (HG1.out (fun h => by have := h.1; have := h.2.1; have := h.2.2; omega))
              go_wp2_with fail
              refine wp_region_scr (fun W' => Below X.heap.size X W') [(true, 0, 10), (true, 1, 11), (true, 2, 12), (true, 3, 13), (true, 4, 14), (true, 5, 15), (true, 6, 16), (true, 7, 17), (true, 8, 18), (true, 9, 19), (true, 10, 20), (true, 11, 21), (true, 12, 22), (true, 13, 23), (true, 14, 24), (true, 15, 25), (true, 16, 26), (true, 17, 27), (true, 18, 28), (true, 19, 29), (true, 20, 30), (true, 21, 31), (true, 22, 32), (true, 23, 33), (true, 24, 34), (true, 25, 35), (true, 26, 36)] (by kernel_rfl) (by kernel_rfl) (fun _ _ _ _ _ h => h) rfl (by kernel_rfl) ?_
              have HV := Lib.hid (show Below X.heap.size X X.drew from (Below.refl _ _).drew)
              refine Scr.take (v := .slice (some ad) l.length d) rfl rfl (yw_pure (by rfl) (fun _ => by go_simp)) HV.out ?_
              simp only [Act.put, List.setIfInBounds_toArray, List.set_cons_zero, List.set_cons_succ]
              refine Scr.take (v := .int .i64 i) rfl rfl (yw_pure (by rfl) (fun _ => by go_simp)) HV.out ?_
              simp only [Act.put, List.setIfInBounds_toArray, List.set_cons_zero, List.set_cons_succ]
              refine Scr.take (v := .pointer (some (ad.add (i * 2)))) rfl rfl (yw_pure (by rfl) (fun _ => by go_simp)) HV.out ?_
              simp only [Act.put, List.setIfInBounds_toArray, List.set_cons_zero, List.set_cons_succ]
              refine Scr.take (v := .pointer (some (ad.add (i * 2)))) rfl rfl (yw_pure (by rfl) (fun _ => by go_simp)) HV.out ?_
              simp only [Act.put, List.setIfInBounds_toArray, List.set_cons_zero, List.set_cons_succ]
              refine Scr.take (v := .int .i32 x.lo) rfl rfl (yw_cell 21 _ rfl (ad.add (i * 2)) (.int .i32 x.lo) rfl (by rfl) _ Tryd.underlying21 rfl (fun W hS => (HC.out W hS).1)) HV.out ?_
              simp only [Act.put, List.setIfInBounds_toArray, List.set_cons_zero, List.set_cons_succ]
              refine Scr.take (v := .bool false) rfl rfl (yw_pure (by rfl) (fun _ => by go_simp)) HV.out ?_
              simp only [Act.put, List.setIfInBounds_toArray, List.set_cons_zero, List.set_cons_succ]
              refine Scr.take (v := .bool false) rfl rfl (yw_pure (by rfl) (fun _ => by go_simp)) HV.out ?_
              simp only [Act.put, List.setIfInBounds_toArray, List.set_cons_zero, List.set_cons_succ]
              refine Scr.take (v := .slice (some ad) l.length d) rfl rfl (yw_pure (by rfl) (fun _ => by go_simp)) HV.out ?_
              simp only [Act.put, List.setIfInBounds_toArray, List.set_cons_zero, List.set_cons_succ]
              refine Scr.take (v := .int .i64 i) rfl rfl (yw_pure (by rfl) (fun _ => by go_simp)) HV.out ?_
              simp only [Act.put, List.setIfInBounds_toArray, List.set_cons_zero, List.set_cons_succ]
              refine Scr.take (v := .pointer (some (ad.add (i * 2)))) rfl rfl (yw_pure (by rfl) (fun _ => by go_simp)) HV.out ?_
              simp only [Act.put, List.setIfInBounds_toArray, List.set_cons_zero, List.set_cons_succ]
              refine Scr.take (v := .pointer (some ⟨(ad.add (i * 2)).block, (ad.add (i * 2)).off + 1, none⟩)) rfl rfl (yw_pure (by rfl) (fun _ => by go_simp)) HV.out ?_
              simp only [Act.put, List.setIfInBounds_toArray, List.set_cons_zero, List.set_cons_succ]
              refine Scr.take (v := .int .i32 x.hi) rfl rfl (yw_cell 21 _ rfl ⟨(ad.add (i * 2)).block, (ad.add (i * 2)).off + 1, none⟩ (.int .i32 x.hi) rfl (by rfl) _ Tryd.underlying21 rfl (fun W hS => (HC.out W hS).2.1)) HV.out ?_
              simp only [Act.put, List.setIfInBounds_toArray, List.set_cons_zero, List.set_cons_succ]
              refine Scr.take (v := .bool false) rfl rfl (yw_pure (by rfl) (fun _ => by go_simp)) HV.out ?_
              simp only [Act.put, List.setIfInBounds_toArray, List.set_cons_zero, List.set_cons_succ]
              refine Scr.take (v := .bool false) rfl rfl (yw_pure (by rfl) (fun _ => by go_simp)) HV.out ?_
              simp only [Act.put, List.setIfInBounds_toArray, List.set_cons_zero, List.set_cons_succ]
              refine Scr.take (v := .bool false) rfl rfl (yw_pure (by rfl) (fun _ => by go_simp)) HV.out ?_
              simp only [Act.put, List.setIfInBounds_toArray, List.set_cons_zero, List.set_cons_succ]
              refine Scr.take (v := .slice (some ad) l.length d) rfl rfl (yw_pure (by rfl) (fun _ => by go_simp)) HV.out ?_
              simp only [Act.put, List.setIfInBounds_toArray, List.set_cons_zero, List.set_cons_succ]
              refine Scr.take (v := .int .i64 i) rfl rfl (yw_pure (by rfl) (fun _ => by go_simp)) HV.out ?_
              simp only [Act.put, List.setIfInBounds_toArray, List.set_cons_zero, List.set_cons_succ]
              refine Scr.take (v := .pointer (some (ad.add (i * 2)))) rfl rfl (yw_pure (by rfl) (fun _ => by go_simp)) HV.out ?_
              simp only [Act.put, List.setIfInBounds_toArray, List.set_cons_zero, List.set_cons_succ]
              refine Scr.take (v := .pointer (some (ad.add (i * 2)))) rfl rfl (yw_pure (by rfl) (fun _ => by go_simp)) HV.out ?_
              simp only [Act.put, List.setIfInBounds_toArray, List.set_cons_zero, List.set_cons_succ]
              refine Scr.take (v := .int .i32 x.lo) rfl rfl (yw_cell 21 _ rfl (ad.add (i * 2)) (.int .i32 x.lo) rfl (by rfl) _ Tryd.underlying21 rfl (fun W hS => (HC.out W hS).1)) HV.out ?_
              simp only [Act.put, List.setIfInBounds_toArray, List.set_cons_zero, List.set_cons_succ]
              refine Scr.take (v := .slice (some ad) l.length d) rfl rfl (yw_pure (by rfl) (fun _ => by go_simp)) HV.out ?_
              simp only [Act.put, List.setIfInBounds_toArray, List.set_cons_zero, List.set_cons_succ]
              refine Scr.take (v := .int .i64 i) rfl rfl (yw_pure (by rfl) (fun _ => by go_simp)) HV.out ?_
              simp only [Act.put, List.setIfInBounds_toArray, List.set_cons_zero, List.set_cons_succ]
              refine Scr.take (v := .pointer (some (ad.add (i * 2)))) rfl rfl (yw_pure (by rfl) (fun _ => by go_simp)) HV.out ?_
              simp only [Act.put, List.setIfInBounds_toArray, List.set_cons_zero, List.set_cons_succ]
              refine Scr.take (v := .pointer (some ⟨(ad.add (i * 2)).block, (ad.add (i * 2)).off + 1, none⟩)) rfl rfl (yw_pure (by rfl) (fun _ => by go_simp)) HV.out ?_
              simp only [Act.put, List.setIfInBounds_toArray, List.set_cons_zero, List.set_cons_succ]
              refine Scr.take (v := .int .i32 x.hi) rfl rfl (yw_cell 21 _ rfl ⟨(ad.add (i * 2)).block, (ad.add (i * 2)).off + 1, none⟩ (.int .i32 x.hi) rfl (by rfl) _ Tryd.underlying21 rfl (fun W hS => (HC.out W hS).2.1)) HV.out ?_
              simp only [Act.put, List.setIfInBounds_toArray, List.set_cons_zero, List.set_cons_succ]
              refine Scr.take (v := .bool true) rfl rfl (yw_pure (by rfl) (fun _ => by go_simp)) HV.out ?_
              simp only [Act.put, List.setIfInBounds_toArray, List.set_cons_zero, List.set_cons_succ]
              refine Scr.take (v := .bool true) rfl rfl (yw_pure (by rfl) (fun _ => by go_simp)) HV.out ?_
              simp only [Act.put, List.setIfInBounds_toArray, List.set_cons_zero, List.set_cons_succ]
              simp only [Scr]
              obtain ⟨Y, hY⟩ : ∃ Y, X.drew = Y := ⟨_, rfl⟩
              rw [hY] at HV ⊢
              clear hY
              go_wp2_with fail
              go_ret
              exact ⟨by rw [HF.out]; rfl, HB.out.trans (HV.out.mono HB.out.size)⟩
            · have c3 : decide (x.hi < x.lo) = false := decide_eq_false hc3
              have hrg : RgOK x := ⟨by omega, by omega, by omega⟩
              by_cases hd1 : x.lo ≤ yhi
              · have d1 : decide (x.lo ≤ yhi) = true := decide_eq_true hd1
                have HF := Lib.hid (HG3.out (by omega))
                go_wp2_with fail
                refine wp_region_scr (fun W' => Below X.heap.size X W') [(true, 0, 10), (true, 1, 11), (true, 2, 12), (true, 3, 13), (true, 4, 14), (true, 5, 15), (true, 6, 16), (true, 7, 17), (true, 8, 18), (true, 9, 19), (true, 10, 20), (true, 11, 21), (true, 12, 22), (true, 13, 23), (true, 14, 24), (true, 15, 25), (true, 16, 26), (true, 17, 27), (true, 18, 28), (true, 19, 29), (true, 20, 30), (true, 21, 31), (true, 22, 32), (true, 23, 33), (true, 24, 34), (true, 25, 35), (true, 26, 36)] (by kernel_rfl) (by kernel_rfl) (fun _ _ _ _ _ h => h) rfl (by kernel_rfl) ?_
                have HV := Lib.hid (show Below X.heap.size X X.drew from (Below.refl _ _).drew)
                refine Scr.take (v := .slice (some ad) l.length d) rfl rfl (yw_pure (by rfl) (fun _ => by go_simp)) HV.out ?_
                simp only [Act.put, List.setIfInBounds_toArray, List.set_cons_zero, List.set_cons_succ]
                refine Scr.take (v := .int .i64 i) rfl rfl (yw_pure (by rfl) (fun _ => by go_simp)) HV.out ?_
                simp only [Act.put, List.setIfInBounds_toArray, List.set_cons_zero, List.set_cons_succ]
                refine Scr.take (v := .pointer (some (ad.add (i * 2)))) rfl rfl (yw_pure (by rfl) (fun _ => by go_simp)) HV.out ?_
                simp only [Act.put, List.setIfInBounds_toArray, List.set_cons_zero, List.set_cons_succ]
                refine Scr.take (v := .pointer (some (ad.add (i * 2)))) rfl rfl (yw_pure (by rfl) (fun _ => by go_simp)) HV.out ?_
                simp only [Act.put, List.setIfInBounds_toArray, List.set_cons_zero, List.set_cons_succ]
                refine Scr.take (v := .int .i32 x.lo) rfl rfl (yw_cell 21 _ rfl (ad.add (i * 2)) (.int .i32 x.lo) rfl (by rfl) _ Tryd.underlying21 rfl (fun W hS => (HC.out W hS).1)) HV.out ?_
                simp only [Act.put, List.setIfInBounds_toArray, List.set_cons_zero, List.set_cons_succ]
                refine Scr.take (v := .bool false) rfl rfl (yw_pure (by rfl) (fun _ => by go_simp)) HV.out ?_
                simp only [Act.put, List.setIfInBounds_toArray, List.set_cons_zero, List.set_cons_succ]
                refine Scr.take (v := .bool false) rfl rfl (yw_pure (by rfl) (fun _ => by go_simp)) HV.out ?_
                simp only [Act.put, List.setIfInBounds_toArray, List.set_cons_zero, List.set_cons_succ]
                refine Scr.take (v := .slice (some ad) l.length d) rfl rfl (yw_pure (by rfl) (fun _ => by go_simp)) HV.out ?_
                simp only [Act.put, List.setIfInBounds_toArray, List.set_cons_zero, List.set_cons_succ]
                refine Scr.take (v := .int .i64 i) rfl rfl (yw_pure (by rfl) (fun _ => by go_simp)) HV.out ?_
                simp only [Act.put, List.setIfInBounds_toArray, List.set_cons_zero, List.set_cons_succ]
                refine Scr.take (v := .pointer (some (ad.add (i * 2)))) rfl rfl (yw_pure (by rfl) (fun _ => by go_simp)) HV.out ?_
                simp only [Act.put, List.setIfInBounds_toArray, List.set_cons_zero, List.set_cons_succ]
                refine Scr.take (v := .pointer (some ⟨(ad.add (i * 2)).block, (ad.add (i * 2)).off + 1, none⟩)) rfl rfl (yw_pure (by rfl) (fun _ => by go_simp)) HV.out ?_
                simp only [Act.put, List.setIfInBounds_toArray, List.set_cons_zero, List.set_cons_succ]
                refine Scr.take (v := .int .i32 x.hi) rfl rfl (yw_cell 21 _ rfl ⟨(ad.add (i * 2)).block, (ad.add (i * 2)).off + 1, none⟩ (.int .i32 x.hi) rfl (by rfl) _ Tryd.underlying21 rfl (fun W hS => (HC.out W hS).2.1)) HV.out ?_
                simp only [Act.put, List.setIfInBounds_toArray, List.set_cons_zero, List.set_cons_succ]
                refine Scr.take (v := .bool false) rfl rfl (yw_pure (by rfl) (fun _ => by go_simp)) HV.out ?_
                simp only [Act.put, List.setIfInBounds_toArray, List.set_cons_zero, List.set_cons_succ]
                refine Scr.take (v := .bool false) rfl rfl (yw_pure (by rfl) (fun _ => by go_simp)) HV.out ?_
                simp only [Act.put, List.setIfInBounds_toArray, List.set_cons_zero, List.set_cons_succ]
                refine Scr.take (v := .bool false) rfl rfl (yw_pure (by rfl) (fun _ => by go_simp)) HV.out ?_
                simp only [Act.put, List.setIfInBounds_toArray, List.set_cons_zero, List.set_cons_succ]
                refine Scr.take (v := .slice (some ad) l.length d) rfl rfl (yw_pure (by rfl) (fun _ => by go_simp)) HV.out ?_
                simp only [Act.put, List.setIfInBounds_toArray, List.set_cons_zero, List.set_cons_succ]
                refine Scr.take (v := .int .i64 i) rfl rfl (yw_pure (by rfl) (fun _ => by go_simp)) HV.out ?_
                simp only [Act.put, List.setIfInBounds_toArray, List.set_cons_zero, List.set_cons_succ]
                refine Scr.take (v := .pointer (some (ad.add (i * 2)))) rfl rfl (yw_pure (by rfl) (fun _ => by go_simp)) HV.out ?_
                simp only [Act.put, List.setIfInBounds_toArray, List.set_cons_zero, List.set_cons_succ]
                refine Scr.take (v := .pointer (some (ad.add (i * 2)))) rfl rfl (yw_pure (by rfl) (fun _ => by go_simp)) HV.out ?_
                simp only [Act.put, List.setIfInBounds_toArray, List.set_cons_zero, List.set_cons_succ]
                refine Scr.take (v := .int .i32 x.lo) rfl rfl (yw_cell 21 _ rfl (ad.add (i * 2)) (.int .i32 x.lo) rfl (by rfl) _ Tryd.underlying21 rfl (fun W hS => (HC.out W hS).1)) HV.out ?_
                simp only [Act.put, List.setIfInBounds_toArray, List.set_cons_zero, List.set_cons_succ]
                refine Scr.take (v := .slice (some ad) l.length d) rfl rfl (yw_pure (by rfl) (fun _ => by go_simp)) HV.out ?_
                simp only [Act.put, List.setIfInBounds_toArray, List.set_cons_zero, List.set_cons_succ]
                refine Scr.take (v := .int .i64 i) rfl rfl (yw_pure (by rfl) (fun _ => by go_simp)) HV.out ?_
                simp only [Act.put, List.setIfInBounds_toArray, List.set_cons_zero, List.set_cons_succ]
                refine Scr.take (v := .pointer (some (ad.add (i * 2)))) rfl rfl (yw_pure (by rfl) (fun _ => by go_simp)) HV.out ?_
                simp only [Act.put, List.setIfInBounds_toArray, List.set_cons_zero, List.set_cons_succ]
                refine Scr.take (v := .pointer (some ⟨(ad.add (i * 2)).block, (ad.add (i * 2)).off + 1, none⟩)) rfl rfl (yw_pure (by rfl) (fun _ => by go_simp)) HV.out ?_
                simp only [Act.put, List.setIfInBounds_toArray, List.set_cons_zero, List.set_cons_succ]
                refine Scr.take (v := .int .i32 x.hi) rfl rfl (yw_cell 21 _ rfl ⟨(ad.add (i * 2)).block, (ad.add (i * 2)).off + 1, none⟩ (.int .i32 x.hi) rfl (by rfl) _ Tryd.underlying21 rfl (fun W hS => (HC.out W hS).2.1)) HV.out ?_
                simp only [Act.put, List.setIfInBounds_toArray, List.set_cons_zero, List.set_cons_succ]
                refine Scr.take (v := .bool false) rfl rfl (yw_pure (by rfl) (fun _ => by go_simp)) HV.out ?_
                simp only [Act.put, List.setIfInBounds_toArray, List.set_cons_zero, List.set_cons_succ]
                refine Scr.take (v := .bool false) rfl rfl (yw_pure (by rfl) (fun _ => by go_simp)) HV.out ?_
                simp only [Act.put, List.setIfInBounds_toArray, List.set_cons_zero, List.set_cons_succ]
                simp only [Scr]
                obtain ⟨Y, hY⟩ : ∃ Y, X.drew = Y := ⟨_, rfl⟩
                rw [hY] at HV ⊢
                clear hY
                go_wp2_with fail
                refine wp_region_scr (fun W' => Below Y.heap.size Y W') [(true, 0, 37), (true, 1, 38), (true, 2, 39), (true, 3, 40), (true, 4, 41), (true, 5, 42), (true, 6, 43), (true, 7, 44), (true, 8, 45), (true, 9, 46), (true, 10, 47), (true, 11, 48), (true, 12, 49), (true, 13, 50), (true, 14, 51), (true, 15, 52), (true, 16, 53), (true, 17, 54), (true, 18, 55), (true, 19, 56), (true, 20, 57), (true, 21, 58), (true, 22, 59), (true, 23, 60), (true, 24, 61), (true, 25, 62), (true, 26, 63), (true, 27, 64), (true, 28, 65), (true, 29, 66), (true, 30, 67)] (by kernel_rfl) (by kernel_rfl) (fun _ _ _ _ _ h => h) rfl (by kernel_rfl) ?_
                have HU := Lib.hid (show Below Y.heap.size Y Y.drew from (Below.refl _ _).drew)
                refine Scr.take (v := .int .i64 i) rfl rfl (yw_pure (by rfl) (fun _ => by go_simp)) HU.out ?_
                simp only [Act.put, List.setIfInBounds_toArray, List.set_cons_zero, List.set_cons_succ]
                refine Scr.take (v := .bool true) rfl rfl (yw_pure (by rfl) (fun _ => by go_simp)) HU.out ?_
                simp only [Act.put, List.setIfInBounds_toArray, List.set_cons_zero, List.set_cons_succ]
                refine Scr.take (v := .bool true) rfl rfl (yw_pure (by rfl) (fun _ => by go_simp)) HU.out ?_
                simp only [Act.put, List.setIfInBounds_toArray, List.set_cons_zero, List.set_cons_succ]
                refine Scr.take (v := .slice (some ad) l.length d) rfl rfl (yw_pure (by rfl) (fun _ => by go_simp)) HU.out ?_
                simp only [Act.put, List.setIfInBounds_toArray, List.set_cons_zero, List.set_cons_succ]
                refine Scr.take (v := .int .i64 i) rfl rfl (yw_pure (by rfl) (fun _ => by go_simp)) HU.out ?_
                simp only [Act.put, List.setIfInBounds_toArray, List.set_cons_zero, List.set_cons_succ]
                refine Scr.take (v := .pointer (some (ad.add (i * 2)))) rfl rfl (yw_pure (by rfl) (fun _ => by go_simp)) HU.out ?_
                simp only [Act.put, List.setIfInBounds_toArray, List.set_cons_zero, List.set_cons_succ]
                refine Scr.take (v := .pointer (some (ad.add (i * 2)))) rfl rfl (yw_pure (by rfl) (fun _ => by go_simp)) HU.out ?_
                simp only [Act.put, List.setIfInBounds_toArray, List.set_cons_zero, List.set_cons_succ]
                refine Scr.take (v := .int .i32 x.lo) rfl rfl (yw_cell 21 _ rfl (ad.add (i * 2)) (.int .i32 x.lo) rfl (by rfl) _ Tryd.underlying21 rfl (fun W hS => (HC.out W (HV.out.trans (hS.mono HV.out.size))).1)) HU.out ?_
                simp only [Act.put, List.setIfInBounds_toArray, List.set_cons_zero, List.set_cons_succ]
                refine Scr.take (v := .slice (some ad) l.length d) rfl rfl (yw_pure (by rfl) (fun _ => by go_simp)) HU.out ?_
                simp only [Act.put, List.setIfInBounds_toArray, List.set_cons_zero, List.set_cons_succ]
                refine Scr.take (v := .int .i64 i) rfl rfl (yw_pure (by rfl) (fun _ => by go_simp)) HU.out ?_
                simp only [Act.put, List.setIfInBounds_toArray, List.set_cons_zero, List.set_cons_succ]
                refine Scr.take (v := .int .i64 i1) rfl rfl (yw_pure (by rfl) (fun _ => by go_simp)) HU.out ?_
                simp only [Act.put, List.setIfInBounds_toArray, List.set_cons_zero, List.set_cons_succ]
                refine Scr.take (v := .pointer (some (ad.add (i1 * 2)))) rfl rfl (yw_pure (by rfl) (fun _ => by go_simp)) HU.out ?_
                simp only [Act.put, List.setIfInBounds_toArray, List.set_cons_zero, List.set_cons_succ]
                refine Scr.take (v := .pointer (some ⟨(ad.add (i1 * 2)).block, (ad.add (i1 * 2)).off + 1, none⟩)) rfl rfl (yw_pure (by rfl) (fun _ => by go_simp)) HU.out ?_
                simp only [Act.put, List.setIfInBounds_toArray, List.set_cons_zero, List.set_cons_succ]
                refine Scr.take (v := .int .i32 yhi) rfl rfl (yw_cell 21 _ rfl ⟨(ad.add (i1 * 2)).block, (ad.add (i1 * 2)).off + 1, none⟩ (.int .i32 yhi) rfl (by rfl) _ Tryd.underlying21 rfl (fun W hS => (HC.out W (HV.out.trans (hS.mono HV.out.size))).2.2)) HU.out ?_
                simp only [Act.put, List.setIfInBounds_toArray, List.set_cons_zero, List.set_cons_succ]
                refine Scr.take (v := .bool true) rfl rfl (yw_pure (by rfl) (fun _ => by go_simp)) HU.out ?_
                simp only [Act.put, List.setIfInBounds_toArray, List.set_cons_zero, List.set_cons_succ]
                refine Scr.take (v := .bool true) rfl rfl (yw_pure (by rfl) (fun _ => by go_simp)) HU.out ?_
                simp only [Act.put, List.setIfInBounds_toArray, List.set_cons_zero, List.set_cons_succ]
                refine Scr.take (v := undef) rfl rfl (yw_no (by rfl)) HU.out ?_
                simp only [Act.put, List.setIfInBounds_toArray, List.set_cons_zero, List.set_cons_succ]
                refine Scr.take (v := undef) rfl rfl (yw_no (by rfl)) HU.out ?_
                simp only [Act.put, List.setIfInBounds_toArray, List.set_cons_zero, List.set_cons_succ]
                refine Scr.take (v := undef) rfl rfl (yw_no (by rfl)) HU.out ?_
                simp only [Act.put, List.setIfInBounds_toArray, List.set_cons_zero, List.set_cons_succ]
                refine Scr.take (v := undef) rfl rfl (yw_no (by rfl)) HU.out ?_
                simp only [Act.put, List.setIfInBounds_toArray, List.set_cons_zero, List.set_cons_succ]
                refine Scr.take (v := undef) rfl rfl (yw_no (by rfl)) HU.out ?_
                simp only [Act.put, List.setIfInBounds_toArray, List.set_cons_zero, List.set_cons_succ]
                refine Scr.take (v := undef) rfl rfl (yw_no (by rfl)) HU.out ?_
                simp only [Act.put, List.setIfInBounds_toArray, List.set_cons_zero, List.set_cons_succ]
                refine Scr.take (v := undef) rfl rfl (yw_no (by rfl)) HU.out ?_
                simp only [Act.put, List.setIfInBounds_toArray, List.set_cons_zero, List.set_cons_succ]
                refine Scr.take (v := undef) rfl rfl (yw_no (by rfl)) HU.out ?_
                simp only [Act.put, List.setIfInBounds_toArray, List.set_cons_zero, List.set_cons_succ]
                refine Scr.take (v := undef) rfl rfl (yw_no (by rfl)) HU.out ?_
                simp only [Act.put, List.setIfInBounds_toArray, List.set_cons_zero, List.set_cons_succ]
                refine Scr.take (v := undef) rfl rfl (yw_no (by rfl)) HU.out ?_
                simp only [Act.put, List.setIfInBounds_toArray, List.set_cons_zero, List.set_cons_succ]
                refine Scr.take (v := undef) rfl rfl (yw_no (by rfl)) HU.out ?_
                simp only [Act.put, List.setIfInBounds_toArray, List.set_cons_zero, List.set_cons_succ]
                refine Scr.take (v := undef) rfl rfl (yw_no (by rfl)) HU.out ?_
                simp only [Act.put, List.setIfInBounds_toArray, List.set_cons_zero, List.set_cons_succ]
                refine Scr.take (v := undef) rfl rfl (yw_no (by rfl)) HU.out ?_
                simp only [Act.put, List.setIfInBounds_toArray, List.set_cons_zero, List.set_cons_succ]
                refine Scr.take (v := .bool true) rfl rfl (yw_pure (by rfl) (fun _ => by go_simp)) HU.out ?_
                simp only [Act.put, List.setIfInBounds_toArray, List.set_cons_zero, List.set_cons_succ]
                refine Scr.take (v := .bool true) rfl rfl (yw_pure (by rfl) (fun _ => by go_simp)) HU.out ?_
                simp only [Act.put, List.setIfInBounds_toArray, List.set_cons_zero, List.set_cons_succ]
                simp only [Scr]
                go_wp2_with fail
                go_ret
                exact ⟨by rw [HF.out]; rfl, HB.out.trans ((HV.out.trans (HU.out.mono HV.out.size)).mono HB.out.size)⟩
              · have d1 : decide (x.lo ≤ yhi) = false := decide_eq_false hd1
                have wx : IntKind.i32.wrap (x.lo - yhi) = x.lo - yhi := IntWalk.i32_in _ (by omega)
                by_cases hd2 : x.lo - yhi < 2
                · have d2 : decide (x.lo - yhi < 2) = true := decide_eq_true hd2
                  have HF := Lib.hid (HG3.out (by omega))
                  go_wp2_with fail
                  refine wp_region_scr (fun W' => Below X.heap.size X W') [(true, 0, 10), (true, 1, 11), (true, 2, 12), (true, 3, 13), (true, 4, 14), (true, 5, 15), (true, 6, 16), (true, 7, 17), (true, 8, 18), (true, 9, 19), (true, 10, 20), (true, 11, 21), (true, 12, 22), (true, 13, 23), (true, 14, 24), (true, 15, 25), (true, 16, 26), (true, 17, 27), (true, 18, 28), (true, 19, 29), (true, 20, 30), (true, 21, 31), (true, 22, 32), (true, 23, 33), (true, 24, 34), (true, 25, 35), (true, 26, 36)] (by kernel_rfl) (by kernel_rfl) (fun _ _ _ _ _ h => h) rfl (by kernel_rfl) ?_
                  have HV := Lib.hid (show Below X.heap.size X X.drew from (Below.refl _ _).drew)
                  refine Scr.take (v := .slice (some ad) l.length d) rfl rfl (yw_pure (by rfl) (fun _ => by go_simp)) HV.out ?_
                  simp only [Act.put, List.setIfInBounds_toArray, List.set_cons_zero, List.set_cons_succ]
                  refine Scr.take (v := .int .i64 i) rfl rfl (yw_pure (by rfl) (fun _ => by go_simp)) HV.out ?_
                  simp only [Act.put, List.setIfInBounds_toArray, List.set_cons_zero, List.set_cons_succ]
                  refine Scr.take (v := .pointer (some (ad.add (i * 2)))) rfl rfl (yw_pure (by rfl) (fun _ => by go_simp)) HV.out ?_
                  simp only [Act.put, List.setIfInBounds_toArray, List.set_cons_zero, List.set_cons_succ]
                  refine Scr.take (v := .pointer (some (ad.add (i * 2)))) rfl rfl (yw_pure (by rfl) (fun _ => by go_simp)) HV.out ?_
                  simp only [Act.put, List.setIfInBounds_toArray, List.set_cons_zero, List.set_cons_succ]
                  refine Scr.take (v := .int .i32 x.lo) rfl rfl (yw_cell 21 _ rfl (ad.add (i * 2)) (.int .i32 x.lo) rfl (by rfl) _ Tryd.underlying21 rfl (fun W hS => (HC.out W hS).1)) HV.out ?_
                  simp only [Act.put, List.setIfInBounds_toArray, List.set_cons_zero, List.set_cons_succ]
                  refine Scr.take (v := .bool false) rfl rfl (yw_pure (by rfl) (fun _ => by go_simp)) HV.out ?_
                  simp only [Act.put, List.setIfInBounds_toArray, List.set_cons_zero, List.set_cons_succ]
                  refine Scr.take (v := .bool false) rfl rfl (yw_pure (by rfl) (fun _ => by go_simp)) HV.out ?_
                  simp only [Act.put, List.setIfInBounds_toArray, List.set_cons_zero, List.set_cons_succ]
                  refine Scr.take (v := .slice (some ad) l.length d) rfl rfl (yw_pure (by rfl) (fun _ => by go_simp)) HV.out ?_
                  simp only [Act.put, List.setIfInBounds_toArray, List.set_cons_zero, List.set_cons_succ]
                  refine Scr.take (v := .int .i64 i) rfl rfl (yw_pure (by rfl) (fun _ => by go_simp)) HV.out ?_
                  simp only [Act.put, List.setIfInBounds_toArray, List.set_cons_zero, List.set_cons_succ]
                  refine Scr.take (v := .pointer (some (ad.add (i * 2)))) rfl rfl (yw_pure (by rfl) (fun _ => by go_simp)) HV.out ?_
                  simp only [Act.put, List.setIfInBounds_toArray, List.set_cons_zero, List.set_cons_succ]
                  refine Scr.take (v := .pointer (some ⟨(ad.add (i * 2)).block, (ad.add (i * 2)).off + 1, none⟩)) rfl rfl (yw_pure (by rfl) (fun _ => by go_simp)) HV.out ?_
                  simp only [Act.put, List.setIfInBounds_toArray, List.set_cons_zero, List.set_cons_succ]
                  refine Scr.take (v := .int .i32 x.hi) rfl rfl (yw_cell 21 _ rfl ⟨(ad.add (i * 2)).block, (ad.add (i * 2)).off + 1, none⟩ (.int .i32 x.hi) rfl (by rfl) _ Tryd.underlying21 rfl (fun W hS => (HC.out W hS).2.1)) HV.out ?_
                  simp only [Act.put, List.setIfInBounds_toArray, List.set_cons_zero, List.set_cons_succ]
                  refine Scr.take (v := .bool false) rfl rfl (yw_pure (by rfl) (fun _ => by go_simp)) HV.out ?_
                  simp only [Act.put, List.setIfInBounds_toArray, List.set_cons_zero, List.set_cons_succ]
                  refine Scr.take (v := .bool false) rfl rfl (yw_pure (by rfl) (fun _ => by go_simp)) HV.out ?_
                  simp only [Act.put, List.setIfInBounds_toArray, List.set_cons_zero, List.set_cons_succ]
                  refine Scr.take (v := .bool false) rfl rfl (yw_pure (by rfl) (fun _ => by go_simp)) HV.out ?_
                  simp only [Act.put, List.setIfInBounds_toArray, List.set_cons_zero, List.set_cons_succ]
                  refine Scr.take (v := .slice (some ad) l.length d) rfl rfl (yw_pure (by rfl) (fun _ => by go_simp)) HV.out ?_
                  simp only [Act.put, List.setIfInBounds_toArray, List.set_cons_zero, List.set_cons_succ]
                  refine Scr.take (v := .int .i64 i) rfl rfl (yw_pure (by rfl) (fun _ => by go_simp)) HV.out ?_
                  simp only [Act.put, List.setIfInBounds_toArray, List.set_cons_zero, List.set_cons_succ]
                  refine Scr.take (v := .pointer (some (ad.add (i * 2)))) rfl rfl (yw_pure (by rfl) (fun _ => by go_simp)) HV.out ?_
                  simp only [Act.put, List.setIfInBounds_toArray, List.set_cons_zero, List.set_cons_succ]
                  refine Scr.take (v := .pointer (some (ad.add (i * 2)))) rfl rfl (yw_pure (by rfl) (fun _ => by go_simp)) HV.out ?_
                  simp only [Act.put, List.setIfInBounds_toArray, List.set_cons_zero, List.set_cons_succ]
                  refine Scr.take (v := .int .i32 x.lo) rfl rfl (yw_cell 21 _ rfl (ad.add (i * 2)) (.int .i32 x.lo) rfl (by rfl) _ Tryd.underlying21 rfl (fun W hS => (HC.out W hS).1)) HV.out ?_
                  simp only [Act.put, List.setIfInBounds_toArray, List.set_cons_zero, List.set_cons_succ]
                  refine Scr.take (v := .slice (some ad) l.length d) rfl rfl (yw_pure (by rfl) (fun _ => by go_simp)) HV.out ?_
                  simp only [Act.put, List.setIfInBounds_toArray, List.set_cons_zero, List.set_cons_succ]
                  refine Scr.take (v := .int .i64 i) rfl rfl (yw_pure (by rfl) (fun _ => by go_simp)) HV.out ?_
                  simp only [Act.put, List.setIfInBounds_toArray, List.set_cons_zero, List.set_cons_succ]
                  refine Scr.take (v := .pointer (some (ad.add (i * 2)))) rfl rfl (yw_pure (by rfl) (fun _ => by go_simp)) HV.out ?_
                  simp only [Act.put, List.setIfInBounds_toArray, List.set_cons_zero, List.set_cons_succ]
                  refine Scr.take (v := .pointer (some ⟨(ad.add (i * 2)).block, (ad.add (i * 2)).off + 1, none⟩)) rfl rfl (yw_pure (by rfl) (fun _ => by go_simp)) HV.out ?_
                  simp only [Act.put, List.setIfInBounds_toArray, List.set_cons_zero, List.set_cons_succ]
                  refine Scr.take (v := .int .i32 x.hi) rfl rfl (yw_cell 21 _ rfl ⟨(ad.add (i * 2)).block, (ad.add (i * 2)).off + 1, none⟩ (.int .i32 x.hi) rfl (by rfl) _ Tryd.underlying21 rfl (fun W hS => (HC.out W hS).2.1)) HV.out ?_
                  simp only [Act.put, List.setIfInBounds_toArray, List.set_cons_zero, List.set_cons_succ]
                  refine Scr.take (v := .bool false) rfl rfl (yw_pure (by rfl) (fun _ => by go_simp)) HV.out ?_
                  simp only [Act.put, List.setIfInBounds_toArray, List.set_cons_zero, List.set_cons_succ]
                  refine Scr.take (v := .bool false) rfl rfl (yw_pure (by rfl) (fun _ => by go_simp)) HV.out ?_
                  simp only [Act.put, List.setIfInBounds_toArray, List.set_cons_zero, List.set_cons_succ]
                  simp only [Scr]
                  obtain ⟨Y, hY⟩ : ∃ Y, X.drew = Y := ⟨_, rfl⟩
                  rw [hY] at HV ⊢
                  clear hY
                  go_wp2_with fail
                  refine wp_region_scr (fun W' => Below Y.heap.size Y W') [(true, 0, 37), (true, 1, 38), (true, 2, 39), (true, 3, 40), (true, 4, 41), (true, 5, 42), (true, 6, 43), (true, 7, 44), (true, 8, 45), (true, 9, 46), (true, 10, 47), (true, 11, 48), (true, 12, 49), (true, 13, 50), (true, 14, 51), (true, 15, 52), (true, 16, 53), (true, 17, 54), (true, 18, 55), (true, 19, 56), (true, 20, 57), (true, 21, 58), (true, 22, 59), (true, 23, 60), (true, 24, 61), (true, 25, 62), (true, 26, 63), (true, 27, 64), (true, 28, 65), (true, 29, 66), (true, 30, 67)] (by kernel_rfl) (by kernel_rfl) (fun _ _ _ _ _ h => h) rfl (by kernel_rfl) ?_
                  have HU := Lib.hid (show Below Y.heap.size Y Y.drew from (Below.refl _ _).drew)
                  refine Scr.take (v := .int .i64 i) rfl rfl (yw_pure (by rfl) (fun _ => by go_simp)) HU.out ?_
                  simp only [Act.put, List.setIfInBounds_toArray, List.set_cons_zero, List.set_cons_succ]
                  refine Scr.take (v := .bool true) rfl rfl (yw_pure (by rfl) (fun _ => by go_simp)) HU.out ?_
                  simp only [Act.put, List.setIfInBounds_toArray, List.set_cons_zero, List.set_cons_succ]
                  refine Scr.take (v := .bool true) rfl rfl (yw_pure (by rfl) (fun _ => by go_simp)) HU.out ?_
                  simp only [Act.put, List.setIfInBounds_toArray, List.set_cons_zero, List.set_cons_succ]
                  refine Scr.take (v := .slice (some ad) l.length d) rfl rfl (yw_pure (by rfl) (fun _ => by go_simp)) HU.out ?_
                  simp only [Act.put, List.setIfInBounds_toArray, List.set_cons_zero, List.set_cons_succ]
                  refine Scr.take (v := .int .i64 i) rfl rfl (yw_pure (by rfl) (fun _ => by go_simp)) HU.out ?_
                  simp only [Act.put, List.setIfInBounds_toArray, List.set_cons_zero, List.set_cons_succ]
                  refine Scr.take (v := .pointer (some (ad.add (i * 2)))) rfl rfl (yw_pure (by rfl) (fun _ => by go_simp)) HU.out ?_
                  simp only [Act.put, List.setIfInBounds_toArray, List.set_cons_zero, List.set_cons_succ]
                  refine Scr.take (v := .pointer (some (ad.add (i * 2)))) rfl rfl (yw_pure (by rfl) (fun _ => by go_simp)) HU.out ?_
                  simp only [Act.put, List.setIfInBounds_toArray, List.set_cons_zero, List.set_cons_succ]
                  refine Scr.take (v := .int .i32 x.lo) rfl rfl (yw_cell 21 _ rfl (ad.add (i * 2)) (.int .i32 x.lo) rfl (by rfl) _ Tryd.underlying21 rfl (fun W hS => (HC.out W (HV.out.trans (hS.mono HV.out.size))).1)) HU.out ?_
                  simp only [Act.put, List.setIfInBounds_toArray, List.set_cons_zero, List.set_cons_succ]
                  refine Scr.take (v := .slice (some ad) l.length d) rfl rfl (yw_pure (by rfl) (fun _ => by go_simp)) HU.out ?_
                  simp only [Act.put, List.setIfInBounds_toArray, List.set_cons_zero, List.set_cons_succ]
                  refine Scr.take (v := .int .i64 i) rfl rfl (yw_pure (by rfl) (fun _ => by go_simp)) HU.out ?_
                  simp only [Act.put, List.setIfInBounds_toArray, List.set_cons_zero, List.set_cons_succ]
                  refine Scr.take (v := .int .i64 i1) rfl rfl (yw_pure (by rfl) (fun _ => by go_simp)) HU.out ?_
                  simp only [Act.put, List.setIfInBounds_toArray, List.set_cons_zero, List.set_cons_succ]
                  refine Scr.take (v := .pointer (some (ad.add (i1 * 2)))) rfl rfl (yw_pure (by rfl) (fun _ => by go_simp)) HU.out ?_
                  simp only [Act.put, List.setIfInBounds_toArray, List.set_cons_zero, List.set_cons_succ]
                  refine Scr.take (v := .pointer (some ⟨(ad.add (i1 * 2)).block, (ad.add (i1 * 2)).off + 1, none⟩)) rfl rfl (yw_pure (by rfl) (fun _ => by go_simp)) HU.out ?_
                  simp only [Act.put, List.setIfInBounds_toArray, List.set_cons_zero, List.set_cons_succ]
                  refine Scr.take (v := .int .i32 yhi) rfl rfl (yw_cell 21 _ rfl ⟨(ad.add (i1 * 2)).block, (ad.add (i1 * 2)).off + 1, none⟩ (.int .i32 yhi) rfl (by rfl) _ Tryd.underlying21 rfl (fun W hS => (HC.out W (HV.out.trans (hS.mono HV.out.size))).2.2)) HU.out ?_
                  simp only [Act.put, List.setIfInBounds_toArray, List.set_cons_zero, List.set_cons_succ]
                  refine Scr.take (v := .bool false) rfl rfl (yw_pure (by rfl) (fun _ => by go_simp)) HU.out ?_
                  simp only [Act.put, List.setIfInBounds_toArray, List.set_cons_zero, List.set_cons_succ]
                  refine Scr.take (v := .bool false) rfl rfl (yw_pure (by rfl) (fun _ => by go_simp)) HU.out ?_
                  simp only [Act.put, List.setIfInBounds_toArray, List.set_cons_zero, List.set_cons_succ]
                  refine Scr.take (v := .slice (some ad) l.length d) rfl rfl (yw_pure (by rfl) (fun _ => by go_simp)) HU.out ?_
                  simp only [Act.put, List.setIfInBounds_toArray, List.set_cons_zero, List.set_cons_succ]
                  refine Scr.take (v := .int .i64 i) rfl rfl (yw_pure (by rfl) (fun _ => by go_simp)) HU.out ?_
                  simp only [Act.put, List.setIfInBounds_toArray, List.set_cons_zero, List.set_cons_succ]
                  refine Scr.take (v := .pointer (some (ad.add (i * 2)))) rfl rfl (yw_pure (by rfl) (fun _ => by go_simp)) HU.out ?_
                  simp only [Act.put, List.setIfInBounds_toArray, List.set_cons_zero, List.set_cons_succ]
                  refine Scr.take (v := .pointer (some (ad.add (i * 2)))) rfl rfl (yw_pure (by rfl) (fun _ => by go_simp)) HU.out ?_
                  simp only [Act.put, List.setIfInBounds_toArray, List.set_cons_zero, List.set_cons_succ]
                  refine Scr.take (v := .int .i32 x.lo) rfl rfl (yw_cell 21 _ rfl (ad.add (i * 2)) (.int .i32 x.lo) rfl (by rfl) _ Tryd.underlying21 rfl (fun W hS => (HC.out W (HV.out.trans (hS.mono HV.out.size))).1)) HU.out ?_
                  simp only [Act.put, List.setIfInBounds_toArray, List.set_cons_zero, List.set_cons_succ]
                  refine Scr.take (v := .slice (some ad) l.length d) rfl rfl (yw_pure (by rfl) (fun _ => by go_simp)) HU.out ?_
                  simp only [Act.put, List.setIfInBounds_toArray, List.set_cons_zero, List.set_cons_succ]
                  refine Scr.take (v := .int .i64 i) rfl rfl (yw_pure (by rfl) (fun _ => by go_simp)) HU.out ?_
                  simp only [Act.put, List.setIfInBounds_toArray, List.set_cons_zero, List.set_cons_succ]
                  refine Scr.take (v := .int .i64 i1) rfl rfl (yw_pure (by rfl) (fun _ => by go_simp)) HU.out ?_
                  simp only [Act.put, List.setIfInBounds_toArray, List.set_cons_zero, List.set_cons_succ]
                  refine Scr.take (v := .pointer (some (ad.add (i1 * 2)))) rfl rfl (yw_pure (by rfl) (fun _ => by go_simp)) HU.out ?_
                  simp only [Act.put, List.setIfInBounds_toArray, List.set_cons_zero, List.set_cons_succ]
                  refine Scr.take (v := .pointer (some ⟨(ad.add (i1 * 2)).block, (ad.add (i1 * 2)).off + 1, none⟩)) rfl rfl (yw_pure (by rfl) (fun _ => by go_simp)) HU.out ?_
                  simp only [Act.put, List.setIfInBounds_toArray, List.set_cons_zero, List.set_cons_succ]
                  refine Scr.take (v := .int .i32 yhi) rfl rfl (yw_cell 21 _ rfl ⟨(ad.add (i1 * 2)).block, (ad.add (i1 * 2)).off + 1, none⟩ (.int .i32 yhi) rfl (by rfl) _ Tryd.underlying21 rfl (fun W hS => (HC.out W (HV.out.trans (hS.mono HV.out.size))).2.2)) HU.out ?_
                  simp only [Act.put, List.setIfInBounds_toArray, List.set_cons_zero, List.set_cons_succ]
                  refine Scr.take (v := .int .i32 (x.lo - yhi)) rfl rfl (yw_pure (by rfl) (fun _ => by go_simp)) HU.out ?_
                  simp only [Act.put, List.setIfInBounds_toArray, List.set_cons_zero, List.set_cons_succ]
                  refine Scr.take (v := .bool true) rfl rfl (yw_pure (by rfl) (fun _ => by go_simp)) HU.out ?_
                  simp only [Act.put, List.setIfInBounds_toArray, List.set_cons_zero, List.set_cons_succ]
                  refine Scr.take (v := .bool true) rfl rfl (yw_pure (by rfl) (fun _ => by go_simp)) HU.out ?_
                  simp only [Act.put, List.setIfInBounds_toArray, List.set_cons_zero, List.set_cons_succ]
                  refine Scr.take (v := .bool true) rfl rfl (yw_pure (by rfl) (fun _ => by go_simp)) HU.out ?_
                  simp only [Act.put, List.setIfInBounds_toArray, List.set_cons_zero, List.set_cons_succ]
                  simp only [Scr]
                  go_wp2_with fail
                  go_ret
                  exact ⟨by rw [HF.out]; rfl, HB.out.trans ((HV.out.trans (HU.out.mono HV.out.size)).mono HB.out.size)⟩
                · have d2 : decide (x.lo - yhi < 2) = false := decide_eq_false hd2
                  have HG := Lib.hid (HG2.out hrg (by omega))
                  clear hrg
                  go_wp2_with fail
                  refine wp_region_scr (fun W' => Below X.heap.size X W') [(true, 0, 10), (true, 1, 11), (true, 2, 12), (true, 3, 13), (true, 4, 14), (true, 5, 15), (true, 6, 16), (true, 7, 17), (true, 8, 18), (true, 9, 19), (true, 10, 20), (true, 11, 21), (true, 12, 22), (true, 13, 23), (true, 14, 24), (true, 15, 25), (true, 16, 26), (true, 17, 27), (true, 18, 28), (true, 19, 29), (true, 20, 30), (true, 21, 31), (true, 22, 32), (true, 23, 33), (true, 24, 34), (true, 25, 35), (true, 26, 36)] (by kernel_rfl) (by kernel_rfl) (fun _ _ _ _ _ h => h) rfl (by kernel_rfl) ?_
                  have HV := Lib.hid (show Below X.heap.size X X.drew from (Below.refl _ _).drew)
                  refine Scr.take (v := .slice (some ad) l.length d) rfl rfl (yw_pure (by rfl) (fun _ => by go_simp)) HV.out ?_
                  simp only [Act.put, List.setIfInBounds_toArray, List.set_cons_zero, List.set_cons_succ]
                  refine Scr.take (v := .int .i64 i) rfl rfl (yw_pure (by rfl) (fun _ => by go_simp)) HV.out ?_
                  simp only [Act.put, List.setIfInBounds_toArray, List.set_cons_zero, List.set_cons_succ]
                  refine Scr.take (v := .pointer (some (ad.add (i * 2)))) rfl rfl (yw_pure (by rfl) (fun _ => by go_simp)) HV.out ?_
                  simp only [Act.put, List.setIfInBounds_toArray, List.set_cons_zero, List.set_cons_succ]
                  refine Scr.take (v := .pointer (some (ad.add (i * 2)))) rfl rfl (yw_pure (by rfl) (fun _ => by go_simp)) HV.out ?_
                  simp only [Act.put, List.setIfInBounds_toArray, List.set_cons_zero, List.set_cons_succ]
                  refine Scr.take (v := .int .i32 x.lo) rfl rfl (yw_cell 21 _ rfl (ad.add (i * 2)) (.int .i32 x.lo) rfl (by rfl) _ Tryd.underlying21 rfl (fun W hS => (HC.out W hS).1)) HV.out ?_
                  simp only [Act.put, List.setIfInBounds_toArray, List.set_cons_zero, List.set_cons_succ]
                  refine Scr.take (v := .bool false) rfl rfl (yw_pure (by rfl) (fun _ => by go_simp)) HV.out ?_
                  simp only [Act.put, List.setIfInBounds_toArray, List.set_cons_zero, List.set_cons_succ]
                  refine Scr.take (v := .bool false) rfl rfl (yw_pure (by rfl) (fun _ => by go_simp)) HV.out ?_
                  simp only [Act.put, List.setIfInBounds_toArray, List.set_cons_zero, List.set_cons_succ]
                  refine Scr.take (v := .slice (some ad) l.length d) rfl rfl (yw_pure (by rfl) (fun _ => by go_simp)) HV.out ?_
                  simp only [Act.put, List.setIfInBounds_toArray, List.set_cons_zero, List.set_cons_succ]
                  refine Scr.take (v := .int .i64 i) rfl rfl (yw_pure (by rfl) (fun _ => by go_simp)) HV.out ?_
                  simp only [Act.put, List.setIfInBounds_toArray, List.set_cons_zero, List.set_cons_succ]
                  refine Scr.take (v := .pointer (some (ad.add (i * 2)))) rfl rfl (yw_pure (by rfl) (fun _ => by go_simp)) HV.out ?_
                  simp only [Act.put, List.setIfInBounds_toArray, List.set_cons_zero, List.set_cons_succ]
                  refine Scr.take (v := .pointer (some ⟨(ad.add (i * 2)).block, (ad.add (i * 2)).off + 1, none⟩)) rfl rfl (yw_pure (by rfl) (fun _ => by go_simp)) HV.out ?_
                  simp only [Act.put, List.setIfInBounds_toArray, List.set_cons_zero, List.set_cons_succ]
                  refine Scr.take (v := .int .i32 x.hi) rfl rfl (yw_cell 21 _ rfl ⟨(ad.add (i * 2)).block, (ad.add (i * 2)).off + 1, none⟩ (.int .i32 x.hi) rfl (by rfl) _ Tryd.underlying21 rfl (fun W hS => (HC.out W hS).2.1)) HV.out ?_
                  simp only [Act.put, List.setIfInBounds_toArray, List.set_cons_zero, List.set_cons_succ]
                  refine Scr.take (v := .bool false) rfl rfl (yw_pure (by rfl) (fun _ => by go_simp)) HV.out ?_
                  simp only [Act.put, List.setIfInBounds_toArray, List.set_cons_zero, List.set_cons_succ]
                  refine Scr.take (v := .bool false) rfl rfl (yw_pure (by rfl) (fun _ => by go_simp)) HV.out ?_
                  simp only [Act.put, List.setIfInBounds_toArray, List.set_cons_zero, List.set_cons_succ]
                  refine Scr.take (v := .bool false) rfl rfl (yw_pure (by rfl) (fun _ => by go_simp)) HV.out ?_
                  simp only [Act.put, List.setIfInBounds_toArray, List.set_cons_zero, List.set_cons_succ]
                  refine Scr.take (v := .slice (some ad) l.length d) rfl rfl (yw_pure (by rfl) (fun _ => by go_simp)) HV.out ?_
                  simp only [Act.put, List.setIfInBounds_toArray, List.set_cons_zero, List.set_cons_succ]
                  refine Scr.take (v := .int .i64 i) rfl rfl (yw_pure (by rfl) (fun _ => by go_simp)) HV.out ?_
                  simp only [Act.put, List.setIfInBounds_toArray, List.set_cons_zero, List.set_cons_succ]
                  refine Scr.take (v := .pointer (some (ad.add (i * 2)))) rfl rfl (yw_pure (by rfl) (fun _ => by go_simp)) HV.out ?_
                  simp only [Act.put, List.setIfInBounds_toArray, List.set_cons_zero, List.set_cons_succ]
                  refine Scr.take (v := .pointer (some (ad.add (i * 2)))) rfl rfl (yw_pure (by rfl) (fun _ => by go_simp)) HV.out ?_
                  simp only [Act.put, List.setIfInBounds_toArray, List.set_cons_zero, List.set_cons_succ]
                  refine Scr.take (v := .int .i32 x.lo) rfl rfl (yw_cell 21 _ rfl (ad.add (i * 2)) (.int .i32 x.lo) rfl (by rfl) _ Tryd.underlying21 rfl (fun W hS => (HC.out W hS).1)) HV.out ?_
                  simp only [Act.put, List.setIfInBounds_toArray, List.set_cons_zero, List.set_cons_succ]
                  refine Scr.take (v := .slice (some ad) l.length d) rfl rfl (yw_pure (by rfl) (fun _ => by go_simp)) HV.out ?_
                  simp only [Act.put, List.setIfInBounds_toArray, List.set_cons_zero, List.set_cons_succ]
                  refine Scr.take (v := .int .i64 i) rfl rfl (yw_pure (by rfl) (fun _ => by go_simp)) HV.out ?_
                  simp only [Act.put, List.setIfInBounds_toArray, List.set_cons_zero, List.set_cons_succ]
                  refine Scr.take (v := .pointer (some (ad.add (i * 2)))) rfl rfl (yw_pure (by rfl) (fun _ => by go_simp)) HV.out ?_
                  simp only [Act.put, List.setIfInBounds_toArray, List.set_cons_zero, List.set_cons_succ]
                  refine Scr.take (v := .pointer (some ⟨(ad.add (i * 2)).block, (ad.add (i * 2)).off + 1, none⟩)) rfl rfl (yw_pure (by rfl) (fun _ => by go_simp)) HV.out ?_
                  simp only [Act.put, List.setIfInBounds_toArray, List.set_cons_zero, List.set_cons_succ]
                  refine Scr.take (v := .int .i32 x.hi) rfl rfl (yw_cell 21 _ rfl ⟨(ad.add (i * 2)).block, (ad.add (i * 2)).off + 1, none⟩ (.int .i32 x.hi) rfl (by rfl) _ Tryd.underlying21 rfl (fun W hS => (HC.out W hS).2.1)) HV.out ?_
                  simp only [Act.put, List.setIfInBounds_toArray, List.set_cons_zero, List.set_cons_succ]
                  refine Scr.take (v := .bool false) rfl rfl (yw_pure (by rfl) (fun _ => by go_simp)) HV.out ?_
                  simp only [Act.put, List.setIfInBounds_toArray, List.set_cons_zero, List.set_cons_succ]
                  refine Scr.take (v := .bool false) rfl rfl (yw_pure (by rfl) (fun _ => by go_simp)) HV.out ?_
                  simp only [Act.put, List.setIfInBounds_toArray, List.set_cons_zero, List.set_cons_succ]
                  simp only [Scr]
                  obtain ⟨Y, hY⟩ : ∃ Y, X.drew = Y := ⟨_, rfl⟩
                  rw [hY] at HV ⊢
                  clear hY
                  go_wp2_with fail
                  refine wp_region_scr (fun W' => Below Y.heap.size Y W') [(true, 0, 37), (true, 1, 38), (true, 2, 39), (true, 3, 40), (true, 4, 41), (true, 5, 42), (true, 6, 43), (true, 7, 44), (true, 8, 45), (true, 9, 46), (true, 10, 47), (true, 11, 48), (true, 12, 49), (true, 13, 50), (true, 14, 51), (true, 15, 52), (true, 16, 53), (true, 17, 54), (true, 18, 55), (true, 19, 56), (true, 20, 57), (true, 21, 58), (true, 22, 59), (true, 23, 60), (true, 24, 61), (true, 25, 62), (true, 26, 63), (true, 27, 64), (true, 28, 65), (true, 29, 66), (true, 30, 67)] (by kernel_rfl) (by kernel_rfl) (fun _ _ _ _ _ h => h) rfl (by kernel_rfl) ?_
                  have HU := Lib.hid (show Below Y.heap.size Y Y.drew from (Below.refl _ _).drew)
                  refine Scr.take (v := .int .i64 i) rfl rfl (yw_pure (by rfl) (fun _ => by go_simp)) HU.out ?_
                  simp only [Act.put, List.setIfInBounds_toArray, List.set_cons_zero, List.set_cons_succ]
                  refine Scr.take (v := .bool true) rfl rfl (yw_pure (by rfl) (fun _ => by go_simp)) HU.out ?_
                  simp only [Act.put, List.setIfInBounds_toArray, List.set_cons_zero, List.set_cons_succ]
                  refine Scr.take (v := .bool true) rfl rfl (yw_pure (by rfl) (fun _ => by go_simp)) HU.out ?_
                  simp only [Act.put, List.setIfInBounds_toArray, List.set_cons_zero, List.set_cons_succ]
                  refine Scr.take (v := .slice (some ad) l.length d) rfl rfl (yw_pure (by rfl) (fun _ => by go_simp)) HU.out ?_
                  simp only [Act.put, List.setIfInBounds_toArray, List.set_cons_zero, List.set_cons_succ]
                  refine Scr.take (v := .int .i64 i) rfl rfl (yw_pure (by rfl) (fun _ => by go_simp)) HU.out ?_
                  simp only [Act.put, List.setIfInBounds_toArray, List.set_cons_zero, List.set_cons_succ]
                  refine Scr.take (v := .pointer (some (ad.add (i * 2)))) rfl rfl (yw_pure (by rfl) (fun _ => by go_simp)) HU.out ?_
                  simp only [Act.put, List.setIfInBounds_toArray, List.set_cons_zero, List.set_cons_succ]
                  refine Scr.take (v := .pointer (some (ad.add (i * 2)))) rfl rfl (yw_pure (by rfl) (fun _ => by go_simp)) HU.out ?_
                  simp only [Act.put, List.setIfInBounds_toArray, List.set_cons_zero, List.set_cons_succ]
                  refine Scr.take (v := .int .i32 x.lo) rfl rfl (yw_cell 21 _ rfl (ad.add (i * 2)) (.int .i32 x.lo) rfl (by rfl) _ Tryd.underlying21 rfl (fun W hS => (HC.out W (HV.out.trans (hS.mono HV.out.size))).1)) HU.out ?_
                  simp only [Act.put, List.setIfInBounds_toArray, List.set_cons_zero, List.set_cons_succ]
                  refine Scr.take (v := .slice (some ad) l.length d) rfl rfl (yw_pure (by rfl) (fun _ => by go_simp)) HU.out ?_
                  simp only [Act.put, List.setIfInBounds_toArray, List.set_cons_zero, List.set_cons_succ]
                  refine Scr.take (v := .int .i64 i) rfl rfl (yw_pure (by rfl) (fun _ => by go_simp)) HU.out ?_
                  simp only [Act.put, List.setIfInBounds_toArray, List.set_cons_zero, List.set_cons_succ]
                  refine Scr.take (v := .int .i64 i1) rfl rfl (yw_pure (by rfl) (fun _ => by go_simp)) HU.out ?_
                  simp only [Act.put, List.setIfInBounds_toArray, List.set_cons_zero, List.set_cons_succ]
                  refine Scr.take (v := .pointer (some (ad.add (i1 * 2)))) rfl rfl (yw_pure (by rfl) (fun _ => by go_simp)) HU.out ?_
                  simp only [Act.put, List.setIfInBounds_toArray, List.set_cons_zero, List.set_cons_succ]
                  refine Scr.take (v := .pointer (some ⟨(ad.add (i1 * 2)).block, (ad.add (i1 * 2)).off + 1, none⟩)) rfl rfl (yw_pure (by rfl) (fun _ => by go_simp)) HU.out ?_
                  simp only [Act.put, List.setIfInBounds_toArray, List.set_cons_zero, List.set_cons_succ]
                  refine Scr.take (v := .int .i32 yhi) rfl rfl (yw_cell 21 _ rfl ⟨(ad.add (i1 * 2)).block, (ad.add (i1 * 2)).off + 1, none⟩ (.int .i32 yhi) rfl (by rfl) _ Tryd.underlying21 rfl (fun W hS => (HC.out W (HV.out.trans (hS.mono HV.out.size))).2.2)) HU.out ?_
                  simp only [Act.put, List.setIfInBounds_toArray, List.set_cons_zero, List.set_cons_succ]
                  refine Scr.take (v := .bool false) rfl rfl (yw_pure (by rfl) (fun _ => by go_simp)) HU.out ?_
                  simp only [Act.put, List.setIfInBounds_toArray, List.set_cons_zero, List.set_cons_succ]
                  refine Scr.take (v := .bool false) rfl rfl (yw_pure (by rfl) (fun _ => by go_simp)) HU.out ?_
                  simp only [Act.put, List.setIfInBounds_toArray, List.set_cons_zero, List.set_cons_succ]
                  refine Scr.take (v := .slice (some ad) l.length d) rfl rfl (yw_pure (by rfl) (fun _ => by go_simp)) HU.out ?_
                  simp only [Act.put, List.setIfInBounds_toArray, List.set_cons_zero, List.set_cons_succ]
                  refine Scr.take (v := .int .i64 i) rfl rfl (yw_pure (by rfl) (fun _ => by go_simp)) HU.out ?_
                  simp only [Act.put, List.setIfInBounds_toArray, List.set_cons_zero, List.set_cons_succ]
                  refine Scr.take (v := .pointer (some (ad.add (i * 2)))) rfl rfl (yw_pure (by rfl) (fun _ => by go_simp)) HU.out ?_
                  simp only [Act.put, List.setIfInBounds_toArray, List.set_cons_zero, List.set_cons_succ]
                  refine Scr.take (v := .pointer (some (ad.add (i * 2)))) rfl rfl (yw_pure (by rfl) (fun _ => by go_simp)) HU.out ?_
                  simp only [Act.put, List.setIfInBounds_toArray, List.set_cons_zero, List.set_cons_succ]
                  refine Scr.take (v := .int .i32 x.lo) rfl rfl (yw_cell 21 _ rfl (ad.add (i * 2)) (.int .i32 x.lo) rfl (by rfl) _ Tryd.underlying21 rfl (fun W hS => (HC.out W (HV.out.trans (hS.mono HV.out.size))).1)) HU.out ?_
                  simp only [Act.put, List.setIfInBounds_toArray, List.set_cons_zero, List.set_cons_succ]
                  refine Scr.take (v := .slice (some ad) l.length d) rfl rfl (yw_pure (by rfl) (fun _ => by go_simp)) HU.out ?_
                  simp only [Act.put, List.setIfInBounds_toArray, List.set_cons_zero, List.set_cons_succ]
                  refine Scr.take (v := .int .i64 i) rfl rfl (yw_pure (by rfl) (fun _ => by go_simp)) HU.out ?_
                  simp only [Act.put, List.setIfInBounds_toArray, List.set_cons_zero, List.set_cons_succ]
                  refine Scr.take (v := .int .i64 i1) rfl rfl (yw_pure (by rfl) (fun _ => by go_simp)) HU.out ?_
                  simp only [Act.put, List.setIfInBounds_toArray, List.set_cons_zero, List.set_cons_succ]
                  refine Scr.take (v := .pointer (some (ad.add (i1 * 2)))) rfl rfl (yw_pure (by rfl) (fun _ => by go_simp)) HU.out ?_
                  simp only [Act.put, List.setIfInBounds_toArray, List.set_cons_zero, List.set_cons_succ]
                  refine Scr.take (v := .pointer (some ⟨(ad.add (i1 * 2)).block, (ad.add (i1 * 2)).off + 1, none⟩)) rfl rfl (yw_pure (by rfl) (fun _ => by go_simp)) HU.out ?_
                  simp only [Act.put, List.setIfInBounds_toArray, List.set_cons_zero, List.set_cons_succ]
                  refine Scr.take (v := .int .i32 yhi) rfl rfl (yw_cell 21 _ rfl ⟨(ad.add (i1 * 2)).block, (ad.add (i1 * 2)).off + 1, none⟩ (.int .i32 yhi) rfl (by rfl) _ Tryd.underlying21 rfl (fun W hS => (HC.out W (HV.out.trans (hS.mono HV.out.size))).2.2)) HU.out ?_
                  simp only [Act.put, List.setIfInBounds_toArray, List.set_cons_zero, List.set_cons_succ]
                  refine Scr.take (v := .int .i32 (x.lo - yhi)) rfl rfl (yw_pure (by rfl) (fun _ => by go_simp)) HU.out ?_
                  simp only [Act.put, List.setIfInBounds_toArray, List.set_cons_zero, List.set_cons_succ]
                  refine Scr.take (v := .bool false) rfl rfl (yw_pure (by rfl) (fun _ => by go_simp)) HU.out ?_
                  simp only [Act.put, List.setIfInBounds_toArray, List.set_cons_zero, List.set_cons_succ]
                  refine Scr.take (v := .bool false) rfl rfl (yw_pure (by rfl) (fun _ => by go_simp)) HU.out ?_
                  simp only [Act.put, List.setIfInBounds_toArray, List.set_cons_zero, List.set_cons_succ]
                  refine Scr.take (v := .bool false) rfl rfl (yw_pure (by rfl) (fun _ => by go_simp)) HU.out ?_
                  simp only [Act.put, List.setIfInBounds_toArray, List.set_cons_zero, List.set_cons_succ]
                  simp only [Scr]
                  go_wp2_with fail
                  go_roundg (gk - 1)
                  case measure => omega
                  case rel => exact ⟨i + 1, by go_num, by omega, by omega, HG, HB.out.trans ((HV.out.trans (HU.out.mono HV.out.size)).mono HB.out.size)⟩
    · have hdi : decide ((i : Int) < (l.length : Int)) = false := decide_eq_false (by omega)
      have HF : Hid (rightR l = true) := Lib.hid (right_yes (fun j hj => HF0.out j (by omega)))
      go_wp2_with fail
      go_ret
      exact ⟨by rw [HF.out]; rfl, hB⟩
end Go.Proofs.YthclpabmbhpohaaDoor
