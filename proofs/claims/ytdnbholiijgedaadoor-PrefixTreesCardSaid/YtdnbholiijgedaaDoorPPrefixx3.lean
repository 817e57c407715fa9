-- PRINTED BY print.sh 35421559b90ae4d0a3588c463048766b98c2df88dd9212a6774a882060cdf62d: not written by this session
import Derived.Test.YtdnbholiijgedaaDoorPPrefixx0
import Derived.Test.YtdnbholiijgedaaDoorPPrefixx1
import Derived.Test.YtdnbholiijgedaaDoorPPrefixx2
namespace Go.Proofs.YtdnbholiijgedaaDoor.PPrefix
open Go.RowKit Go.Proofs.YtdnbholiijgedaaDoorW.PrintWords Go.Proofs.YtdnbholiijgedaaDoorW.PrintLast Go.Proofs.YtdnbholiijgedaaDoorW.PrintMore
attribute [local go_sem] max2_int min2_int max_two min_two max_three min_three max_four min_four   -- for this text's walks alone
set_option linter.unusedVariables false
set_option linter.unusedSimpArgs false

/-! ### martelloref05_fields: function 30 -/
mutual
def martelloref05_fields.j0 : Nat → Bool → Int → List (S27) → Int → List (S84) → Int → Int → ByteArray → Int → Int → Bool → Option (Bool)
  | 0, _, _, _, _, _, _, _, _, _, _, _ => none
  | k + 1, x12, x110000, x110001, x110002, x110003, x110004, x110005, x110006, x110007, x110008, x110009 => if x12 = true then (some false) else (if x110000 = 3 then (if x110000 = 4 then (if x110000 = 5 then (martelloref05_fields.j1 k false x110000 x110001 x110002 x110003 x110004 x110005 x110006 x110007 x110008 x110009) else (martelloref05_fields.j1 k (x110004 != 0) x110000 x110001 x110002 x110003 x110004 x110005 x110006 x110007 x110008 x110009)) else (if (x110003.length : Int) > 0 then (martelloref05_fields.j1 k true x110000 x110001 x110002 x110003 x110004 x110005 x110006 x110007 x110008 x110009) else (if x110000 = 5 then (martelloref05_fields.j1 k false x110000 x110001 x110002 x110003 x110004 x110005 x110006 x110007 x110008 x110009) else (martelloref05_fields.j1 k (x110004 != 0) x110000 x110001 x110002 x110003 x110004 x110005 x110006 x110007 x110008 x110009)))) else (if x110002 = 0 then (if x110000 = 4 then (if x110000 = 5 then (martelloref05_fields.j1 k false x110000 x110001 x110002 x110003 x110004 x110005 x110006 x110007 x110008 x110009) else (martelloref05_fields.j1 k (x110004 != 0) x110000 x110001 x110002 x110003 x110004 x110005 x110006 x110007 x110008 x110009)) else (if (x110003.length : Int) > 0 then (martelloref05_fields.j1 k true x110000 x110001 x110002 x110003 x110004 x110005 x110006 x110007 x110008 x110009) else (if x110000 = 5 then (martelloref05_fields.j1 k false x110000 x110001 x110002 x110003 x110004 x110005 x110006 x110007 x110008 x110009) else (martelloref05_fields.j1 k (x110004 != 0) x110000 x110001 x110002 x110003 x110004 x110005 x110006 x110007 x110008 x110009)))) else (martelloref05_fields.j1 k true x110000 x110001 x110002 x110003 x110004 x110005 x110006 x110007 x110008 x110009)))
def martelloref05_fields.j1 : Nat → Bool → Int → List (S27) → Int → List (S84) → Int → Int → ByteArray → Int → Int → Bool → Option (Bool)
  | 0, _, _, _, _, _, _, _, _, _, _, _ => none
  | k + 1, x41, x110000, x110001, x110002, x110003, x110004, x110005, x110006, x110007, x110008, x110009 => if x41 = true then (some false) else (if x110000 = 6 then (if x110000 = 10 then (martelloref05_fields.j2 k false x110000 x110001 x110002 x110003 x110004 x110005 x110006 x110007 x110008 x110009) else (if x110007 = 0 then (martelloref05_fields.j2 k (x110008 != 0) x110000 x110001 x110002 x110003 x110004 x110005 x110006 x110007 x110008 x110009) else (martelloref05_fields.j2 k true x110000 x110001 x110002 x110003 x110004 x110005 x110006 x110007 x110008 x110009))) else (if x110005 = 0 then (if x110006.toList = ([] : List UInt8) then (if x110000 = 10 then (martelloref05_fields.j2 k false x110000 x110001 x110002 x110003 x110004 x110005 x110006 x110007 x110008 x110009) else (if x110007 = 0 then (martelloref05_fields.j2 k (x110008 != 0) x110000 x110001 x110002 x110003 x110004 x110005 x110006 x110007 x110008 x110009) else (martelloref05_fields.j2 k true x110000 x110001 x110002 x110003 x110004 x110005 x110006 x110007 x110008 x110009))) else (martelloref05_fields.j2 k true x110000 x110001 x110002 x110003 x110004 x110005 x110006 x110007 x110008 x110009)) else (martelloref05_fields.j2 k true x110000 x110001 x110002 x110003 x110004 x110005 x110006 x110007 x110008 x110009)))
def martelloref05_fields.j2 : Nat → Bool → Int → List (S27) → Int → List (S84) → Int → Int → ByteArray → Int → Int → Bool → Option (Bool)
  | 0, _, _, _, _, _, _, _, _, _, _, _ => none
  | k + 1, x69, x110000, x110001, x110002, x110003, x110004, x110005, x110006, x110007, x110008, x110009 => if x69 = true then (some false) else (if x110009 = true then (if x110000 < 7 then (martelloref05_fields.j3 k true x110000 x110001 x110002 x110003 x110004 x110005 x110006 x110007 x110008 x110009) else (martelloref05_fields.j3 k (decide (x110000 > 10)) x110000 x110001 x110002 x110003 x110004 x110005 x110006 x110007 x110008 x110009)) else (martelloref05_fields.j3 k false x110000 x110001 x110002 x110003 x110004 x110005 x110006 x110007 x110008 x110009))
def martelloref05_fields.j3 : Nat → Bool → Int → List (S27) → Int → List (S84) → Int → Int → ByteArray → Int → Int → Bool → Option (Bool)
  | 0, _, _, _, _, _, _, _, _, _, _, _ => none
  | k + 1, x81, x110000, x110001, x110002, x110003, x110004, x110005, x110006, x110007, x110008, x110009 => if x81 = true then (some false) else (if x110000 = 3 then (if x110002 ≥ 0 then (some (decide (x110002 ≤ 1114111))) else (some false)) else (if x110000 = 4 then ((martelloref02_Right.f k x110003).bind fun t110 => (if t110 = true then (some (decide ((x110003.length : Int) > 0))) else (some false))) else (if x110000 = 5 then (if x110004 = 1 then (some true) else (if x110004 = 2 then (some true) else (if x110004 = 4 then (some true) else (if x110004 = 8 then (some true) else (if x110004 = 16 then (some true) else (some (x110004 == 32))))))) else (if x110000 = 6 then ((martelloref05_Name.f k x110006).bind fun t111 => (if x110006.toList = ([] : List UInt8) then (some true) else (some t111))) else (if x110000 = 10 then (if x110007 < 0 then (some false) else (if x110007 > 1000 then (some false) else (if x110008 = (-1) then (some true) else (if x110008 ≥ x110007 then (some (decide (x110008 ≤ 1000))) else (some false))))) else (some true))))))
end
def martelloref05_fields.f (k : Nat) (a0_0 : Int) (l0_1 : List (S27)) (a0_2 : Int) (l0_3 : List (S84)) (a0_4 : Int) (a0_5 : Int) (a0_6 : ByteArray) (a0_7 : Int) (a0_8 : Int) (a0_9 : Bool) : Option (Bool) := if a0_0 < 1 then (martelloref05_fields.j0 k true a0_0 l0_1 a0_2 l0_3 a0_4 a0_5 a0_6 a0_7 a0_8 a0_9) else (martelloref05_fields.j0 k (decide (a0_0 > 12)) a0_0 l0_1 a0_2 l0_3 a0_4 a0_5 a0_6 a0_7 a0_8 a0_9)
theorem martelloref05_fields.mono_l : ∀ k, (∀ y0 y1 y2 y3 y4 y5 y6 y7 y8 y9 y10, LeO (martelloref05_fields.j0 k y0 y1 y2 y3 y4 y5 y6 y7 y8 y9 y10) (martelloref05_fields.j0 (k + 1) y0 y1 y2 y3 y4 y5 y6 y7 y8 y9 y10)) ∧ (∀ y0 y1 y2 y3 y4 y5 y6 y7 y8 y9 y10, LeO (martelloref05_fields.j1 k y0 y1 y2 y3 y4 y5 y6 y7 y8 y9 y10) (martelloref05_fields.j1 (k + 1) y0 y1 y2 y3 y4 y5 y6 y7 y8 y9 y10)) ∧ (∀ y0 y1 y2 y3 y4 y5 y6 y7 y8 y9 y10, LeO (martelloref05_fields.j2 k y0 y1 y2 y3 y4 y5 y6 y7 y8 y9 y10) (martelloref05_fields.j2 (k + 1) y0 y1 y2 y3 y4 y5 y6 y7 y8 y9 y10)) ∧ (∀ y0 y1 y2 y3 y4 y5 y6 y7 y8 y9 y10, LeO (martelloref05_fields.j3 k y0 y1 y2 y3 y4 y5 y6 y7 y8 y9 y10) (martelloref05_fields.j3 (k + 1) y0 y1 y2 y3 y4 y5 y6 y7 y8 y9 y10))
  | 0 => ⟨fun _ _ _ _ _ _ _ _ _ _ _ r h => by simp [martelloref05_fields.j0] at h, fun _ _ _ _ _ _ _ _ _ _ _ r h => by simp [martelloref05_fields.j1] at h, fun _ _ _ _ _ _ _ _ _ _ _ r h => by simp [martelloref05_fields.j2] at h, fun _ _ _ _ _ _ _ _ _ _ _ r h => by simp [martelloref05_fields.j3] at h⟩
  | k + 1 => by
    obtain ⟨ih0, ih1, ih2, ih3⟩ := martelloref05_fields.mono_l k
    refine ⟨?_, ?_, ?_, ?_⟩
    · intro y0 y1 y2 y3 y4 y5 y6 y7 y8 y9 y10
      unfold martelloref05_fields.j0
      repeat' first
      | (with_reducible exact ih0 _ _ _ _ _ _ _ _ _ _ _)
      | (with_reducible exact ih1 _ _ _ _ _ _ _ _ _ _ _)
      | (with_reducible exact ih2 _ _ _ _ _ _ _ _ _ _ _)
      | (with_reducible exact ih3 _ _ _ _ _ _ _ _ _ _ _)
      | (with_reducible exact martelloref02_Right.mono _ _)
      | (with_reducible exact martelloref05_Name.mono _ _)
      | (with_reducible exact LeO.refl _)
      | (with_reducible exact LeO.none _)
      | (with_reducible refine LeO.ite ?_ ?_)
      | (with_reducible refine LeO.bind ?_ (fun _ => ?_))
      | exact ih0 _ _ _ _ _ _ _ _ _ _ _
      | exact ih1 _ _ _ _ _ _ _ _ _ _ _
      | exact ih2 _ _ _ _ _ _ _ _ _ _ _
      | exact ih3 _ _ _ _ _ _ _ _ _ _ _
      | exact martelloref02_Right.mono _ _
      | exact martelloref05_Name.mono _ _
      | exact LeO.none _
      | refine LeO.ite ?_ ?_
      | refine LeO.bind ?_ (fun _ => ?_)
    · intro y0 y1 y2 y3 y4 y5 y6 y7 y8 y9 y10
      unfold martelloref05_fields.j1
      repeat' first
      | (with_reducible exact ih0 _ _ _ _ _ _ _ _ _ _ _)
      | (with_reducible exact ih1 _ _ _ _ _ _ _ _ _ _ _)
      | (with_reducible exact ih2 _ _ _ _ _ _ _ _ _ _ _)
      | (with_reducible exact ih3 _ _ _ _ _ _ _ _ _ _ _)
      | (with_reducible exact martelloref02_Right.mono _ _)
      | (with_reducible exact martelloref05_Name.mono _ _)
      | (with_reducible exact LeO.refl _)
      | (with_reducible exact LeO.none _)
      | (with_reducible refine LeO.ite ?_ ?_)
      | (with_reducible refine LeO.bind ?_ (fun _ => ?_))
      | exact ih0 _ _ _ _ _ _ _ _ _ _ _
      | exact ih1 _ _ _ _ _ _ _ _ _ _ _
      | exact ih2 _ _ _ _ _ _ _ _ _ _ _
      | exact ih3 _ _ _ _ _ _ _ _ _ _ _
      | exact martelloref02_Right.mono _ _
      | exact martelloref05_Name.mono _ _
      | exact LeO.none _
      | refine LeO.ite ?_ ?_
      | refine LeO.bind ?_ (fun _ => ?_)
    · intro y0 y1 y2 y3 y4 y5 y6 y7 y8 y9 y10
      unfold martelloref05_fields.j2
      repeat' first
      | (with_reducible exact ih0 _ _ _ _ _ _ _ _ _ _ _)
      | (with_reducible exact ih1 _ _ _ _ _ _ _ _ _ _ _)
      | (with_reducible exact ih2 _ _ _ _ _ _ _ _ _ _ _)
      | (with_reducible exact ih3 _ _ _ _ _ _ _ _ _ _ _)
      | (with_reducible exact martelloref02_Right.mono _ _)
      | (with_reducible exact martelloref05_Name.mono _ _)
      | (with_reducible exact LeO.refl _)
      | (with_reducible exact LeO.none _)
      | (with_reducible refine LeO.ite ?_ ?_)
      | (with_reducible refine LeO.bind ?_ (fun _ => ?_))
      | exact ih0 _ _ _ _ _ _ _ _ _ _ _
      | exact ih1 _ _ _ _ _ _ _ _ _ _ _
      | exact ih2 _ _ _ _ _ _ _ _ _ _ _
      | exact ih3 _ _ _ _ _ _ _ _ _ _ _
      | exact martelloref02_Right.mono _ _
      | exact martelloref05_Name.mono _ _
      | exact LeO.none _
      | refine LeO.ite ?_ ?_
      | refine LeO.bind ?_ (fun _ => ?_)
    · intro y0 y1 y2 y3 y4 y5 y6 y7 y8 y9 y10
      unfold martelloref05_fields.j3
      repeat' first
      | (with_reducible exact ih0 _ _ _ _ _ _ _ _ _ _ _)
      | (with_reducible exact ih1 _ _ _ _ _ _ _ _ _ _ _)
      | (with_reducible exact ih2 _ _ _ _ _ _ _ _ _ _ _)
      | (with_reducible exact ih3 _ _ _ _ _ _ _ _ _ _ _)
      | (with_reducible exact martelloref02_Right.mono _ _)
      | (with_reducible exact martelloref05_Name.mono _ _)
      | (with_reducible exact LeO.refl _)
      | (with_reducible exact LeO.none _)
      | (with_reducible refine LeO.ite ?_ ?_)
      | (with_reducible refine LeO.bind ?_ (fun _ => ?_))
      | exact ih0 _ _ _ _ _ _ _ _ _ _ _
      | exact ih1 _ _ _ _ _ _ _ _ _ _ _
      | exact ih2 _ _ _ _ _ _ _ _ _ _ _
      | exact ih3 _ _ _ _ _ _ _ _ _ _ _
      | exact martelloref02_Right.mono _ _
      | exact martelloref05_Name.mono _ _
      | exact LeO.none _
      | refine LeO.ite ?_ ?_
      | refine LeO.bind ?_ (fun _ => ?_)
theorem martelloref05_fields.mono : ∀ a0 a1 a2 a3 a4 a5 a6 a7 a8 a9 k, LeO (martelloref05_fields.f k a0 a1 a2 a3 a4 a5 a6 a7 a8 a9) (martelloref05_fields.f (k + 1) a0 a1 a2 a3 a4 a5 a6 a7 a8 a9) := by
  intro a0 a1 a2 a3 a4 a5 a6 a7 a8 a9 k
  obtain ⟨ih0, ih1, ih2, ih3⟩ := martelloref05_fields.mono_l k
  unfold martelloref05_fields.f
  repeat' first
      | (with_reducible exact ih0 _ _ _ _ _ _ _ _ _ _ _)
      | (with_reducible exact ih1 _ _ _ _ _ _ _ _ _ _ _)
      | (with_reducible exact ih2 _ _ _ _ _ _ _ _ _ _ _)
      | (with_reducible exact ih3 _ _ _ _ _ _ _ _ _ _ _)
      | (with_reducible exact martelloref02_Right.mono _ _)
      | (with_reducible exact martelloref05_Name.mono _ _)
      | (with_reducible exact LeO.refl _)
      | (with_reducible exact LeO.none _)
      | (with_reducible refine LeO.ite ?_ ?_)
      | (with_reducible refine LeO.bind ?_ (fun _ => ?_))
      | exact ih0 _ _ _ _ _ _ _ _ _ _ _
      | exact ih1 _ _ _ _ _ _ _ _ _ _ _
      | exact ih2 _ _ _ _ _ _ _ _ _ _ _
      | exact ih3 _ _ _ _ _ _ _ _ _ _ _
      | exact martelloref02_Right.mono _ _
      | exact martelloref05_Name.mono _ _
      | exact LeO.none _
      | refine LeO.ite ?_ ?_
      | refine LeO.bind ?_ (fun _ => ?_)
set_option maxHeartbeats 8000000 in
set_option maxRecDepth 100000 in
theorem martelloref05_fields.calls (k : Nat) (a0_0 : Int) (A0_1 : Option Addr) (c0_1 : Nat) (l0_1 : List (S27)) (a0_2 : Int) (A0_3 : Option Addr) (c0_3 : Nat) (l0_3 : List (S84)) (a0_4 : Int) (a0_5 : Int) (a0_6 : ByteArray) (a0_7 : Int) (a0_8 : Int) (a0_9 : Bool) (r : Bool) (w : World) (hr0_1 : Kd.C k27 w A0_1 l0_1.length l0_1) (hc0_1 : l0_1.length ≤ c0_1) (hr0_3 : Kd.C k84 w A0_3 l0_3.length l0_3) (hc0_3 : l0_3.length ≤ c0_3) (h : martelloref05_fields.f k a0_0 l0_1 a0_2 l0_3 a0_4 a0_5 a0_6 a0_7 a0_8 a0_9 = some r) :
    Calls Tryd.prog 30 #[.agg #[.int .i64 a0_0, .slice A0_1 l0_1.length c0_1, .int .i32 a0_2, .slice A0_3 l0_3.length c0_3, .int .i64 a0_4, .int .i64 a0_5, .string a0_6, .int .i64 a0_7, .int .i64 a0_8, .bool a0_9]] w fun e w' => e = .returned (.bool r) ∧ Below w.heap.size w w' := by
  have hu27 := Tryd.underlying27
  have HR0_1 := Aside0.mk hr0_1
  have HC0_1 := Aside0.mk hc0_1
  clear hr0_1 hc0_1
  have HR0_3 := Aside0.mk hr0_3
  have HC0_3 := Aside0.mk hc0_3
  clear hr0_3 hc0_3
  have HB := Aside0.mk (Below.refl w.heap.size w)
  have H : (if a0_0 < 1 then (martelloref05_fields.j0 k true a0_0 l0_1 a0_2 l0_3 a0_4 a0_5 a0_6 a0_7 a0_8 a0_9) else (martelloref05_fields.j0 k (decide (a0_0 > 12)) a0_0 l0_1 a0_2 l0_3 a0_4 a0_5 a0_6 a0_7 a0_8 a0_9)) = some r := h
  clear h
  have HC2 := Aside0.mk H
  clear H
  go_enter Tryd.func30, Tryd.ntmps30
  go_upto_region 1 with (first | ((with_reducible refine gate_dst (N := 1) rfl ?_); (try (refine gate_guard (by rfl) ?_; dsimp only)); refine box_event ?hg (N := 1) ?hd (cs := #[.int .i64 a0_0, .slice A0_1 l0_1.length c0_1, .int .i32 a0_2, .slice A0_3 l0_3.length c0_3, .int .i64 a0_4, .int .i64 a0_5, .string a0_6, .int .i64 a0_7, .int .i64 a0_8, .bool a0_9]) (t := 27) ?hr ?_; (case hd => rfl); (case hg => rfl); (case hr => first | (go_simp; done) | (go_simp; rfl)); intro gb109 hg w3 hbox hb; have n0_ := Aside0.mk (below_step (by repeat (first | (with_reducible first | exact HB.out | apply below_alloc | apply pw_below_drewN | apply below_drew1) | exact HB.out)) hb); have n1_ := Aside0.mk (hbox); have n2_ := Aside0.mk ((by rw [hg]; exact (below_size (by repeat (first | (with_reducible first | exact HB.out | apply below_alloc | apply pw_below_drewN | apply below_drew1) | exact HB.out))) : w.heap.size ≤ gb109)); have n3_ := Aside0.mk ((by rw [hg]; exact (below_size (by repeat (first | (with_reducible first | exact HB.out | apply below_alloc | apply pw_below_drewN | apply below_drew1) | exact HB.out))) : w.heap.size ≤ gb109)); clear HB; have HB := n0_; have BK109 := n1_; have GW109 := n2_; have GE109 := n3_; clear n0_ n1_ n2_ n3_; clear hb hbox hg))
  (try simp only [Act.put, List.setIfInBounds_toArray, List.set_cons_zero, List.set_cons_succ])
  go_cut [12] (fun v12 wc => ∃ (kq : Nat) (x12_1 : Bool), v12 = .bool x12_1 ∧ Aside0 (martelloref05_fields.j0 kq x12_1 a0_0 l0_1 a0_2 l0_3 a0_4 a0_5 a0_6 a0_7 a0_8 a0_9 = some r) ∧ Aside0 (kq ≤ k) ∧ Aside0 (wc.heap[gb109]? = some (.cells #[.int .i64 a0_0, (.slice A0_1 l0_1.length c0_1), .int .i32 a0_2, (.slice A0_3 l0_3.length c0_3), .int .i64 a0_4, .int .i64 a0_5, .string a0_6, .int .i64 a0_7, .int .i64 a0_8, .bool a0_9] 27 (0, 0))) ∧ Aside0 (Below w.heap.size w wc))
  case first =>
    have H := HC2.out
    clear HC2
    by_cases c4 : a0_0 < 1
    · rw [if_pos c4] at H
      have c4b0 : decide (a0_0 < 1) = true := decide_eq_true c4
      clear c4
      (first | rw [c4b0] | (simp only [i64_w, i32_w]; rw [c4b0]) | skip)
      as_aux_lemma =>
        have H' := Aside0.mk H
        clear H
        have hcz5_0 : w3.cell? ⟨gb109, 0, none⟩ = some (.int .i64 a0_0) := (blk_cell BK109.out 0).trans rfl
        have hcz5_1 : w3.cell? ⟨gb109, 1, none⟩ = some (.slice A0_1 l0_1.length c0_1) := (blk_cell BK109.out 1).trans rfl
        have hcz5_2 : w3.cell? ⟨gb109, 2, none⟩ = some (.int .i32 a0_2) := (blk_cell BK109.out 2).trans rfl
        have hcz5_3 : w3.cell? ⟨gb109, 3, none⟩ = some (.slice A0_3 l0_3.length c0_3) := (blk_cell BK109.out 3).trans rfl
        have hcz5_4 : w3.cell? ⟨gb109, 4, none⟩ = some (.int .i64 a0_4) := (blk_cell BK109.out 4).trans rfl
        have hcz5_5 : w3.cell? ⟨gb109, 5, none⟩ = some (.int .i64 a0_5) := (blk_cell BK109.out 5).trans rfl
        have hcz5_6 : w3.cell? ⟨gb109, 6, none⟩ = some (.string a0_6) := (blk_cell BK109.out 6).trans rfl
        have hcz5_7 : w3.cell? ⟨gb109, 7, none⟩ = some (.int .i64 a0_7) := (blk_cell BK109.out 7).trans rfl
        have hcz5_8 : w3.cell? ⟨gb109, 8, none⟩ = some (.int .i64 a0_8) := (blk_cell BK109.out 8).trans rfl
        have hcz5_9 : w3.cell? ⟨gb109, 9, none⟩ = some (.bool a0_9) := (blk_cell BK109.out 9).trans rfl
        have hfz5_0 := blk_frozen BK109.out 0
        have hfz5_1 := blk_frozen BK109.out 1
        have hfz5_2 := blk_frozen BK109.out 2
        have hfz5_3 := blk_frozen BK109.out 3
        have hfz5_4 := blk_frozen BK109.out 4
        have hfz5_5 := blk_frozen BK109.out 5
        have hfz5_6 := blk_frozen BK109.out 6
        have hfz5_7 := blk_frozen BK109.out 7
        have hfz5_8 := blk_frozen BK109.out 8
        have hfz5_9 := blk_frozen BK109.out 9
        go_wp2
        go_meet
        case rel => exact ⟨_, (true), (by first | rfl | (simp; done) | (simp [*]; done)), H', ⟨by first | omega | exact Nat.le_refl _⟩, ⟨by (with_reducible repeat (first | refine blk_drewN ?_ _ | refine blk_drew ?_ | refine blk_alloc ?_ _)); exact BK109.out⟩, ⟨by repeat (first | (with_reducible first | exact HB.out | apply below_alloc | apply pw_below_drewN | apply below_drew1 | refine below_set ?_ GE109.out) | exact HB.out)⟩⟩
    · rw [if_neg c4] at H
      have c4b0 : decide (a0_0 < 1) = false := decide_eq_false c4
      clear c4
      (first | rw [c4b0] | (simp only [i64_w, i32_w]; rw [c4b0]) | skip)
      as_aux_lemma =>
        have H' := Aside0.mk H
        clear H
        have hcz6_0 : w3.cell? ⟨gb109, 0, none⟩ = some (.int .i64 a0_0) := (blk_cell BK109.out 0).trans rfl
        have hcz6_1 : w3.cell? ⟨gb109, 1, none⟩ = some (.slice A0_1 l0_1.length c0_1) := (blk_cell BK109.out 1).trans rfl
        have hcz6_2 : w3.cell? ⟨gb109, 2, none⟩ = some (.int .i32 a0_2) := (blk_cell BK109.out 2).trans rfl
        have hcz6_3 : w3.cell? ⟨gb109, 3, none⟩ = some (.slice A0_3 l0_3.length c0_3) := (blk_cell BK109.out 3).trans rfl
        have hcz6_4 : w3.cell? ⟨gb109, 4, none⟩ = some (.int .i64 a0_4) := (blk_cell BK109.out 4).trans rfl
        have hcz6_5 : w3.cell? ⟨gb109, 5, none⟩ = some (.int .i64 a0_5) := (blk_cell BK109.out 5).trans rfl
        have hcz6_6 : w3.cell? ⟨gb109, 6, none⟩ = some (.string a0_6) := (blk_cell BK109.out 6).trans rfl
        have hcz6_7 : w3.cell? ⟨gb109, 7, none⟩ = some (.int .i64 a0_7) := (blk_cell BK109.out 7).trans rfl
        have hcz6_8 : w3.cell? ⟨gb109, 8, none⟩ = some (.int .i64 a0_8) := (blk_cell BK109.out 8).trans rfl
        have hcz6_9 : w3.cell? ⟨gb109, 9, none⟩ = some (.bool a0_9) := (blk_cell BK109.out 9).trans rfl
        have hfz6_0 := blk_frozen BK109.out 0
        have hfz6_1 := blk_frozen BK109.out 1
        have hfz6_2 := blk_frozen BK109.out 2
        have hfz6_3 := blk_frozen BK109.out 3
        have hfz6_4 := blk_frozen BK109.out 4
        have hfz6_5 := blk_frozen BK109.out 5
        have hfz6_6 := blk_frozen BK109.out 6
        have hfz6_7 := blk_frozen BK109.out 7
        have hfz6_8 := blk_frozen BK109.out 8
        have hfz6_9 := blk_frozen BK109.out 9
        go_wp2
        go_meet
        case rel => exact ⟨_, (decide (a0_0 > 12)), (by first | rfl | (simp; done) | (simp [*]; done)), H', ⟨by first | omega | exact Nat.le_refl _⟩, ⟨by (with_reducible repeat (first | refine blk_drewN ?_ _ | refine blk_drew ?_ | refine blk_alloc ?_ _)); exact BK109.out⟩, ⟨by repeat (first | (with_reducible first | exact HB.out | apply below_alloc | apply pw_below_drewN | apply below_drew1 | refine below_set ?_ GE109.out) | exact HB.out)⟩⟩
  case rest =>
    clear HC2
    try clear p2
    try clear c3
    try clear c4
    try clear c4b0
    try clear hcz5_0
    try clear hcz5_1
    try clear hcz5_2
    try clear hcz5_3
    try clear hcz5_4
    try clear hcz5_5
    try clear hcz5_6
    try clear hcz5_7
    try clear hcz5_8
    try clear hcz5_9
    try clear hcz6_0
    try clear hcz6_1
    try clear hcz6_2
    try clear hcz6_3
    try clear hcz6_4
    try clear hcz6_5
    try clear hcz6_6
    try clear hcz6_7
    try clear hcz6_8
    try clear hcz6_9
    try clear hfz5_0
    try clear hfz5_1
    try clear hfz5_2
    try clear hfz5_3
    try clear hfz5_4
    try clear hfz5_5
    try clear hfz5_6
    try clear hfz5_7
    try clear hfz5_8
    try clear hfz5_9
    try clear hfz6_0
    try clear hfz6_1
    try clear hfz6_2
    try clear hfz6_3
    try clear hfz6_4
    try clear hfz6_5
    try clear hfz6_6
    try clear hfz6_7
    try clear hfz6_8
    try clear hfz6_9
    obtain ⟨kq, x12_1, rfl, HA, HJ1, BK109, HB⟩ := hcut
    cases kq with
    | zero => exact absurd HA.out (by simp [martelloref05_fields.j0])
    | succ kj1 =>
      have H := HA.out
      clear HA
      simp only [martelloref05_fields.j0] at H
      by_cases c7 : x12_1 = true
      · subst c7
        have H1 : (some false) = some r := by rw [if_pos rfl] at H; exact H
        clear H
        have H := H1
        clear H1
        as_aux_lemma =>
          obtain rfl := Option.some.inj H
          go_wp2
          go_ret
          exact ⟨by first | rfl | (simp [errW_none, errW_some] <;> rfl) | (simp [*, errW_none, errW_some] <;> rfl), by repeat (first | (with_reducible first | exact HB.out | apply below_alloc | apply pw_below_drewN | apply below_drew1 | refine below_set ?_ GE109.out) | exact HB.out)⟩
      · replace c7 := Bool.eq_false_iff.mpr c7
        subst c7
        have H1 : (if a0_0 = 3 then (if a0_0 = 4 then (if a0_0 = 5 then (martelloref05_fields.j1 kj1 false a0_0 l0_1 a0_2 l0_3 a0_4 a0_5 a0_6 a0_7 a0_8 a0_9) else (martelloref05_fields.j1 kj1 (a0_4 != 0) a0_0 l0_1 a0_2 l0_3 a0_4 a0_5 a0_6 a0_7 a0_8 a0_9)) else (if (l0_3.length : Int) > 0 then (martelloref05_fields.j1 kj1 true a0_0 l0_1 a0_2 l0_3 a0_4 a0_5 a0_6 a0_7 a0_8 a0_9) else (if a0_0 = 5 then (martelloref05_fields.j1 kj1 false a0_0 l0_1 a0_2 l0_3 a0_4 a0_5 a0_6 a0_7 a0_8 a0_9) else (martelloref05_fields.j1 kj1 (a0_4 != 0) a0_0 l0_1 a0_2 l0_3 a0_4 a0_5 a0_6 a0_7 a0_8 a0_9)))) else (if a0_2 = 0 then (if a0_0 = 4 then (if a0_0 = 5 then (martelloref05_fields.j1 kj1 false a0_0 l0_1 a0_2 l0_3 a0_4 a0_5 a0_6 a0_7 a0_8 a0_9) else (martelloref05_fields.j1 kj1 (a0_4 != 0) a0_0 l0_1 a0_2 l0_3 a0_4 a0_5 a0_6 a0_7 a0_8 a0_9)) else (if (l0_3.length : Int) > 0 then (martelloref05_fields.j1 kj1 true a0_0 l0_1 a0_2 l0_3 a0_4 a0_5 a0_6 a0_7 a0_8 a0_9) else (if a0_0 = 5 then (martelloref05_fields.j1 kj1 false a0_0 l0_1 a0_2 l0_3 a0_4 a0_5 a0_6 a0_7 a0_8 a0_9) else (martelloref05_fields.j1 kj1 (a0_4 != 0) a0_0 l0_1 a0_2 l0_3 a0_4 a0_5 a0_6 a0_7 a0_8 a0_9)))) else (martelloref05_fields.j1 kj1 true a0_0 l0_1 a0_2 l0_3 a0_4 a0_5 a0_6 a0_7 a0_8 a0_9))) = some r := by rw [if_neg (show ¬ (false = true) by decide)] at H; exact H
        clear H
        have H := H1
        clear H1
        have HC8 := Aside0.mk H
        clear H
        go_upto_region 3 with (fail)
        go_cut [41] (fun v41 wc => ∃ (kq : Nat) (x41_7 : Bool), v41 = .bool x41_7 ∧ Aside0 (martelloref05_fields.j1 kq x41_7 a0_0 l0_1 a0_2 l0_3 a0_4 a0_5 a0_6 a0_7 a0_8 a0_9 = some r) ∧ Aside0 (kq ≤ kj1) ∧ Aside0 (wc.heap[gb109]? = some (.cells #[.int .i64 a0_0, (.slice A0_1 l0_1.length c0_1), .int .i32 a0_2, (.slice A0_3 l0_3.length c0_3), .int .i64 a0_4, .int .i64 a0_5, .string a0_6, .int .i64 a0_7, .int .i64 a0_8, .bool a0_9] 27 (0, 0))) ∧ Aside0 (Below w.heap.size w wc))
        case first =>
          have H := HC8.out
          clear HC8
          by_cases c9 : a0_0 = 3
          · rw [if_pos c9] at H
            have c9b0 : (a0_0 == 3) = true := beq_iff_eq.mpr c9
            have c9b1 : (a0_0 != 3) = false := bne_eq_false_iff_eq.mpr c9
            clear c9
            (first | rw [c9b0] | (simp only [i64_w, i32_w]; rw [c9b0]) | skip)
            by_cases c10 : a0_0 = 4
            · rw [if_pos c10] at H
              have c10b0 : (a0_0 == 4) = true := beq_iff_eq.mpr c10
              have c10b1 : (a0_0 != 4) = false := bne_eq_false_iff_eq.mpr c10
              clear c10
              by_cases c11 : a0_0 = 5
              · rw [if_pos c11] at H
                have c11b0 : (a0_0 == 5) = true := beq_iff_eq.mpr c11
                have c11b1 : (a0_0 != 5) = false := bne_eq_false_iff_eq.mpr c11
                clear c11
                as_aux_lemma =>
                  have H' := Aside0.mk H
                  clear H
                  have hcz12_0 : wc.cell? ⟨gb109, 0, none⟩ = some (.int .i64 a0_0) := (blk_cell BK109.out 0).trans rfl
                  have hcz12_1 : wc.cell? ⟨gb109, 1, none⟩ = some (.slice A0_1 l0_1.length c0_1) := (blk_cell BK109.out 1).trans rfl
                  have hcz12_2 : wc.cell? ⟨gb109, 2, none⟩ = some (.int .i32 a0_2) := (blk_cell BK109.out 2).trans rfl
                  have hcz12_3 : wc.cell? ⟨gb109, 3, none⟩ = some (.slice A0_3 l0_3.length c0_3) := (blk_cell BK109.out 3).trans rfl
                  have hcz12_4 : wc.cell? ⟨gb109, 4, none⟩ = some (.int .i64 a0_4) := (blk_cell BK109.out 4).trans rfl
                  have hcz12_5 : wc.cell? ⟨gb109, 5, none⟩ = some (.int .i64 a0_5) := (blk_cell BK109.out 5).trans rfl
                  have hcz12_6 : wc.cell? ⟨gb109, 6, none⟩ = some (.string a0_6) := (blk_cell BK109.out 6).trans rfl
                  have hcz12_7 : wc.cell? ⟨gb109, 7, none⟩ = some (.int .i64 a0_7) := (blk_cell BK109.out 7).trans rfl
                  have hcz12_8 : wc.cell? ⟨gb109, 8, none⟩ = some (.int .i64 a0_8) := (blk_cell BK109.out 8).trans rfl
                  have hcz12_9 : wc.cell? ⟨gb109, 9, none⟩ = some (.bool a0_9) := (blk_cell BK109.out 9).trans rfl
                  have hfz12_0 := blk_frozen BK109.out 0
                  have hfz12_1 := blk_frozen BK109.out 1
                  have hfz12_2 := blk_frozen BK109.out 2
                  have hfz12_3 := blk_frozen BK109.out 3
                  have hfz12_4 := blk_frozen BK109.out 4
                  have hfz12_5 := blk_frozen BK109.out 5
                  have hfz12_6 := blk_frozen BK109.out 6
                  have hfz12_7 := blk_frozen BK109.out 7
                  have hfz12_8 := blk_frozen BK109.out 8
                  have hfz12_9 := blk_frozen BK109.out 9
                  go_wp2
                  go_meet
                  case rel => exact ⟨_, (false), (by first | rfl | (simp; done) | (simp [*]; done)), H', ⟨by have := HJ1.out; first | omega | exact Nat.le_refl _⟩, ⟨by (with_reducible repeat (first | refine blk_drewN ?_ _ | refine blk_drew ?_ | refine blk_alloc ?_ _)); exact BK109.out⟩, ⟨by repeat (first | (with_reducible first | exact HB.out | apply below_alloc | apply pw_below_drewN | apply below_drew1 | refine below_set ?_ GE109.out) | exact HB.out)⟩⟩
              · rw [if_neg c11] at H
                have c11b0 : (a0_0 == 5) = false := beq_eq_false_iff_ne.mpr c11
                have c11b1 : (a0_0 != 5) = true := bne_iff_ne.mpr c11
                as_aux_lemma =>
                  have H' := Aside0.mk H
                  clear H
                  have hcz13_0 : wc.cell? ⟨gb109, 0, none⟩ = some (.int .i64 a0_0) := (blk_cell BK109.out 0).trans rfl
                  have hcz13_1 : wc.cell? ⟨gb109, 1, none⟩ = some (.slice A0_1 l0_1.length c0_1) := (blk_cell BK109.out 1).trans rfl
                  have hcz13_2 : wc.cell? ⟨gb109, 2, none⟩ = some (.int .i32 a0_2) := (blk_cell BK109.out 2).trans rfl
                  have hcz13_3 : wc.cell? ⟨gb109, 3, none⟩ = some (.slice A0_3 l0_3.length c0_3) := (blk_cell BK109.out 3).trans rfl
                  have hcz13_4 : wc.cell? ⟨gb109, 4, none⟩ = some (.int .i64 a0_4) := (blk_cell BK109.out 4).trans rfl
                  have hcz13_5 : wc.cell? ⟨gb109, 5, none⟩ = some (.int .i64 a0_5) := (blk_cell BK109.out 5).trans rfl
                  have hcz13_6 : wc.cell? ⟨gb109, 6, none⟩ = some (.string a0_6) := (blk_cell BK109.out 6).trans rfl
                  have hcz13_7 : wc.cell? ⟨gb109, 7, none⟩ = some (.int .i64 a0_7) := (blk_cell BK109.out 7).trans rfl
                  have hcz13_8 : wc.cell? ⟨gb109, 8, none⟩ = some (.int .i64 a0_8) := (blk_cell BK109.out 8).trans rfl
                  have hcz13_9 : wc.cell? ⟨gb109, 9, none⟩ = some (.bool a0_9) := (blk_cell BK109.out 9).trans rfl
                  have hfz13_0 := blk_frozen BK109.out 0
                  have hfz13_1 := blk_frozen BK109.out 1
                  have hfz13_2 := blk_frozen BK109.out 2
                  have hfz13_3 := blk_frozen BK109.out 3
                  have hfz13_4 := blk_frozen BK109.out 4
                  have hfz13_5 := blk_frozen BK109.out 5
                  have hfz13_6 := blk_frozen BK109.out 6
                  have hfz13_7 := blk_frozen BK109.out 7
                  have hfz13_8 := blk_frozen BK109.out 8
                  have hfz13_9 := blk_frozen BK109.out 9
                  go_wp2
                  go_meet
                  case rel => exact ⟨_, ((a0_4 != 0)), (by first | rfl | (simp; done) | (simp [*]; done)), H', ⟨by have := HJ1.out; first | omega | exact Nat.le_refl _⟩, ⟨by (with_reducible repeat (first | refine blk_drewN ?_ _ | refine blk_drew ?_ | refine blk_alloc ?_ _)); exact BK109.out⟩, ⟨by repeat (first | (with_reducible first | exact HB.out | apply below_alloc | apply pw_below_drewN | apply below_drew1 | refine below_set ?_ GE109.out) | exact HB.out)⟩⟩
            · rw [if_neg c10] at H
              have c10b0 : (a0_0 == 4) = false := beq_eq_false_iff_ne.mpr c10
              have c10b1 : (a0_0 != 4) = true := bne_iff_ne.mpr c10
              by_cases c14 : (l0_3.length : Int) > 0
              · rw [if_pos c14] at H
                have c14b0 : decide (0 < (l0_3.length : Int)) = true := decide_eq_true c14
                have c14b1 : decide (0 < l0_3.length) = true := decide_eq_true (by omega)
                clear c14
                as_aux_lemma =>
                  have H' := Aside0.mk H
                  clear H
                  have hcz15_0 : wc.cell? ⟨gb109, 0, none⟩ = some (.int .i64 a0_0) := (blk_cell BK109.out 0).trans rfl
                  have hcz15_1 : wc.cell? ⟨gb109, 1, none⟩ = some (.slice A0_1 l0_1.length c0_1) := (blk_cell BK109.out 1).trans rfl
                  have hcz15_2 : wc.cell? ⟨gb109, 2, none⟩ = some (.int .i32 a0_2) := (blk_cell BK109.out 2).trans rfl
                  have hcz15_3 : wc.cell? ⟨gb109, 3, none⟩ = some (.slice A0_3 l0_3.length c0_3) := (blk_cell BK109.out 3).trans rfl
                  have hcz15_4 : wc.cell? ⟨gb109, 4, none⟩ = some (.int .i64 a0_4) := (blk_cell BK109.out 4).trans rfl
                  have hcz15_5 : wc.cell? ⟨gb109, 5, none⟩ = some (.int .i64 a0_5) := (blk_cell BK109.out 5).trans rfl
                  have hcz15_6 : wc.cell? ⟨gb109, 6, none⟩ = some (.string a0_6) := (blk_cell BK109.out 6).trans rfl
                  have hcz15_7 : wc.cell? ⟨gb109, 7, none⟩ = some (.int .i64 a0_7) := (blk_cell BK109.out 7).trans rfl
                  have hcz15_8 : wc.cell? ⟨gb109, 8, none⟩ = some (.int .i64 a0_8) := (blk_cell BK109.out 8).trans rfl
                  have hcz15_9 : wc.cell? ⟨gb109, 9, none⟩ = some (.bool a0_9) := (blk_cell BK109.out 9).trans rfl
                  have hfz15_0 := blk_frozen BK109.out 0
                  have hfz15_1 := blk_frozen BK109.out 1
                  have hfz15_2 := blk_frozen BK109.out 2
                  have hfz15_3 := blk_frozen BK109.out 3
                  have hfz15_4 := blk_frozen BK109.out 4
                  have hfz15_5 := blk_frozen BK109.out 5
                  have hfz15_6 := blk_frozen BK109.out 6
                  have hfz15_7 := blk_frozen BK109.out 7
                  have hfz15_8 := blk_frozen BK109.out 8
                  have hfz15_9 := blk_frozen BK109.out 9
                  go_wp2
                  go_meet
                  case rel => exact ⟨_, (true), (by first | rfl | (simp; done) | (simp [*]; done)), H', ⟨by have := HJ1.out; first | omega | exact Nat.le_refl _⟩, ⟨by (with_reducible repeat (first | refine blk_drewN ?_ _ | refine blk_drew ?_ | refine blk_alloc ?_ _)); exact BK109.out⟩, ⟨by repeat (first | (with_reducible first | exact HB.out | apply below_alloc | apply pw_below_drewN | apply below_drew1 | refine below_set ?_ GE109.out) | exact HB.out)⟩⟩
              · rw [if_neg c14] at H
                have c14b0 : decide (0 < (l0_3.length : Int)) = false := decide_eq_false c14
                have c14b1 : decide (0 < l0_3.length) = false := decide_eq_false (by omega)
                clear c14
                by_cases c16 : a0_0 = 5
                · rw [if_pos c16] at H
                  have c16b0 : (a0_0 == 5) = true := beq_iff_eq.mpr c16
                  have c16b1 : (a0_0 != 5) = false := bne_eq_false_iff_eq.mpr c16
                  clear c16
                  as_aux_lemma =>
                    have H' := Aside0.mk H
                    clear H
                    have hcz17_0 : wc.cell? ⟨gb109, 0, none⟩ = some (.int .i64 a0_0) := (blk_cell BK109.out 0).trans rfl
                    have hcz17_1 : wc.cell? ⟨gb109, 1, none⟩ = some (.slice A0_1 l0_1.length c0_1) := (blk_cell BK109.out 1).trans rfl
                    have hcz17_2 : wc.cell? ⟨gb109, 2, none⟩ = some (.int .i32 a0_2) := (blk_cell BK109.out 2).trans rfl
                    have hcz17_3 : wc.cell? ⟨gb109, 3, none⟩ = some (.slice A0_3 l0_3.length c0_3) := (blk_cell BK109.out 3).trans rfl
                    have hcz17_4 : wc.cell? ⟨gb109, 4, none⟩ = some (.int .i64 a0_4) := (blk_cell BK109.out 4).trans rfl
                    have hcz17_5 : wc.cell? ⟨gb109, 5, none⟩ = some (.int .i64 a0_5) := (blk_cell BK109.out 5).trans rfl
                    have hcz17_6 : wc.cell? ⟨gb109, 6, none⟩ = some (.string a0_6) := (blk_cell BK109.out 6).trans rfl
                    have hcz17_7 : wc.cell? ⟨gb109, 7, none⟩ = some (.int .i64 a0_7) := (blk_cell BK109.out 7).trans rfl
                    have hcz17_8 : wc.cell? ⟨gb109, 8, none⟩ = some (.int .i64 a0_8) := (blk_cell BK109.out 8).trans rfl
                    have hcz17_9 : wc.cell? ⟨gb109, 9, none⟩ = some (.bool a0_9) := (blk_cell BK109.out 9).trans rfl
                    have hfz17_0 := blk_frozen BK109.out 0
                    have hfz17_1 := blk_frozen BK109.out 1
                    have hfz17_2 := blk_frozen BK109.out 2
                    have hfz17_3 := blk_frozen BK109.out 3
                    have hfz17_4 := blk_frozen BK109.out 4
                    have hfz17_5 := blk_frozen BK109.out 5
                    have hfz17_6 := blk_frozen BK109.out 6
                    have hfz17_7 := blk_frozen BK109.out 7
                    have hfz17_8 := blk_frozen BK109.out 8
                    have hfz17_9 := blk_frozen BK109.out 9
                    go_wp2
                    go_meet
                    case rel => exact ⟨_, (false), (by first | rfl | (simp; done) | (simp [*]; done)), H', ⟨by have := HJ1.out; first | omega | exact Nat.le_refl _⟩, ⟨by (with_reducible repeat (first | refine blk_drewN ?_ _ | refine blk_drew ?_ | refine blk_alloc ?_ _)); exact BK109.out⟩, ⟨by repeat (first | (with_reducible first | exact HB.out | apply below_alloc | apply pw_below_drewN | apply below_drew1 | refine below_set ?_ GE109.out) | exact HB.out)⟩⟩
                · rw [if_neg c16] at H
                  have c16b0 : (a0_0 == 5) = false := beq_eq_false_iff_ne.mpr c16
                  have c16b1 : (a0_0 != 5) = true := bne_iff_ne.mpr c16
                  as_aux_lemma =>
                    have H' := Aside0.mk H
                    clear H
                    have hcz18_0 : wc.cell? ⟨gb109, 0, none⟩ = some (.int .i64 a0_0) := (blk_cell BK109.out 0).trans rfl
                    have hcz18_1 : wc.cell? ⟨gb109, 1, none⟩ = some (.slice A0_1 l0_1.length c0_1) := (blk_cell BK109.out 1).trans rfl
                    have hcz18_2 : wc.cell? ⟨gb109, 2, none⟩ = some (.int .i32 a0_2) := (blk_cell BK109.out 2).trans rfl
                    have hcz18_3 : wc.cell? ⟨gb109, 3, none⟩ = some (.slice A0_3 l0_3.length c0_3) := (blk_cell BK109.out 3).trans rfl
                    have hcz18_4 : wc.cell? ⟨gb109, 4, none⟩ = some (.int .i64 a0_4) := (blk_cell BK109.out 4).trans rfl
                    have hcz18_5 : wc.cell? ⟨gb109, 5, none⟩ = some (.int .i64 a0_5) := (blk_cell BK109.out 5).trans rfl
                    have hcz18_6 : wc.cell? ⟨gb109, 6, none⟩ = some (.string a0_6) := (blk_cell BK109.out 6).trans rfl
                    have hcz18_7 : wc.cell? ⟨gb109, 7, none⟩ = some (.int .i64 a0_7) := (blk_cell BK109.out 7).trans rfl
                    have hcz18_8 : wc.cell? ⟨gb109, 8, none⟩ = some (.int .i64 a0_8) := (blk_cell BK109.out 8).trans rfl
                    have hcz18_9 : wc.cell? ⟨gb109, 9, none⟩ = some (.bool a0_9) := (blk_cell BK109.out 9).trans rfl
                    have hfz18_0 := blk_frozen BK109.out 0
                    have hfz18_1 := blk_frozen BK109.out 1
                    have hfz18_2 := blk_frozen BK109.out 2
                    have hfz18_3 := blk_frozen BK109.out 3
                    have hfz18_4 := blk_frozen BK109.out 4
                    have hfz18_5 := blk_frozen BK109.out 5
                    have hfz18_6 := blk_frozen BK109.out 6
                    have hfz18_7 := blk_frozen BK109.out 7
                    have hfz18_8 := blk_frozen BK109.out 8
                    have hfz18_9 := blk_frozen BK109.out 9
                    go_wp2
                    go_meet
                    case rel => exact ⟨_, ((a0_4 != 0)), (by first | rfl | (simp; done) | (simp [*]; done)), H', ⟨by have := HJ1.out; first | omega | exact Nat.le_refl _⟩, ⟨by (with_reducible repeat (first | refine blk_drewN ?_ _ | refine blk_drew ?_ | refine blk_alloc ?_ _)); exact BK109.out⟩, ⟨by repeat (first | (with_reducible first | exact HB.out | apply below_alloc | apply pw_below_drewN | apply below_drew1 | refine below_set ?_ GE109.out) | exact HB.out)⟩⟩
          · rw [if_neg c9] at H
            have c9b0 : (a0_0 == 3) = false := beq_eq_false_iff_ne.mpr c9
            have c9b1 : (a0_0 != 3) = true := bne_iff_ne.mpr c9
            (first | rw [c9b0] | (simp only [i64_w, i32_w]; rw [c9b0]) | skip)
            by_cases c19 : a0_2 = 0
            · rw [if_pos c19] at H
              have c19b0 : (a0_2 == 0) = true := beq_iff_eq.mpr c19
              have c19b1 : (a0_2 != 0) = false := bne_eq_false_iff_eq.mpr c19
              clear c19
              by_cases c20 : a0_0 = 4
              · rw [if_pos c20] at H
                have c20b0 : (a0_0 == 4) = true := beq_iff_eq.mpr c20
                have c20b1 : (a0_0 != 4) = false := bne_eq_false_iff_eq.mpr c20
                clear c20
                by_cases c21 : a0_0 = 5
                · rw [if_pos c21] at H
                  have c21b0 : (a0_0 == 5) = true := beq_iff_eq.mpr c21
                  have c21b1 : (a0_0 != 5) = false := bne_eq_false_iff_eq.mpr c21
                  clear c21
                  as_aux_lemma =>
                    have H' := Aside0.mk H
                    clear H
                    have hcz22_0 : wc.cell? ⟨gb109, 0, none⟩ = some (.int .i64 a0_0) := (blk_cell BK109.out 0).trans rfl
                    have hcz22_1 : wc.cell? ⟨gb109, 1, none⟩ = some (.slice A0_1 l0_1.length c0_1) := (blk_cell BK109.out 1).trans rfl
                    have hcz22_2 : wc.cell? ⟨gb109, 2, none⟩ = some (.int .i32 a0_2) := (blk_cell BK109.out 2).trans rfl
                    have hcz22_3 : wc.cell? ⟨gb109, 3, none⟩ = some (.slice A0_3 l0_3.length c0_3) := (blk_cell BK109.out 3).trans rfl
                    have hcz22_4 : wc.cell? ⟨gb109, 4, none⟩ = some (.int .i64 a0_4) := (blk_cell BK109.out 4).trans rfl
                    have hcz22_5 : wc.cell? ⟨gb109, 5, none⟩ = some (.int .i64 a0_5) := (blk_cell BK109.out 5).trans rfl
                    have hcz22_6 : wc.cell? ⟨gb109, 6, none⟩ = some (.string a0_6) := (blk_cell BK109.out 6).trans rfl
                    have hcz22_7 : wc.cell? ⟨gb109, 7, none⟩ = some (.int .i64 a0_7) := (blk_cell BK109.out 7).trans rfl
                    have hcz22_8 : wc.cell? ⟨gb109, 8, none⟩ = some (.int .i64 a0_8) := (blk_cell BK109.out 8).trans rfl
                    have hcz22_9 : wc.cell? ⟨gb109, 9, none⟩ = some (.bool a0_9) := (blk_cell BK109.out 9).trans rfl
                    have hfz22_0 := blk_frozen BK109.out 0
                    have hfz22_1 := blk_frozen BK109.out 1
                    have hfz22_2 := blk_frozen BK109.out 2
                    have hfz22_3 := blk_frozen BK109.out 3
                    have hfz22_4 := blk_frozen BK109.out 4
                    have hfz22_5 := blk_frozen BK109.out 5
                    have hfz22_6 := blk_frozen BK109.out 6
                    have hfz22_7 := blk_frozen BK109.out 7
                    have hfz22_8 := blk_frozen BK109.out 8
                    have hfz22_9 := blk_frozen BK109.out 9
                    go_wp2
                    go_meet
                    case rel => exact ⟨_, (false), (by first | rfl | (simp; done) | (simp [*]; done)), H', ⟨by have := HJ1.out; first | omega | exact Nat.le_refl _⟩, ⟨by (with_reducible repeat (first | refine blk_drewN ?_ _ | refine blk_drew ?_ | refine blk_alloc ?_ _)); exact BK109.out⟩, ⟨by repeat (first | (with_reducible first | exact HB.out | apply below_alloc | apply pw_below_drewN | apply below_drew1 | refine below_set ?_ GE109.out) | exact HB.out)⟩⟩
                · rw [if_neg c21] at H
                  have c21b0 : (a0_0 == 5) = false := beq_eq_false_iff_ne.mpr c21
                  have c21b1 : (a0_0 != 5) = true := bne_iff_ne.mpr c21
                  as_aux_lemma =>
                    have H' := Aside0.mk H
                    clear H
                    have hcz23_0 : wc.cell? ⟨gb109, 0, none⟩ = some (.int .i64 a0_0) := (blk_cell BK109.out 0).trans rfl
                    have hcz23_1 : wc.cell? ⟨gb109, 1, none⟩ = some (.slice A0_1 l0_1.length c0_1) := (blk_cell BK109.out 1).trans rfl
                    have hcz23_2 : wc.cell? ⟨gb109, 2, none⟩ = some (.int .i32 a0_2) := (blk_cell BK109.out 2).trans rfl
                    have hcz23_3 : wc.cell? ⟨gb109, 3, none⟩ = some (.slice A0_3 l0_3.length c0_3) := (blk_cell BK109.out 3).trans rfl
                    have hcz23_4 : wc.cell? ⟨gb109, 4, none⟩ = some (.int .i64 a0_4) := (blk_cell BK109.out 4).trans rfl
                    have hcz23_5 : wc.cell? ⟨gb109, 5, none⟩ = some (.int .i64 a0_5) := (blk_cell BK109.out 5).trans rfl
                    have hcz23_6 : wc.cell? ⟨gb109, 6, none⟩ = some (.string a0_6) := (blk_cell BK109.out 6).trans rfl
                    have hcz23_7 : wc.cell? ⟨gb109, 7, none⟩ = some (.int .i64 a0_7) := (blk_cell BK109.out 7).trans rfl
                    have hcz23_8 : wc.cell? ⟨gb109, 8, none⟩ = some (.int .i64 a0_8) := (blk_cell BK109.out 8).trans rfl
                    have hcz23_9 : wc.cell? ⟨gb109, 9, none⟩ = some (.bool a0_9) := (blk_cell BK109.out 9).trans rfl
                    have hfz23_0 := blk_frozen BK109.out 0
                    have hfz23_1 := blk_frozen BK109.out 1
                    have hfz23_2 := blk_frozen BK109.out 2
                    have hfz23_3 := blk_frozen BK109.out 3
                    have hfz23_4 := blk_frozen BK109.out 4
                    have hfz23_5 := blk_frozen BK109.out 5
                    have hfz23_6 := blk_frozen BK109.out 6
                    have hfz23_7 := blk_frozen BK109.out 7
                    have hfz23_8 := blk_frozen BK109.out 8
                    have hfz23_9 := blk_frozen BK109.out 9
                    go_wp2
                    go_meet
                    case rel => exact ⟨_, ((a0_4 != 0)), (by first | rfl | (simp; done) | (simp [*]; done)), H', ⟨by have := HJ1.out; first | omega | exact Nat.le_refl _⟩, ⟨by (with_reducible repeat (first | refine blk_drewN ?_ _ | refine blk_drew ?_ | refine blk_alloc ?_ _)); exact BK109.out⟩, ⟨by repeat (first | (with_reducible first | exact HB.out | apply below_alloc | apply pw_below_drewN | apply below_drew1 | refine below_set ?_ GE109.out) | exact HB.out)⟩⟩
              · rw [if_neg c20] at H
                have c20b0 : (a0_0 == 4) = false := beq_eq_false_iff_ne.mpr c20
                have c20b1 : (a0_0 != 4) = true := bne_iff_ne.mpr c20
                by_cases c24 : (l0_3.length : Int) > 0
                · rw [if_pos c24] at H
                  have c24b0 : decide (0 < (l0_3.length : Int)) = true := decide_eq_true c24
                  have c24b1 : decide (0 < l0_3.length) = true := decide_eq_true (by omega)
                  clear c24
                  as_aux_lemma =>
                    have H' := Aside0.mk H
                    clear H
                    have hcz25_0 : wc.cell? ⟨gb109, 0, none⟩ = some (.int .i64 a0_0) := (blk_cell BK109.out 0).trans rfl
                    have hcz25_1 : wc.cell? ⟨gb109, 1, none⟩ = some (.slice A0_1 l0_1.length c0_1) := (blk_cell BK109.out 1).trans rfl
                    have hcz25_2 : wc.cell? ⟨gb109, 2, none⟩ = some (.int .i32 a0_2) := (blk_cell BK109.out 2).trans rfl
                    have hcz25_3 : wc.cell? ⟨gb109, 3, none⟩ = some (.slice A0_3 l0_3.length c0_3) := (blk_cell BK109.out 3).trans rfl
                    have hcz25_4 : wc.cell? ⟨gb109, 4, none⟩ = some (.int .i64 a0_4) := (blk_cell BK109.out 4).trans rfl
                    have hcz25_5 : wc.cell? ⟨gb109, 5, none⟩ = some (.int .i64 a0_5) := (blk_cell BK109.out 5).trans rfl
                    have hcz25_6 : wc.cell? ⟨gb109, 6, none⟩ = some (.string a0_6) := (blk_cell BK109.out 6).trans rfl
                    have hcz25_7 : wc.cell? ⟨gb109, 7, none⟩ = some (.int .i64 a0_7) := (blk_cell BK109.out 7).trans rfl
                    have hcz25_8 : wc.cell? ⟨gb109, 8, none⟩ = some (.int .i64 a0_8) := (blk_cell BK109.out 8).trans rfl
                    have hcz25_9 : wc.cell? ⟨gb109, 9, none⟩ = some (.bool a0_9) := (blk_cell BK109.out 9).trans rfl
                    have hfz25_0 := blk_frozen BK109.out 0
                    have hfz25_1 := blk_frozen BK109.out 1
                    have hfz25_2 := blk_frozen BK109.out 2
                    have hfz25_3 := blk_frozen BK109.out 3
                    have hfz25_4 := blk_frozen BK109.out 4
                    have hfz25_5 := blk_frozen BK109.out 5
                    have hfz25_6 := blk_frozen BK109.out 6
                    have hfz25_7 := blk_frozen BK109.out 7
                    have hfz25_8 := blk_frozen BK109.out 8
                    have hfz25_9 := blk_frozen BK109.out 9
                    go_wp2
                    go_meet
                    case rel => exact ⟨_, (true), (by first | rfl | (simp; done) | (simp [*]; done)), H', ⟨by have := HJ1.out; first | omega | exact Nat.le_refl _⟩, ⟨by (with_reducible repeat (first | refine blk_drewN ?_ _ | refine blk_drew ?_ | refine blk_alloc ?_ _)); exact BK109.out⟩, ⟨by repeat (first | (with_reducible first | exact HB.out | apply below_alloc | apply pw_below_drewN | apply below_drew1 | refine below_set ?_ GE109.out) | exact HB.out)⟩⟩
                · rw [if_neg c24] at H
                  have c24b0 : decide (0 < (l0_3.length : Int)) = false := decide_eq_false c24
                  have c24b1 : decide (0 < l0_3.length) = false := decide_eq_false (by omega)
                  clear c24
                  by_cases c26 : a0_0 = 5
                  · rw [if_pos c26] at H
                    have c26b0 : (a0_0 == 5) = true := beq_iff_eq.mpr c26
                    have c26b1 : (a0_0 != 5) = false := bne_eq_false_iff_eq.mpr c26
                    clear c26
                    as_aux_lemma =>
                      have H' := Aside0.mk H
                      clear H
                      have hcz27_0 : wc.cell? ⟨gb109, 0, none⟩ = some (.int .i64 a0_0) := (blk_cell BK109.out 0).trans rfl
                      have hcz27_1 : wc.cell? ⟨gb109, 1, none⟩ = some (.slice A0_1 l0_1.length c0_1) := (blk_cell BK109.out 1).trans rfl
                      have hcz27_2 : wc.cell? ⟨gb109, 2, none⟩ = some (.int .i32 a0_2) := (blk_cell BK109.out 2).trans rfl
                      have hcz27_3 : wc.cell? ⟨gb109, 3, none⟩ = some (.slice A0_3 l0_3.length c0_3) := (blk_cell BK109.out 3).trans rfl
                      have hcz27_4 : wc.cell? ⟨gb109, 4, none⟩ = some (.int .i64 a0_4) := (blk_cell BK109.out 4).trans rfl
                      have hcz27_5 : wc.cell? ⟨gb109, 5, none⟩ = some (.int .i64 a0_5) := (blk_cell BK109.out 5).trans rfl
                      have hcz27_6 : wc.cell? ⟨gb109, 6, none⟩ = some (.string a0_6) := (blk_cell BK109.out 6).trans rfl
                      have hcz27_7 : wc.cell? ⟨gb109, 7, none⟩ = some (.int .i64 a0_7) := (blk_cell BK109.out 7).trans rfl
                      have hcz27_8 : wc.cell? ⟨gb109, 8, none⟩ = some (.int .i64 a0_8) := (blk_cell BK109.out 8).trans rfl
                      have hcz27_9 : wc.cell? ⟨gb109, 9, none⟩ = some (.bool a0_9) := (blk_cell BK109.out 9).trans rfl
                      have hfz27_0 := blk_frozen BK109.out 0
                      have hfz27_1 := blk_frozen BK109.out 1
                      have hfz27_2 := blk_frozen BK109.out 2
                      have hfz27_3 := blk_frozen BK109.out 3
                      have hfz27_4 := blk_frozen BK109.out 4
                      have hfz27_5 := blk_frozen BK109.out 5
                      have hfz27_6 := blk_frozen BK109.out 6
                      have hfz27_7 := blk_frozen BK109.out 7
                      have hfz27_8 := blk_frozen BK109.out 8
                      have hfz27_9 := blk_frozen BK109.out 9
                      go_wp2
                      go_meet
                      case rel => exact ⟨_, (false), (by first | rfl | (simp; done) | (simp [*]; done)), H', ⟨by have := HJ1.out; first | omega | exact Nat.le_refl _⟩, ⟨by (with_reducible repeat (first | refine blk_drewN ?_ _ | refine blk_drew ?_ | refine blk_alloc ?_ _)); exact BK109.out⟩, ⟨by repeat (first | (with_reducible first | exact HB.out | apply below_alloc | apply pw_below_drewN | apply below_drew1 | refine below_set ?_ GE109.out) | exact HB.out)⟩⟩
                  · rw [if_neg c26] at H
                    have c26b0 : (a0_0 == 5) = false := beq_eq_false_iff_ne.mpr c26
                    have c26b1 : (a0_0 != 5) = true := bne_iff_ne.mpr c26
                    as_aux_lemma =>
                      have H' := Aside0.mk H
                      clear H
                      have hcz28_0 : wc.cell? ⟨gb109, 0, none⟩ = some (.int .i64 a0_0) := (blk_cell BK109.out 0).trans rfl
                      have hcz28_1 : wc.cell? ⟨gb109, 1, none⟩ = some (.slice A0_1 l0_1.length c0_1) := (blk_cell BK109.out 1).trans rfl
                      have hcz28_2 : wc.cell? ⟨gb109, 2, none⟩ = some (.int .i32 a0_2) := (blk_cell BK109.out 2).trans rfl
                      have hcz28_3 : wc.cell? ⟨gb109, 3, none⟩ = some (.slice A0_3 l0_3.length c0_3) := (blk_cell BK109.out 3).trans rfl
                      have hcz28_4 : wc.cell? ⟨gb109, 4, none⟩ = some (.int .i64 a0_4) := (blk_cell BK109.out 4).trans rfl
                      have hcz28_5 : wc.cell? ⟨gb109, 5, none⟩ = some (.int .i64 a0_5) := (blk_cell BK109.out 5).trans rfl
                      have hcz28_6 : wc.cell? ⟨gb109, 6, none⟩ = some (.string a0_6) := (blk_cell BK109.out 6).trans rfl
                      have hcz28_7 : wc.cell? ⟨gb109, 7, none⟩ = some (.int .i64 a0_7) := (blk_cell BK109.out 7).trans rfl
                      have hcz28_8 : wc.cell? ⟨gb109, 8, none⟩ = some (.int .i64 a0_8) := (blk_cell BK109.out 8).trans rfl
                      have hcz28_9 : wc.cell? ⟨gb109, 9, none⟩ = some (.bool a0_9) := (blk_cell BK109.out 9).trans rfl
                      have hfz28_0 := blk_frozen BK109.out 0
                      have hfz28_1 := blk_frozen BK109.out 1
                      have hfz28_2 := blk_frozen BK109.out 2
                      have hfz28_3 := blk_frozen BK109.out 3
                      have hfz28_4 := blk_frozen BK109.out 4
                      have hfz28_5 := blk_frozen BK109.out 5
                      have hfz28_6 := blk_frozen BK109.out 6
                      have hfz28_7 := blk_frozen BK109.out 7
                      have hfz28_8 := blk_frozen BK109.out 8
                      have hfz28_9 := blk_frozen BK109.out 9
                      go_wp2
                      go_meet
                      case rel => exact ⟨_, ((a0_4 != 0)), (by first | rfl | (simp; done) | (simp [*]; done)), H', ⟨by have := HJ1.out; first | omega | exact Nat.le_refl _⟩, ⟨by (with_reducible repeat (first | refine blk_drewN ?_ _ | refine blk_drew ?_ | refine blk_alloc ?_ _)); exact BK109.out⟩, ⟨by repeat (first | (with_reducible first | exact HB.out | apply below_alloc | apply pw_below_drewN | apply below_drew1 | refine below_set ?_ GE109.out) | exact HB.out)⟩⟩
            · rw [if_neg c19] at H
              have c19b0 : (a0_2 == 0) = false := beq_eq_false_iff_ne.mpr c19
              have c19b1 : (a0_2 != 0) = true := bne_iff_ne.mpr c19
              as_aux_lemma =>
                have H' := Aside0.mk H
                clear H
                have hcz29_0 : wc.cell? ⟨gb109, 0, none⟩ = some (.int .i64 a0_0) := (blk_cell BK109.out 0).trans rfl
                have hcz29_1 : wc.cell? ⟨gb109, 1, none⟩ = some (.slice A0_1 l0_1.length c0_1) := (blk_cell BK109.out 1).trans rfl
                have hcz29_2 : wc.cell? ⟨gb109, 2, none⟩ = some (.int .i32 a0_2) := (blk_cell BK109.out 2).trans rfl
                have hcz29_3 : wc.cell? ⟨gb109, 3, none⟩ = some (.slice A0_3 l0_3.length c0_3) := (blk_cell BK109.out 3).trans rfl
                have hcz29_4 : wc.cell? ⟨gb109, 4, none⟩ = some (.int .i64 a0_4) := (blk_cell BK109.out 4).trans rfl
                have hcz29_5 : wc.cell? ⟨gb109, 5, none⟩ = some (.int .i64 a0_5) := (blk_cell BK109.out 5).trans rfl
                have hcz29_6 : wc.cell? ⟨gb109, 6, none⟩ = some (.string a0_6) := (blk_cell BK109.out 6).trans rfl
                have hcz29_7 : wc.cell? ⟨gb109, 7, none⟩ = some (.int .i64 a0_7) := (blk_cell BK109.out 7).trans rfl
                have hcz29_8 : wc.cell? ⟨gb109, 8, none⟩ = some (.int .i64 a0_8) := (blk_cell BK109.out 8).trans rfl
                have hcz29_9 : wc.cell? ⟨gb109, 9, none⟩ = some (.bool a0_9) := (blk_cell BK109.out 9).trans rfl
                have hfz29_0 := blk_frozen BK109.out 0
                have hfz29_1 := blk_frozen BK109.out 1
                have hfz29_2 := blk_frozen BK109.out 2
                have hfz29_3 := blk_frozen BK109.out 3
                have hfz29_4 := blk_frozen BK109.out 4
                have hfz29_5 := blk_frozen BK109.out 5
                have hfz29_6 := blk_frozen BK109.out 6
                have hfz29_7 := blk_frozen BK109.out 7
                have hfz29_8 := blk_frozen BK109.out 8
                have hfz29_9 := blk_frozen BK109.out 9
                go_wp2
                go_meet
                case rel => exact ⟨_, (true), (by first | rfl | (simp; done) | (simp [*]; done)), H', ⟨by have := HJ1.out; first | omega | exact Nat.le_refl _⟩, ⟨by (with_reducible repeat (first | refine blk_drewN ?_ _ | refine blk_drew ?_ | refine blk_alloc ?_ _)); exact BK109.out⟩, ⟨by repeat (first | (with_reducible first | exact HB.out | apply below_alloc | apply pw_below_drewN | apply below_drew1 | refine below_set ?_ GE109.out) | exact HB.out)⟩⟩
        case rest =>
          clear HC8
          try clear c1
          try clear c2
          try clear p2
          try clear c3
          try clear c4
          try clear c4b0
          try clear c7
          try clear c9
          try clear c9b0
          try clear c9b1
          try clear c10
          try clear c10b0
          try clear c10b1
          try clear c11
          try clear c11b0
          try clear c11b1
          try clear c14
          try clear c14b0
          try clear c14b1
          try clear c16
          try clear c16b0
          try clear c16b1
          try clear c19
          try clear c19b0
          try clear c19b1
          try clear c20
          try clear c20b0
          try clear c20b1
          try clear c21
          try clear c21b0
          try clear c21b1
          try clear c24
          try clear c24b0
          try clear c24b1
          try clear c26
          try clear c26b0
          try clear c26b1
          try clear hcz12_0
          try clear hcz12_1
          try clear hcz12_2
          try clear hcz12_3
          try clear hcz12_4
          try clear hcz12_5
          try clear hcz12_6
          try clear hcz12_7
          try clear hcz12_8
          try clear hcz12_9
          try clear hcz13_0
          try clear hcz13_1
          try clear hcz13_2
          try clear hcz13_3
          try clear hcz13_4
          try clear hcz13_5
          try clear hcz13_6
          try clear hcz13_7
          try clear hcz13_8
          try clear hcz13_9
          try clear hcz15_0
          try clear hcz15_1
          try clear hcz15_2
          try clear hcz15_3
          try clear hcz15_4
          try clear hcz15_5
          try clear hcz15_6
          try clear hcz15_7
          try clear hcz15_8
          try clear hcz15_9
          try clear hcz17_0
          try clear hcz17_1
          try clear hcz17_2
          try clear hcz17_3
          try clear hcz17_4
          try clear hcz17_5
          try clear hcz17_6
          try clear hcz17_7
          try clear hcz17_8
          try clear hcz17_9
          try clear hcz18_0
          try clear hcz18_1
          try clear hcz18_2
          try clear hcz18_3
          try clear hcz18_4
          try clear hcz18_5
          try clear hcz18_6
          try clear hcz18_7
          try clear hcz18_8
          try clear hcz18_9
          try clear hcz22_0
          try clear hcz22_1
          try clear hcz22_2
          try clear hcz22_3
          try clear hcz22_4
          try clear hcz22_5
          try clear hcz22_6
          try clear hcz22_7
          try clear hcz22_8
          try clear hcz22_9
          try clear hcz23_0
          try clear hcz23_1
          try clear hcz23_2
          try clear hcz23_3
          try clear hcz23_4
          try clear hcz23_5
          try clear hcz23_6
          try clear hcz23_7
          try clear hcz23_8
          try clear hcz23_9
          try clear hcz25_0
          try clear hcz25_1
          try clear hcz25_2
          try clear hcz25_3
          try clear hcz25_4
          try clear hcz25_5
          try clear hcz25_6
          try clear hcz25_7
          try clear hcz25_8
          try clear hcz25_9
          try clear hcz27_0
          try clear hcz27_1
          try clear hcz27_2
          try clear hcz27_3
          try clear hcz27_4
          try clear hcz27_5
          try clear hcz27_6
          try clear hcz27_7
          try clear hcz27_8
          try clear hcz27_9
          try clear hcz28_0
          try clear hcz28_1
          try clear hcz28_2
          try clear hcz28_3
          try clear hcz28_4
          try clear hcz28_5
          try clear hcz28_6
          try clear hcz28_7
          try clear hcz28_8
          try clear hcz28_9
          try clear hcz29_0
          try clear hcz29_1
          try clear hcz29_2
          try clear hcz29_3
          try clear hcz29_4
          try clear hcz29_5
          try clear hcz29_6
          try clear hcz29_7
          try clear hcz29_8
          try clear hcz29_9
          try clear hcz5_0
          try clear hcz5_1
          try clear hcz5_2
          try clear hcz5_3
          try clear hcz5_4
          try clear hcz5_5
          try clear hcz5_6
          try clear hcz5_7
          try clear hcz5_8
          try clear hcz5_9
          try clear hcz6_0
          try clear hcz6_1
          try clear hcz6_2
          try clear hcz6_3
          try clear hcz6_4
          try clear hcz6_5
          try clear hcz6_6
          try clear hcz6_7
          try clear hcz6_8
          try clear hcz6_9
          try clear hfz12_0
          try clear hfz12_1
          try clear hfz12_2
          try clear hfz12_3
          try clear hfz12_4
          try clear hfz12_5
          try clear hfz12_6
          try clear hfz12_7
          try clear hfz12_8
          try clear hfz12_9
          try clear hfz13_0
          try clear hfz13_1
          try clear hfz13_2
          try clear hfz13_3
          try clear hfz13_4
          try clear hfz13_5
          try clear hfz13_6
          try clear hfz13_7
          try clear hfz13_8
          try clear hfz13_9
          try clear hfz15_0
          try clear hfz15_1
          try clear hfz15_2
          try clear hfz15_3
          try clear hfz15_4
          try clear hfz15_5
          try clear hfz15_6
          try clear hfz15_7
          try clear hfz15_8
          try clear hfz15_9
          try clear hfz17_0
          try clear hfz17_1
          try clear hfz17_2
          try clear hfz17_3
          try clear hfz17_4
          try clear hfz17_5
          try clear hfz17_6
          try clear hfz17_7
          try clear hfz17_8
          try clear hfz17_9
          try clear hfz18_0
          try clear hfz18_1
          try clear hfz18_2
          try clear hfz18_3
          try clear hfz18_4
          try clear hfz18_5
          try clear hfz18_6
          try clear hfz18_7
          try clear hfz18_8
          try clear hfz18_9
          try clear hfz22_0
          try clear hfz22_1
          try clear hfz22_2
          try clear hfz22_3
          try clear hfz22_4
          try clear hfz22_5
          try clear hfz22_6
          try clear hfz22_7
          try clear hfz22_8
          try clear hfz22_9
          try clear hfz23_0
          try clear hfz23_1
          try clear hfz23_2
          try clear hfz23_3
          try clear hfz23_4
          try clear hfz23_5
          try clear hfz23_6
          try clear hfz23_7
          try clear hfz23_8
          try clear hfz23_9
          try clear hfz25_0
          try clear hfz25_1
          try clear hfz25_2
          try clear hfz25_3
          try clear hfz25_4
          try clear hfz25_5
          try clear hfz25_6
          try clear hfz25_7
          try clear hfz25_8
          try clear hfz25_9
          try clear hfz27_0
          try clear hfz27_1
          try clear hfz27_2
          try clear hfz27_3
          try clear hfz27_4
          try clear hfz27_5
          try clear hfz27_6
          try clear hfz27_7
          try clear hfz27_8
          try clear hfz27_9
          try clear hfz28_0
          try clear hfz28_1
          try clear hfz28_2
          try clear hfz28_3
          try clear hfz28_4
          try clear hfz28_5
          try clear hfz28_6
          try clear hfz28_7
          try clear hfz28_8
          try clear hfz28_9
          try clear hfz29_0
          try clear hfz29_1
          try clear hfz29_2
          try clear hfz29_3
          try clear hfz29_4
          try clear hfz29_5
          try clear hfz29_6
          try clear hfz29_7
          try clear hfz29_8
          try clear hfz29_9
          try clear hfz5_0
          try clear hfz5_1
          try clear hfz5_2
          try clear hfz5_3
          try clear hfz5_4
          try clear hfz5_5
          try clear hfz5_6
          try clear hfz5_7
          try clear hfz5_8
          try clear hfz5_9
          try clear hfz6_0
          try clear hfz6_1
          try clear hfz6_2
          try clear hfz6_3
          try clear hfz6_4
          try clear hfz6_5
          try clear hfz6_6
          try clear hfz6_7
          try clear hfz6_8
          try clear hfz6_9
          try clear p2
          obtain ⟨kq, x41_7, rfl, HA, HJ7, BK109, HB⟩ := hcut
          cases kq with
          | zero => exact absurd HA.out (by simp [martelloref05_fields.j1])
          | succ kj7 =>
            have H := HA.out
            clear HA
            simp only [martelloref05_fields.j1] at H
            by_cases c30 : x41_7 = true
            · subst c30
              have H1 : (some false) = some r := by rw [if_pos rfl] at H; exact H
              clear H
              have H := H1
              clear H1
              as_aux_lemma =>
                obtain rfl := Option.some.inj H
                go_wp2
                go_ret
                exact ⟨by first | rfl | (simp [errW_none, errW_some] <;> rfl) | (simp [*, errW_none, errW_some] <;> rfl), by repeat (first | (with_reducible first | exact HB.out | apply below_alloc | apply pw_below_drewN | apply below_drew1 | refine below_set ?_ GE109.out) | exact HB.out)⟩
            · replace c30 := Bool.eq_false_iff.mpr c30
              subst c30
              have H1 : (if a0_0 = 6 then (if a0_0 = 10 then (martelloref05_fields.j2 kj7 false a0_0 l0_1 a0_2 l0_3 a0_4 a0_5 a0_6 a0_7 a0_8 a0_9) else (if a0_7 = 0 then (martelloref05_fields.j2 kj7 (a0_8 != 0) a0_0 l0_1 a0_2 l0_3 a0_4 a0_5 a0_6 a0_7 a0_8 a0_9) else (martelloref05_fields.j2 kj7 true a0_0 l0_1 a0_2 l0_3 a0_4 a0_5 a0_6 a0_7 a0_8 a0_9))) else (if a0_5 = 0 then (if a0_6.toList = ([] : List UInt8) then (if a0_0 = 10 then (martelloref05_fields.j2 kj7 false a0_0 l0_1 a0_2 l0_3 a0_4 a0_5 a0_6 a0_7 a0_8 a0_9) else (if a0_7 = 0 then (martelloref05_fields.j2 kj7 (a0_8 != 0) a0_0 l0_1 a0_2 l0_3 a0_4 a0_5 a0_6 a0_7 a0_8 a0_9) else (martelloref05_fields.j2 kj7 true a0_0 l0_1 a0_2 l0_3 a0_4 a0_5 a0_6 a0_7 a0_8 a0_9))) else (martelloref05_fields.j2 kj7 true a0_0 l0_1 a0_2 l0_3 a0_4 a0_5 a0_6 a0_7 a0_8 a0_9)) else (martelloref05_fields.j2 kj7 true a0_0 l0_1 a0_2 l0_3 a0_4 a0_5 a0_6 a0_7 a0_8 a0_9))) = some r := by rw [if_neg (show ¬ (false = true) by decide)] at H; exact H
              clear H
              have H := H1
              clear H1
              have HC31 := Aside0.mk H
              clear H
              go_upto_region 5 with (fail)
              go_cut [69] (fun v69 wc => ∃ (kq : Nat) (x69_30 : Bool), v69 = .bool x69_30 ∧ Aside0 (martelloref05_fields.j2 kq x69_30 a0_0 l0_1 a0_2 l0_3 a0_4 a0_5 a0_6 a0_7 a0_8 a0_9 = some r) ∧ Aside0 (kq ≤ kj7) ∧ Aside0 (wc.heap[gb109]? = some (.cells #[.int .i64 a0_0, (.slice A0_1 l0_1.length c0_1), .int .i32 a0_2, (.slice A0_3 l0_3.length c0_3), .int .i64 a0_4, .int .i64 a0_5, .string a0_6, .int .i64 a0_7, .int .i64 a0_8, .bool a0_9] 27 (0, 0))) ∧ Aside0 (Below w.heap.size w wc))
              case first =>
                have H := HC31.out
                clear HC31
                by_cases c32 : a0_0 = 6
                · rw [if_pos c32] at H
                  have c32b0 : (a0_0 == 6) = true := beq_iff_eq.mpr c32
                  have c32b1 : (a0_0 != 6) = false := bne_eq_false_iff_eq.mpr c32
                  clear c32
                  (first | rw [c32b0] | (simp only [i64_w, i32_w]; rw [c32b0]) | skip)
                  by_cases c33 : a0_0 = 10
                  · rw [if_pos c33] at H
                    have c33b0 : (a0_0 == 10) = true := beq_iff_eq.mpr c33
                    have c33b1 : (a0_0 != 10) = false := bne_eq_false_iff_eq.mpr c33
                    clear c33
                    as_aux_lemma =>
                      have H' := Aside0.mk H
                      clear H
                      have hcz34_0 : wc.cell? ⟨gb109, 0, none⟩ = some (.int .i64 a0_0) := (blk_cell BK109.out 0).trans rfl
                      have hcz34_1 : wc.cell? ⟨gb109, 1, none⟩ = some (.slice A0_1 l0_1.length c0_1) := (blk_cell BK109.out 1).trans rfl
                      have hcz34_2 : wc.cell? ⟨gb109, 2, none⟩ = some (.int .i32 a0_2) := (blk_cell BK109.out 2).trans rfl
                      have hcz34_3 : wc.cell? ⟨gb109, 3, none⟩ = some (.slice A0_3 l0_3.length c0_3) := (blk_cell BK109.out 3).trans rfl
                      have hcz34_4 : wc.cell? ⟨gb109, 4, none⟩ = some (.int .i64 a0_4) := (blk_cell BK109.out 4).trans rfl
                      have hcz34_5 : wc.cell? ⟨gb109, 5, none⟩ = some (.int .i64 a0_5) := (blk_cell BK109.out 5).trans rfl
                      have hcz34_6 : wc.cell? ⟨gb109, 6, none⟩ = some (.string a0_6) := (blk_cell BK109.out 6).trans rfl
                      have hcz34_7 : wc.cell? ⟨gb109, 7, none⟩ = some (.int .i64 a0_7) := (blk_cell BK109.out 7).trans rfl
                      have hcz34_8 : wc.cell? ⟨gb109, 8, none⟩ = some (.int .i64 a0_8) := (blk_cell BK109.out 8).trans rfl
                      have hcz34_9 : wc.cell? ⟨gb109, 9, none⟩ = some (.bool a0_9) := (blk_cell BK109.out 9).trans rfl
                      have hfz34_0 := blk_frozen BK109.out 0
                      have hfz34_1 := blk_frozen BK109.out 1
                      have hfz34_2 := blk_frozen BK109.out 2
                      have hfz34_3 := blk_frozen BK109.out 3
                      have hfz34_4 := blk_frozen BK109.out 4
                      have hfz34_5 := blk_frozen BK109.out 5
                      have hfz34_6 := blk_frozen BK109.out 6
                      have hfz34_7 := blk_frozen BK109.out 7
                      have hfz34_8 := blk_frozen BK109.out 8
                      have hfz34_9 := blk_frozen BK109.out 9
                      go_wp2
                      go_meet
                      case rel => exact ⟨_, (false), (by first | rfl | (simp; done) | (simp [*]; done)), H', ⟨by have := HJ1.out; have := HJ7.out; first | omega | exact Nat.le_refl _⟩, ⟨by (with_reducible repeat (first | refine blk_drewN ?_ _ | refine blk_drew ?_ | refine blk_alloc ?_ _)); exact BK109.out⟩, ⟨by repeat (first | (with_reducible first | exact HB.out | apply below_alloc | apply pw_below_drewN | apply below_drew1 | refine below_set ?_ GE109.out) | exact HB.out)⟩⟩
                  · rw [if_neg c33] at H
                    have c33b0 : (a0_0 == 10) = false := beq_eq_false_iff_ne.mpr c33
                    have c33b1 : (a0_0 != 10) = true := bne_iff_ne.mpr c33
                    by_cases c35 : a0_7 = 0
                    · rw [if_pos c35] at H
                      have c35b0 : (a0_7 == 0) = true := beq_iff_eq.mpr c35
                      have c35b1 : (a0_7 != 0) = false := bne_eq_false_iff_eq.mpr c35
                      clear c35
                      as_aux_lemma =>
                        have H' := Aside0.mk H
                        clear H
                        have hcz36_0 : wc.cell? ⟨gb109, 0, none⟩ = some (.int .i64 a0_0) := (blk_cell BK109.out 0).trans rfl
                        have hcz36_1 : wc.cell? ⟨gb109, 1, none⟩ = some (.slice A0_1 l0_1.length c0_1) := (blk_cell BK109.out 1).trans rfl
                        have hcz36_2 : wc.cell? ⟨gb109, 2, none⟩ = some (.int .i32 a0_2) := (blk_cell BK109.out 2).trans rfl
                        have hcz36_3 : wc.cell? ⟨gb109, 3, none⟩ = some (.slice A0_3 l0_3.length c0_3) := (blk_cell BK109.out 3).trans rfl
                        have hcz36_4 : wc.cell? ⟨gb109, 4, none⟩ = some (.int .i64 a0_4) := (blk_cell BK109.out 4).trans rfl
                        have hcz36_5 : wc.cell? ⟨gb109, 5, none⟩ = some (.int .i64 a0_5) := (blk_cell BK109.out 5).trans rfl
                        have hcz36_6 : wc.cell? ⟨gb109, 6, none⟩ = some (.string a0_6) := (blk_cell BK109.out 6).trans rfl
                        have hcz36_7 : wc.cell? ⟨gb109, 7, none⟩ = some (.int .i64 a0_7) := (blk_cell BK109.out 7).trans rfl
                        have hcz36_8 : wc.cell? ⟨gb109, 8, none⟩ = some (.int .i64 a0_8) := (blk_cell BK109.out 8).trans rfl
                        have hcz36_9 : wc.cell? ⟨gb109, 9, none⟩ = some (.bool a0_9) := (blk_cell BK109.out 9).trans rfl
                        have hfz36_0 := blk_frozen BK109.out 0
                        have hfz36_1 := blk_frozen BK109.out 1
                        have hfz36_2 := blk_frozen BK109.out 2
                        have hfz36_3 := blk_frozen BK109.out 3
                        have hfz36_4 := blk_frozen BK109.out 4
                        have hfz36_5 := blk_frozen BK109.out 5
                        have hfz36_6 := blk_frozen BK109.out 6
                        have hfz36_7 := blk_frozen BK109.out 7
                        have hfz36_8 := blk_frozen BK109.out 8
                        have hfz36_9 := blk_frozen BK109.out 9
                        go_wp2
                        go_meet
                        case rel => exact ⟨_, ((a0_8 != 0)), (by first | rfl | (simp; done) | (simp [*]; done)), H', ⟨by have := HJ1.out; have := HJ7.out; first | omega | exact Nat.le_refl _⟩, ⟨by (with_reducible repeat (first | refine blk_drewN ?_ _ | refine blk_drew ?_ | refine blk_alloc ?_ _)); exact BK109.out⟩, ⟨by repeat (first | (with_reducible first | exact HB.out | apply below_alloc | apply pw_below_drewN | apply below_drew1 | refine below_set ?_ GE109.out) | exact HB.out)⟩⟩
                    · rw [if_neg c35] at H
                      have c35b0 : (a0_7 == 0) = false := beq_eq_false_iff_ne.mpr c35
                      have c35b1 : (a0_7 != 0) = true := bne_iff_ne.mpr c35
                      as_aux_lemma =>
                        have H' := Aside0.mk H
                        clear H
                        have hcz37_0 : wc.cell? ⟨gb109, 0, none⟩ = some (.int .i64 a0_0) := (blk_cell BK109.out 0).trans rfl
                        have hcz37_1 : wc.cell? ⟨gb109, 1, none⟩ = some (.slice A0_1 l0_1.length c0_1) := (blk_cell BK109.out 1).trans rfl
                        have hcz37_2 : wc.cell? ⟨gb109, 2, none⟩ = some (.int .i32 a0_2) := (blk_cell BK109.out 2).trans rfl
                        have hcz37_3 : wc.cell? ⟨gb109, 3, none⟩ = some (.slice A0_3 l0_3.length c0_3) := (blk_cell BK109.out 3).trans rfl
                        have hcz37_4 : wc.cell? ⟨gb109, 4, none⟩ = some (.int .i64 a0_4) := (blk_cell BK109.out 4).trans rfl
                        have hcz37_5 : wc.cell? ⟨gb109, 5, none⟩ = some (.int .i64 a0_5) := (blk_cell BK109.out 5).trans rfl
                        have hcz37_6 : wc.cell? ⟨gb109, 6, none⟩ = some (.string a0_6) := (blk_cell BK109.out 6).trans rfl
                        have hcz37_7 : wc.cell? ⟨gb109, 7, none⟩ = some (.int .i64 a0_7) := (blk_cell BK109.out 7).trans rfl
                        have hcz37_8 : wc.cell? ⟨gb109, 8, none⟩ = some (.int .i64 a0_8) := (blk_cell BK109.out 8).trans rfl
                        have hcz37_9 : wc.cell? ⟨gb109, 9, none⟩ = some (.bool a0_9) := (blk_cell BK109.out 9).trans rfl
                        have hfz37_0 := blk_frozen BK109.out 0
                        have hfz37_1 := blk_frozen BK109.out 1
                        have hfz37_2 := blk_frozen BK109.out 2
                        have hfz37_3 := blk_frozen BK109.out 3
                        have hfz37_4 := blk_frozen BK109.out 4
                        have hfz37_5 := blk_frozen BK109.out 5
                        have hfz37_6 := blk_frozen BK109.out 6
                        have hfz37_7 := blk_frozen BK109.out 7
                        have hfz37_8 := blk_frozen BK109.out 8
                        have hfz37_9 := blk_frozen BK109.out 9
                        go_wp2
                        go_meet
                        case rel => exact ⟨_, (true), (by first | rfl | (simp; done) | (simp [*]; done)), H', ⟨by have := HJ1.out; have := HJ7.out; first | omega | exact Nat.le_refl _⟩, ⟨by (with_reducible repeat (first | refine blk_drewN ?_ _ | refine blk_drew ?_ | refine blk_alloc ?_ _)); exact BK109.out⟩, ⟨by repeat (first | (with_reducible first | exact HB.out | apply below_alloc | apply pw_below_drewN | apply below_drew1 | refine below_set ?_ GE109.out) | exact HB.out)⟩⟩
                · rw [if_neg c32] at H
                  have c32b0 : (a0_0 == 6) = false := beq_eq_false_iff_ne.mpr c32
                  have c32b1 : (a0_0 != 6) = true := bne_iff_ne.mpr c32
                  (first | rw [c32b0] | (simp only [i64_w, i32_w]; rw [c32b0]) | skip)
                  by_cases c38 : a0_5 = 0
                  · rw [if_pos c38] at H
                    have c38b0 : (a0_5 == 0) = true := beq_iff_eq.mpr c38
                    have c38b1 : (a0_5 != 0) = false := bne_eq_false_iff_eq.mpr c38
                    clear c38
                    by_cases c39 : a0_6.toList = ([] : List UInt8)
                    · rw [if_pos c39] at H
                      have c39b0 : (a0_6.toList == ([] : List UInt8)) = true := beq_iff_eq.mpr c39
                      have c39b1 : (a0_6.toList != ([] : List UInt8)) = false := bne_eq_false_iff_eq.mpr c39
                      clear c39
                      by_cases c40 : a0_0 = 10
                      · rw [if_pos c40] at H
                        have c40b0 : (a0_0 == 10) = true := beq_iff_eq.mpr c40
                        have c40b1 : (a0_0 != 10) = false := bne_eq_false_iff_eq.mpr c40
                        clear c40
                        as_aux_lemma =>
                          have H' := Aside0.mk H
                          clear H
                          have hcz41_0 : wc.cell? ⟨gb109, 0, none⟩ = some (.int .i64 a0_0) := (blk_cell BK109.out 0).trans rfl
                          have hcz41_1 : wc.cell? ⟨gb109, 1, none⟩ = some (.slice A0_1 l0_1.length c0_1) := (blk_cell BK109.out 1).trans rfl
                          have hcz41_2 : wc.cell? ⟨gb109, 2, none⟩ = some (.int .i32 a0_2) := (blk_cell BK109.out 2).trans rfl
                          have hcz41_3 : wc.cell? ⟨gb109, 3, none⟩ = some (.slice A0_3 l0_3.length c0_3) := (blk_cell BK109.out 3).trans rfl
                          have hcz41_4 : wc.cell? ⟨gb109, 4, none⟩ = some (.int .i64 a0_4) := (blk_cell BK109.out 4).trans rfl
                          have hcz41_5 : wc.cell? ⟨gb109, 5, none⟩ = some (.int .i64 a0_5) := (blk_cell BK109.out 5).trans rfl
                          have hcz41_6 : wc.cell? ⟨gb109, 6, none⟩ = some (.string a0_6) := (blk_cell BK109.out 6).trans rfl
                          have hcz41_7 : wc.cell? ⟨gb109, 7, none⟩ = some (.int .i64 a0_7) := (blk_cell BK109.out 7).trans rfl
                          have hcz41_8 : wc.cell? ⟨gb109, 8, none⟩ = some (.int .i64 a0_8) := (blk_cell BK109.out 8).trans rfl
                          have hcz41_9 : wc.cell? ⟨gb109, 9, none⟩ = some (.bool a0_9) := (blk_cell BK109.out 9).trans rfl
                          have hfz41_0 := blk_frozen BK109.out 0
                          have hfz41_1 := blk_frozen BK109.out 1
                          have hfz41_2 := blk_frozen BK109.out 2
                          have hfz41_3 := blk_frozen BK109.out 3
                          have hfz41_4 := blk_frozen BK109.out 4
                          have hfz41_5 := blk_frozen BK109.out 5
                          have hfz41_6 := blk_frozen BK109.out 6
                          have hfz41_7 := blk_frozen BK109.out 7
                          have hfz41_8 := blk_frozen BK109.out 8
                          have hfz41_9 := blk_frozen BK109.out 9
                          go_wp2
                          go_meet
                          case rel => exact ⟨_, (false), (by first | rfl | (simp; done) | (simp [*]; done)), H', ⟨by have := HJ1.out; have := HJ7.out; first | omega | exact Nat.le_refl _⟩, ⟨by (with_reducible repeat (first | refine blk_drewN ?_ _ | refine blk_drew ?_ | refine blk_alloc ?_ _)); exact BK109.out⟩, ⟨by repeat (first | (with_reducible first | exact HB.out | apply below_alloc | apply pw_below_drewN | apply below_drew1 | refine below_set ?_ GE109.out) | exact HB.out)⟩⟩
                      · rw [if_neg c40] at H
                        have c40b0 : (a0_0 == 10) = false := beq_eq_false_iff_ne.mpr c40
                        have c40b1 : (a0_0 != 10) = true := bne_iff_ne.mpr c40
                        by_cases c42 : a0_7 = 0
                        · rw [if_pos c42] at H
                          have c42b0 : (a0_7 == 0) = true := beq_iff_eq.mpr c42
                          have c42b1 : (a0_7 != 0) = false := bne_eq_false_iff_eq.mpr c42
                          clear c42
                          as_aux_lemma =>
                            have H' := Aside0.mk H
                            clear H
                            have hcz43_0 : wc.cell? ⟨gb109, 0, none⟩ = some (.int .i64 a0_0) := (blk_cell BK109.out 0).trans rfl
                            have hcz43_1 : wc.cell? ⟨gb109, 1, none⟩ = some (.slice A0_1 l0_1.length c0_1) := (blk_cell BK109.out 1).trans rfl
                            have hcz43_2 : wc.cell? ⟨gb109, 2, none⟩ = some (.int .i32 a0_2) := (blk_cell BK109.out 2).trans rfl
                            have hcz43_3 : wc.cell? ⟨gb109, 3, none⟩ = some (.slice A0_3 l0_3.length c0_3) := (blk_cell BK109.out 3).trans rfl
                            have hcz43_4 : wc.cell? ⟨gb109, 4, none⟩ = some (.int .i64 a0_4) := (blk_cell BK109.out 4).trans rfl
                            have hcz43_5 : wc.cell? ⟨gb109, 5, none⟩ = some (.int .i64 a0_5) := (blk_cell BK109.out 5).trans rfl
                            have hcz43_6 : wc.cell? ⟨gb109, 6, none⟩ = some (.string a0_6) := (blk_cell BK109.out 6).trans rfl
                            have hcz43_7 : wc.cell? ⟨gb109, 7, none⟩ = some (.int .i64 a0_7) := (blk_cell BK109.out 7).trans rfl
                            have hcz43_8 : wc.cell? ⟨gb109, 8, none⟩ = some (.int .i64 a0_8) := (blk_cell BK109.out 8).trans rfl
                            have hcz43_9 : wc.cell? ⟨gb109, 9, none⟩ = some (.bool a0_9) := (blk_cell BK109.out 9).trans rfl
                            have hfz43_0 := blk_frozen BK109.out 0
                            have hfz43_1 := blk_frozen BK109.out 1
                            have hfz43_2 := blk_frozen BK109.out 2
                            have hfz43_3 := blk_frozen BK109.out 3
                            have hfz43_4 := blk_frozen BK109.out 4
                            have hfz43_5 := blk_frozen BK109.out 5
                            have hfz43_6 := blk_frozen BK109.out 6
                            have hfz43_7 := blk_frozen BK109.out 7
                            have hfz43_8 := blk_frozen BK109.out 8
                            have hfz43_9 := blk_frozen BK109.out 9
                            go_wp2
                            go_meet
                            case rel => exact ⟨_, ((a0_8 != 0)), (by first | rfl | (simp; done) | (simp [*]; done)), H', ⟨by have := HJ1.out; have := HJ7.out; first | omega | exact Nat.le_refl _⟩, ⟨by (with_reducible repeat (first | refine blk_drewN ?_ _ | refine blk_drew ?_ | refine blk_alloc ?_ _)); exact BK109.out⟩, ⟨by repeat (first | (with_reducible first | exact HB.out | apply below_alloc | apply pw_below_drewN | apply below_drew1 | refine below_set ?_ GE109.out) | exact HB.out)⟩⟩
                        · rw [if_neg c42] at H
                          have c42b0 : (a0_7 == 0) = false := beq_eq_false_iff_ne.mpr c42
                          have c42b1 : (a0_7 != 0) = true := bne_iff_ne.mpr c42
                          as_aux_lemma =>
                            have H' := Aside0.mk H
                            clear H
                            have hcz44_0 : wc.cell? ⟨gb109, 0, none⟩ = some (.int .i64 a0_0) := (blk_cell BK109.out 0).trans rfl
                            have hcz44_1 : wc.cell? ⟨gb109, 1, none⟩ = some (.slice A0_1 l0_1.length c0_1) := (blk_cell BK109.out 1).trans rfl
                            have hcz44_2 : wc.cell? ⟨gb109, 2, none⟩ = some (.int .i32 a0_2) := (blk_cell BK109.out 2).trans rfl
                            have hcz44_3 : wc.cell? ⟨gb109, 3, none⟩ = some (.slice A0_3 l0_3.length c0_3) := (blk_cell BK109.out 3).trans rfl
                            have hcz44_4 : wc.cell? ⟨gb109, 4, none⟩ = some (.int .i64 a0_4) := (blk_cell BK109.out 4).trans rfl
                            have hcz44_5 : wc.cell? ⟨gb109, 5, none⟩ = some (.int .i64 a0_5) := (blk_cell BK109.out 5).trans rfl
                            have hcz44_6 : wc.cell? ⟨gb109, 6, none⟩ = some (.string a0_6) := (blk_cell BK109.out 6).trans rfl
                            have hcz44_7 : wc.cell? ⟨gb109, 7, none⟩ = some (.int .i64 a0_7) := (blk_cell BK109.out 7).trans rfl
                            have hcz44_8 : wc.cell? ⟨gb109, 8, none⟩ = some (.int .i64 a0_8) := (blk_cell BK109.out 8).trans rfl
                            have hcz44_9 : wc.cell? ⟨gb109, 9, none⟩ = some (.bool a0_9) := (blk_cell BK109.out 9).trans rfl
                            have hfz44_0 := blk_frozen BK109.out 0
                            have hfz44_1 := blk_frozen BK109.out 1
                            have hfz44_2 := blk_frozen BK109.out 2
                            have hfz44_3 := blk_frozen BK109.out 3
                            have hfz44_4 := blk_frozen BK109.out 4
                            have hfz44_5 := blk_frozen BK109.out 5
                            have hfz44_6 := blk_frozen BK109.out 6
                            have hfz44_7 := blk_frozen BK109.out 7
                            have hfz44_8 := blk_frozen BK109.out 8
                            have hfz44_9 := blk_frozen BK109.out 9
                            go_wp2
                            go_meet
                            case rel => exact ⟨_, (true), (by first | rfl | (simp; done) | (simp [*]; done)), H', ⟨by have := HJ1.out; have := HJ7.out; first | omega | exact Nat.le_refl _⟩, ⟨by (with_reducible repeat (first | refine blk_drewN ?_ _ | refine blk_drew ?_ | refine blk_alloc ?_ _)); exact BK109.out⟩, ⟨by repeat (first | (with_reducible first | exact HB.out | apply below_alloc | apply pw_below_drewN | apply below_drew1 | refine below_set ?_ GE109.out) | exact HB.out)⟩⟩
                    · rw [if_neg c39] at H
                      have c39b0 : (a0_6.toList == ([] : List UInt8)) = false := beq_eq_false_iff_ne.mpr c39
                      have c39b1 : (a0_6.toList != ([] : List UInt8)) = true := bne_iff_ne.mpr c39
                      as_aux_lemma =>
                        have H' := Aside0.mk H
                        clear H
                        have hcz45_0 : wc.cell? ⟨gb109, 0, none⟩ = some (.int .i64 a0_0) := (blk_cell BK109.out 0).trans rfl
                        have hcz45_1 : wc.cell? ⟨gb109, 1, none⟩ = some (.slice A0_1 l0_1.length c0_1) := (blk_cell BK109.out 1).trans rfl
                        have hcz45_2 : wc.cell? ⟨gb109, 2, none⟩ = some (.int .i32 a0_2) := (blk_cell BK109.out 2).trans rfl
                        have hcz45_3 : wc.cell? ⟨gb109, 3, none⟩ = some (.slice A0_3 l0_3.length c0_3) := (blk_cell BK109.out 3).trans rfl
                        have hcz45_4 : wc.cell? ⟨gb109, 4, none⟩ = some (.int .i64 a0_4) := (blk_cell BK109.out 4).trans rfl
                        have hcz45_5 : wc.cell? ⟨gb109, 5, none⟩ = some (.int .i64 a0_5) := (blk_cell BK109.out 5).trans rfl
                        have hcz45_6 : wc.cell? ⟨gb109, 6, none⟩ = some (.string a0_6) := (blk_cell BK109.out 6).trans rfl
                        have hcz45_7 : wc.cell? ⟨gb109, 7, none⟩ = some (.int .i64 a0_7) := (blk_cell BK109.out 7).trans rfl
                        have hcz45_8 : wc.cell? ⟨gb109, 8, none⟩ = some (.int .i64 a0_8) := (blk_cell BK109.out 8).trans rfl
                        have hcz45_9 : wc.cell? ⟨gb109, 9, none⟩ = some (.bool a0_9) := (blk_cell BK109.out 9).trans rfl
                        have hfz45_0 := blk_frozen BK109.out 0
                        have hfz45_1 := blk_frozen BK109.out 1
                        have hfz45_2 := blk_frozen BK109.out 2
                        have hfz45_3 := blk_frozen BK109.out 3
                        have hfz45_4 := blk_frozen BK109.out 4
                        have hfz45_5 := blk_frozen BK109.out 5
                        have hfz45_6 := blk_frozen BK109.out 6
                        have hfz45_7 := blk_frozen BK109.out 7
                        have hfz45_8 := blk_frozen BK109.out 8
                        have hfz45_9 := blk_frozen BK109.out 9
                        go_wp2
                        go_meet
                        case rel => exact ⟨_, (true), (by first | rfl | (simp; done) | (simp [*]; done)), H', ⟨by have := HJ1.out; have := HJ7.out; first | omega | exact Nat.le_refl _⟩, ⟨by (with_reducible repeat (first | refine blk_drewN ?_ _ | refine blk_drew ?_ | refine blk_alloc ?_ _)); exact BK109.out⟩, ⟨by repeat (first | (with_reducible first | exact HB.out | apply below_alloc | apply pw_below_drewN | apply below_drew1 | refine below_set ?_ GE109.out) | exact HB.out)⟩⟩
                  · rw [if_neg c38] at H
                    have c38b0 : (a0_5 == 0) = false := beq_eq_false_iff_ne.mpr c38
                    have c38b1 : (a0_5 != 0) = true := bne_iff_ne.mpr c38
                    as_aux_lemma =>
                      have H' := Aside0.mk H
                      clear H
                      have hcz46_0 : wc.cell? ⟨gb109, 0, none⟩ = some (.int .i64 a0_0) := (blk_cell BK109.out 0).trans rfl
                      have hcz46_1 : wc.cell? ⟨gb109, 1, none⟩ = some (.slice A0_1 l0_1.length c0_1) := (blk_cell BK109.out 1).trans rfl
                      have hcz46_2 : wc.cell? ⟨gb109, 2, none⟩ = some (.int .i32 a0_2) := (blk_cell BK109.out 2).trans rfl
                      have hcz46_3 : wc.cell? ⟨gb109, 3, none⟩ = some (.slice A0_3 l0_3.length c0_3) := (blk_cell BK109.out 3).trans rfl
                      have hcz46_4 : wc.cell? ⟨gb109, 4, none⟩ = some (.int .i64 a0_4) := (blk_cell BK109.out 4).trans rfl
                      have hcz46_5 : wc.cell? ⟨gb109, 5, none⟩ = some (.int .i64 a0_5) := (blk_cell BK109.out 5).trans rfl
                      have hcz46_6 : wc.cell? ⟨gb109, 6, none⟩ = some (.string a0_6) := (blk_cell BK109.out 6).trans rfl
                      have hcz46_7 : wc.cell? ⟨gb109, 7, none⟩ = some (.int .i64 a0_7) := (blk_cell BK109.out 7).trans rfl
                      have hcz46_8 : wc.cell? ⟨gb109, 8, none⟩ = some (.int .i64 a0_8) := (blk_cell BK109.out 8).trans rfl
                      have hcz46_9 : wc.cell? ⟨gb109, 9, none⟩ = some (.bool a0_9) := (blk_cell BK109.out 9).trans rfl
                      have hfz46_0 := blk_frozen BK109.out 0
                      have hfz46_1 := blk_frozen BK109.out 1
                      have hfz46_2 := blk_frozen BK109.out 2
                      have hfz46_3 := blk_frozen BK109.out 3
                      have hfz46_4 := blk_frozen BK109.out 4
                      have hfz46_5 := blk_frozen BK109.out 5
                      have hfz46_6 := blk_frozen BK109.out 6
                      have hfz46_7 := blk_frozen BK109.out 7
                      have hfz46_8 := blk_frozen BK109.out 8
                      have hfz46_9 := blk_frozen BK109.out 9
                      go_wp2
                      go_meet
                      case rel => exact ⟨_, (true), (by first | rfl | (simp; done) | (simp [*]; done)), H', ⟨by have := HJ1.out; have := HJ7.out; first | omega | exact Nat.le_refl _⟩, ⟨by (with_reducible repeat (first | refine blk_drewN ?_ _ | refine blk_drew ?_ | refine blk_alloc ?_ _)); exact BK109.out⟩, ⟨by repeat (first | (with_reducible first | exact HB.out | apply below_alloc | apply pw_below_drewN | apply below_drew1 | refine below_set ?_ GE109.out) | exact HB.out)⟩⟩
              case rest =>
                clear HC31
                try clear c1
                try clear c2
                try clear p2
                try clear c3
                try clear c4
                try clear c4b0
                try clear c7
                try clear c9
                try clear c9b0
                try clear c9b1
                try clear c10
                try clear c10b0
                try clear c10b1
                try clear c11
                try clear c11b0
                try clear c11b1
                try clear c14
                try clear c14b0
                try clear c14b1
                try clear c16
                try clear c16b0
                try clear c16b1
                try clear c19
                try clear c19b0
                try clear c19b1
                try clear c20
                try clear c20b0
                try clear c20b1
                try clear c21
                try clear c21b0
                try clear c21b1
                try clear c24
                try clear c24b0
                try clear c24b1
                try clear c26
                try clear c26b0
                try clear c26b1
                try clear c30
                try clear c32
                try clear c32b0
                try clear c32b1
                try clear c33
                try clear c33b0
                try clear c33b1
                try clear c35
                try clear c35b0
                try clear c35b1
                try clear c38
                try clear c38b0
                try clear c38b1
                try clear c39
                try clear c39b0
                try clear c39b1
                try clear c40
                try clear c40b0
                try clear c40b1
                try clear c42
                try clear c42b0
                try clear c42b1
                try clear hcz12_0
                try clear hcz12_1
                try clear hcz12_2
                try clear hcz12_3
                try clear hcz12_4
                try clear hcz12_5
                try clear hcz12_6
                try clear hcz12_7
                try clear hcz12_8
                try clear hcz12_9
                try clear hcz13_0
                try clear hcz13_1
                try clear hcz13_2
                try clear hcz13_3
                try clear hcz13_4
                try clear hcz13_5
                try clear hcz13_6
                try clear hcz13_7
                try clear hcz13_8
                try clear hcz13_9
                try clear hcz15_0
                try clear hcz15_1
                try clear hcz15_2
                try clear hcz15_3
                try clear hcz15_4
                try clear hcz15_5
                try clear hcz15_6
                try clear hcz15_7
                try clear hcz15_8
                try clear hcz15_9
                try clear hcz17_0
                try clear hcz17_1
                try clear hcz17_2
                try clear hcz17_3
                try clear hcz17_4
                try clear hcz17_5
                try clear hcz17_6
                try clear hcz17_7
                try clear hcz17_8
                try clear hcz17_9
                try clear hcz18_0
                try clear hcz18_1
                try clear hcz18_2
                try clear hcz18_3
                try clear hcz18_4
                try clear hcz18_5
                try clear hcz18_6
                try clear hcz18_7
                try clear hcz18_8
                try clear hcz18_9
                try clear hcz22_0
                try clear hcz22_1
                try clear hcz22_2
                try clear hcz22_3
                try clear hcz22_4
                try clear hcz22_5
                try clear hcz22_6
                try clear hcz22_7
                try clear hcz22_8
                try clear hcz22_9
                try clear hcz23_0
                try clear hcz23_1
                try clear hcz23_2
                try clear hcz23_3
                try clear hcz23_4
                try clear hcz23_5
                try clear hcz23_6
                try clear hcz23_7
                try clear hcz23_8
                try clear hcz23_9
                try clear hcz25_0
                try clear hcz25_1
                try clear hcz25_2
                try clear hcz25_3
                try clear hcz25_4
                try clear hcz25_5
                try clear hcz25_6
                try clear hcz25_7
                try clear hcz25_8
                try clear hcz25_9
                try clear hcz27_0
                try clear hcz27_1
                try clear hcz27_2
                try clear hcz27_3
                try clear hcz27_4
                try clear hcz27_5
                try clear hcz27_6
                try clear hcz27_7
                try clear hcz27_8
                try clear hcz27_9
                try clear hcz28_0
                try clear hcz28_1
                try clear hcz28_2
                try clear hcz28_3
                try clear hcz28_4
                try clear hcz28_5
                try clear hcz28_6
                try clear hcz28_7
                try clear hcz28_8
                try clear hcz28_9
                try clear hcz29_0
                try clear hcz29_1
                try clear hcz29_2
                try clear hcz29_3
                try clear hcz29_4
                try clear hcz29_5
                try clear hcz29_6
                try clear hcz29_7
                try clear hcz29_8
                try clear hcz29_9
                try clear hcz34_0
                try clear hcz34_1
                try clear hcz34_2
                try clear hcz34_3
                try clear hcz34_4
                try clear hcz34_5
                try clear hcz34_6
                try clear hcz34_7
                try clear hcz34_8
                try clear hcz34_9
                try clear hcz36_0
                try clear hcz36_1
                try clear hcz36_2
                try clear hcz36_3
                try clear hcz36_4
                try clear hcz36_5
                try clear hcz36_6
                try clear hcz36_7
                try clear hcz36_8
                try clear hcz36_9
                try clear hcz37_0
                try clear hcz37_1
                try clear hcz37_2
                try clear hcz37_3
                try clear hcz37_4
                try clear hcz37_5
                try clear hcz37_6
                try clear hcz37_7
                try clear hcz37_8
                try clear hcz37_9
                try clear hcz41_0
                try clear hcz41_1
                try clear hcz41_2
                try clear hcz41_3
                try clear hcz41_4
                try clear hcz41_5
                try clear hcz41_6
                try clear hcz41_7
                try clear hcz41_8
                try clear hcz41_9
                try clear hcz43_0
                try clear hcz43_1
                try clear hcz43_2
                try clear hcz43_3
                try clear hcz43_4
                try clear hcz43_5
                try clear hcz43_6
                try clear hcz43_7
                try clear hcz43_8
                try clear hcz43_9
                try clear hcz44_0
                try clear hcz44_1
                try clear hcz44_2
                try clear hcz44_3
                try clear hcz44_4
                try clear hcz44_5
                try clear hcz44_6
                try clear hcz44_7
                try clear hcz44_8
                try clear hcz44_9
                try clear hcz45_0
                try clear hcz45_1
                try clear hcz45_2
                try clear hcz45_3
                try clear hcz45_4
                try clear hcz45_5
                try clear hcz45_6
                try clear hcz45_7
                try clear hcz45_8
                try clear hcz45_9
                try clear hcz46_0
                try clear hcz46_1
                try clear hcz46_2
                try clear hcz46_3
                try clear hcz46_4
                try clear hcz46_5
                try clear hcz46_6
                try clear hcz46_7
                try clear hcz46_8
                try clear hcz46_9
                try clear hcz5_0
                try clear hcz5_1
                try clear hcz5_2
                try clear hcz5_3
                try clear hcz5_4
                try clear hcz5_5
                try clear hcz5_6
                try clear hcz5_7
                try clear hcz5_8
                try clear hcz5_9
                try clear hcz6_0
                try clear hcz6_1
                try clear hcz6_2
                try clear hcz6_3
                try clear hcz6_4
                try clear hcz6_5
                try clear hcz6_6
                try clear hcz6_7
                try clear hcz6_8
                try clear hcz6_9
                try clear hfz12_0
                try clear hfz12_1
                try clear hfz12_2
                try clear hfz12_3
                try clear hfz12_4
                try clear hfz12_5
                try clear hfz12_6
                try clear hfz12_7
                try clear hfz12_8
                try clear hfz12_9
                try clear hfz13_0
                try clear hfz13_1
                try clear hfz13_2
                try clear hfz13_3
                try clear hfz13_4
                try clear hfz13_5
                try clear hfz13_6
                try clear hfz13_7
                try clear hfz13_8
                try clear hfz13_9
                try clear hfz15_0
                try clear hfz15_1
                try clear hfz15_2
                try clear hfz15_3
                try clear hfz15_4
                try clear hfz15_5
                try clear hfz15_6
                try clear hfz15_7
                try clear hfz15_8
                try clear hfz15_9
                try clear hfz17_0
                try clear hfz17_1
                try clear hfz17_2
                try clear hfz17_3
                try clear hfz17_4
                try clear hfz17_5
                try clear hfz17_6
                try clear hfz17_7
                try clear hfz17_8
                try clear hfz17_9
                try clear hfz18_0
                try clear hfz18_1
                try clear hfz18_2
                try clear hfz18_3
                try clear hfz18_4
                try clear hfz18_5
                try clear hfz18_6
                try clear hfz18_7
                try clear hfz18_8
                try clear hfz18_9
                try clear hfz22_0
                try clear hfz22_1
                try clear hfz22_2
                try clear hfz22_3
                try clear hfz22_4
                try clear hfz22_5
                try clear hfz22_6
                try clear hfz22_7
                try clear hfz22_8
                try clear hfz22_9
                try clear hfz23_0
                try clear hfz23_1
                try clear hfz23_2
                try clear hfz23_3
                try clear hfz23_4
                try clear hfz23_5
                try clear hfz23_6
                try clear hfz23_7
                try clear hfz23_8
                try clear hfz23_9
                try clear hfz25_0
                try clear hfz25_1
                try clear hfz25_2
                try clear hfz25_3
                try clear hfz25_4
                try clear hfz25_5
                try clear hfz25_6
                try clear hfz25_7
                try clear hfz25_8
                try clear hfz25_9
                try clear hfz27_0
                try clear hfz27_1
                try clear hfz27_2
                try clear hfz27_3
                try clear hfz27_4
                try clear hfz27_5
                try clear hfz27_6
                try clear hfz27_7
                try clear hfz27_8
                try clear hfz27_9
                try clear hfz28_0
                try clear hfz28_1
                try clear hfz28_2
                try clear hfz28_3
                try clear hfz28_4
                try clear hfz28_5
                try clear hfz28_6
                try clear hfz28_7
                try clear hfz28_8
                try clear hfz28_9
                try clear hfz29_0
                try clear hfz29_1
                try clear hfz29_2
                try clear hfz29_3
                try clear hfz29_4
                try clear hfz29_5
                try clear hfz29_6
                try clear hfz29_7
                try clear hfz29_8
                try clear hfz29_9
                try clear hfz34_0
                try clear hfz34_1
                try clear hfz34_2
                try clear hfz34_3
                try clear hfz34_4
                try clear hfz34_5
                try clear hfz34_6
                try clear hfz34_7
                try clear hfz34_8
                try clear hfz34_9
                try clear hfz36_0
                try clear hfz36_1
                try clear hfz36_2
                try clear hfz36_3
                try clear hfz36_4
                try clear hfz36_5
                try clear hfz36_6
                try clear hfz36_7
                try clear hfz36_8
                try clear hfz36_9
                try clear hfz37_0
                try clear hfz37_1
                try clear hfz37_2
                try clear hfz37_3
                try clear hfz37_4
                try clear hfz37_5
                try clear hfz37_6
                try clear hfz37_7
                try clear hfz37_8
                try clear hfz37_9
                try clear hfz41_0
                try clear hfz41_1
                try clear hfz41_2
                try clear hfz41_3
                try clear hfz41_4
                try clear hfz41_5
                try clear hfz41_6
                try clear hfz41_7
                try clear hfz41_8
                try clear hfz41_9
                try clear hfz43_0
                try clear hfz43_1
                try clear hfz43_2
                try clear hfz43_3
                try clear hfz43_4
                try clear hfz43_5
                try clear hfz43_6
                try clear hfz43_7
                try clear hfz43_8
                try clear hfz43_9
                try clear hfz44_0
                try clear hfz44_1
                try clear hfz44_2
                try clear hfz44_3
                try clear hfz44_4
                try clear hfz44_5
                try clear hfz44_6
                try clear hfz44_7
                try clear hfz44_8
                try clear hfz44_9
                try clear hfz45_0
                try clear hfz45_1
                try clear hfz45_2
                try clear hfz45_3
                try clear hfz45_4
                try clear hfz45_5
                try clear hfz45_6
                try clear hfz45_7
                try clear hfz45_8
                try clear hfz45_9
                try clear hfz46_0
                try clear hfz46_1
                try clear hfz46_2
                try clear hfz46_3
                try clear hfz46_4
                try clear hfz46_5
                try clear hfz46_6
                try clear hfz46_7
                try clear hfz46_8
                try clear hfz46_9
                try clear hfz5_0
                try clear hfz5_1
                try clear hfz5_2
                try clear hfz5_3
                try clear hfz5_4
                try clear hfz5_5
                try clear hfz5_6
                try clear hfz5_7
                try clear hfz5_8
                try clear hfz5_9
                try clear hfz6_0
                try clear hfz6_1
                try clear hfz6_2
                try clear hfz6_3
                try clear hfz6_4
                try clear hfz6_5
                try clear hfz6_6
                try clear hfz6_7
                try clear hfz6_8
                try clear hfz6_9
                try clear p2
                obtain ⟨kq, x69_30, rfl, HA, HJ30, BK109, HB⟩ := hcut
                cases kq with
                | zero => exact absurd HA.out (by simp [martelloref05_fields.j2])
                | succ kj30 =>
                  have H := HA.out
                  clear HA
                  simp only [martelloref05_fields.j2] at H
                  by_cases c47 : x69_30 = true
                  · subst c47
                    have H1 : (some false) = some r := by rw [if_pos rfl] at H; exact H
                    clear H
                    have H := H1
                    clear H1
                    as_aux_lemma =>
                      obtain rfl := Option.some.inj H
                      go_wp2
                      go_ret
                      exact ⟨by first | rfl | (simp [errW_none, errW_some] <;> rfl) | (simp [*, errW_none, errW_some] <;> rfl), by repeat (first | (with_reducible first | exact HB.out | apply below_alloc | apply pw_below_drewN | apply below_drew1 | refine below_set ?_ GE109.out) | exact HB.out)⟩
                  · replace c47 := Bool.eq_false_iff.mpr c47
                    subst c47
                    have H1 : (if a0_9 = true then (if a0_0 < 7 then (martelloref05_fields.j3 kj30 true a0_0 l0_1 a0_2 l0_3 a0_4 a0_5 a0_6 a0_7 a0_8 a0_9) else (martelloref05_fields.j3 kj30 (decide (a0_0 > 10)) a0_0 l0_1 a0_2 l0_3 a0_4 a0_5 a0_6 a0_7 a0_8 a0_9)) else (martelloref05_fields.j3 kj30 false a0_0 l0_1 a0_2 l0_3 a0_4 a0_5 a0_6 a0_7 a0_8 a0_9)) = some r := by rw [if_neg (show ¬ (false = true) by decide)] at H; exact H
                    clear H
                    have H := H1
                    clear H1
                    have HC48 := Aside0.mk H
                    clear H
                    go_upto_region 7 with (fail)
                    go_cut [81] (fun v81 wc => ∃ (kq : Nat) (x81_47 : Bool), v81 = .bool x81_47 ∧ Aside0 (martelloref05_fields.j3 kq x81_47 a0_0 l0_1 a0_2 l0_3 a0_4 a0_5 a0_6 a0_7 a0_8 a0_9 = some r) ∧ Aside0 (kq ≤ kj30) ∧ Aside0 (wc.heap[gb109]? = some (.cells #[.int .i64 a0_0, (.slice A0_1 l0_1.length c0_1), .int .i32 a0_2, (.slice A0_3 l0_3.length c0_3), .int .i64 a0_4, .int .i64 a0_5, .string a0_6, .int .i64 a0_7, .int .i64 a0_8, .bool a0_9] 27 (0, 0))) ∧ Aside0 (Below w.heap.size w wc))
                    case first =>
                      have H := HC48.out
                      clear HC48
                      by_cases c49 : a0_9 = true
                      · subst c49
                        have H1 : (if a0_0 < 7 then (martelloref05_fields.j3 kj30 true a0_0 l0_1 a0_2 l0_3 a0_4 a0_5 a0_6 a0_7 a0_8 true) else (martelloref05_fields.j3 kj30 (decide (a0_0 > 10)) a0_0 l0_1 a0_2 l0_3 a0_4 a0_5 a0_6 a0_7 a0_8 true)) = some r := by rw [if_pos rfl] at H; exact H
                        clear H
                        have H := H1
                        clear H1
                        by_cases c50 : a0_0 < 7
                        · rw [if_pos c50] at H
                          have c50b0 : decide (a0_0 < 7) = true := decide_eq_true c50
                          clear c50
                          (first | rw [c50b0] | (simp only [i64_w, i32_w]; rw [c50b0]) | skip)
                          as_aux_lemma =>
                            have H' := Aside0.mk H
                            clear H
                            have hcz51_0 : wc.cell? ⟨gb109, 0, none⟩ = some (.int .i64 a0_0) := (blk_cell BK109.out 0).trans rfl
                            have hcz51_1 : wc.cell? ⟨gb109, 1, none⟩ = some (.slice A0_1 l0_1.length c0_1) := (blk_cell BK109.out 1).trans rfl
                            have hcz51_2 : wc.cell? ⟨gb109, 2, none⟩ = some (.int .i32 a0_2) := (blk_cell BK109.out 2).trans rfl
                            have hcz51_3 : wc.cell? ⟨gb109, 3, none⟩ = some (.slice A0_3 l0_3.length c0_3) := (blk_cell BK109.out 3).trans rfl
                            have hcz51_4 : wc.cell? ⟨gb109, 4, none⟩ = some (.int .i64 a0_4) := (blk_cell BK109.out 4).trans rfl
                            have hcz51_5 : wc.cell? ⟨gb109, 5, none⟩ = some (.int .i64 a0_5) := (blk_cell BK109.out 5).trans rfl
                            have hcz51_6 : wc.cell? ⟨gb109, 6, none⟩ = some (.string a0_6) := (blk_cell BK109.out 6).trans rfl
                            have hcz51_7 : wc.cell? ⟨gb109, 7, none⟩ = some (.int .i64 a0_7) := (blk_cell BK109.out 7).trans rfl
                            have hcz51_8 : wc.cell? ⟨gb109, 8, none⟩ = some (.int .i64 a0_8) := (blk_cell BK109.out 8).trans rfl
                            have hcz51_9 : wc.cell? ⟨gb109, 9, none⟩ = some (.bool true) := (blk_cell BK109.out 9).trans rfl
                            have hfz51_0 := blk_frozen BK109.out 0
                            have hfz51_1 := blk_frozen BK109.out 1
                            have hfz51_2 := blk_frozen BK109.out 2
                            have hfz51_3 := blk_frozen BK109.out 3
                            have hfz51_4 := blk_frozen BK109.out 4
                            have hfz51_5 := blk_frozen BK109.out 5
                            have hfz51_6 := blk_frozen BK109.out 6
                            have hfz51_7 := blk_frozen BK109.out 7
                            have hfz51_8 := blk_frozen BK109.out 8
                            have hfz51_9 := blk_frozen BK109.out 9
                            go_wp2
                            go_meet
                            case rel => exact ⟨_, (true), (by first | rfl | (simp; done) | (simp [*]; done)), H', ⟨by have := HJ1.out; have := HJ7.out; have := HJ30.out; first | omega | exact Nat.le_refl _⟩, ⟨by (with_reducible repeat (first | refine blk_drewN ?_ _ | refine blk_drew ?_ | refine blk_alloc ?_ _)); exact BK109.out⟩, ⟨by repeat (first | (with_reducible first | exact HB.out | apply below_alloc | apply pw_below_drewN | apply below_drew1 | refine below_set ?_ GE109.out) | exact HB.out)⟩⟩
                        · rw [if_neg c50] at H
                          have c50b0 : decide (a0_0 < 7) = false := decide_eq_false c50
                          clear c50
                          (first | rw [c50b0] | (simp only [i64_w, i32_w]; rw [c50b0]) | skip)
                          as_aux_lemma =>
                            have H' := Aside0.mk H
                            clear H
                            have hcz52_0 : wc.cell? ⟨gb109, 0, none⟩ = some (.int .i64 a0_0) := (blk_cell BK109.out 0).trans rfl
                            have hcz52_1 : wc.cell? ⟨gb109, 1, none⟩ = some (.slice A0_1 l0_1.length c0_1) := (blk_cell BK109.out 1).trans rfl
                            have hcz52_2 : wc.cell? ⟨gb109, 2, none⟩ = some (.int .i32 a0_2) := (blk_cell BK109.out 2).trans rfl
                            have hcz52_3 : wc.cell? ⟨gb109, 3, none⟩ = some (.slice A0_3 l0_3.length c0_3) := (blk_cell BK109.out 3).trans rfl
                            have hcz52_4 : wc.cell? ⟨gb109, 4, none⟩ = some (.int .i64 a0_4) := (blk_cell BK109.out 4).trans rfl
                            have hcz52_5 : wc.cell? ⟨gb109, 5, none⟩ = some (.int .i64 a0_5) := (blk_cell BK109.out 5).trans rfl
                            have hcz52_6 : wc.cell? ⟨gb109, 6, none⟩ = some (.string a0_6) := (blk_cell BK109.out 6).trans rfl
                            have hcz52_7 : wc.cell? ⟨gb109, 7, none⟩ = some (.int .i64 a0_7) := (blk_cell BK109.out 7).trans rfl
                            have hcz52_8 : wc.cell? ⟨gb109, 8, none⟩ = some (.int .i64 a0_8) := (blk_cell BK109.out 8).trans rfl
                            have hcz52_9 : wc.cell? ⟨gb109, 9, none⟩ = some (.bool true) := (blk_cell BK109.out 9).trans rfl
                            have hfz52_0 := blk_frozen BK109.out 0
                            have hfz52_1 := blk_frozen BK109.out 1
                            have hfz52_2 := blk_frozen BK109.out 2
                            have hfz52_3 := blk_frozen BK109.out 3
                            have hfz52_4 := blk_frozen BK109.out 4
                            have hfz52_5 := blk_frozen BK109.out 5
                            have hfz52_6 := blk_frozen BK109.out 6
                            have hfz52_7 := blk_frozen BK109.out 7
                            have hfz52_8 := blk_frozen BK109.out 8
                            have hfz52_9 := blk_frozen BK109.out 9
                            go_wp2
                            go_meet
                            case rel => exact ⟨_, (decide (a0_0 > 10)), (by first | rfl | (simp; done) | (simp [*]; done)), H', ⟨by have := HJ1.out; have := HJ7.out; have := HJ30.out; first | omega | exact Nat.le_refl _⟩, ⟨by (with_reducible repeat (first | refine blk_drewN ?_ _ | refine blk_drew ?_ | refine blk_alloc ?_ _)); exact BK109.out⟩, ⟨by repeat (first | (with_reducible first | exact HB.out | apply below_alloc | apply pw_below_drewN | apply below_drew1 | refine below_set ?_ GE109.out) | exact HB.out)⟩⟩
                      · replace c49 := Bool.eq_false_iff.mpr c49
                        subst c49
                        have H1 : (martelloref05_fields.j3 kj30 false a0_0 l0_1 a0_2 l0_3 a0_4 a0_5 a0_6 a0_7 a0_8 false) = some r := by rw [if_neg (show ¬ (false = true) by decide)] at H; exact H
                        clear H
                        have H := H1
                        clear H1
                        as_aux_lemma =>
                          have H' := Aside0.mk H
                          clear H
                          have hcz53_0 : wc.cell? ⟨gb109, 0, none⟩ = some (.int .i64 a0_0) := (blk_cell BK109.out 0).trans rfl
                          have hcz53_1 : wc.cell? ⟨gb109, 1, none⟩ = some (.slice A0_1 l0_1.length c0_1) := (blk_cell BK109.out 1).trans rfl
                          have hcz53_2 : wc.cell? ⟨gb109, 2, none⟩ = some (.int .i32 a0_2) := (blk_cell BK109.out 2).trans rfl
                          have hcz53_3 : wc.cell? ⟨gb109, 3, none⟩ = some (.slice A0_3 l0_3.length c0_3) := (blk_cell BK109.out 3).trans rfl
                          have hcz53_4 : wc.cell? ⟨gb109, 4, none⟩ = some (.int .i64 a0_4) := (blk_cell BK109.out 4).trans rfl
                          have hcz53_5 : wc.cell? ⟨gb109, 5, none⟩ = some (.int .i64 a0_5) := (blk_cell BK109.out 5).trans rfl
                          have hcz53_6 : wc.cell? ⟨gb109, 6, none⟩ = some (.string a0_6) := (blk_cell BK109.out 6).trans rfl
                          have hcz53_7 : wc.cell? ⟨gb109, 7, none⟩ = some (.int .i64 a0_7) := (blk_cell BK109.out 7).trans rfl
                          have hcz53_8 : wc.cell? ⟨gb109, 8, none⟩ = some (.int .i64 a0_8) := (blk_cell BK109.out 8).trans rfl
                          have hcz53_9 : wc.cell? ⟨gb109, 9, none⟩ = some (.bool false) := (blk_cell BK109.out 9).trans rfl
                          have hfz53_0 := blk_frozen BK109.out 0
                          have hfz53_1 := blk_frozen BK109.out 1
                          have hfz53_2 := blk_frozen BK109.out 2
                          have hfz53_3 := blk_frozen BK109.out 3
                          have hfz53_4 := blk_frozen BK109.out 4
                          have hfz53_5 := blk_frozen BK109.out 5
                          have hfz53_6 := blk_frozen BK109.out 6
                          have hfz53_7 := blk_frozen BK109.out 7
                          have hfz53_8 := blk_frozen BK109.out 8
                          have hfz53_9 := blk_frozen BK109.out 9
                          go_wp2
                          go_meet
                          case rel => exact ⟨_, (false), (by first | rfl | (simp; done) | (simp [*]; done)), H', ⟨by have := HJ1.out; have := HJ7.out; have := HJ30.out; first | omega | exact Nat.le_refl _⟩, ⟨by (with_reducible repeat (first | refine blk_drewN ?_ _ | refine blk_drew ?_ | refine blk_alloc ?_ _)); exact BK109.out⟩, ⟨by repeat (first | (with_reducible first | exact HB.out | apply below_alloc | apply pw_below_drewN | apply below_drew1 | refine below_set ?_ GE109.out) | exact HB.out)⟩⟩
                    case rest =>
                      clear HC48
                      try clear c1
                      try clear c2
                      try clear p2
                      try clear c3
                      try clear c4
                      try clear c5
                      try clear c10
                      try clear c10b1
                      try clear c11
                      try clear c11b0
                      try clear c11b1
                      try clear c14
                      try clear c14b0
                      try clear c14b1
                      try clear c16
                      try clear c16b0
                      try clear c16b1
                      try clear c19
                      try clear c19b0
                      try clear c19b1
                      try clear c20
                      try clear c20b0
                      try clear c20b1
                      try clear c21
                      try clear c21b0
                      try clear c21b1
                      try clear c24
                      try clear c24b0
                      try clear c24b1
                      try clear c26
                      try clear c26b0
                      try clear c26b1
                      try clear c30
                      try clear c32
                      try clear c32b0
                      try clear c32b1
                      try clear c33
                      try clear c33b0
                      try clear c33b1
                      try clear c35
                      try clear c35b0
                      try clear c35b1
                      try clear c38
                      try clear c38b0
                      try clear c38b1
                      try clear c39
                      try clear c39b0
                      try clear c39b1
                      try clear c40
                      try clear c40b0
                      try clear c40b1
                      try clear c42
                      try clear c42b0
                      try clear c42b1
                      try clear c47
                      try clear c49
                      try clear c50
                      try clear c50b0
                      try clear hcz12_0
                      try clear hcz12_1
                      try clear hcz12_2
                      try clear hcz12_3
                      try clear hcz12_4
                      try clear hcz12_5
                      try clear hcz12_6
                      try clear hcz12_7
                      try clear hcz12_8
                      try clear hcz12_9
                      try clear hcz13_0
                      try clear hcz13_1
                      try clear hcz13_2
                      try clear hcz13_3
                      try clear hcz13_4
                      try clear hcz13_5
                      try clear hcz13_6
                      try clear hcz13_7
                      try clear hcz13_8
                      try clear hcz13_9
                      try clear hcz15_0
                      try clear hcz15_1
                      try clear hcz15_2
                      try clear hcz15_3
                      try clear hcz15_4
                      try clear hcz15_5
                      try clear hcz15_6
                      try clear hcz15_7
                      try clear hcz15_8
                      try clear hcz15_9
                      try clear hcz17_0
                      try clear hcz17_1
                      try clear hcz17_2
                      try clear hcz17_3
                      try clear hcz17_4
                      try clear hcz17_5
                      try clear hcz17_6
                      try clear hcz17_7
                      try clear hcz17_8
                      try clear hcz17_9
                      try clear hcz18_0
                      try clear hcz18_1
                      try clear hcz18_2
                      try clear hcz18_3
                      try clear hcz18_4
                      try clear hcz18_5
                      try clear hcz18_6
                      try clear hcz18_7
                      try clear hcz18_8
                      try clear hcz18_9
                      try clear hcz22_0
                      try clear hcz22_1
                      try clear hcz22_2
                      try clear hcz22_3
                      try clear hcz22_4
                      try clear hcz22_5
                      try clear hcz22_6
                      try clear hcz22_7
                      try clear hcz22_8
                      try clear hcz22_9
                      try clear hcz23_0
                      try clear hcz23_1
                      try clear hcz23_2
                      try clear hcz23_3
                      try clear hcz23_4
                      try clear hcz23_5
                      try clear hcz23_6
                      try clear hcz23_7
                      try clear hcz23_8
                      try clear hcz23_9
                      try clear hcz25_0
                      try clear hcz25_1
                      try clear hcz25_2
                      try clear hcz25_3
                      try clear hcz25_4
                      try clear hcz25_5
                      try clear hcz25_6
                      try clear hcz25_7
                      try clear hcz25_8
                      try clear hcz25_9
                      try clear hcz27_0
                      try clear hcz27_1
                      try clear hcz27_2
                      try clear hcz27_3
                      try clear hcz27_4
                      try clear hcz27_5
                      try clear hcz27_6
                      try clear hcz27_7
                      try clear hcz27_8
                      try clear hcz27_9
                      try clear hcz28_0
                      try clear hcz28_1
                      try clear hcz28_2
                      try clear hcz28_3
                      try clear hcz28_4
                      try clear hcz28_5
                      try clear hcz28_6
                      try clear hcz28_7
                      try clear hcz28_8
                      try clear hcz28_9
                      try clear hcz29_0
                      try clear hcz29_1
                      try clear hcz29_2
                      try clear hcz29_3
                      try clear hcz29_4
                      try clear hcz29_5
                      try clear hcz29_6
                      try clear hcz29_7
                      try clear hcz29_8
                      try clear hcz29_9
                      try clear hcz34_0
                      try clear hcz34_1
                      try clear hcz34_2
                      try clear hcz34_3
                      try clear hcz34_4
                      try clear hcz34_5
                      try clear hcz34_6
                      try clear hcz34_7
                      try clear hcz34_8
                      try clear hcz34_9
                      try clear hcz36_0
                      try clear hcz36_1
                      try clear hcz36_2
                      try clear hcz36_3
                      try clear hcz36_4
                      try clear hcz36_5
                      try clear hcz36_6
                      try clear hcz36_7
                      try clear hcz36_8
                      try clear hcz36_9
                      try clear hcz37_0
                      try clear hcz37_1
                      try clear hcz37_2
                      try clear hcz37_3
                      try clear hcz37_4
                      try clear hcz37_5
                      try clear hcz37_6
                      try clear hcz37_7
                      try clear hcz37_8
                      try clear hcz37_9
                      try clear hcz41_0
                      try clear hcz41_1
                      try clear hcz41_2
                      try clear hcz41_3
                      try clear hcz41_4
                      try clear hcz41_5
                      try clear hcz41_6
                      try clear hcz41_7
                      try clear hcz41_8
                      try clear hcz41_9
                      try clear hcz43_0
                      try clear hcz43_1
                      try clear hcz43_2
                      try clear hcz43_3
                      try clear hcz43_4
                      try clear hcz43_5
                      try clear hcz43_6
                      try clear hcz43_7
                      try clear hcz43_8
                      try clear hcz43_9
                      try clear hcz44_0
                      try clear hcz44_1
                      try clear hcz44_2
                      try clear hcz44_3
                      try clear hcz44_4
                      try clear hcz44_5
                      try clear hcz44_6
                      try clear hcz44_7
                      try clear hcz44_8
                      try clear hcz44_9
                      try clear hcz45_0
                      try clear hcz45_1
                      try clear hcz45_2
                      try clear hcz45_3
                      try clear hcz45_4
                      try clear hcz45_5
                      try clear hcz45_6
                      try clear hcz45_7
                      try clear hcz45_8
                      try clear hcz45_9
                      try clear hcz46_0
                      try clear hcz46_1
                      try clear hcz46_2
                      try clear hcz46_3
                      try clear hcz46_4
                      try clear hcz46_5
                      try clear hcz46_6
                      try clear hcz46_7
                      try clear hcz46_8
                      try clear hcz46_9
                      try clear hcz51_0
                      try clear hcz51_1
                      try clear hcz51_2
                      try clear hcz51_3
                      try clear hcz51_4
                      try clear hcz51_5
                      try clear hcz51_6
                      try clear hcz51_7
                      try clear hcz51_8
                      try clear hcz51_9
                      try clear hcz52_0
                      try clear hcz52_1
                      try clear hcz52_2
                      try clear hcz52_3
                      try clear hcz52_4
                      try clear hcz52_5
                      try clear hcz52_6
                      try clear hcz52_7
                      try clear hcz52_8
                      try clear hcz52_9
                      try clear hcz53_0
                      try clear hcz53_1
                      try clear hcz53_2
                      try clear hcz53_3
                      try clear hcz53_4
                      try clear hcz53_5
                      try clear hcz53_6
                      try clear hcz53_7
                      try clear hcz53_8
                      try clear hcz53_9
                      try clear hcz5_0
                      try clear hcz5_1
                      try clear hcz5_2
                      try clear hcz5_3
                      try clear hcz5_4
                      try clear hcz5_5
                      try clear hcz5_6
                      try clear hcz5_7
                      try clear hcz5_8
                      try clear hcz5_9
                      try clear hcz6_0
                      try clear hcz6_1
                      try clear hcz6_2
                      try clear hcz6_3
                      try clear hcz6_4
                      try clear hcz6_5
                      try clear hcz6_6
                      try clear hcz6_7
                      try clear hcz6_8
                      try clear hcz6_9
                      try clear hfz12_0
                      try clear hfz12_1
                      try clear hfz12_2
                      try clear hfz12_3
                      try clear hfz12_4
                      try clear hfz12_5
                      try clear hfz12_6
                      try clear hfz12_7
                      try clear hfz12_8
                      try clear hfz12_9
                      try clear hfz13_0
                      try clear hfz13_1
                      try clear hfz13_2
                      try clear hfz13_3
                      try clear hfz13_4
                      try clear hfz13_5
                      try clear hfz13_6
                      try clear hfz13_7
                      try clear hfz13_8
                      try clear hfz13_9
                      try clear hfz15_0
                      try clear hfz15_1
                      try clear hfz15_2
                      try clear hfz15_3
                      try clear hfz15_4
                      try clear hfz15_5
                      try clear hfz15_6
                      try clear hfz15_7
                      try clear hfz15_8
                      try clear hfz15_9
                      try clear hfz17_0
                      try clear hfz17_1
                      try clear hfz17_2
                      try clear hfz17_3
                      try clear hfz17_4
                      try clear hfz17_5
                      try clear hfz17_6
                      try clear hfz17_7
                      try clear hfz17_8
                      try clear hfz17_9
                      try clear hfz18_0
                      try clear hfz18_1
                      try clear hfz18_2
                      try clear hfz18_3
                      try clear hfz18_4
                      try clear hfz18_5
                      try clear hfz18_6
                      try clear hfz18_7
                      try clear hfz18_8
                      try clear hfz18_9
                      try clear hfz22_0
                      try clear hfz22_1
                      try clear hfz22_2
                      try clear hfz22_3
                      try clear hfz22_4
                      try clear hfz22_5
                      try clear hfz22_6
                      try clear hfz22_7
                      try clear hfz22_8
                      try clear hfz22_9
                      try clear hfz23_0
                      try clear hfz23_1
                      try clear hfz23_2
                      try clear hfz23_3
                      try clear hfz23_4
                      try clear hfz23_5
                      try clear hfz23_6
                      try clear hfz23_7
                      try clear hfz23_8
                      try clear hfz23_9
                      try clear hfz25_0
                      try clear hfz25_1
                      try clear hfz25_2
                      try clear hfz25_3
                      try clear hfz25_4
                      try clear hfz25_5
                      try clear hfz25_6
                      try clear hfz25_7
                      try clear hfz25_8
                      try clear hfz25_9
                      try clear hfz27_0
                      try clear hfz27_1
                      try clear hfz27_2
                      try clear hfz27_3
                      try clear hfz27_4
                      try clear hfz27_5
                      try clear hfz27_6
                      try clear hfz27_7
                      try clear hfz27_8
                      try clear hfz27_9
                      try clear hfz28_0
                      try clear hfz28_1
                      try clear hfz28_2
                      try clear hfz28_3
                      try clear hfz28_4
                      try clear hfz28_5
                      try clear hfz28_6
                      try clear hfz28_7
                      try clear hfz28_8
                      try clear hfz28_9
                      try clear hfz29_0
                      try clear hfz29_1
                      try clear hfz29_2
                      try clear hfz29_3
                      try clear hfz29_4
                      try clear hfz29_5
                      try clear hfz29_6
                      try clear hfz29_7
                      try clear hfz29_8
                      try clear hfz29_9
                      try clear hfz34_0
                      try clear hfz34_1
                      try clear hfz34_2
                      try clear hfz34_3
                      try clear hfz34_4
                      try clear hfz34_5
                      try clear hfz34_6
                      try clear hfz34_7
                      try clear hfz34_8
                      try clear hfz34_9
                      try clear hfz36_0
                      try clear hfz36_1
                      try clear hfz36_2
                      try clear hfz36_3
                      try clear hfz36_4
                      try clear hfz36_5
                      try clear hfz36_6
                      try clear hfz36_7
                      try clear hfz36_8
                      try clear hfz36_9
                      try clear hfz37_0
                      try clear hfz37_1
                      try clear hfz37_2
                      try clear hfz37_3
                      try clear hfz37_4
                      try clear hfz37_5
                      try clear hfz37_6
                      try clear hfz37_7
                      try clear hfz37_8
                      try clear hfz37_9
                      try clear hfz41_0
                      try clear hfz41_1
                      try clear hfz41_2
                      try clear hfz41_3
                      try clear hfz41_4
                      try clear hfz41_5
                      try clear hfz41_6
                      try clear hfz41_7
                      try clear hfz41_8
                      try clear hfz41_9
                      try clear hfz43_0
                      try clear hfz43_1
                      try clear hfz43_2
                      try clear hfz43_3
                      try clear hfz43_4
                      try clear hfz43_5
                      try clear hfz43_6
                      try clear hfz43_7
                      try clear hfz43_8
                      try clear hfz43_9
                      try clear hfz44_0
                      try clear hfz44_1
                      try clear hfz44_2
                      try clear hfz44_3
                      try clear hfz44_4
                      try clear hfz44_5
                      try clear hfz44_6
                      try clear hfz44_7
                      try clear hfz44_8
                      try clear hfz44_9
                      try clear hfz45_0
                      try clear hfz45_1
                      try clear hfz45_2
                      try clear hfz45_3
                      try clear hfz45_4
                      try clear hfz45_5
                      try clear hfz45_6
                      try clear hfz45_7
                      try clear hfz45_8
                      try clear hfz45_9
                      try clear hfz46_0
                      try clear hfz46_1
                      try clear hfz46_2
                      try clear hfz46_3
                      try clear hfz46_4
                      try clear hfz46_5
                      try clear hfz46_6
                      try clear hfz46_7
                      try clear hfz46_8
                      try clear hfz46_9
                      try clear hfz51_0
                      try clear hfz51_1
                      try clear hfz51_2
                      try clear hfz51_3
                      try clear hfz51_4
                      try clear hfz51_5
                      try clear hfz51_6
                      try clear hfz51_7
                      try clear hfz51_8
                      try clear hfz51_9
                      try clear hfz52_0
                      try clear hfz52_1
                      try clear hfz52_2
                      try clear hfz52_3
                      try clear hfz52_4
                      try clear hfz52_5
                      try clear hfz52_6
                      try clear hfz52_7
                      try clear hfz52_8
                      try clear hfz52_9
                      try clear hfz53_0
                      try clear hfz53_1
                      try clear hfz53_2
                      try clear hfz53_3
                      try clear hfz53_4
                      try clear hfz53_5
                      try clear hfz53_6
                      try clear hfz53_7
                      try clear hfz53_8
                      try clear hfz53_9
                      try clear hfz5_0
                      try clear hfz5_1
                      try clear hfz5_2
                      try clear hfz5_3
                      try clear hfz5_4
                      try clear hfz5_5
                      try clear hfz5_6
                      try clear hfz5_7
                      try clear hfz5_8
                      try clear hfz5_9
                      try clear hfz6_0
                      try clear hfz6_1
                      try clear hfz6_2
                      try clear hfz6_3
                      try clear hfz6_4
                      try clear hfz6_5
                      try clear hfz6_6
                      try clear hfz6_7
                      try clear hfz6_8
                      try clear hfz6_9
                      try clear p2
                      obtain ⟨kq, x81_47, rfl, HA, HJ47, BK109, HB⟩ := hcut
                      cases kq with
                      | zero => exact absurd HA.out (by simp [martelloref05_fields.j3])
                      | succ kj47 =>
                        have H := HA.out
                        clear HA
                        simp only [martelloref05_fields.j3] at H
                        by_cases c54 : x81_47 = true
                        · subst c54
                          have H1 : (some false) = some r := by rw [if_pos rfl] at H; exact H
                          clear H
                          have H := H1
                          clear H1
                          as_aux_lemma =>
                            obtain rfl := Option.some.inj H
                            go_wp2
                            go_ret
                            exact ⟨by first | rfl | (simp [errW_none, errW_some] <;> rfl) | (simp [*, errW_none, errW_some] <;> rfl), by repeat (first | (with_reducible first | exact HB.out | apply below_alloc | apply pw_below_drewN | apply below_drew1 | refine below_set ?_ GE109.out) | exact HB.out)⟩
                        · replace c54 := Bool.eq_false_iff.mpr c54
                          subst c54
                          have H1 : (if a0_0 = 3 then (if a0_2 ≥ 0 then (some (decide (a0_2 ≤ 1114111))) else (some false)) else (if a0_0 = 4 then ((martelloref02_Right.f kj47 l0_3).bind fun t110 => (if t110 = true then (some (decide ((l0_3.length : Int) > 0))) else (some false))) else (if a0_0 = 5 then (if a0_4 = 1 then (some true) else (if a0_4 = 2 then (some true) else (if a0_4 = 4 then (some true) else (if a0_4 = 8 then (some true) else (if a0_4 = 16 then (some true) else (some (a0_4 == 32))))))) else (if a0_0 = 6 then ((martelloref05_Name.f kj47 a0_6).bind fun t111 => (if a0_6.toList = ([] : List UInt8) then (some true) else (some t111))) else (if a0_0 = 10 then (if a0_7 < 0 then (some false) else (if a0_7 > 1000 then (some false) else (if a0_8 = (-1) then (some true) else (if a0_8 ≥ a0_7 then (some (decide (a0_8 ≤ 1000))) else (some false))))) else (some true)))))) = some r := by rw [if_neg (show ¬ (false = true) by decide)] at H; exact H
                          clear H
                          have H := H1
                          clear H1
                          by_cases c55 : a0_0 = 3
                          · rw [if_pos c55] at H
                            have c55b0 : (a0_0 == 3) = true := beq_iff_eq.mpr c55
                            have c55b1 : (a0_0 != 3) = false := bne_eq_false_iff_eq.mpr c55
                            clear c55
                            by_cases c56 : a0_2 ≥ 0
                            · rw [if_pos c56] at H
                              have c56b0 : decide (0 ≤ a0_2) = true := decide_eq_true c56
                              clear c56
                              as_aux_lemma =>
                                obtain rfl := Option.some.inj H
                                have hcz57_0 : wc.cell? ⟨gb109, 0, none⟩ = some (.int .i64 a0_0) := (blk_cell BK109.out 0).trans rfl
                                have hcz57_1 : wc.cell? ⟨gb109, 1, none⟩ = some (.slice A0_1 l0_1.length c0_1) := (blk_cell BK109.out 1).trans rfl
                                have hcz57_2 : wc.cell? ⟨gb109, 2, none⟩ = some (.int .i32 a0_2) := (blk_cell BK109.out 2).trans rfl
                                have hcz57_3 : wc.cell? ⟨gb109, 3, none⟩ = some (.slice A0_3 l0_3.length c0_3) := (blk_cell BK109.out 3).trans rfl
                                have hcz57_4 : wc.cell? ⟨gb109, 4, none⟩ = some (.int .i64 a0_4) := (blk_cell BK109.out 4).trans rfl
                                have hcz57_5 : wc.cell? ⟨gb109, 5, none⟩ = some (.int .i64 a0_5) := (blk_cell BK109.out 5).trans rfl
                                have hcz57_6 : wc.cell? ⟨gb109, 6, none⟩ = some (.string a0_6) := (blk_cell BK109.out 6).trans rfl
                                have hcz57_7 : wc.cell? ⟨gb109, 7, none⟩ = some (.int .i64 a0_7) := (blk_cell BK109.out 7).trans rfl
                                have hcz57_8 : wc.cell? ⟨gb109, 8, none⟩ = some (.int .i64 a0_8) := (blk_cell BK109.out 8).trans rfl
                                have hcz57_9 : wc.cell? ⟨gb109, 9, none⟩ = some (.bool a0_9) := (blk_cell BK109.out 9).trans rfl
                                have hfz57_0 := blk_frozen BK109.out 0
                                have hfz57_1 := blk_frozen BK109.out 1
                                have hfz57_2 := blk_frozen BK109.out 2
                                have hfz57_3 := blk_frozen BK109.out 3
                                have hfz57_4 := blk_frozen BK109.out 4
                                have hfz57_5 := blk_frozen BK109.out 5
                                have hfz57_6 := blk_frozen BK109.out 6
                                have hfz57_7 := blk_frozen BK109.out 7
                                have hfz57_8 := blk_frozen BK109.out 8
                                have hfz57_9 := blk_frozen BK109.out 9
                                go_wp2
                                go_ret
                                exact ⟨by first | rfl | (simp [errW_none, errW_some] <;> rfl) | (simp [*, errW_none, errW_some] <;> rfl), by repeat (first | (with_reducible first | exact HB.out | apply below_alloc | apply pw_below_drewN | apply below_drew1 | refine below_set ?_ GE109.out) | exact HB.out)⟩
                            · rw [if_neg c56] at H
                              have c56b0 : decide (0 ≤ a0_2) = false := decide_eq_false c56
                              clear c56
                              as_aux_lemma =>
                                obtain rfl := Option.some.inj H
                                have hcz58_0 : wc.cell? ⟨gb109, 0, none⟩ = some (.int .i64 a0_0) := (blk_cell BK109.out 0).trans rfl
                                have hcz58_1 : wc.cell? ⟨gb109, 1, none⟩ = some (.slice A0_1 l0_1.length c0_1) := (blk_cell BK109.out 1).trans rfl
                                have hcz58_2 : wc.cell? ⟨gb109, 2, none⟩ = some (.int .i32 a0_2) := (blk_cell BK109.out 2).trans rfl
                                have hcz58_3 : wc.cell? ⟨gb109, 3, none⟩ = some (.slice A0_3 l0_3.length c0_3) := (blk_cell BK109.out 3).trans rfl
                                have hcz58_4 : wc.cell? ⟨gb109, 4, none⟩ = some (.int .i64 a0_4) := (blk_cell BK109.out 4).trans rfl
                                have hcz58_5 : wc.cell? ⟨gb109, 5, none⟩ = some (.int .i64 a0_5) := (blk_cell BK109.out 5).trans rfl
                                have hcz58_6 : wc.cell? ⟨gb109, 6, none⟩ = some (.string a0_6) := (blk_cell BK109.out 6).trans rfl
                                have hcz58_7 : wc.cell? ⟨gb109, 7, none⟩ = some (.int .i64 a0_7) := (blk_cell BK109.out 7).trans rfl
                                have hcz58_8 : wc.cell? ⟨gb109, 8, none⟩ = some (.int .i64 a0_8) := (blk_cell BK109.out 8).trans rfl
                                have hcz58_9 : wc.cell? ⟨gb109, 9, none⟩ = some (.bool a0_9) := (blk_cell BK109.out 9).trans rfl
                                have hfz58_0 := blk_frozen BK109.out 0
                                have hfz58_1 := blk_frozen BK109.out 1
                                have hfz58_2 := blk_frozen BK109.out 2
                                have hfz58_3 := blk_frozen BK109.out 3
                                have hfz58_4 := blk_frozen BK109.out 4
                                have hfz58_5 := blk_frozen BK109.out 5
                                have hfz58_6 := blk_frozen BK109.out 6
                                have hfz58_7 := blk_frozen BK109.out 7
                                have hfz58_8 := blk_frozen BK109.out 8
                                have hfz58_9 := blk_frozen BK109.out 9
                                go_wp2
                                go_ret
                                exact ⟨by first | rfl | (simp [errW_none, errW_some] <;> rfl) | (simp [*, errW_none, errW_some] <;> rfl), by repeat (first | (with_reducible first | exact HB.out | apply below_alloc | apply pw_below_drewN | apply below_drew1 | refine below_set ?_ GE109.out) | exact HB.out)⟩
                          · rw [if_neg c55] at H
                            have c55b0 : (a0_0 == 3) = false := beq_eq_false_iff_ne.mpr c55
                            have c55b1 : (a0_0 != 3) = true := bne_iff_ne.mpr c55
                            by_cases c59 : a0_0 = 4
                            · rw [if_pos c59] at H
                              have c59b0 : (a0_0 == 4) = true := beq_iff_eq.mpr c59
                              have c59b1 : (a0_0 != 4) = false := bne_eq_false_iff_eq.mpr c59
                              clear c59
                              replace H := Option.bind_eq_some_iff.mp H
                              obtain ⟨t110, A600, H⟩ := H
                              replace H : (if t110 = true then (some (decide ((l0_3.length : Int) > 0))) else (some false)) = some r := H
                              have A60 := Aside0.mk A600
                              clear A600
                              by_cases c61 : t110 = true
                              · subst c61
                                have H1 : (some (decide ((l0_3.length : Int) > 0))) = some r := by rw [if_pos rfl] at H; exact H
                                clear H
                                have H := H1
                                clear H1
                                as_aux_lemma =>
                                  obtain rfl := Option.some.inj H
                                  have hcz62_0 : wc.cell? ⟨gb109, 0, none⟩ = some (.int .i64 a0_0) := (blk_cell BK109.out 0).trans rfl
                                  have hcz62_1 : wc.cell? ⟨gb109, 1, none⟩ = some (.slice A0_1 l0_1.length c0_1) := (blk_cell BK109.out 1).trans rfl
                                  have hcz62_2 : wc.cell? ⟨gb109, 2, none⟩ = some (.int .i32 a0_2) := (blk_cell BK109.out 2).trans rfl
                                  have hcz62_3 : wc.cell? ⟨gb109, 3, none⟩ = some (.slice A0_3 l0_3.length c0_3) := (blk_cell BK109.out 3).trans rfl
                                  have hcz62_4 : wc.cell? ⟨gb109, 4, none⟩ = some (.int .i64 a0_4) := (blk_cell BK109.out 4).trans rfl
                                  have hcz62_5 : wc.cell? ⟨gb109, 5, none⟩ = some (.int .i64 a0_5) := (blk_cell BK109.out 5).trans rfl
                                  have hcz62_6 : wc.cell? ⟨gb109, 6, none⟩ = some (.string a0_6) := (blk_cell BK109.out 6).trans rfl
                                  have hcz62_7 : wc.cell? ⟨gb109, 7, none⟩ = some (.int .i64 a0_7) := (blk_cell BK109.out 7).trans rfl
                                  have hcz62_8 : wc.cell? ⟨gb109, 8, none⟩ = some (.int .i64 a0_8) := (blk_cell BK109.out 8).trans rfl
                                  have hcz62_9 : wc.cell? ⟨gb109, 9, none⟩ = some (.bool a0_9) := (blk_cell BK109.out 9).trans rfl
                                  have hfz62_0 := blk_frozen BK109.out 0
                                  have hfz62_1 := blk_frozen BK109.out 1
                                  have hfz62_2 := blk_frozen BK109.out 2
                                  have hfz62_3 := blk_frozen BK109.out 3
                                  have hfz62_4 := blk_frozen BK109.out 4
                                  have hfz62_5 := blk_frozen BK109.out 5
                                  have hfz62_6 := blk_frozen BK109.out 6
                                  have hfz62_7 := blk_frozen BK109.out 7
                                  have hfz62_8 := blk_frozen BK109.out 8
                                  have hfz62_9 := blk_frozen BK109.out 9
                                  go_wp2_with (first | ((with_reducible refine gate_callee (f := 43) rfl ?_); refine goesL_ (some 98) rfl rfl Tryd.func43 (by kernel_rfl) rfl #[.slice A0_3 l0_3.length c0_3] rfl (by (try simp only [List.map_toArray, List.map_cons, List.map_nil]); first | done | rfl | (simp only [List.length_drop, List.length_take]; rfl)) ?_; (with_reducible refine (martelloref02_Right.calls kj47 _ _ l0_3 true _ ?side1 ?side2 A60.out).mono ?_); (case side1 => repeat (first | exact (Kd.C_below HR0_3.out HB.out) | (with_reducible refine Kd.C_alloc ?_ _) | (with_reducible refine Kd.C_drewN ?_ _) | (with_reducible refine Kd.C_drew ?_))); (case side2 => exact HC0_3.out); rintro e w' ⟨rfl, ⟨nd, rfl⟩⟩; refine ⟨_, rfl, ?_⟩))
                                  go_ret
                                  exact ⟨by first | rfl | (simp [errW_none, errW_some] <;> rfl) | (simp [*, errW_none, errW_some] <;> rfl), by repeat (first | (with_reducible first | exact HB.out | apply below_alloc | apply pw_below_drewN | apply below_drew1 | refine below_set ?_ GE109.out) | exact HB.out)⟩
                              · replace c61 := Bool.eq_false_iff.mpr c61
                                subst c61
                                have H1 : (some false) = some r := by rw [if_neg (show ¬ (false = true) by decide)] at H; exact H
                                clear H
                                have H := H1
                                clear H1
                                as_aux_lemma =>
                                  obtain rfl := Option.some.inj H
                                  have hcz63_0 : wc.cell? ⟨gb109, 0, none⟩ = some (.int .i64 a0_0) := (blk_cell BK109.out 0).trans rfl
                                  have hcz63_1 : wc.cell? ⟨gb109, 1, none⟩ = some (.slice A0_1 l0_1.length c0_1) := (blk_cell BK109.out 1).trans rfl
                                  have hcz63_2 : wc.cell? ⟨gb109, 2, none⟩ = some (.int .i32 a0_2) := (blk_cell BK109.out 2).trans rfl
                                  have hcz63_3 : wc.cell? ⟨gb109, 3, none⟩ = some (.slice A0_3 l0_3.length c0_3) := (blk_cell BK109.out 3).trans rfl
                                  have hcz63_4 : wc.cell? ⟨gb109, 4, none⟩ = some (.int .i64 a0_4) := (blk_cell BK109.out 4).trans rfl
                                  have hcz63_5 : wc.cell? ⟨gb109, 5, none⟩ = some (.int .i64 a0_5) := (blk_cell BK109.out 5).trans rfl
                                  have hcz63_6 : wc.cell? ⟨gb109, 6, none⟩ = some (.string a0_6) := (blk_cell BK109.out 6).trans rfl
                                  have hcz63_7 : wc.cell? ⟨gb109, 7, none⟩ = some (.int .i64 a0_7) := (blk_cell BK109.out 7).trans rfl
                                  have hcz63_8 : wc.cell? ⟨gb109, 8, none⟩ = some (.int .i64 a0_8) := (blk_cell BK109.out 8).trans rfl
                                  have hcz63_9 : wc.cell? ⟨gb109, 9, none⟩ = some (.bool a0_9) := (blk_cell BK109.out 9).trans rfl
                                  have hfz63_0 := blk_frozen BK109.out 0
                                  have hfz63_1 := blk_frozen BK109.out 1
                                  have hfz63_2 := blk_frozen BK109.out 2
                                  have hfz63_3 := blk_frozen BK109.out 3
                                  have hfz63_4 := blk_frozen BK109.out 4
                                  have hfz63_5 := blk_frozen BK109.out 5
                                  have hfz63_6 := blk_frozen BK109.out 6
                                  have hfz63_7 := blk_frozen BK109.out 7
                                  have hfz63_8 := blk_frozen BK109.out 8
                                  have hfz63_9 := blk_frozen BK109.out 9
                                  go_wp2_with (first | ((with_reducible refine gate_callee (f := 43) rfl ?_); refine goesL_ (some 98) rfl rfl Tryd.func43 (by kernel_rfl) rfl #[.slice A0_3 l0_3.length c0_3] rfl (by (try simp only [List.map_toArray, List.map_cons, List.map_nil]); first | done | rfl | (simp only [List.length_drop, List.length_take]; rfl)) ?_; (with_reducible refine (martelloref02_Right.calls kj47 _ _ l0_3 false _ ?side1 ?side2 A60.out).mono ?_); (case side1 => repeat (first | exact (Kd.C_below HR0_3.out HB.out) | (with_reducible refine Kd.C_alloc ?_ _) | (with_reducible refine Kd.C_drewN ?_ _) | (with_reducible refine Kd.C_drew ?_))); (case side2 => exact HC0_3.out); rintro e w' ⟨rfl, ⟨nd, rfl⟩⟩; refine ⟨_, rfl, ?_⟩))
                                  go_ret
                                  exact ⟨by first | rfl | (simp [errW_none, errW_some] <;> rfl) | (simp [*, errW_none, errW_some] <;> rfl), by repeat (first | (with_reducible first | exact HB.out | apply below_alloc | apply pw_below_drewN | apply below_drew1 | refine below_set ?_ GE109.out) | exact HB.out)⟩
                            · rw [if_neg c59] at H
                              have c59b0 : (a0_0 == 4) = false := beq_eq_false_iff_ne.mpr c59
                              have c59b1 : (a0_0 != 4) = true := bne_iff_ne.mpr c59
                              by_cases c64 : a0_0 = 5
                              · rw [if_pos c64] at H
                                have c64b0 : (a0_0 == 5) = true := beq_iff_eq.mpr c64
                                have c64b1 : (a0_0 != 5) = false := bne_eq_false_iff_eq.mpr c64
                                clear c64
                                by_cases c65 : a0_4 = 1
                                · rw [if_pos c65] at H
                                  have c65b0 : (a0_4 == 1) = true := beq_iff_eq.mpr c65
                                  have c65b1 : (a0_4 != 1) = false := bne_eq_false_iff_eq.mpr c65
                                  clear c65
                                  as_aux_lemma =>
                                    obtain rfl := Option.some.inj H
                                    have hcz66_0 : wc.cell? ⟨gb109, 0, none⟩ = some (.int .i64 a0_0) := (blk_cell BK109.out 0).trans rfl
                                    have hcz66_1 : wc.cell? ⟨gb109, 1, none⟩ = some (.slice A0_1 l0_1.length c0_1) := (blk_cell BK109.out 1).trans rfl
                                    have hcz66_2 : wc.cell? ⟨gb109, 2, none⟩ = some (.int .i32 a0_2) := (blk_cell BK109.out 2).trans rfl
                                    have hcz66_3 : wc.cell? ⟨gb109, 3, none⟩ = some (.slice A0_3 l0_3.length c0_3) := (blk_cell BK109.out 3).trans rfl
                                    have hcz66_4 : wc.cell? ⟨gb109, 4, none⟩ = some (.int .i64 a0_4) := (blk_cell BK109.out 4).trans rfl
                                    have hcz66_5 : wc.cell? ⟨gb109, 5, none⟩ = some (.int .i64 a0_5) := (blk_cell BK109.out 5).trans rfl
                                    have hcz66_6 : wc.cell? ⟨gb109, 6, none⟩ = some (.string a0_6) := (blk_cell BK109.out 6).trans rfl
                                    have hcz66_7 : wc.cell? ⟨gb109, 7, none⟩ = some (.int .i64 a0_7) := (blk_cell BK109.out 7).trans rfl
                                    have hcz66_8 : wc.cell? ⟨gb109, 8, none⟩ = some (.int .i64 a0_8) := (blk_cell BK109.out 8).trans rfl
                                    have hcz66_9 : wc.cell? ⟨gb109, 9, none⟩ = some (.bool a0_9) := (blk_cell BK109.out 9).trans rfl
                                    have hfz66_0 := blk_frozen BK109.out 0
                                    have hfz66_1 := blk_frozen BK109.out 1
                                    have hfz66_2 := blk_frozen BK109.out 2
                                    have hfz66_3 := blk_frozen BK109.out 3
                                    have hfz66_4 := blk_frozen BK109.out 4
                                    have hfz66_5 := blk_frozen BK109.out 5
                                    have hfz66_6 := blk_frozen BK109.out 6
                                    have hfz66_7 := blk_frozen BK109.out 7
                                    have hfz66_8 := blk_frozen BK109.out 8
                                    have hfz66_9 := blk_frozen BK109.out 9
                                    go_wp2
                                    go_ret
                                    exact ⟨by first | rfl | (simp [errW_none, errW_some] <;> rfl) | (simp [*, errW_none, errW_some] <;> rfl), by repeat (first | (with_reducible first | exact HB.out | apply below_alloc | apply pw_below_drewN | apply below_drew1 | refine below_set ?_ GE109.out) | exact HB.out)⟩
                                · rw [if_neg c65] at H
                                  have c65b0 : (a0_4 == 1) = false := beq_eq_false_iff_ne.mpr c65
                                  have c65b1 : (a0_4 != 1) = true := bne_iff_ne.mpr c65
                                  by_cases c67 : a0_4 = 2
                                  · rw [if_pos c67] at H
                                    have c67b0 : (a0_4 == 2) = true := beq_iff_eq.mpr c67
                                    have c67b1 : (a0_4 != 2) = false := bne_eq_false_iff_eq.mpr c67
                                    clear c67
                                    as_aux_lemma =>
                                      obtain rfl := Option.some.inj H
                                      have hcz68_0 : wc.cell? ⟨gb109, 0, none⟩ = some (.int .i64 a0_0) := (blk_cell BK109.out 0).trans rfl
                                      have hcz68_1 : wc.cell? ⟨gb109, 1, none⟩ = some (.slice A0_1 l0_1.length c0_1) := (blk_cell BK109.out 1).trans rfl
                                      have hcz68_2 : wc.cell? ⟨gb109, 2, none⟩ = some (.int .i32 a0_2) := (blk_cell BK109.out 2).trans rfl
                                      have hcz68_3 : wc.cell? ⟨gb109, 3, none⟩ = some (.slice A0_3 l0_3.length c0_3) := (blk_cell BK109.out 3).trans rfl
                                      have hcz68_4 : wc.cell? ⟨gb109, 4, none⟩ = some (.int .i64 a0_4) := (blk_cell BK109.out 4).trans rfl
                                      have hcz68_5 : wc.cell? ⟨gb109, 5, none⟩ = some (.int .i64 a0_5) := (blk_cell BK109.out 5).trans rfl
                                      have hcz68_6 : wc.cell? ⟨gb109, 6, none⟩ = some (.string a0_6) := (blk_cell BK109.out 6).trans rfl
                                      have hcz68_7 : wc.cell? ⟨gb109, 7, none⟩ = some (.int .i64 a0_7) := (blk_cell BK109.out 7).trans rfl
                                      have hcz68_8 : wc.cell? ⟨gb109, 8, none⟩ = some (.int .i64 a0_8) := (blk_cell BK109.out 8).trans rfl
                                      have hcz68_9 : wc.cell? ⟨gb109, 9, none⟩ = some (.bool a0_9) := (blk_cell BK109.out 9).trans rfl
                                      have hfz68_0 := blk_frozen BK109.out 0
                                      have hfz68_1 := blk_frozen BK109.out 1
                                      have hfz68_2 := blk_frozen BK109.out 2
                                      have hfz68_3 := blk_frozen BK109.out 3
                                      have hfz68_4 := blk_frozen BK109.out 4
                                      have hfz68_5 := blk_frozen BK109.out 5
                                      have hfz68_6 := blk_frozen BK109.out 6
                                      have hfz68_7 := blk_frozen BK109.out 7
                                      have hfz68_8 := blk_frozen BK109.out 8
                                      have hfz68_9 := blk_frozen BK109.out 9
                                      go_wp2
                                      go_ret
                                      exact ⟨by first | rfl | (simp [errW_none, errW_some] <;> rfl) | (simp [*, errW_none, errW_some] <;> rfl), by repeat (first | (with_reducible first | exact HB.out | apply below_alloc | apply pw_below_drewN | apply below_drew1 | refine below_set ?_ GE109.out) | exact HB.out)⟩
                                  · rw [if_neg c67] at H
                                    have c67b0 : (a0_4 == 2) = false := beq_eq_false_iff_ne.mpr c67
                                    have c67b1 : (a0_4 != 2) = true := bne_iff_ne.mpr c67
                                    by_cases c69 : a0_4 = 4
                                    · rw [if_pos c69] at H
                                      have c69b0 : (a0_4 == 4) = true := beq_iff_eq.mpr c69
                                      have c69b1 : (a0_4 != 4) = false := bne_eq_false_iff_eq.mpr c69
                                      clear c69
                                      as_aux_lemma =>
                                        obtain rfl := Option.some.inj H
                                        have hcz70_0 : wc.cell? ⟨gb109, 0, none⟩ = some (.int .i64 a0_0) := (blk_cell BK109.out 0).trans rfl
                                        have hcz70_1 : wc.cell? ⟨gb109, 1, none⟩ = some (.slice A0_1 l0_1.length c0_1) := (blk_cell BK109.out 1).trans rfl
                                        have hcz70_2 : wc.cell? ⟨gb109, 2, none⟩ = some (.int .i32 a0_2) := (blk_cell BK109.out 2).trans rfl
                                        have hcz70_3 : wc.cell? ⟨gb109, 3, none⟩ = some (.slice A0_3 l0_3.length c0_3) := (blk_cell BK109.out 3).trans rfl
                                        have hcz70_4 : wc.cell? ⟨gb109, 4, none⟩ = some (.int .i64 a0_4) := (blk_cell BK109.out 4).trans rfl
                                        have hcz70_5 : wc.cell? ⟨gb109, 5, none⟩ = some (.int .i64 a0_5) := (blk_cell BK109.out 5).trans rfl
                                        have hcz70_6 : wc.cell? ⟨gb109, 6, none⟩ = some (.string a0_6) := (blk_cell BK109.out 6).trans rfl
                                        have hcz70_7 : wc.cell? ⟨gb109, 7, none⟩ = some (.int .i64 a0_7) := (blk_cell BK109.out 7).trans rfl
                                        have hcz70_8 : wc.cell? ⟨gb109, 8, none⟩ = some (.int .i64 a0_8) := (blk_cell BK109.out 8).trans rfl
                                        have hcz70_9 : wc.cell? ⟨gb109, 9, none⟩ = some (.bool a0_9) := (blk_cell BK109.out 9).trans rfl
                                        have hfz70_0 := blk_frozen BK109.out 0
                                        have hfz70_1 := blk_frozen BK109.out 1
                                        have hfz70_2 := blk_frozen BK109.out 2
                                        have hfz70_3 := blk_frozen BK109.out 3
                                        have hfz70_4 := blk_frozen BK109.out 4
                                        have hfz70_5 := blk_frozen BK109.out 5
                                        have hfz70_6 := blk_frozen BK109.out 6
                                        have hfz70_7 := blk_frozen BK109.out 7
                                        have hfz70_8 := blk_frozen BK109.out 8
                                        have hfz70_9 := blk_frozen BK109.out 9
                                        go_wp2
                                        go_ret
                                        exact ⟨by first | rfl | (simp [errW_none, errW_some] <;> rfl) | (simp [*, errW_none, errW_some] <;> rfl), by repeat (first | (with_reducible first | exact HB.out | apply below_alloc | apply pw_below_drewN | apply below_drew1 | refine below_set ?_ GE109.out) | exact HB.out)⟩
                                    · rw [if_neg c69] at H
                                      have c69b0 : (a0_4 == 4) = false := beq_eq_false_iff_ne.mpr c69
                                      have c69b1 : (a0_4 != 4) = true := bne_iff_ne.mpr c69
                                      by_cases c71 : a0_4 = 8
                                      · rw [if_pos c71] at H
                                        have c71b0 : (a0_4 == 8) = true := beq_iff_eq.mpr c71
                                        have c71b1 : (a0_4 != 8) = false := bne_eq_false_iff_eq.mpr c71
                                        clear c71
                                        as_aux_lemma =>
                                          obtain rfl := Option.some.inj H
                                          have hcz72_0 : wc.cell? ⟨gb109, 0, none⟩ = some (.int .i64 a0_0) := (blk_cell BK109.out 0).trans rfl
                                          have hcz72_1 : wc.cell? ⟨gb109, 1, none⟩ = some (.slice A0_1 l0_1.length c0_1) := (blk_cell BK109.out 1).trans rfl
                                          have hcz72_2 : wc.cell? ⟨gb109, 2, none⟩ = some (.int .i32 a0_2) := (blk_cell BK109.out 2).trans rfl
                                          have hcz72_3 : wc.cell? ⟨gb109, 3, none⟩ = some (.slice A0_3 l0_3.length c0_3) := (blk_cell BK109.out 3).trans rfl
                                          have hcz72_4 : wc.cell? ⟨gb109, 4, none⟩ = some (.int .i64 a0_4) := (blk_cell BK109.out 4).trans rfl
                                          have hcz72_5 : wc.cell? ⟨gb109, 5, none⟩ = some (.int .i64 a0_5) := (blk_cell BK109.out 5).trans rfl
                                          have hcz72_6 : wc.cell? ⟨gb109, 6, none⟩ = some (.string a0_6) := (blk_cell BK109.out 6).trans rfl
                                          have hcz72_7 : wc.cell? ⟨gb109, 7, none⟩ = some (.int .i64 a0_7) := (blk_cell BK109.out 7).trans rfl
                                          have hcz72_8 : wc.cell? ⟨gb109, 8, none⟩ = some (.int .i64 a0_8) := (blk_cell BK109.out 8).trans rfl
                                          have hcz72_9 : wc.cell? ⟨gb109, 9, none⟩ = some (.bool a0_9) := (blk_cell BK109.out 9).trans rfl
                                          have hfz72_0 := blk_frozen BK109.out 0
                                          have hfz72_1 := blk_frozen BK109.out 1
                                          have hfz72_2 := blk_frozen BK109.out 2
                                          have hfz72_3 := blk_frozen BK109.out 3
                                          have hfz72_4 := blk_frozen BK109.out 4
                                          have hfz72_5 := blk_frozen BK109.out 5
                                          have hfz72_6 := blk_frozen BK109.out 6
                                          have hfz72_7 := blk_frozen BK109.out 7
                                          have hfz72_8 := blk_frozen BK109.out 8
                                          have hfz72_9 := blk_frozen BK109.out 9
                                          go_wp2
                                          go_ret
                                          exact ⟨by first | rfl | (simp [errW_none, errW_some] <;> rfl) | (simp [*, errW_none, errW_some] <;> rfl), by repeat (first | (with_reducible first | exact HB.out | apply below_alloc | apply pw_below_drewN | apply below_drew1 | refine below_set ?_ GE109.out) | exact HB.out)⟩
                                      · rw [if_neg c71] at H
                                        have c71b0 : (a0_4 == 8) = false := beq_eq_false_iff_ne.mpr c71
                                        have c71b1 : (a0_4 != 8) = true := bne_iff_ne.mpr c71
                                        by_cases c73 : a0_4 = 16
                                        · rw [if_pos c73] at H
                                          have c73b0 : (a0_4 == 16) = true := beq_iff_eq.mpr c73
                                          have c73b1 : (a0_4 != 16) = false := bne_eq_false_iff_eq.mpr c73
                                          clear c73
                                          as_aux_lemma =>
                                            obtain rfl := Option.some.inj H
                                            have hcz74_0 : wc.cell? ⟨gb109, 0, none⟩ = some (.int .i64 a0_0) := (blk_cell BK109.out 0).trans rfl
                                            have hcz74_1 : wc.cell? ⟨gb109, 1, none⟩ = some (.slice A0_1 l0_1.length c0_1) := (blk_cell BK109.out 1).trans rfl
                                            have hcz74_2 : wc.cell? ⟨gb109, 2, none⟩ = some (.int .i32 a0_2) := (blk_cell BK109.out 2).trans rfl
                                            have hcz74_3 : wc.cell? ⟨gb109, 3, none⟩ = some (.slice A0_3 l0_3.length c0_3) := (blk_cell BK109.out 3).trans rfl
                                            have hcz74_4 : wc.cell? ⟨gb109, 4, none⟩ = some (.int .i64 a0_4) := (blk_cell BK109.out 4).trans rfl
                                            have hcz74_5 : wc.cell? ⟨gb109, 5, none⟩ = some (.int .i64 a0_5) := (blk_cell BK109.out 5).trans rfl
                                            have hcz74_6 : wc.cell? ⟨gb109, 6, none⟩ = some (.string a0_6) := (blk_cell BK109.out 6).trans rfl
                                            have hcz74_7 : wc.cell? ⟨gb109, 7, none⟩ = some (.int .i64 a0_7) := (blk_cell BK109.out 7).trans rfl
                                            have hcz74_8 : wc.cell? ⟨gb109, 8, none⟩ = some (.int .i64 a0_8) := (blk_cell BK109.out 8).trans rfl
                                            have hcz74_9 : wc.cell? ⟨gb109, 9, none⟩ = some (.bool a0_9) := (blk_cell BK109.out 9).trans rfl
                                            have hfz74_0 := blk_frozen BK109.out 0
                                            have hfz74_1 := blk_frozen BK109.out 1
                                            have hfz74_2 := blk_frozen BK109.out 2
                                            have hfz74_3 := blk_frozen BK109.out 3
                                            have hfz74_4 := blk_frozen BK109.out 4
                                            have hfz74_5 := blk_frozen BK109.out 5
                                            have hfz74_6 := blk_frozen BK109.out 6
                                            have hfz74_7 := blk_frozen BK109.out 7
                                            have hfz74_8 := blk_frozen BK109.out 8
                                            have hfz74_9 := blk_frozen BK109.out 9
                                            go_wp2
                                            go_ret
                                            exact ⟨by first | rfl | (simp [errW_none, errW_some] <;> rfl) | (simp [*, errW_none, errW_some] <;> rfl), by repeat (first | (with_reducible first | exact HB.out | apply below_alloc | apply pw_below_drewN | apply below_drew1 | refine below_set ?_ GE109.out) | exact HB.out)⟩
                                        · rw [if_neg c73] at H
                                          have c73b0 : (a0_4 == 16) = false := beq_eq_false_iff_ne.mpr c73
                                          have c73b1 : (a0_4 != 16) = true := bne_iff_ne.mpr c73
                                          as_aux_lemma =>
                                            obtain rfl := Option.some.inj H
                                            have hcz75_0 : wc.cell? ⟨gb109, 0, none⟩ = some (.int .i64 a0_0) := (blk_cell BK109.out 0).trans rfl
                                            have hcz75_1 : wc.cell? ⟨gb109, 1, none⟩ = some (.slice A0_1 l0_1.length c0_1) := (blk_cell BK109.out 1).trans rfl
                                            have hcz75_2 : wc.cell? ⟨gb109, 2, none⟩ = some (.int .i32 a0_2) := (blk_cell BK109.out 2).trans rfl
                                            have hcz75_3 : wc.cell? ⟨gb109, 3, none⟩ = some (.slice A0_3 l0_3.length c0_3) := (blk_cell BK109.out 3).trans rfl
                                            have hcz75_4 : wc.cell? ⟨gb109, 4, none⟩ = some (.int .i64 a0_4) := (blk_cell BK109.out 4).trans rfl
                                            have hcz75_5 : wc.cell? ⟨gb109, 5, none⟩ = some (.int .i64 a0_5) := (blk_cell BK109.out 5).trans rfl
                                            have hcz75_6 : wc.cell? ⟨gb109, 6, none⟩ = some (.string a0_6) := (blk_cell BK109.out 6).trans rfl
                                            have hcz75_7 : wc.cell? ⟨gb109, 7, none⟩ = some (.int .i64 a0_7) := (blk_cell BK109.out 7).trans rfl
                                            have hcz75_8 : wc.cell? ⟨gb109, 8, none⟩ = some (.int .i64 a0_8) := (blk_cell BK109.out 8).trans rfl
                                            have hcz75_9 : wc.cell? ⟨gb109, 9, none⟩ = some (.bool a0_9) := (blk_cell BK109.out 9).trans rfl
                                            have hfz75_0 := blk_frozen BK109.out 0
                                            have hfz75_1 := blk_frozen BK109.out 1
                                            have hfz75_2 := blk_frozen BK109.out 2
                                            have hfz75_3 := blk_frozen BK109.out 3
                                            have hfz75_4 := blk_frozen BK109.out 4
                                            have hfz75_5 := blk_frozen BK109.out 5
                                            have hfz75_6 := blk_frozen BK109.out 6
                                            have hfz75_7 := blk_frozen BK109.out 7
                                            have hfz75_8 := blk_frozen BK109.out 8
                                            have hfz75_9 := blk_frozen BK109.out 9
                                            go_wp2
                                            go_ret
                                            exact ⟨by first | rfl | (simp [errW_none, errW_some] <;> rfl) | (simp [*, errW_none, errW_some] <;> rfl), by repeat (first | (with_reducible first | exact HB.out | apply below_alloc | apply pw_below_drewN | apply below_drew1 | refine below_set ?_ GE109.out) | exact HB.out)⟩
                              · rw [if_neg c64] at H
                                have c64b0 : (a0_0 == 5) = false := beq_eq_false_iff_ne.mpr c64
                                have c64b1 : (a0_0 != 5) = true := bne_iff_ne.mpr c64
                                by_cases c76 : a0_0 = 6
                                · rw [if_pos c76] at H
                                  have c76b0 : (a0_0 == 6) = true := beq_iff_eq.mpr c76
                                  have c76b1 : (a0_0 != 6) = false := bne_eq_false_iff_eq.mpr c76
                                  clear c76
                                  replace H := Option.bind_eq_some_iff.mp H
                                  obtain ⟨t111, A770, H⟩ := H
                                  replace H : (if a0_6.toList = ([] : List UInt8) then (some true) else (some t111)) = some r := H
                                  have A77 := Aside0.mk A770
                                  clear A770
                                  by_cases c78 : a0_6.toList = ([] : List UInt8)
                                  · rw [if_pos c78] at H
                                    have c78b0 : (a0_6.toList == ([] : List UInt8)) = true := beq_iff_eq.mpr c78
                                    have c78b1 : (a0_6.toList != ([] : List UInt8)) = false := bne_eq_false_iff_eq.mpr c78
                                    clear c78
                                    as_aux_lemma =>
                                      obtain rfl := Option.some.inj H
                                      have hcz79_0 : wc.cell? ⟨gb109, 0, none⟩ = some (.int .i64 a0_0) := (blk_cell BK109.out 0).trans rfl
                                      have hcz79_1 : wc.cell? ⟨gb109, 1, none⟩ = some (.slice A0_1 l0_1.length c0_1) := (blk_cell BK109.out 1).trans rfl
                                      have hcz79_2 : wc.cell? ⟨gb109, 2, none⟩ = some (.int .i32 a0_2) := (blk_cell BK109.out 2).trans rfl
                                      have hcz79_3 : wc.cell? ⟨gb109, 3, none⟩ = some (.slice A0_3 l0_3.length c0_3) := (blk_cell BK109.out 3).trans rfl
                                      have hcz79_4 : wc.cell? ⟨gb109, 4, none⟩ = some (.int .i64 a0_4) := (blk_cell BK109.out 4).trans rfl
                                      have hcz79_5 : wc.cell? ⟨gb109, 5, none⟩ = some (.int .i64 a0_5) := (blk_cell BK109.out 5).trans rfl
                                      have hcz79_6 : wc.cell? ⟨gb109, 6, none⟩ = some (.string a0_6) := (blk_cell BK109.out 6).trans rfl
                                      have hcz79_7 : wc.cell? ⟨gb109, 7, none⟩ = some (.int .i64 a0_7) := (blk_cell BK109.out 7).trans rfl
                                      have hcz79_8 : wc.cell? ⟨gb109, 8, none⟩ = some (.int .i64 a0_8) := (blk_cell BK109.out 8).trans rfl
                                      have hcz79_9 : wc.cell? ⟨gb109, 9, none⟩ = some (.bool a0_9) := (blk_cell BK109.out 9).trans rfl
                                      have hfz79_0 := blk_frozen BK109.out 0
                                      have hfz79_1 := blk_frozen BK109.out 1
                                      have hfz79_2 := blk_frozen BK109.out 2
                                      have hfz79_3 := blk_frozen BK109.out 3
                                      have hfz79_4 := blk_frozen BK109.out 4
                                      have hfz79_5 := blk_frozen BK109.out 5
                                      have hfz79_6 := blk_frozen BK109.out 6
                                      have hfz79_7 := blk_frozen BK109.out 7
                                      have hfz79_8 := blk_frozen BK109.out 8
                                      have hfz79_9 := blk_frozen BK109.out 9
                                      go_wp2_with (first | ((with_reducible refine gate_callee (f := 44) rfl ?_); refine goesL_ (some 140) rfl rfl Tryd.func44 (by kernel_rfl) rfl #[.string a0_6] rfl (by (try simp only [List.map_toArray, List.map_cons, List.map_nil]); first | done | rfl | (simp only [List.length_drop, List.length_take]; rfl)) ?_; (with_reducible refine (martelloref05_Name.calls kj47 a0_6 t111 _ A77.out).mono ?_); rintro e w' ⟨rfl, ⟨nd, rfl⟩⟩; refine ⟨_, rfl, ?_⟩))
                                      go_ret
                                      exact ⟨by first | rfl | (simp [errW_none, errW_some] <;> rfl) | (simp [*, errW_none, errW_some] <;> rfl), by repeat (first | (with_reducible first | exact HB.out | apply below_alloc | apply pw_below_drewN | apply below_drew1 | refine below_set ?_ GE109.out) | exact HB.out)⟩
                                  · rw [if_neg c78] at H
                                    have c78b0 : (a0_6.toList == ([] : List UInt8)) = false := beq_eq_false_iff_ne.mpr c78
                                    have c78b1 : (a0_6.toList != ([] : List UInt8)) = true := bne_iff_ne.mpr c78
                                    as_aux_lemma =>
                                      obtain rfl := Option.some.inj H
                                      have hcz80_0 : wc.cell? ⟨gb109, 0, none⟩ = some (.int .i64 a0_0) := (blk_cell BK109.out 0).trans rfl
                                      have hcz80_1 : wc.cell? ⟨gb109, 1, none⟩ = some (.slice A0_1 l0_1.length c0_1) := (blk_cell BK109.out 1).trans rfl
                                      have hcz80_2 : wc.cell? ⟨gb109, 2, none⟩ = some (.int .i32 a0_2) := (blk_cell BK109.out 2).trans rfl
                                      have hcz80_3 : wc.cell? ⟨gb109, 3, none⟩ = some (.slice A0_3 l0_3.length c0_3) := (blk_cell BK109.out 3).trans rfl
                                      have hcz80_4 : wc.cell? ⟨gb109, 4, none⟩ = some (.int .i64 a0_4) := (blk_cell BK109.out 4).trans rfl
                                      have hcz80_5 : wc.cell? ⟨gb109, 5, none⟩ = some (.int .i64 a0_5) := (blk_cell BK109.out 5).trans rfl
                                      have hcz80_6 : wc.cell? ⟨gb109, 6, none⟩ = some (.string a0_6) := (blk_cell BK109.out 6).trans rfl
                                      have hcz80_7 : wc.cell? ⟨gb109, 7, none⟩ = some (.int .i64 a0_7) := (blk_cell BK109.out 7).trans rfl
                                      have hcz80_8 : wc.cell? ⟨gb109, 8, none⟩ = some (.int .i64 a0_8) := (blk_cell BK109.out 8).trans rfl
                                      have hcz80_9 : wc.cell? ⟨gb109, 9, none⟩ = some (.bool a0_9) := (blk_cell BK109.out 9).trans rfl
                                      have hfz80_0 := blk_frozen BK109.out 0
                                      have hfz80_1 := blk_frozen BK109.out 1
                                      have hfz80_2 := blk_frozen BK109.out 2
                                      have hfz80_3 := blk_frozen BK109.out 3
                                      have hfz80_4 := blk_frozen BK109.out 4
                                      have hfz80_5 := blk_frozen BK109.out 5
                                      have hfz80_6 := blk_frozen BK109.out 6
                                      have hfz80_7 := blk_frozen BK109.out 7
                                      have hfz80_8 := blk_frozen BK109.out 8
                                      have hfz80_9 := blk_frozen BK109.out 9
                                      go_wp2_with (first | ((with_reducible refine gate_callee (f := 44) rfl ?_); refine goesL_ (some 140) rfl rfl Tryd.func44 (by kernel_rfl) rfl #[.string a0_6] rfl (by (try simp only [List.map_toArray, List.map_cons, List.map_nil]); first | done | rfl | (simp only [List.length_drop, List.length_take]; rfl)) ?_; (with_reducible refine (martelloref05_Name.calls kj47 a0_6 t111 _ A77.out).mono ?_); rintro e w' ⟨rfl, ⟨nd, rfl⟩⟩; refine ⟨_, rfl, ?_⟩))
                                      go_ret
                                      exact ⟨by first | rfl | (simp [errW_none, errW_some] <;> rfl) | (simp [*, errW_none, errW_some] <;> rfl), by repeat (first | (with_reducible first | exact HB.out | apply below_alloc | apply pw_below_drewN | apply below_drew1 | refine below_set ?_ GE109.out) | exact HB.out)⟩
                                · rw [if_neg c76] at H
                                  have c76b0 : (a0_0 == 6) = false := beq_eq_false_iff_ne.mpr c76
                                  have c76b1 : (a0_0 != 6) = true := bne_iff_ne.mpr c76
                                  by_cases c81 : a0_0 = 10
                                  · rw [if_pos c81] at H
                                    have c81b0 : (a0_0 == 10) = true := beq_iff_eq.mpr c81
                                    have c81b1 : (a0_0 != 10) = false := bne_eq_false_iff_eq.mpr c81
                                    clear c81
                                    by_cases c82 : a0_7 < 0
                                    · rw [if_pos c82] at H
                                      have c82b0 : decide (a0_7 < 0) = true := decide_eq_true c82
                                      clear c82
                                      as_aux_lemma =>
                                        obtain rfl := Option.some.inj H
                                        have hcz83_0 : wc.cell? ⟨gb109, 0, none⟩ = some (.int .i64 a0_0) := (blk_cell BK109.out 0).trans rfl
                                        have hcz83_1 : wc.cell? ⟨gb109, 1, none⟩ = some (.slice A0_1 l0_1.length c0_1) := (blk_cell BK109.out 1).trans rfl
                                        have hcz83_2 : wc.cell? ⟨gb109, 2, none⟩ = some (.int .i32 a0_2) := (blk_cell BK109.out 2).trans rfl
                                        have hcz83_3 : wc.cell? ⟨gb109, 3, none⟩ = some (.slice A0_3 l0_3.length c0_3) := (blk_cell BK109.out 3).trans rfl
                                        have hcz83_4 : wc.cell? ⟨gb109, 4, none⟩ = some (.int .i64 a0_4) := (blk_cell BK109.out 4).trans rfl
                                        have hcz83_5 : wc.cell? ⟨gb109, 5, none⟩ = some (.int .i64 a0_5) := (blk_cell BK109.out 5).trans rfl
                                        have hcz83_6 : wc.cell? ⟨gb109, 6, none⟩ = some (.string a0_6) := (blk_cell BK109.out 6).trans rfl
                                        have hcz83_7 : wc.cell? ⟨gb109, 7, none⟩ = some (.int .i64 a0_7) := (blk_cell BK109.out 7).trans rfl
                                        have hcz83_8 : wc.cell? ⟨gb109, 8, none⟩ = some (.int .i64 a0_8) := (blk_cell BK109.out 8).trans rfl
                                        have hcz83_9 : wc.cell? ⟨gb109, 9, none⟩ = some (.bool a0_9) := (blk_cell BK109.out 9).trans rfl
                                        have hfz83_0 := blk_frozen BK109.out 0
                                        have hfz83_1 := blk_frozen BK109.out 1
                                        have hfz83_2 := blk_frozen BK109.out 2
                                        have hfz83_3 := blk_frozen BK109.out 3
                                        have hfz83_4 := blk_frozen BK109.out 4
                                        have hfz83_5 := blk_frozen BK109.out 5
                                        have hfz83_6 := blk_frozen BK109.out 6
                                        have hfz83_7 := blk_frozen BK109.out 7
                                        have hfz83_8 := blk_frozen BK109.out 8
                                        have hfz83_9 := blk_frozen BK109.out 9
                                        go_wp2
                                        go_ret
                                        exact ⟨by first | rfl | (simp [errW_none, errW_some] <;> rfl) | (simp [*, errW_none, errW_some] <;> rfl), by repeat (first | (with_reducible first | exact HB.out | apply below_alloc | apply pw_below_drewN | apply below_drew1 | refine below_set ?_ GE109.out) | exact HB.out)⟩
                                    · rw [if_neg c82] at H
                                      have c82b0 : decide (a0_7 < 0) = false := decide_eq_false c82
                                      clear c82
                                      by_cases c84 : a0_7 > 1000
                                      · rw [if_pos c84] at H
                                        have c84b0 : decide (1000 < a0_7) = true := decide_eq_true c84
                                        clear c84
                                        as_aux_lemma =>
                                          obtain rfl := Option.some.inj H
                                          have hcz85_0 : wc.cell? ⟨gb109, 0, none⟩ = some (.int .i64 a0_0) := (blk_cell BK109.out 0).trans rfl
                                          have hcz85_1 : wc.cell? ⟨gb109, 1, none⟩ = some (.slice A0_1 l0_1.length c0_1) := (blk_cell BK109.out 1).trans rfl
                                          have hcz85_2 : wc.cell? ⟨gb109, 2, none⟩ = some (.int .i32 a0_2) := (blk_cell BK109.out 2).trans rfl
                                          have hcz85_3 : wc.cell? ⟨gb109, 3, none⟩ = some (.slice A0_3 l0_3.length c0_3) := (blk_cell BK109.out 3).trans rfl
                                          have hcz85_4 : wc.cell? ⟨gb109, 4, none⟩ = some (.int .i64 a0_4) := (blk_cell BK109.out 4).trans rfl
                                          have hcz85_5 : wc.cell? ⟨gb109, 5, none⟩ = some (.int .i64 a0_5) := (blk_cell BK109.out 5).trans rfl
                                          have hcz85_6 : wc.cell? ⟨gb109, 6, none⟩ = some (.string a0_6) := (blk_cell BK109.out 6).trans rfl
                                          have hcz85_7 : wc.cell? ⟨gb109, 7, none⟩ = some (.int .i64 a0_7) := (blk_cell BK109.out 7).trans rfl
                                          have hcz85_8 : wc.cell? ⟨gb109, 8, none⟩ = some (.int .i64 a0_8) := (blk_cell BK109.out 8).trans rfl
                                          have hcz85_9 : wc.cell? ⟨gb109, 9, none⟩ = some (.bool a0_9) := (blk_cell BK109.out 9).trans rfl
                                          have hfz85_0 := blk_frozen BK109.out 0
                                          have hfz85_1 := blk_frozen BK109.out 1
                                          have hfz85_2 := blk_frozen BK109.out 2
                                          have hfz85_3 := blk_frozen BK109.out 3
                                          have hfz85_4 := blk_frozen BK109.out 4
                                          have hfz85_5 := blk_frozen BK109.out 5
                                          have hfz85_6 := blk_frozen BK109.out 6
                                          have hfz85_7 := blk_frozen BK109.out 7
                                          have hfz85_8 := blk_frozen BK109.out 8
                                          have hfz85_9 := blk_frozen BK109.out 9
                                          go_wp2
                                          go_ret
                                          exact ⟨by first | rfl | (simp [errW_none, errW_some] <;> rfl) | (simp [*, errW_none, errW_some] <;> rfl), by repeat (first | (with_reducible first | exact HB.out | apply below_alloc | apply pw_below_drewN | apply below_drew1 | refine below_set ?_ GE109.out) | exact HB.out)⟩
                                      · rw [if_neg c84] at H
                                        have c84b0 : decide (1000 < a0_7) = false := decide_eq_false c84
                                        clear c84
                                        by_cases c86 : a0_8 = (-1)
                                        · rw [if_pos c86] at H
                                          have c86b0 : (a0_8 == (-1)) = true := beq_iff_eq.mpr c86
                                          have c86b1 : (a0_8 != (-1)) = false := bne_eq_false_iff_eq.mpr c86
                                          clear c86
                                          as_aux_lemma =>
                                            obtain rfl := Option.some.inj H
                                            have hcz87_0 : wc.cell? ⟨gb109, 0, none⟩ = some (.int .i64 a0_0) := (blk_cell BK109.out 0).trans rfl
                                            have hcz87_1 : wc.cell? ⟨gb109, 1, none⟩ = some (.slice A0_1 l0_1.length c0_1) := (blk_cell BK109.out 1).trans rfl
                                            have hcz87_2 : wc.cell? ⟨gb109, 2, none⟩ = some (.int .i32 a0_2) := (blk_cell BK109.out 2).trans rfl
                                            have hcz87_3 : wc.cell? ⟨gb109, 3, none⟩ = some (.slice A0_3 l0_3.length c0_3) := (blk_cell BK109.out 3).trans rfl
                                            have hcz87_4 : wc.cell? ⟨gb109, 4, none⟩ = some (.int .i64 a0_4) := (blk_cell BK109.out 4).trans rfl
                                            have hcz87_5 : wc.cell? ⟨gb109, 5, none⟩ = some (.int .i64 a0_5) := (blk_cell BK109.out 5).trans rfl
                                            have hcz87_6 : wc.cell? ⟨gb109, 6, none⟩ = some (.string a0_6) := (blk_cell BK109.out 6).trans rfl
                                            have hcz87_7 : wc.cell? ⟨gb109, 7, none⟩ = some (.int .i64 a0_7) := (blk_cell BK109.out 7).trans rfl
                                            have hcz87_8 : wc.cell? ⟨gb109, 8, none⟩ = some (.int .i64 a0_8) := (blk_cell BK109.out 8).trans rfl
                                            have hcz87_9 : wc.cell? ⟨gb109, 9, none⟩ = some (.bool a0_9) := (blk_cell BK109.out 9).trans rfl
                                            have hfz87_0 := blk_frozen BK109.out 0
                                            have hfz87_1 := blk_frozen BK109.out 1
                                            have hfz87_2 := blk_frozen BK109.out 2
                                            have hfz87_3 := blk_frozen BK109.out 3
                                            have hfz87_4 := blk_frozen BK109.out 4
                                            have hfz87_5 := blk_frozen BK109.out 5
                                            have hfz87_6 := blk_frozen BK109.out 6
                                            have hfz87_7 := blk_frozen BK109.out 7
                                            have hfz87_8 := blk_frozen BK109.out 8
                                            have hfz87_9 := blk_frozen BK109.out 9
                                            go_wp2
                                            go_ret
                                            exact ⟨by first | rfl | (simp [errW_none, errW_some] <;> rfl) | (simp [*, errW_none, errW_some] <;> rfl), by repeat (first | (with_reducible first | exact HB.out | apply below_alloc | apply pw_below_drewN | apply below_drew1 | refine below_set ?_ GE109.out) | exact HB.out)⟩
                                        · rw [if_neg c86] at H
                                          have c86b0 : (a0_8 == (-1)) = false := beq_eq_false_iff_ne.mpr c86
                                          have c86b1 : (a0_8 != (-1)) = true := bne_iff_ne.mpr c86
                                          by_cases c88 : a0_8 ≥ a0_7
                                          · rw [if_pos c88] at H
                                            have c88b0 : decide (a0_7 ≤ a0_8) = true := decide_eq_true c88
                                            clear c88
                                            as_aux_lemma =>
                                              obtain rfl := Option.some.inj H
                                              have hcz89_0 : wc.cell? ⟨gb109, 0, none⟩ = some (.int .i64 a0_0) := (blk_cell BK109.out 0).trans rfl
                                              have hcz89_1 : wc.cell? ⟨gb109, 1, none⟩ = some (.slice A0_1 l0_1.length c0_1) := (blk_cell BK109.out 1).trans rfl
                                              have hcz89_2 : wc.cell? ⟨gb109, 2, none⟩ = some (.int .i32 a0_2) := (blk_cell BK109.out 2).trans rfl
                                              have hcz89_3 : wc.cell? ⟨gb109, 3, none⟩ = some (.slice A0_3 l0_3.length c0_3) := (blk_cell BK109.out 3).trans rfl
                                              have hcz89_4 : wc.cell? ⟨gb109, 4, none⟩ = some (.int .i64 a0_4) := (blk_cell BK109.out 4).trans rfl
                                              have hcz89_5 : wc.cell? ⟨gb109, 5, none⟩ = some (.int .i64 a0_5) := (blk_cell BK109.out 5).trans rfl
                                              have hcz89_6 : wc.cell? ⟨gb109, 6, none⟩ = some (.string a0_6) := (blk_cell BK109.out 6).trans rfl
                                              have hcz89_7 : wc.cell? ⟨gb109, 7, none⟩ = some (.int .i64 a0_7) := (blk_cell BK109.out 7).trans rfl
                                              have hcz89_8 : wc.cell? ⟨gb109, 8, none⟩ = some (.int .i64 a0_8) := (blk_cell BK109.out 8).trans rfl
                                              have hcz89_9 : wc.cell? ⟨gb109, 9, none⟩ = some (.bool a0_9) := (blk_cell BK109.out 9).trans rfl
                                              have hfz89_0 := blk_frozen BK109.out 0
                                              have hfz89_1 := blk_frozen BK109.out 1
                                              have hfz89_2 := blk_frozen BK109.out 2
                                              have hfz89_3 := blk_frozen BK109.out 3
                                              have hfz89_4 := blk_frozen BK109.out 4
                                              have hfz89_5 := blk_frozen BK109.out 5
                                              have hfz89_6 := blk_frozen BK109.out 6
                                              have hfz89_7 := blk_frozen BK109.out 7
                                              have hfz89_8 := blk_frozen BK109.out 8
                                              have hfz89_9 := blk_frozen BK109.out 9
                                              go_wp2
                                              go_ret
                                              exact ⟨by first | rfl | (simp [errW_none, errW_some] <;> rfl) | (simp [*, errW_none, errW_some] <;> rfl), by repeat (first | (with_reducible first | exact HB.out | apply below_alloc | apply pw_below_drewN | apply below_drew1 | refine below_set ?_ GE109.out) | exact HB.out)⟩
                                          · rw [if_neg c88] at H
                                            have c88b0 : decide (a0_7 ≤ a0_8) = false := decide_eq_false c88
                                            clear c88
                                            as_aux_lemma =>
                                              obtain rfl := Option.some.inj H
                                              have hcz90_0 : wc.cell? ⟨gb109, 0, none⟩ = some (.int .i64 a0_0) := (blk_cell BK109.out 0).trans rfl
                                              have hcz90_1 : wc.cell? ⟨gb109, 1, none⟩ = some (.slice A0_1 l0_1.length c0_1) := (blk_cell BK109.out 1).trans rfl
                                              have hcz90_2 : wc.cell? ⟨gb109, 2, none⟩ = some (.int .i32 a0_2) := (blk_cell BK109.out 2).trans rfl
                                              have hcz90_3 : wc.cell? ⟨gb109, 3, none⟩ = some (.slice A0_3 l0_3.length c0_3) := (blk_cell BK109.out 3).trans rfl
                                              have hcz90_4 : wc.cell? ⟨gb109, 4, none⟩ = some (.int .i64 a0_4) := (blk_cell BK109.out 4).trans rfl
                                              have hcz90_5 : wc.cell? ⟨gb109, 5, none⟩ = some (.int .i64 a0_5) := (blk_cell BK109.out 5).trans rfl
                                              have hcz90_6 : wc.cell? ⟨gb109, 6, none⟩ = some (.string a0_6) := (blk_cell BK109.out 6).trans rfl
                                              have hcz90_7 : wc.cell? ⟨gb109, 7, none⟩ = some (.int .i64 a0_7) := (blk_cell BK109.out 7).trans rfl
                                              have hcz90_8 : wc.cell? ⟨gb109, 8, none⟩ = some (.int .i64 a0_8) := (blk_cell BK109.out 8).trans rfl
                                              have hcz90_9 : wc.cell? ⟨gb109, 9, none⟩ = some (.bool a0_9) := (blk_cell BK109.out 9).trans rfl
                                              have hfz90_0 := blk_frozen BK109.out 0
                                              have hfz90_1 := blk_frozen BK109.out 1
                                              have hfz90_2 := blk_frozen BK109.out 2
                                              have hfz90_3 := blk_frozen BK109.out 3
                                              have hfz90_4 := blk_frozen BK109.out 4
                                              have hfz90_5 := blk_frozen BK109.out 5
                                              have hfz90_6 := blk_frozen BK109.out 6
                                              have hfz90_7 := blk_frozen BK109.out 7
                                              have hfz90_8 := blk_frozen BK109.out 8
                                              have hfz90_9 := blk_frozen BK109.out 9
                                              go_wp2
                                              go_ret
                                              exact ⟨by first | rfl | (simp [errW_none, errW_some] <;> rfl) | (simp [*, errW_none, errW_some] <;> rfl), by repeat (first | (with_reducible first | exact HB.out | apply below_alloc | apply pw_below_drewN | apply below_drew1 | refine below_set ?_ GE109.out) | exact HB.out)⟩
                                  · rw [if_neg c81] at H
                                    have c81b0 : (a0_0 == 10) = false := beq_eq_false_iff_ne.mpr c81
                                    have c81b1 : (a0_0 != 10) = true := bne_iff_ne.mpr c81
                                    as_aux_lemma =>
                                      obtain rfl := Option.some.inj H
                                      have hcz91_0 : wc.cell? ⟨gb109, 0, none⟩ = some (.int .i64 a0_0) := (blk_cell BK109.out 0).trans rfl
                                      have hcz91_1 : wc.cell? ⟨gb109, 1, none⟩ = some (.slice A0_1 l0_1.length c0_1) := (blk_cell BK109.out 1).trans rfl
                                      have hcz91_2 : wc.cell? ⟨gb109, 2, none⟩ = some (.int .i32 a0_2) := (blk_cell BK109.out 2).trans rfl
                                      have hcz91_3 : wc.cell? ⟨gb109, 3, none⟩ = some (.slice A0_3 l0_3.length c0_3) := (blk_cell BK109.out 3).trans rfl
                                      have hcz91_4 : wc.cell? ⟨gb109, 4, none⟩ = some (.int .i64 a0_4) := (blk_cell BK109.out 4).trans rfl
                                      have hcz91_5 : wc.cell? ⟨gb109, 5, none⟩ = some (.int .i64 a0_5) := (blk_cell BK109.out 5).trans rfl
                                      have hcz91_6 : wc.cell? ⟨gb109, 6, none⟩ = some (.string a0_6) := (blk_cell BK109.out 6).trans rfl
                                      have hcz91_7 : wc.cell? ⟨gb109, 7, none⟩ = some (.int .i64 a0_7) := (blk_cell BK109.out 7).trans rfl
                                      have hcz91_8 : wc.cell? ⟨gb109, 8, none⟩ = some (.int .i64 a0_8) := (blk_cell BK109.out 8).trans rfl
                                      have hcz91_9 : wc.cell? ⟨gb109, 9, none⟩ = some (.bool a0_9) := (blk_cell BK109.out 9).trans rfl
                                      have hfz91_0 := blk_frozen BK109.out 0
                                      have hfz91_1 := blk_frozen BK109.out 1
                                      have hfz91_2 := blk_frozen BK109.out 2
                                      have hfz91_3 := blk_frozen BK109.out 3
                                      have hfz91_4 := blk_frozen BK109.out 4
                                      have hfz91_5 := blk_frozen BK109.out 5
                                      have hfz91_6 := blk_frozen BK109.out 6
                                      have hfz91_7 := blk_frozen BK109.out 7
                                      have hfz91_8 := blk_frozen BK109.out 8
                                      have hfz91_9 := blk_frozen BK109.out 9
                                      go_wp2
                                      go_ret
                                      exact ⟨by first | rfl | (simp [errW_none, errW_some] <;> rfl) | (simp [*, errW_none, errW_some] <;> rfl), by repeat (first | (with_reducible first | exact HB.out | apply below_alloc | apply pw_below_drewN | apply below_drew1 | refine below_set ?_ GE109.out) | exact HB.out)⟩

end Go.Proofs.YtdnbholiijgedaaDoor.PPrefix
