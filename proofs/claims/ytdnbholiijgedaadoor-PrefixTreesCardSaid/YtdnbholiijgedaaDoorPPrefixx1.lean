-- PRINTED BY print.sh 35421559b90ae4d0a3588c463048766b98c2df88dd9212a6774a882060cdf62d: not written by this session
import Derived.Test.YtdnbholiijgedaaDoorPPrefixx0
namespace Go.Proofs.YtdnbholiijgedaaDoor.PPrefix
open Go.RowKit Go.Proofs.YtdnbholiijgedaaDoorW.PrintWords Go.Proofs.YtdnbholiijgedaaDoorW.PrintLast Go.Proofs.YtdnbholiijgedaaDoorW.PrintMore
attribute [local go_sem] max2_int min2_int max_two min_two max_three min_three max_four min_four   -- for this text's walks alone
set_option linter.unusedVariables false
set_option linter.unusedSimpArgs false

/-! ### martelloref02_Right: function 43 -/
mutual
def martelloref02_Right.l0 : Nat → List (S84) → Int → Option (Bool)
  | 0, _, _ => none
  | k + 1, x0, x3 => if x3 < (x0.length : Int) then (if 0 ≤ x3 then (if ((rd_T84 x0 x3).f0) < 0 then (martelloref02_Right.j1 k x0 x3 true) else (if ((rd_T84 x0 x3).f1) > 1114111 then (martelloref02_Right.j1 k x0 x3 true) else (martelloref02_Right.j1 k x0 x3 (decide (((rd_T84 x0 x3).f0) > ((rd_T84 x0 x3).f1)))))) else (none)) else (some true)
def martelloref02_Right.j1 : Nat → List (S84) → Int → Bool → Option (Bool)
  | 0, _, _, _ => none
  | k + 1, x0, x3, x36 => if x36 = true then (some false) else (if x3 > 0 then (if 0 ≤ x3 then (if x3 < (x0.length : Int) then (if 0 ≤ (wrap64 (x3 - 1)) then (if (wrap64 (x3 - 1)) < (x0.length : Int) then (if ((rd_T84 x0 x3).f0) ≤ ((rd_T84 x0 (wrap64 (x3 - 1))).f1) then (some false) else (if (wrap32 (((rd_T84 x0 x3).f0) - ((rd_T84 x0 (wrap64 (x3 - 1))).f1))) < 2 then (some false) else (martelloref02_Right.l0 k x0 (wrap64 (x3 + 1))))) else (none)) else (none)) else (none)) else (none)) else (martelloref02_Right.l0 k x0 (wrap64 (x3 + 1))))
end
def martelloref02_Right.f (k : Nat) (l0 : List (S84)) : Option (Bool) := martelloref02_Right.l0 k l0 0
theorem martelloref02_Right.mono_l : ∀ k, (∀ y0 y1, LeO (martelloref02_Right.l0 k y0 y1) (martelloref02_Right.l0 (k + 1) y0 y1)) ∧ (∀ y0 y1 y2, LeO (martelloref02_Right.j1 k y0 y1 y2) (martelloref02_Right.j1 (k + 1) y0 y1 y2))
  | 0 => ⟨fun _ _ r h => by simp [martelloref02_Right.l0] at h, fun _ _ _ r h => by simp [martelloref02_Right.j1] at h⟩
  | k + 1 => by
    obtain ⟨ih0, ih1⟩ := martelloref02_Right.mono_l k
    refine ⟨?_, ?_⟩
    · intro y0 y1
      unfold martelloref02_Right.l0
      repeat' first
      | (with_reducible exact ih0 _ _)
      | (with_reducible exact ih1 _ _ _)
      | (with_reducible exact LeO.refl _)
      | (with_reducible exact LeO.none _)
      | (with_reducible refine LeO.ite ?_ ?_)
      | (with_reducible refine LeO.bind ?_ (fun _ => ?_))
      | exact ih0 _ _
      | exact ih1 _ _ _
      | exact LeO.none _
      | refine LeO.ite ?_ ?_
      | refine LeO.bind ?_ (fun _ => ?_)
    · intro y0 y1 y2
      unfold martelloref02_Right.j1
      repeat' first
      | (with_reducible exact ih0 _ _)
      | (with_reducible exact ih1 _ _ _)
      | (with_reducible exact LeO.refl _)
      | (with_reducible exact LeO.none _)
      | (with_reducible refine LeO.ite ?_ ?_)
      | (with_reducible refine LeO.bind ?_ (fun _ => ?_))
      | exact ih0 _ _
      | exact ih1 _ _ _
      | exact LeO.none _
      | refine LeO.ite ?_ ?_
      | refine LeO.bind ?_ (fun _ => ?_)
theorem martelloref02_Right.mono : ∀ a0 k, LeO (martelloref02_Right.f k a0) (martelloref02_Right.f (k + 1) a0) := by
  intro a0 k
  obtain ⟨ih0, ih1⟩ := martelloref02_Right.mono_l k
  unfold martelloref02_Right.f
  repeat' first
      | (with_reducible exact ih0 _ _)
      | (with_reducible exact ih1 _ _ _)
      | (with_reducible exact LeO.refl _)
      | (with_reducible exact LeO.none _)
      | (with_reducible refine LeO.ite ?_ ?_)
      | (with_reducible refine LeO.bind ?_ (fun _ => ?_))
      | exact ih0 _ _
      | exact ih1 _ _ _
      | exact LeO.none _
      | refine LeO.ite ?_ ?_
      | refine LeO.bind ?_ (fun _ => ?_)
set_option maxHeartbeats 8000000 in
set_option maxRecDepth 100000 in
theorem martelloref02_Right.calls (k : Nat) (A0 : Option Addr) (c0 : Nat) (l0 : List (S84)) (r : Bool) (w : World) (hr0 : Kd.C k84 w A0 l0.length l0) (hc0 : l0.length ≤ c0) (h : martelloref02_Right.f k l0 = some r) :
    Calls Tryd.prog 43 #[.slice A0 l0.length c0] w fun e w' => e = .returned (.bool r) ∧ Drawn0 w w' := by
  have HR0 := Aside0.mk hr0
  have HC0 := Aside0.mk hc0
  clear hr0 hc0
  have H : (martelloref02_Right.l0 k l0 0) = some r := h
  clear h
  have H' := Aside0.mk H
  clear H
  go_enter Tryd.func43, Tryd.ntmps43
  go_wp2
  repeat (go_quiet (fail); try go_wp2)
  go_loopg [3] k (fun kq v3 w' => ∃ (x3_1 : Int), v3 = .int .i64 x3_1 ∧ Aside0 (martelloref02_Right.l0 kq l0 x3_1 = some r) ∧ Aside0 (kq ≤ k) ∧ Drawn0 w w')
  case atStart => exact ⟨(0), (by first | rfl | (simp; done) | (simp [*]; done)), H', ⟨Nat.le_refl _⟩, by repeat (first | exact Drawn0.refl _ | apply Drawn0.step)⟩
  case round =>
    clear H'
    obtain ⟨x3_1, rfl, HA, HK1, ⟨m1, rfl⟩⟩ := hrel
    cases gk with
    | zero => exact absurd HA.out (by simp [martelloref02_Right.l0])
    | succ k1 =>
      have H := HA.out
      clear HA
      simp only [martelloref02_Right.l0] at H
      by_cases c2 : x3_1 < (l0.length : Int)
      · rw [if_pos c2] at H
        have c2b0 : decide (x3_1 < (l0.length : Int)) = true := decide_eq_true c2
        clear c2
        have HC3 := Aside0.mk H
        clear H
        go_upto_region 4 with (fail)
        repeat (go_quiet (fail); go_upto_region 4 with (fail))
        go_cut [36] (fun v36 wc => ∃ (kq : Nat) (x36_2 : Bool), v36 = .bool x36_2 ∧ Aside0 (martelloref02_Right.j1 kq l0 x3_1 x36_2 = some r) ∧ Aside0 (kq ≤ k1) ∧ Drawn0 w wc)
        case first =>
          have H := HC3.out
          clear HC3
          by_cases c4 : 0 ≤ x3_1
          · rw [if_pos c4] at H
            have c4b0 : decide (0 ≤ x3_1) = true := decide_eq_true c4
            clear c4
            (first | rw [c4b0] | (simp only [i64_w, i32_w]; rw [c4b0]) | skip)
            by_cases c5 : ((rd_T84 l0 x3_1).f0) < 0
            · rw [if_pos c5] at H
              have c5b0 : decide (((rd_T84 l0 x3_1).f0) < 0) = true := decide_eq_true c5
              clear c5
              as_aux_lemma =>
                have H' := Aside0.mk H
                clear H
                have p101 : 0 ≤ (x3_1 : Int) := of_decide_eq_true (by first | (with_reducible assumption) | assumption)
                have q101 : x3_1 < (l0.length : Int) := of_decide_eq_true (by first | (with_reducible assumption) | assumption)
                obtain ⟨ad101, e101, hx101_0, hx101_1⟩ := at_T84 HR0.out x3_1 p101 q101
                cases e101
                replace p101 := eq_true p101
                replace q101 := eq_true q101
                go_wp2
                repeat (go_quiet (fail); try go_wp2)
                go_meet
                case rel => exact ⟨_, (true), (by first | rfl | (simp; done) | (simp [*]; done)), H', ⟨by have := HK1.out; first | omega | exact Nat.le_refl _⟩, by repeat (first | exact Drawn0.refl _ | apply Drawn0.step)⟩
            · rw [if_neg c5] at H
              have c5b0 : decide (((rd_T84 l0 x3_1).f0) < 0) = false := decide_eq_false c5
              clear c5
              by_cases c6 : ((rd_T84 l0 x3_1).f1) > 1114111
              · rw [if_pos c6] at H
                have c6b0 : decide (1114111 < ((rd_T84 l0 x3_1).f1)) = true := decide_eq_true c6
                clear c6
                as_aux_lemma =>
                  have H' := Aside0.mk H
                  clear H
                  have p101 : 0 ≤ (x3_1 : Int) := of_decide_eq_true (by first | (with_reducible assumption) | assumption)
                  have q101 : x3_1 < (l0.length : Int) := of_decide_eq_true (by first | (with_reducible assumption) | assumption)
                  obtain ⟨ad101, e101, hx101_0, hx101_1⟩ := at_T84 HR0.out x3_1 p101 q101
                  cases e101
                  replace p101 := eq_true p101
                  replace q101 := eq_true q101
                  have p102 : 0 ≤ (x3_1 : Int) := of_decide_eq_true (by first | (with_reducible assumption) | assumption)
                  have q102 : x3_1 < (l0.length : Int) := of_decide_eq_true (by first | (with_reducible assumption) | assumption)
                  obtain ⟨ad102, e102, hx102_0, hx102_1⟩ := at_T84 HR0.out x3_1 p102 q102
                  obtain rfl : ad101 = ad102 := (by injection e102)
                  replace p102 := eq_true p102
                  replace q102 := eq_true q102
                  go_wp2
                  repeat (go_quiet (fail); try go_wp2)
                  go_meet
                  case rel => exact ⟨_, (true), (by first | rfl | (simp; done) | (simp [*]; done)), H', ⟨by have := HK1.out; first | omega | exact Nat.le_refl _⟩, by repeat (first | exact Drawn0.refl _ | apply Drawn0.step)⟩
              · rw [if_neg c6] at H
                have c6b0 : decide (1114111 < ((rd_T84 l0 x3_1).f1)) = false := decide_eq_false c6
                clear c6
                as_aux_lemma =>
                  have H' := Aside0.mk H
                  clear H
                  have p101 : 0 ≤ (x3_1 : Int) := of_decide_eq_true (by first | (with_reducible assumption) | assumption)
                  have q101 : x3_1 < (l0.length : Int) := of_decide_eq_true (by first | (with_reducible assumption) | assumption)
                  obtain ⟨ad101, e101, hx101_0, hx101_1⟩ := at_T84 HR0.out x3_1 p101 q101
                  cases e101
                  replace p101 := eq_true p101
                  replace q101 := eq_true q101
                  have p102 : 0 ≤ (x3_1 : Int) := of_decide_eq_true (by first | (with_reducible assumption) | assumption)
                  have q102 : x3_1 < (l0.length : Int) := of_decide_eq_true (by first | (with_reducible assumption) | assumption)
                  obtain ⟨ad102, e102, hx102_0, hx102_1⟩ := at_T84 HR0.out x3_1 p102 q102
                  obtain rfl : ad101 = ad102 := (by injection e102)
                  replace p102 := eq_true p102
                  replace q102 := eq_true q102
                  have p103 : 0 ≤ (x3_1 : Int) := of_decide_eq_true (by first | (with_reducible assumption) | assumption)
                  have q103 : x3_1 < (l0.length : Int) := of_decide_eq_true (by first | (with_reducible assumption) | assumption)
                  obtain ⟨ad103, e103, hx103_0, hx103_1⟩ := at_T84 HR0.out x3_1 p103 q103
                  obtain rfl : ad101 = ad103 := (by injection e103)
                  replace p103 := eq_true p103
                  replace q103 := eq_true q103
                  have p104 : 0 ≤ (x3_1 : Int) := of_decide_eq_true (by first | (with_reducible assumption) | assumption)
                  have q104 : x3_1 < (l0.length : Int) := of_decide_eq_true (by first | (with_reducible assumption) | assumption)
                  obtain ⟨ad104, e104, hx104_0, hx104_1⟩ := at_T84 HR0.out x3_1 p104 q104
                  obtain rfl : ad101 = ad104 := (by injection e104)
                  replace p104 := eq_true p104
                  replace q104 := eq_true q104
                  go_wp2
                  repeat (go_quiet (fail); try go_wp2)
                  go_meet
                  case rel => exact ⟨_, (decide (((rd_T84 l0 x3_1).f0) > ((rd_T84 l0 x3_1).f1))), (by first | rfl | (simp; done) | (simp [*]; done)), H', ⟨by have := HK1.out; first | omega | exact Nat.le_refl _⟩, by repeat (first | exact Drawn0.refl _ | apply Drawn0.step)⟩
          · rw [if_neg c4] at H
            exact absurd H (by simp)
        case rest =>
          clear HC3
          try clear p1
          try clear q1
          try clear hx1
          try clear c2
          try clear c2b0
          try clear p2
          try clear c4
          try clear c4b0
          try clear c5
          try clear c5b0
          try clear c6
          try clear c6b0
          try clear hx101_0
          try clear hx101_1
          try clear hx102_0
          try clear hx102_1
          try clear hx103_0
          try clear hx103_1
          try clear hx104_0
          try clear hx104_1
          try clear p101
          try clear p102
          try clear p103
          try clear p104
          try clear q101
          try clear q102
          try clear q103
          try clear q104
          obtain ⟨kq, x36_2, rfl, HA, HJ2, ⟨mc2, rfl⟩⟩ := hcut
          cases kq with
          | zero => exact absurd HA.out (by simp [martelloref02_Right.j1])
          | succ kj2 =>
            have H := HA.out
            clear HA
            simp only [martelloref02_Right.j1] at H
            by_cases c7 : x36_2 = true
            · subst c7
              have H1 : (some false) = some r := by rw [if_pos rfl] at H; exact H
              clear H
              have H := H1
              clear H1
              as_aux_lemma =>
                obtain rfl := Option.some.inj H
                go_wp2
                repeat (go_quiet (fail); try go_wp2)
                go_ret
                exact ⟨by first | rfl | (simp; done) | (simp [*]; done), by repeat (first | exact Drawn0.refl _ | apply Drawn0.step)⟩
            · replace c7 := Bool.eq_false_iff.mpr c7
              subst c7
              have H1 : (if x3_1 > 0 then (if 0 ≤ x3_1 then (if x3_1 < (l0.length : Int) then (if 0 ≤ (wrap64 (x3_1 - 1)) then (if (wrap64 (x3_1 - 1)) < (l0.length : Int) then (if ((rd_T84 l0 x3_1).f0) ≤ ((rd_T84 l0 (wrap64 (x3_1 - 1))).f1) then (some false) else (if (wrap32 (((rd_T84 l0 x3_1).f0) - ((rd_T84 l0 (wrap64 (x3_1 - 1))).f1))) < 2 then (some false) else (martelloref02_Right.l0 kj2 l0 (wrap64 (x3_1 + 1))))) else (none)) else (none)) else (none)) else (none)) else (martelloref02_Right.l0 kj2 l0 (wrap64 (x3_1 + 1)))) = some r := by rw [if_neg (show ¬ (false = true) by decide)] at H; exact H
              clear H
              have H := H1
              clear H1
              by_cases c8 : x3_1 > 0
              · rw [if_pos c8] at H
                have c8b0 : decide (0 < x3_1) = true := decide_eq_true c8
                clear c8
                by_cases c9 : 0 ≤ x3_1
                · rw [if_pos c9] at H
                  have c9b0 : decide (0 ≤ x3_1) = true := decide_eq_true c9
                  clear c9
                  by_cases c10 : x3_1 < (l0.length : Int)
                  · rw [if_pos c10] at H
                    have c10b0 : decide (x3_1 < (l0.length : Int)) = true := decide_eq_true c10
                    clear c10
                    obtain ⟨ji11, hji11⟩ : ∃ j_ : Int, (wrap64 (x3_1 - 1)) = j_ := ⟨_, rfl⟩
                    replace H : (if 0 ≤ (ji11) then (if (ji11) < (l0.length : Int) then (if ((rd_T84 l0 x3_1).f0) ≤ ((rd_T84 l0 (ji11)).f1) then (some false) else (if (wrap32 (((rd_T84 l0 x3_1).f0) - ((rd_T84 l0 (ji11)).f1))) < 2 then (some false) else (martelloref02_Right.l0 kj2 l0 (wrap64 (x3_1 + 1))))) else (none)) else (none)) = some r := by first | (rw [hji11] at H; exact H) | (simp only [hji11] at H ⊢; exact H)
                    have hji11w : (IntKind.i64.wrap (x3_1 - 1)) = ji11 := (i64_w _).trans hji11
                    by_cases c12 : 0 ≤ (ji11)
                    · rw [if_pos c12] at H
                      have c12b0 : decide (0 ≤ (ji11)) = true := decide_eq_true c12
                      clear c12
                      by_cases c13 : (ji11) < (l0.length : Int)
                      · rw [if_pos c13] at H
                        have c13b0 : decide ((ji11) < (l0.length : Int)) = true := decide_eq_true c13
                        clear c13
                        by_cases c14 : ((rd_T84 l0 x3_1).f0) ≤ ((rd_T84 l0 (ji11)).f1)
                        · rw [if_pos c14] at H
                          have c14b0 : decide (((rd_T84 l0 x3_1).f0) ≤ ((rd_T84 l0 (ji11)).f1)) = true := decide_eq_true c14
                          clear c14
                          as_aux_lemma =>
                            obtain rfl := Option.some.inj H
                            have p105 : 0 ≤ (x3_1 : Int) := of_decide_eq_true (by first | (with_reducible assumption) | assumption)
                            have q105 : x3_1 < (l0.length : Int) := of_decide_eq_true (by first | (with_reducible assumption) | assumption)
                            obtain ⟨ad105, e105, hx105_0, hx105_1⟩ := at_T84 HR0.out x3_1 p105 q105
                            cases e105
                            replace p105 := eq_true p105
                            replace q105 := eq_true q105
                            have p106 : 0 ≤ ((ji11) : Int) := of_decide_eq_true (by first | (with_reducible assumption) | assumption)
                            have q106 : (ji11) < (l0.length : Int) := of_decide_eq_true (by first | (with_reducible assumption) | assumption)
                            obtain ⟨ad106, e106, hx106_0, hx106_1⟩ := at_T84 HR0.out (ji11) p106 q106
                            obtain rfl : ad105 = ad106 := (by injection e106)
                            replace p106 := eq_true p106
                            replace q106 := eq_true q106
                            go_wp2
                            repeat (go_quiet (fail); try go_wp2)
                            go_ret
                            exact ⟨by first | rfl | (simp; done) | (simp only [← hji11] <;> (first | rfl | simp)) | (simp [*]; done), by repeat (first | exact Drawn0.refl _ | apply Drawn0.step)⟩
                        · rw [if_neg c14] at H
                          have c14b0 : decide (((rd_T84 l0 x3_1).f0) ≤ ((rd_T84 l0 (ji11)).f1)) = false := decide_eq_false c14
                          clear c14
                          by_cases c15 : (wrap32 (((rd_T84 l0 x3_1).f0) - ((rd_T84 l0 (ji11)).f1))) < 2
                          · rw [if_pos c15] at H
                            have c15b0 : decide ((wrap32 (((rd_T84 l0 x3_1).f0) - ((rd_T84 l0 (ji11)).f1))) < 2) = true := decide_eq_true c15
                            clear c15
                            as_aux_lemma =>
                              obtain rfl := Option.some.inj H
                              have p105 : 0 ≤ (x3_1 : Int) := of_decide_eq_true (by first | (with_reducible assumption) | assumption)
                              have q105 : x3_1 < (l0.length : Int) := of_decide_eq_true (by first | (with_reducible assumption) | assumption)
                              obtain ⟨ad105, e105, hx105_0, hx105_1⟩ := at_T84 HR0.out x3_1 p105 q105
                              cases e105
                              replace p105 := eq_true p105
                              replace q105 := eq_true q105
                              have p106 : 0 ≤ ((ji11) : Int) := of_decide_eq_true (by first | (with_reducible assumption) | assumption)
                              have q106 : (ji11) < (l0.length : Int) := of_decide_eq_true (by first | (with_reducible assumption) | assumption)
                              obtain ⟨ad106, e106, hx106_0, hx106_1⟩ := at_T84 HR0.out (ji11) p106 q106
                              obtain rfl : ad105 = ad106 := (by injection e106)
                              replace p106 := eq_true p106
                              replace q106 := eq_true q106
                              have p107 : 0 ≤ (x3_1 : Int) := of_decide_eq_true (by first | (with_reducible assumption) | assumption)
                              have q107 : x3_1 < (l0.length : Int) := of_decide_eq_true (by first | (with_reducible assumption) | assumption)
                              obtain ⟨ad107, e107, hx107_0, hx107_1⟩ := at_T84 HR0.out x3_1 p107 q107
                              obtain rfl : ad105 = ad107 := (by injection e107)
                              replace p107 := eq_true p107
                              replace q107 := eq_true q107
                              have p108 : 0 ≤ ((ji11) : Int) := of_decide_eq_true (by first | (with_reducible assumption) | assumption)
                              have q108 : (ji11) < (l0.length : Int) := of_decide_eq_true (by first | (with_reducible assumption) | assumption)
                              obtain ⟨ad108, e108, hx108_0, hx108_1⟩ := at_T84 HR0.out (ji11) p108 q108
                              obtain rfl : ad105 = ad108 := (by injection e108)
                              replace p108 := eq_true p108
                              replace q108 := eq_true q108
                              go_wp2
                              repeat (go_quiet (fail); try go_wp2)
                              go_ret
                              exact ⟨by first | rfl | (simp; done) | (simp only [← hji11] <;> (first | rfl | simp)) | (simp [*]; done), by repeat (first | exact Drawn0.refl _ | apply Drawn0.step)⟩
                          · rw [if_neg c15] at H
                            have c15b0 : decide ((wrap32 (((rd_T84 l0 x3_1).f0) - ((rd_T84 l0 (ji11)).f1))) < 2) = false := decide_eq_false c15
                            clear c15
                            as_aux_lemma =>
                              have H' := Aside0.mk H
                              clear H
                              have p105 : 0 ≤ (x3_1 : Int) := of_decide_eq_true (by first | (with_reducible assumption) | assumption)
                              have q105 : x3_1 < (l0.length : Int) := of_decide_eq_true (by first | (with_reducible assumption) | assumption)
                              obtain ⟨ad105, e105, hx105_0, hx105_1⟩ := at_T84 HR0.out x3_1 p105 q105
                              cases e105
                              replace p105 := eq_true p105
                              replace q105 := eq_true q105
                              have p106 : 0 ≤ ((ji11) : Int) := of_decide_eq_true (by first | (with_reducible assumption) | assumption)
                              have q106 : (ji11) < (l0.length : Int) := of_decide_eq_true (by first | (with_reducible assumption) | assumption)
                              obtain ⟨ad106, e106, hx106_0, hx106_1⟩ := at_T84 HR0.out (ji11) p106 q106
                              obtain rfl : ad105 = ad106 := (by injection e106)
                              replace p106 := eq_true p106
                              replace q106 := eq_true q106
                              have p107 : 0 ≤ (x3_1 : Int) := of_decide_eq_true (by first | (with_reducible assumption) | assumption)
                              have q107 : x3_1 < (l0.length : Int) := of_decide_eq_true (by first | (with_reducible assumption) | assumption)
                              obtain ⟨ad107, e107, hx107_0, hx107_1⟩ := at_T84 HR0.out x3_1 p107 q107
                              obtain rfl : ad105 = ad107 := (by injection e107)
                              replace p107 := eq_true p107
                              replace q107 := eq_true q107
                              have p108 : 0 ≤ ((ji11) : Int) := of_decide_eq_true (by first | (with_reducible assumption) | assumption)
                              have q108 : (ji11) < (l0.length : Int) := of_decide_eq_true (by first | (with_reducible assumption) | assumption)
                              obtain ⟨ad108, e108, hx108_0, hx108_1⟩ := at_T84 HR0.out (ji11) p108 q108
                              obtain rfl : ad105 = ad108 := (by injection e108)
                              replace p108 := eq_true p108
                              replace q108 := eq_true q108
                              go_wp2
                              repeat (go_quiet (fail); try go_wp2)
                              go_roundg kj2
                              case measure => have := HK1.out; have := HJ2.out; omega
                              case rel => exact ⟨(wrap64 (x3_1 + 1)), (by first | rfl | (simp; done) | (simp [*]; done)), H', ⟨by have := HK1.out; have := HJ2.out; omega⟩, by repeat (first | exact Drawn0.refl _ | apply Drawn0.step)⟩
                      · rw [if_neg c13] at H
                        exact absurd H (by simp)
                    · rw [if_neg c12] at H
                      exact absurd H (by simp)
                  · rw [if_neg c10] at H
                    exact absurd H (by simp)
                · rw [if_neg c9] at H
                  exact absurd H (by simp)
              · rw [if_neg c8] at H
                have c8b0 : decide (0 < x3_1) = false := decide_eq_false c8
                clear c8
                as_aux_lemma =>
                  have H' := Aside0.mk H
                  clear H
                  go_wp2
                  repeat (go_quiet (fail); try go_wp2)
                  go_roundg kj2
                  case measure => have := HK1.out; have := HJ2.out; omega
                  case rel => exact ⟨(wrap64 (x3_1 + 1)), (by first | rfl | (simp; done) | (simp [*]; done)), H', ⟨by have := HK1.out; have := HJ2.out; omega⟩, by repeat (first | exact Drawn0.refl _ | apply Drawn0.step)⟩
      · rw [if_neg c2] at H
        have c2b0 : decide (x3_1 < (l0.length : Int)) = false := decide_eq_false c2
        clear c2
        as_aux_lemma =>
          obtain rfl := Option.some.inj H
          go_wp2
          repeat (go_quiet (fail); try go_wp2)
          go_ret
          exact ⟨by first | rfl | (simp; done) | (simp [*]; done), by repeat (first | exact Drawn0.refl _ | apply Drawn0.step)⟩

end Go.Proofs.YtdnbholiijgedaaDoor.PPrefix
