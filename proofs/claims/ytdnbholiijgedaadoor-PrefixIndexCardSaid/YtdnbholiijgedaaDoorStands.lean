/-
  PrefixStands: the walk. No condition.
-/
import Derived.Test.YtdnbholiijgedaaDoorRunsA
namespace Go.Proofs.YtdnbholiijgedaaDoor
open Go.RowKit Go.Shelf
set_option linter.unusedVariables false

/-! ### the law -/
def someRunes (rs : List (Int × Int)) (i j : Nat) : List Int := (List.range j).map fun t => runeAt rs ((i + t : Nat) : Int)
theorem someRunes_len (rs : List (Int × Int)) (i j : Nat) : (someRunes rs i j).length = j := by simp [someRunes]
theorem someRunes_at (rs : List (Int × Int)) (i j t : Nat) (h : t < (someRunes rs i j).length) : (someRunes rs i j)[t] = runeAt rs ((i + t : Nat) : Int) := by simp [someRunes]
theorem someRunes_next (rs : List (Int × Int)) (i j : Nat) : someRunes rs i (j + 1) = someRunes rs i j ++ [runeAt rs ((i + j : Nat) : Int)] := by
  simp [someRunes, List.range_succ]
theorem stands_self (rs : List (Int × Int)) (i j : Nat) (h : i + j ≤ rs.length - 1) (h1 : 1 ≤ rs.length) : stands rs (someRunes rs i j) i :=
  ⟨by rw [someRunes_len]; omega, fun t ht => (someRunes_at rs i j t ht).symm⟩
theorem first_self {rs : List (Int × Int)} {l : List Int} {i : Nat} {r : Int} (h : FirstAt rs l i r) (hs : stands rs l i) : r = i :=
  h.same (.inr ⟨i, rfl, Int.le_refl _, hs, fun b h1 h2 => by omega⟩)
theorem first_before {rs : List (Int × Int)} {l : List Int} {i : Nat} {r : Int} (h : FirstAt rs l 0 r) (hs : stands rs l i) : ∃ a : Nat, r = a ∧ a ≤ i ∧ stands rs l a := by
  rcases h with ⟨_, h⟩ | ⟨a, rfl, _, ha, hb⟩
  · exact absurd hs (h i (by omega))
  · refine ⟨a, rfl, ?_, ha⟩
    rcases Nat.lt_or_ge i a with h1 | h1
    · exact absurd hs (hb i (by omega) h1)
    · exact h1
theorem symsOf_len (s : ByteArray) : 1 ≤ (symsOf s).length ∧ (symsOf s).length ≤ s.size + 1 := by
  have := symsFrom_len s s.size 0
  unfold symsOf
  rw [List.length_append]
  simp only [List.length_cons, List.length_nil]
  omega

set_option maxRecDepth 100000 in
set_option maxHeartbeats 4000000 in
theorem prefixStands_any (ok : Nat → Prop) (w : World) (A : Option Addr) (c : Nat) (s : ByteArray) (x y : Int) (h : TextC ok w A s) (hs : s.size ≤ c) (hc : c ≤ maxLen) (hx : 0 ≤ x) (hx2 : x ≤ 255) (hy : 0 ≤ y) (hy2 : y ≤ 255) :
    Calls Tryd.prog 5 #[.slice A s.size c, .int .u8 x, .int .u8 y] w (HeadedPost w) := by
  have hh := head_any w
  by_cases hl : 65536 < s.size
  · clear h
    go_enter Tryd.func5, Tryd.ntmps5
    go_wp2_with (first
      | (go_at_call 7; refine hh.mono ?_; rintro e w1 ⟨rfl, hb1⟩)
      | (go_at_call 12; refine (text_big _ A c s.size hl).mono ?_; rintro e w2 ⟨rfl, rfl⟩))
    go_ret
    exact ⟨rfl, hb1⟩
  · have HT := Lib.hid h
    clear h
    have hsl := symsOf_len s
    by_cases hz : 3000 < s.size ∨ (symsOf s).length = 1
    · go_enter Tryd.func5, Tryd.ntmps5
      go_wp2_with (first
        | (go_at_call 7; refine hh.mono ?_; rintro e w1 ⟨rfl, hb1⟩)
        | (go_at_call 12
           refine (text_small _ w1 A c s (HT.out.move (ok' := fun _ => True) (fun b _ hb => ⟨hb1.block b hb, trivial⟩)) (by omega)).mono ?_
           rintro e w2 ⟨b2, rfl, hI, hb2⟩
           have hlen := len_any _ w2 ⟨b2, 0, none⟩ (symsOf s) hI
           have HB := Lib.hid (below_and hb2 hb1)
           clear hI hb2 hb1)
        | (go_at_call 16; refine hlen.mono ?_; rintro e w3 ⟨rfl, rfl⟩))
      all_goals go_ret
      all_goals exact ⟨rfl, HB.out⟩
    · obtain ⟨i0, hi, hxx⟩ := Option.map_eq_some_iff.1 infoRune
      simp only [Prod.mk.injEq] at hxx
      obtain ⟨hz0, hz1, hz2⟩ := hxx
      have hL : 1 < (symsOf s).length := by omega
      have hs3 : s.size ≤ 3000 := by omega
      generalize hrs : symsOf s = rs at *
      obtain ⟨i, hri, hil⟩ : ∃ i : Nat, x.tmod ((rs.length : Int) - 1) = (i : Int) ∧ i < rs.length - 1 := by
        have h1 := Int.emod_nonneg x (b := (rs.length : Int) - 1) (by omega)
        have h2 := Int.emod_lt_of_pos x (b := (rs.length : Int) - 1) (by omega)
        refine ⟨(x % ((rs.length : Int) - 1)).toNat, ?_, by omega⟩
        rw [Int.tmod_eq_emod_of_nonneg hx]
        omega
      obtain ⟨j, hrj, hjl⟩ : ∃ j : Nat, y.tmod ((rs.length : Int) - 1 - (i : Int) + 1) = (j : Int) ∧ j ≤ rs.length - 1 - i := by
        have h1 := Int.emod_nonneg y (b := (rs.length : Int) - 1 - (i : Int) + 1) (by omega)
        have h2 := Int.emod_lt_of_pos y (b := (rs.length : Int) - 1 - (i : Int) + 1) (by omega)
        refine ⟨(y % ((rs.length : Int) - 1 - (i : Int) + 1)).toNat, ?_, by omega⟩
        rw [Int.tmod_eq_emod_of_nonneg hy]
        omega
      have HS := Lib.hid hrs
      have hL0 : ((rs.length : Int) - 1 == 0) = false := by simp; omega
      have hL1 : ¬ ((rs.length : Int) - 1 = 0) := by omega
      clear hrs hz
      go_enter Tryd.func5, Tryd.ntmps5
      go_wp2_with (first
        | (go_at_call 7; refine hh.mono ?_; rintro e w1 ⟨rfl, hb1⟩)
        | (go_at_call 12
           refine (text_small _ w1 A c s (HT.out.move (ok' := fun _ => True) (fun b _ hb => ⟨hb1.block b hb, trivial⟩)) (by omega)).mono ?_
           rintro e w2 ⟨b2, rfl, hI, hb2⟩
           rw [HS.out] at hI
           have hlen := len_any _ w2 ⟨b2, 0, none⟩ rs hI
           have HI := Lib.hid hI
           have HB := Lib.hid (below_and hb2 hb1)
           clear hI hb2 hb1)
        | (go_at_call 16; refine hlen.mono ?_; rintro e w3 ⟨rfl, rfl⟩))
      have hbase := HB.out.size
      go_loopw [11, 12] (fun v n wr => ∃ t : Nat, t ≤ j ∧ n = .int .i64 ((i : Int) + (t : Int)) ∧ OwnI wr w2.heap.size v (someRunes rs i t) ∧ Below w2.heap.size w2 wr) (fun _ n _ => i + j - (intOf n).toNat)
      case atStart => exact ⟨0, Nat.zero_le _, by simp, Owns.nil _ _ _ _, Below.refl _ _⟩
      case round =>
        obtain ⟨t, ht, rfl, hown, hBr⟩ := hrel
        have hIr := HI.out.same hBr
        have HO := Lib.hid hown
        have HBr := Lib.hid hBr
        by_cases hlt : t < j
        · have hr := rune_any _ wr ⟨b2, 0, none⟩ rs hIr ((i : Int) + (t : Int))
          clear hown hBr hIr
          obtain ⟨q, hq⟩ : ∃ q, q = runeAt rs ((i : Int) + (t : Int)) := ⟨_, rfl⟩
          rw [← hq] at hr
          have HQ := Lib.hid hq
          clear hq
          go_wp2_with (first
            | (go_at_call 17; refine hr.mono ?_; rintro e w3 ⟨rfl, rfl⟩)
            | (at_builtin; refine wpList_app1 rfl _ _ 30 rfl w2.heap.size 21 i0 (.int .i32 0) 1 4 Tryd.underlying30 hi hz0 hz1 hz2 rfl (by decide) _ _ rfl (HO.out.alloc _) _ [.int .i32 q] rfl rfl (heap_new1 _ _) ?c2 ?c3 ?c4 ?c5 ?_))
          case c2 => intro u hu; simp at hu; subst hu; rfl
          case c3 => rw [List.length_map, someRunes_len]; unfold maxLen; omega
          case c4 => rw [List.length_map, someRunes_len]; omega
          case c5 => have := HBr.out.size; simp; omega
          intro v' w4 hown' hgrow
          have hb4 := below_app (below_al HBr.out (.cells #[.int .i32 q] 21)) (by have := HBr.out.size; simp; omega) (HO.out.alloc _) hgrow
          have H4 := Lib.hid (And.intro hown' hb4)
          clear hown' hgrow hb4
          go_wp2_with fail
          go_round
          case rel =>
            refine ⟨t + 1, by omega, by go_num, ?_, H4.out.2⟩
            have h5 := H4.out.1
            rw [show [Value.int .i32 q] = runeC q from rfl, ← List.map_singleton, ← List.map_append, HQ.out, show (i : Int) + (t : Int) = ((i + t : Nat) : Int) by omega, ← someRunes_next] at h5
            exact h5
          case measure => simp [intOf]; omega
        · obtain rfl : t = j := by omega
          clear hown hBr
          obtain ⟨A3, c3, rfl, hc3, hc4⟩ := Owns.shape HO.out
          simp only [List.length_map, someRunes_len] at HO hc3 hc4 ⊢
          have hls := someRunes_len rs i t
          have hst := stands_self rs i t (by omega) (by omega)
          have hat := fun k (hk : k < (someRunes rs i t).length) => someRunes_at rs i t k hk
          have harr := ownI_arr HO.out
          generalize someRunes rs i t = l at *
          have hix := index_any (fun _ => True) wr ⟨b2, 0, none⟩ rs A3 c3 l 0 (hIr.move (fun b _ _ => ⟨rfl, trivial⟩)) (harr.move (fun b _ _ => ⟨rfl, trivial⟩) (by omega)) (by rw [hls]; exact hc3) (by omega) (by omega) (by omega) (by omega)
          rw [hls] at hix
          have HW := Lib.hid (And.intro hIr (And.intro harr hst))
          clear hIr harr hst hat
          go_wp2_with (go_at_call 13; refine hix.mono ?_; clear hix; rintro e w5 ⟨r, rfl, hfr, hb5⟩; obtain ⟨a, rfl, hai, hsa⟩ := first_before hfr HW.out.2.2)
          have hbb : Below w.heap.size w w5 := (HB.out.trans (HBr.out.mono hbase)).trans (hb5.mono (Nat.le_trans hbase HBr.out.size))
          have hI5 := HW.out.1.same hb5
          have hA5 := arr_same HW.out.2.1 hb5 (by omega)
          have H5 := Lib.hid (And.intro hbb (And.intro hI5 hA5))
          have HF := Lib.hid (And.intro hsa hfr)
          clear hbb hI5 hA5 hsa hfr hb5 hrj hri hlen
          go_loopw [14] (fun n wz => ∃ k q : Nat, k ≤ t ∧ n = .int .i64 k ∧ wz = w5.drewN q) (fun n _ => t - (intOf n).toNat)
          case atStart => exact ⟨0, 0, Nat.zero_le _, rfl, rfl⟩
          case round =>
            obtain ⟨k, q, hk, rfl, rfl⟩ := hrel
            have hI6 := fun m => H5.out.2.1.same (below_drewN (Below.refl _ w5) m)
            have hA6 := arr_same H5.out.2.2 (below_drewN (Below.refl _ w5) q) (by omega)
            by_cases hkt : k < t
            · obtain ⟨ad, rfl, hc0⟩ := ints_at hA6 k (by omega)
              have hr : ∀ m, Calls Tryd.prog 17 #[.pointer (some ⟨b2, 0, none⟩), .int .i64 ((a : Int) + (k : Int))] ((w5.drewN q).drewN m) fun e w' => e = .returned (.int .i32 l[k]) ∧ w' = (w5.drewN q).drewN m := fun m => by
                rw [World.drewN_drewN]
                have h7 := rune_any _ (w5.drewN (q + m)) ⟨b2, 0, none⟩ rs (hI6 _) ((a : Int) + (k : Int))
                have h8 := HF.out.1.2 k (by omega)
                rw [show ((a + k : Nat) : Int) = (a : Int) + (k : Int) by omega] at h8
                rw [h8] at h7
                exact h7.mono fun _ _ h => ⟨h.1, h.2.symm⟩
              have hw1 : IntKind.i64.wrap ((a : Int) + (k : Int)) = (a : Int) + (k : Int) := IntWalk.i64_in _ (by omega)
              have hadd : (w5.drewN q).cell? (ad.add k) = some (.int .i32 l[k]) := hc0
              clear hI6 hA6 hc0
              generalize hq6 : w5.drewN q = w6 at *
              have HQ6 := Lib.hid hq6
              clear hq6
              go_wp2_with fail
              go_quiet ((go_at_call 17; exact Calls.quiet_of_same (hr _)))
              clear hw1
              go_wp2_with fail
              go_round
              case rel => exact ⟨k + 1, _, by omega, by go_num, by rw [← HQ6.out, World.drewN_drewN]⟩
              case measure => simp [intOf]; omega
            · have hix := index_any (fun _ => True) (w5.drewN q) ⟨b2, 0, none⟩ rs A3 c3 l i ((hI6 q).move (fun b _ _ => ⟨rfl, trivial⟩)) (hA6.move (fun b _ _ => ⟨rfl, trivial⟩) (by omega)) (by rw [hls]; exact hc3) (by omega) (by omega) (by omega) (by omega)
              rw [hls] at hix
              clear hI6 hA6
              go_wp2_with (go_at_call 13; refine hix.mono ?_; clear hix; rintro e w7 ⟨r, rfl, hfr, hb7⟩; obtain rfl := first_self hfr HW.out.2.2)
              go_ret
              exact ⟨rfl, (below_drewN H5.out.1 q).trans (hb7.mono (below_drewN H5.out.1 q).size)⟩
end Go.Proofs.YtdnbholiijgedaaDoor
