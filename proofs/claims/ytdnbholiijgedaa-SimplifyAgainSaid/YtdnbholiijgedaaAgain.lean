/-
  SimplifyAgain: its walk. No condition but the reach.
-/
import Derived.Test.YtdnbholiijgedaaPlainW
import Derived.Test.YtdnbholiijgedaaSame05
import Derived.Test.YtdnbholiijgedaaScr
namespace Go.Proofs.Ytdnbholiijgedaa
open Go.RowKit
set_option linter.unusedVariables false

set_option maxRecDepth 100000 in
set_option maxHeartbeats 4000000 in
theorem simplifyAgain_any (ok : Nat → Prop) (w : World) (t : Tr) (cs : List Value) (ht : TrC ok w t cs) (hsm : ∀ p ∈ parts t, SmallP p) (hf : ∀ p ∈ parts t, FieldsW p) :
    Calls Try.prog 6 #[.agg cs.toArray] w fun e w' => e = .returned (.bool true) ∧ Below w.heap.size w w' := by
  have hmv : ∀ w1, Below w.heap.size w w1 → TrC (fun b => b < w.heap.size) w1 t cs := fun w1 hb => (ht.old.mono (fun b h => h.2)).move (fun b hok hlt => ⟨hb.block b hlt, hok⟩)
  have hpa := fun w1 hb => parts_any _ (parts t).length t cs 20000 w1 (Nat.le_refl _) (hmv w1 hb) hsm (by omega) (by omega)
  have hSi := fun w1 hb (hS : SmallT t) => Simple_any _ w1 t cs (hmv w1 hb) hS
  obtain ⟨A, c, B, d, rfl, _⟩ := trC_iff.1 ht
  clear ht hmv
  have HP := Lib.hid (And.intro hpa (And.intro hSi hf))
  clear hpa hSi hsm hf
  go_enter Try.func6, Try.ntmps6
  go_wp2_with fail
  refine (head10_any _).mono ?_
  rintro e w1 ⟨rfl, hb1⟩
  dsimp only
  have y1 := (hb1.block _ (by simp)).trans (heap_new1 w (.cells #[.int .i64 t.op, .slice A t.kids.length c, .int .i32 t.rune, .slice B t.set.length d, .int .i64 t.at_, .int .i64 t.cap, .string t.name, .int .i64 t.mn, .int .i64 t.mx, .bool t.lz] 27))
  have yb := below_and hb1 (below_al (Below.refl w.heap.size w) (.cells #[.int .i64 t.op, .slice A t.kids.length c, .int .i32 t.rune, .slice B t.set.length d, .int .i64 t.at_, .int .i64 t.cap, .string t.name, .int .i64 t.mn, .int .i64 t.mx, .bool t.lz] 27))
  clear hb1
  obtain ⟨g0, g1, g2, g3, g4, g5, g6, g7, g8, g9⟩ := cells10 y1
  have H1 := Lib.hid (And.intro y1 yb)
  clear y1 yb
  go_wp2_with fail
  refine (HP.out.1 _ H1.out.2).mono ?_
  clear g0 g1 g2 g3 g4 g5 g6 g7 g8 g9
  rintro e w2 ⟨r, rfl, ⟨hr0, hr1, hr2, hr3⟩, hb2⟩
  dsimp only
  have y2 := (hb2.block _ (heap_lt H1.out.1)).trans H1.out.1
  have yb := below_and hb2 H1.out.2
  clear hb2
  obtain ⟨g0, g1, g2, g3, g4, g5, g6, g7, g8, g9⟩ := cells10 y2
  have H2 := Lib.hid (And.intro y2 yb)
  clear y2 yb
  by_cases hr : r ≤ 20000
  · have hpw : pw t ≤ 20000 := by have := hr2 hr; omega
    have hS := smallT_of hpw (by omega) HP.out.2.2
    clear hr2 hr3 hpw
    have HS := Lib.hid hS
    clear hS
    go_wp2_with fail
    refine (HP.out.2.1 _ H2.out.2 HS.out).mono ?_
    clear g0 g1 g2 g3 g4 g5 g6 g7 g8 g9
    rintro e w3 ⟨c3, rfl, ht3, hb3⟩
    dsimp only
    have y3 := (hb3.block _ (heap_lt H2.out.1)).trans H2.out.1
    have yb := below_and hb3 H2.out.2
    have ht3' := ht3
    obtain ⟨A3, e3, B3, d3, rfl, _⟩ := trC_iff.1 ht3'
    clear hb3 ht3'
    obtain ⟨g0, g1, g2, g3, g4, g5, g6, g7, g8, g9⟩ := cells10 y3
    have hn3 := heap_lt y3
    have H3 := Lib.hid (And.intro y3 (And.intro yb ht3))
    clear y3 yb ht3
    go_wp2_with fail
    have hxb := below_al (Below.refl w3.heap.size w3) (.cells #[.int .i64 (simpR t).op, .slice A3 (simpR t).kids.length e3, .int .i32 (simpR t).rune, .slice B3 (simpR t).set.length d3, .int .i64 (simpR t).at_, .int .i64 (simpR t).cap, .string (simpR t).name, .int .i64 (simpR t).mn, .int .i64 (simpR t).mx, .bool (simpR t).lz] 27)
    have hxn := heap_new1 w3 (.cells #[.int .i64 (simpR t).op, .slice A3 (simpR t).kids.length e3, .int .i32 (simpR t).rune, .slice B3 (simpR t).set.length d3, .int .i64 (simpR t).at_, .int .i64 (simpR t).cap, .string (simpR t).name, .int .i64 (simpR t).mn, .int .i64 (simpR t).mx, .bool (simpR t).lz] 27)
    have hres : TrC (fun _ => True) (w3.alloc (.cells #[.int .i64 (simpR t).op, .slice A3 (simpR t).kids.length e3, .int .i32 (simpR t).rune, .slice B3 (simpR t).set.length d3, .int .i64 (simpR t).at_, .int .i64 (simpR t).cap, .string (simpR t).name, .int .i64 (simpR t).mn, .int .i64 (simpR t).mx, .bool (simpR t).lz] 27)) (simpR t) [.int .i64 (simpR t).op, .slice A3 (simpR t).kids.length e3, .int .i32 (simpR t).rune, .slice B3 (simpR t).set.length d3, .int .i64 (simpR t).at_, .int .i64 (simpR t).cap, .string (simpR t).name, .int .i64 (simpR t).mn, .int .i64 (simpR t).mx, .bool (simpR t).lz] := H3.out.2.2.move (fun b hb hlt => ⟨hxb.block b hlt, trivial⟩)
    obtain ⟨X, hX⟩ : ∃ X, (w3.alloc (.cells #[.int .i64 (simpR t).op, .slice A3 (simpR t).kids.length e3, .int .i32 (simpR t).rune, .slice B3 (simpR t).set.length d3, .int .i64 (simpR t).at_, .int .i64 (simpR t).cap, .string (simpR t).name, .int .i64 (simpR t).mn, .int .i64 (simpR t).mx, .bool (simpR t).lz] 27)) = X := ⟨_, rfl⟩
    have hXs : w3.heap.size < X.heap.size := by rw [← hX]; simp
    rw [hX] at hxb hxn hres ⊢
    clear hX g0 g1 g2 g3 g4 g5 g6 g7 g8 g9
    have hfix : rightTB rightR (simpR t) = true → simpR (simpR t) = simpR t ∧ SmallT (simpR t) := fun hr => by
      have h1 : rightTB rightR t = true := by
        cases hrb : rightTB rightR t with
        | true => rfl
        | false =>
          exfalso
          have hT : simpR t = opT 0 [] false := by unfold simpR; rw [if_neg (by rw [hrb]; simp)]
          rw [hT] at hr
          exact absurd hr (by rw [show rightTB rightR (opT 0 [] false) = false by kernel_rfl]; simp)
      have h2 : simpR t = simpleS t := by unfold simpR; rw [if_pos h1]
      rw [h2] at hr ⊢
      refine ⟨?_, simpR_small HS.out h1⟩
      have h3 : simpR (simpleS t) = simpleS (simpleS t) := by unfold simpR; rw [if_pos hr]
      rw [h3]
      exact simple_fix _ _ (Nat.le_refl _) (simpR_good HS.out h1)
    have hsmT : SmallT (simpR t) := by
      cases hrb : rightTB rightR t with
      | true =>
        have h2 : simpR t = simpleS t := by unfold simpR; rw [if_pos hrb]
        rw [h2]; exact simpR_small HS.out hrb
      | false =>
        have hT : simpR t = opT 0 [] false := by unfold simpR; rw [if_neg (by rw [hrb]; simp)]
        rw [hT]; exact leaf_small rfl (Nat.zero_le _) (Nat.zero_le _)
    have hbw := below_and hxb H3.out.2.1
    generalize simpR t = T at *
    have HX := Lib.hid (And.intro hxb (And.intro hxn (And.intro hres (And.intro hfix (And.intro hsmT hbw)))))
    clear hxb hxn hres hfix hsmT hbw H3
    refine wp_region_scr (fun W' => W'.heap[w3.heap.size]? = some (.cells ([.int .i64 T.op, .slice A3 T.kids.length e3, .int .i32 T.rune, .slice B3 T.set.length d3, .int .i64 T.at_, .int .i64 T.cap, .string T.name, .int .i64 T.mn, .int .i64 T.mx, .bool T.lz] : List Value).toArray 27 (0, 0))) [(true, 0, 12), (true, 1, 13), (true, 2, 14), (false, 3, 15), (true, 4, 16), (true, 5, 17), (true, 6, 18), (true, 8, 20), (false, 7, 19), (false, 9, 21), (true, 10, 22), (true, 11, 23), (true, 12, 2)] (by kernel_rfl) (by kernel_rfl) (fun _ _ _ _ _ h => h) rfl (by kernel_rfl) ?_
    have hVx : X.drew.heap[w3.heap.size]? = some (.cells ([.int .i64 T.op, .slice A3 T.kids.length e3, .int .i32 T.rune, .slice B3 T.set.length d3, .int .i64 T.at_, .int .i64 T.cap, .string T.name, .int .i64 T.mn, .int .i64 T.mx, .bool T.lz] : List Value).toArray 27 (0, 0)) := HX.out.2.1
    have HV := Lib.hid hVx
    clear hVx
    refine Scr.take (v := .bool true) rfl rfl (yw_pure (by rfl) (fun _ => by go_simp)) (HV.out) ?_
    simp only [Act.put, List.setIfInBounds_toArray, List.set_cons_zero, List.set_cons_succ]
    refine Scr.take (v := .bool true) rfl rfl (yw_pure (by rfl) (fun _ => by go_simp)) (HV.out) ?_
    simp only [Act.put, List.setIfInBounds_toArray, List.set_cons_zero, List.set_cons_succ]
    refine Scr.take (v := .agg ([.int .i64 T.op, .slice A3 T.kids.length e3, .int .i32 T.rune, .slice B3 T.set.length d3, .int .i64 T.at_, .int .i64 T.cap, .string T.name, .int .i64 T.mn, .int .i64 T.mx, .bool T.lz] : List Value).toArray) rfl rfl (yw_row 27 _ rfl w3.heap.size [.int .i64 T.op, .slice A3 T.kids.length e3, .int .i32 T.rune, .slice B3 T.set.length d3, .int .i64 T.at_, .int .i64 T.cap, .string T.name, .int .i64 T.mn, .int .i64 T.mx, .bool T.lz] 27 rfl (by rfl) _ Try.underlying27 rfl infoTrS (fun W hS => hS)) (HV.out) ?_
    simp only [Act.put, List.setIfInBounds_toArray, List.set_cons_zero, List.set_cons_succ]
    have hri := HX.out.2.2.2.2.1.right _ X.drew _ (TrC.drew HX.out.2.2.1)
    have hrb : rightTB rightR T = true ∨ rightTB rightR T = false := by cases rightTB rightR T <;> simp
    refine Scr.run rfl (by rfl) (fun K hK => ?_)
    go_simp
    refine hri.mono ?_
    clear hri
    rintro e w4 ⟨rfl, hb4⟩
    dsimp only
    have hB4 : Below X.heap.size X w4 := below_and (w1 := X.drew) hb4 (Below.refl _ _).drew
    have hV4 : w4.heap[w3.heap.size]? = some (.cells ([.int .i64 T.op, .slice A3 T.kids.length e3, .int .i32 T.rune, .slice B3 T.set.length d3, .int .i64 T.at_, .int .i64 T.cap, .string T.name, .int .i64 T.mn, .int .i64 T.mx, .bool T.lz] : List Value).toArray 27 (0, 0)) := (hB4.block _ hXs).trans HX.out.2.1
    refine hK _ _ hV4 ?_
    clear hK K HV
    have HV := Lib.hid hV4
    have HB4 := Lib.hid hB4
    clear hV4 hb4 hB4
    rcases hrb with hrb | hrb
    · obtain ⟨hf1, hf2⟩ := HX.out.2.2.2.1 hrb
      rw [hrb]
      have HF := Lib.hid (And.intro hf1 hf2)
      clear hf1 hf2 hrb
      refine Scr.take (v := .bool false) rfl rfl (yw_pure (by rfl) (fun _ => by go_simp)) (HV.out) ?_
      simp only [Act.put, List.setIfInBounds_toArray, List.set_cons_zero, List.set_cons_succ]
      refine Scr.take (v := .bool false) rfl rfl (yw_pure (by rfl) (fun _ => by go_simp)) (HV.out) ?_
      simp only [Act.put, List.setIfInBounds_toArray, List.set_cons_zero, List.set_cons_succ]
      refine Scr.take (v := .agg ([.int .i64 T.op, .slice A3 T.kids.length e3, .int .i32 T.rune, .slice B3 T.set.length d3, .int .i64 T.at_, .int .i64 T.cap, .string T.name, .int .i64 T.mn, .int .i64 T.mx, .bool T.lz] : List Value).toArray) rfl rfl (yw_row 27 _ rfl w3.heap.size [.int .i64 T.op, .slice A3 T.kids.length e3, .int .i32 T.rune, .slice B3 T.set.length d3, .int .i64 T.at_, .int .i64 T.cap, .string T.name, .int .i64 T.mn, .int .i64 T.mx, .bool T.lz] 27 rfl (by rfl) _ Try.underlying27 rfl infoTrS (fun W hS => hS)) (HV.out) ?_
      simp only [Act.put, List.setIfInBounds_toArray, List.set_cons_zero, List.set_cons_succ]
      refine Scr.take (v := .agg ([.int .i64 T.op, .slice A3 T.kids.length e3, .int .i32 T.rune, .slice B3 T.set.length d3, .int .i64 T.at_, .int .i64 T.cap, .string T.name, .int .i64 T.mn, .int .i64 T.mx, .bool T.lz] : List Value).toArray) rfl rfl (yw_row 27 _ rfl w3.heap.size [.int .i64 T.op, .slice A3 T.kids.length e3, .int .i32 T.rune, .slice B3 T.set.length d3, .int .i64 T.at_, .int .i64 T.cap, .string T.name, .int .i64 T.mn, .int .i64 T.mx, .bool T.lz] 27 rfl (by rfl) _ Try.underlying27 rfl infoTrS (fun W hS => hS)) (HV.out) ?_
      simp only [Act.put, List.setIfInBounds_toArray, List.set_cons_zero, List.set_cons_succ]
      have hres4 := HX.out.2.2.1.move (w' := w4) (ok' := fun b => b < X.heap.size) (fun b hb hlt => ⟨HB4.out.block b hlt, hlt⟩)
      have hsi := Simple_any _ w4 T _ hres4 HF.out.2
      rw [HF.out.1] at hsi
      refine Scr.run rfl (by rfl) (fun K hK => ?_)
      go_simp
      refine hsi.mono ?_
      clear hsi
      rintro e w5 ⟨c5, rfl, ht5, hb5⟩
      dsimp only
      have hB5 := below_and hb5 HB4.out
      have hV5 : w5.heap[w3.heap.size]? = some (.cells ([.int .i64 T.op, .slice A3 T.kids.length e3, .int .i32 T.rune, .slice B3 T.set.length d3, .int .i64 T.at_, .int .i64 T.cap, .string T.name, .int .i64 T.mn, .int .i64 T.mx, .bool T.lz] : List Value).toArray 27 (0, 0)) := (hB5.block _ hXs).trans HX.out.2.1
      refine hK _ _ hV5 ?_
      clear hK K HV
      have HV := Lib.hid hV5
      have hsame := same05_any (fun _ => True) _ T _ _ w5 (Nat.le_refl _) (ht5.mono (fun b _ => trivial)) (HX.out.2.2.1.move (w' := w5) (ok' := fun _ => True) (fun b hb hlt => ⟨hB5.block b hlt, trivial⟩)) HF.out.2
      have HB5 := Lib.hid hB5
      clear hV5 hb5 hB5 ht5 hres4
      refine Scr.run rfl (by rfl) (fun K hK => ?_)
      go_simp
      refine hsame.mono ?_
      clear hsame
      rintro e w6 ⟨rfl, hb6⟩
      dsimp only
      have hB6 := below_and hb6 HB5.out
      have hV6 : w6.heap[w3.heap.size]? = some (.cells ([.int .i64 T.op, .slice A3 T.kids.length e3, .int .i32 T.rune, .slice B3 T.set.length d3, .int .i64 T.at_, .int .i64 T.cap, .string T.name, .int .i64 T.mn, .int .i64 T.mx, .bool T.lz] : List Value).toArray 27 (0, 0)) := (hB6.block _ hXs).trans HX.out.2.1
      refine hK _ _ hV6 ?_
      clear hK K HV
      have HV := Lib.hid hV6
      have HB6 := Lib.hid (below_and hB6 HX.out.2.2.2.2.2)
      clear hV6 hb6 hB6
      refine Scr.take (v := .bool true) rfl rfl (yw_pure (by rfl) (fun _ => by go_simp)) (HV.out) ?_
      simp only [Act.put, List.setIfInBounds_toArray, List.set_cons_zero, List.set_cons_succ]
      refine Scr.take (v := .bool true) rfl rfl (yw_pure (by rfl) (fun _ => by go_simp)) (HV.out) ?_
      simp only [Act.put, List.setIfInBounds_toArray, List.set_cons_zero, List.set_cons_succ]
      refine Scr.take (v := .bool true) rfl rfl (yw_pure (by rfl) (fun _ => by go_simp)) (HV.out) ?_
      simp only [Act.put, List.setIfInBounds_toArray, List.set_cons_zero, List.set_cons_succ]
      simp only [Scr]
      go_wp2_with fail
      go_ret
      exact ⟨rfl, HB6.out⟩
    · rw [hrb]
      clear hrb
      refine Scr.take (v := .bool true) rfl rfl (yw_pure (by rfl) (fun _ => by go_simp)) (HV.out) ?_
      simp only [Act.put, List.setIfInBounds_toArray, List.set_cons_zero, List.set_cons_succ]
      refine Scr.take (v := .bool true) rfl rfl (yw_pure (by rfl) (fun _ => by go_simp)) (HV.out) ?_
      simp only [Act.put, List.setIfInBounds_toArray, List.set_cons_zero, List.set_cons_succ]
      refine Scr.take (v := undef) rfl rfl (yw_no (by rfl)) (HV.out) ?_
      simp only [Act.put, List.setIfInBounds_toArray, List.set_cons_zero, List.set_cons_succ]
      refine Scr.take (v := undef) rfl rfl (yw_no (by rfl)) (HV.out) ?_
      simp only [Act.put, List.setIfInBounds_toArray, List.set_cons_zero, List.set_cons_succ]
      refine Scr.skip rfl rfl (by rfl) HV.out ?_
      simp only [Act.put, List.setIfInBounds_toArray, List.set_cons_zero, List.set_cons_succ]
      refine Scr.skip rfl rfl (by rfl) HV.out ?_
      simp only [Act.put, List.setIfInBounds_toArray, List.set_cons_zero, List.set_cons_succ]
      refine Scr.take (v := .bool true) rfl rfl (yw_pure (by rfl) (fun _ => by go_simp)) (HV.out) ?_
      simp only [Act.put, List.setIfInBounds_toArray, List.set_cons_zero, List.set_cons_succ]
      refine Scr.take (v := .bool true) rfl rfl (yw_pure (by rfl) (fun _ => by go_simp)) (HV.out) ?_
      simp only [Act.put, List.setIfInBounds_toArray, List.set_cons_zero, List.set_cons_succ]
      refine Scr.take (v := .bool true) rfl rfl (yw_pure (by rfl) (fun _ => by go_simp)) (HV.out) ?_
      simp only [Act.put, List.setIfInBounds_toArray, List.set_cons_zero, List.set_cons_succ]
      simp only [Scr]
      go_wp2_with fail
      go_ret
      exact ⟨rfl, below_and HB4.out HX.out.2.2.2.2.2⟩
  · clear hr2 hr3
    go_wp2_with fail
    go_ret
    exact ⟨rfl, H2.out.2⟩
end Go.Proofs.Ytdnbholiijgedaa
