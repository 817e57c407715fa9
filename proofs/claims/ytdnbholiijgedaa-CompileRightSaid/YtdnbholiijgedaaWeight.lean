/-
  trees.Weight: how heavy a tree is. No condition but small lists.
-/
import Derived.Test.YtdnbholiijgedaaParts
namespace Go.Proofs.Ytdnbholiijgedaa
open Go.RowKit
set_option linter.unusedVariables false

def opW (op n : Int) (l : Nat) (mn mx : Int) : Int :=
  if op = 6 then n + 2 else if op = 12 then n + min (l : Int) 4001 else
  if op = 10 then n * min (max (max mn mx) 1) 4001 + min (max (max mn mx) 1) 4001 + 1 else
  if op = 7 ∨ op = 8 ∨ op = 9 ∨ op = 11 then n + 1 else 1
mutual
def wS : Tr → Int
  | ⟨op, kids, rune, set, at_, cap, name, mn, mx, lz⟩ => min (opW op (wL kids 0) kids.length mn mx) 4001
def wL : List Tr → Int → Int
  | [], a => a
  | k :: ks, a => wL ks (min (a + wS k) 4001)
end
theorem wS_eq (t : Tr) : wS t = min (opW t.op (wL t.kids 0) t.kids.length t.mn t.mx) 4001 := by cases t; rw [wS]
theorem wL_snoc : ∀ (l : List Tr) (k : Tr) (a : Int), wL (l ++ [k]) a = min (wL l a + wS k) 4001
  | [], k, a => by rw [List.nil_append, wL, wL, wL]
  | x :: l, k, a => by rw [List.cons_append, wL, wL, wL_snoc l k]
theorem opW_nn {op n : Int} {l : Nat} {mn mx : Int} (h : 0 ≤ n) (h2 : n ≤ 4001) : 0 ≤ opW op n l mn mx := by
  unfold opW
  have h3 : 0 ≤ min (max (max mn mx) 1) (4001 : Int) := by omega
  have h4 := Int.mul_nonneg h h3
  by_cases h6 : op = 6
  · rw [if_pos h6]; omega
  rw [if_neg h6]
  by_cases h7 : op = 12
  · rw [if_pos h7]; omega
  rw [if_neg h7]
  by_cases h8 : op = 10
  · rw [if_pos h8]; omega
  rw [if_neg h8]
  split <;> omega
mutual
theorem wS_nn : ∀ t : Tr, 0 ≤ wS t ∧ wS t ≤ 4001
  | ⟨op, kids, rune, set, at_, cap, name, mn, mx, lz⟩ => by
    rw [wS]
    have h := wL_nn kids 0 (by omega)
    have := opW_nn (op := op) (l := kids.length) (mn := mn) (mx := mx) h.1 h.2
    omega
theorem wL_nn : ∀ (l : List Tr) (a : Int), 0 ≤ a ∧ a ≤ 4001 → 0 ≤ wL l a ∧ wL l a ≤ 4001
  | [], a, h => by rw [wL]; exact h
  | k :: ks, a, h => by
    rw [wL]
    have := wS_nn k
    exact wL_nn ks _ (by omega)
end
set_option maxRecDepth 100000 in
set_option maxHeartbeats 1000000 in
theorem weight_any (ok : Nat → Prop) : ∀ (n : Nat) (t : Tr) (cs : List Value) (w : World), (parts t).length ≤ n → TrC ok w t cs → (∀ p ∈ parts t, p.kids.length ≤ 140737488351232) →
    Calls Try.prog 13 #[.agg cs.toArray] w fun e w' => e = .returned (.int .i64 (wS t)) ∧ Below w.heap.size w w' := by
  intro n
  induction n with
  | zero => intro t cs w hn; rw [parts_eq] at hn; simp at hn
  | succ n ih =>
    intro t cs w hn ht hsm
    have hs2 := hsm t (mem_parts_self t)
    obtain ⟨A, c, B, d, rfl, h1, h2, h3, h4, h5, h6⟩ := trC_iff.1 ht
    have hwS := wS_eq t
    have HS := Lib.hid (And.intro hsm (And.intro hwS h6))
    clear hwS hsm ht h5 h6
    go_enter Try.func13, Try.ntmps13
    go_wp2_with fail
    have hx := heap_new1 w (.cells #[.int .i64 t.op, .slice A t.kids.length c, .int .i32 t.rune, .slice B t.set.length d, .int .i64 t.at_, .int .i64 t.cap, .string t.name, .int .i64 t.mn, .int .i64 t.mx, .bool t.lz] 27)
    have hxb : Below w.heap.size w (w.alloc (.cells #[.int .i64 t.op, .slice A t.kids.length c, .int .i32 t.rune, .slice B t.set.length d, .int .i64 t.at_, .int .i64 t.cap, .string t.name, .int .i64 t.mn, .int .i64 t.mx, .bool t.lz] 27)) := below_al (Below.refl _ _) _
    go_loopw [3, 10] (fun s3 s10 wr => ∃ (j : Nat), s10 = .int .i64 j ∧ s3 = .int .i64 (wL (t.kids.take j) 0) ∧ j ≤ t.kids.length ∧ Below w.heap.size w wr ∧ wr.heap[w.heap.size]? = some (.cells #[.int .i64 t.op, .slice A t.kids.length c, .int .i32 t.rune, .slice B t.set.length d, .int .i64 t.at_, .int .i64 t.cap, .string t.name, .int .i64 t.mn, .int .i64 t.mx, .bool t.lz] 27 (0, 0))) (fun _ s10 _ => t.kids.length - (intOf s10).toNat)
    case atStart => exact ⟨0, rfl, by rw [List.take_zero, wL], Nat.zero_le _, hxb, hx⟩
    case round =>
      obtain ⟨j, rfl, rfl, hj, hBr, hbx⟩ := hrel
      obtain ⟨g0, g1, g2, g3, g4, g5, g6, g7, g8, g9⟩ := cells10 hbx
      have hv := wL_nn (t.kids.take j) 0 (by omega)
      by_cases hlt : j < t.kids.length
      · obtain ⟨ad, A1, c1, A3, c3, rfl, hTk, k0, k1, k2, k3, k4, k5, k6, k7, k8, k9⟩ := trArr_at HS.out.2.2 wr (fun b _ hb' => hBr.block b hb') j hlt
        have hkk := parts_kid hlt
        have hih := fun (W : World) (hW : Below wr.heap.size wr W) => ih _ _ W (by omega) (hTk.move (fun b hb' hlt' => ⟨(hW.block b (by have := hBr.size; omega)).trans (hBr.block b hlt'), hb'⟩)) (fun p hp => HS.out.1 p (mem_parts_kid hlt hp))
        have hsn := wL_snoc (t.kids.take j) t.kids[j] 0
        rw [← List.take_succ_eq_append_getElem hlt] at hsn
        have hwk := wS_nn t.kids[j]
        clear hkk hTk ih
        generalize wL (t.kids.take j) 0 = a at *
        have HB := Lib.hid (And.intro hBr (And.intro hbx hsn))
        clear hBr hbx hsn
        go_wp2_with fail
        refine (hih _ (below_al (Below.refl _ _) _)).mono ?_
        clear hih g0 g1 g2 g3 g4 g5 g6 g7 g8 g9 k0 k1 k2 k3 k4 k5 k6 k7 k8 k9
        rintro e w1 ⟨rfl, hb1⟩
        dsimp only
        have hbx2 := (hb1.block w.heap.size (by have := heap_lt HB.out.2.1; simp; omega)).trans ((below_al (Below.refl wr.heap.size wr) _).block w.heap.size (heap_lt HB.out.2.1) |>.trans HB.out.2.1)
        have hbw := below_and (below_and hb1 (below_al (Below.refl wr.heap.size wr) _)) HB.out.1
        have hsn := HB.out.2.2
        generalize wS t.kids[j] = r at *
        have HZ := Lib.hid (And.intro hbx2 (And.intro hbw hsn))
        clear hbx2 hbw hsn hb1
        go_wp2_with fail
        go_roundw
        case rel =>
          refine ⟨j + 1, by go_num, ?_, by omega, HZ.out.2.1, HZ.out.1⟩
          rw [HZ.out.2.2]
          congr 1
          split <;> omega
        case measure => simp [intOf]; omega
      · obtain rfl : j = t.kids.length := by omega
        rw [List.take_length] at hv ⊢
        have hwS := HS.out.2.1
        generalize wL t.kids 0 = a at *
        have HB := Lib.hid (And.intro hBr hwS)
        clear hBr hbx hwS hx hxb ih
        by_cases h6 : t.op = 6
        · have o6 : (t.op == 6) = true := by rw [h6]; rfl
          have HO := Lib.hid (h6)
          clear h6
          go_wp2_with fail
          all_goals
            go_ret
            refine ⟨ret_int ?_, HB.out.1⟩
            have h9 := HB.out.2
            have h8 := HO.out
            unfold opW at h9
            rw [if_pos h8] at h9
            omega
        by_cases h12 : t.op = 12
        · have o12 : (t.op == 12) = true := by rw [h12]; rfl
          have o6 : (t.op == 6) = false := by simpa using h6
          have HO := Lib.hid (And.intro h6 (h12))
          clear h6 h12
          go_wp2_with fail
          all_goals
            go_ret
            refine ⟨ret_int ?_, HB.out.1⟩
            have h9 := HB.out.2
            have h8 := HO.out
            unfold opW at h9
            rw [if_neg h8.1, if_pos h8.2] at h9
            omega
        by_cases h10 : t.op = 10
        · have o10 : (t.op == 10) = true := by rw [h10]; rfl
          have o6 : (t.op == 6) = false := by simpa using h6
          have o12 : (t.op == 12) = false := by simpa using h12
          have HO := Lib.hid (And.intro h6 (And.intro h12 (h10)))
          clear h6 h12 h10
          have hW : ∀ x : Int, 0 ≤ x → x ≤ 20000000 → wrap64 x = x := fun x h0 h1 => by unfold wrap64; omega
          have hk : ∀ k : Int, 1 ≤ k → k ≤ 4001 → 0 ≤ a * k ∧ a * k ≤ 16008001 := fun k h0 h1 => ⟨Int.mul_nonneg hv.1 (by omega), by
            have := Int.mul_le_mul hv.2 h1 (by omega) (by omega)
            omega⟩
          have HK := Lib.hid (And.intro hW hk)
          clear hW hk
          by_cases q1 : t.mn < t.mx
          · by_cases q2 : t.mx < 1
            · obtain ⟨u1, u2⟩ := HK.out.2 1 (by omega) (by omega)
              have w0 : wrap64 (a) = a := HK.out.1 _ (by omega) (by omega)
              have w1 : wrap64 (a + 1) = a + 1 := HK.out.1 _ (by omega) (by omega)
              have w2 : wrap64 (a + 1 + 1) = a + 1 + 1 := HK.out.1 _ (by omega) (by omega)
              have w3 : wrap64 (a + 2) = a + 2 := HK.out.1 _ (by omega) (by omega)
              have HU := Lib.hid (And.intro u1 u2)
              clear u1 u2
              go_wp2_with fail
              all_goals
                go_ret
                refine ⟨ret_int ?_, HB.out.1⟩
                have h9 := HB.out.2
                have h8 := HO.out
                obtain ⟨u1, u2⟩ := HU.out
                unfold opW at h9
                rw [if_neg h8.1, if_neg h8.2.1, if_pos h8.2.2, show min (max (max t.mn t.mx) 1) (4001 : Int) = 1 by omega] at h9
                omega
            by_cases q3 : 4001 < t.mx
            · obtain ⟨u1, u2⟩ := HK.out.2 4001 (by omega) (by omega)
              have w0 : wrap64 (a * 4001) = a * 4001 := HK.out.1 _ (by omega) (by omega)
              have w1 : wrap64 (a * 4001 + 4001) = a * 4001 + 4001 := HK.out.1 _ (by omega) (by omega)
              have w2 : wrap64 (a * 4001 + 4001 + 1) = a * 4001 + 4001 + 1 := HK.out.1 _ (by omega) (by omega)
              have w3 : wrap64 (a * 4001 + 4002) = a * 4001 + 4002 := HK.out.1 _ (by omega) (by omega)
              have HU := Lib.hid (And.intro u1 u2)
              clear u1 u2
              go_wp2_with fail
              all_goals
                go_ret
                refine ⟨ret_int ?_, HB.out.1⟩
                have h9 := HB.out.2
                have h8 := HO.out
                obtain ⟨u1, u2⟩ := HU.out
                unfold opW at h9
                rw [if_neg h8.1, if_neg h8.2.1, if_pos h8.2.2, show min (max (max t.mn t.mx) 1) (4001 : Int) = 4001 by omega] at h9
                omega
            obtain ⟨u1, u2⟩ := HK.out.2 t.mx (by omega) (by omega)
            have w0 : wrap64 (a * t.mx) = a * t.mx := HK.out.1 _ (by omega) (by omega)
            have w1 : wrap64 (a * t.mx + t.mx) = a * t.mx + t.mx := HK.out.1 _ (by omega) (by omega)
            have w2 : wrap64 (a * t.mx + t.mx + 1) = a * t.mx + t.mx + 1 := HK.out.1 _ (by omega) (by omega)
            have HU := Lib.hid (And.intro u1 u2)
            clear u1 u2
            go_wp2_with fail
            all_goals
              go_ret
              refine ⟨ret_int ?_, HB.out.1⟩
              have h9 := HB.out.2
              have h8 := HO.out
              obtain ⟨u1, u2⟩ := HU.out
              unfold opW at h9
              rw [if_neg h8.1, if_neg h8.2.1, if_pos h8.2.2, show min (max (max t.mn t.mx) 1) (4001 : Int) = t.mx by omega] at h9
              omega
          · by_cases q2 : t.mn < 1
            · obtain ⟨u1, u2⟩ := HK.out.2 1 (by omega) (by omega)
              have w0 : wrap64 (a) = a := HK.out.1 _ (by omega) (by omega)
              have w1 : wrap64 (a + 1) = a + 1 := HK.out.1 _ (by omega) (by omega)
              have w2 : wrap64 (a + 1 + 1) = a + 1 + 1 := HK.out.1 _ (by omega) (by omega)
              have w3 : wrap64 (a + 2) = a + 2 := HK.out.1 _ (by omega) (by omega)
              have HU := Lib.hid (And.intro u1 u2)
              clear u1 u2
              go_wp2_with fail
              all_goals
                go_ret
                refine ⟨ret_int ?_, HB.out.1⟩
                have h9 := HB.out.2
                have h8 := HO.out
                obtain ⟨u1, u2⟩ := HU.out
                unfold opW at h9
                rw [if_neg h8.1, if_neg h8.2.1, if_pos h8.2.2, show min (max (max t.mn t.mx) 1) (4001 : Int) = 1 by omega] at h9
                omega
            by_cases q3 : 4001 < t.mn
            · obtain ⟨u1, u2⟩ := HK.out.2 4001 (by omega) (by omega)
              have w0 : wrap64 (a * 4001) = a * 4001 := HK.out.1 _ (by omega) (by omega)
              have w1 : wrap64 (a * 4001 + 4001) = a * 4001 + 4001 := HK.out.1 _ (by omega) (by omega)
              have w2 : wrap64 (a * 4001 + 4001 + 1) = a * 4001 + 4001 + 1 := HK.out.1 _ (by omega) (by omega)
              have w3 : wrap64 (a * 4001 + 4002) = a * 4001 + 4002 := HK.out.1 _ (by omega) (by omega)
              have HU := Lib.hid (And.intro u1 u2)
              clear u1 u2
              go_wp2_with fail
              all_goals
                go_ret
                refine ⟨ret_int ?_, HB.out.1⟩
                have h9 := HB.out.2
                have h8 := HO.out
                obtain ⟨u1, u2⟩ := HU.out
                unfold opW at h9
                rw [if_neg h8.1, if_neg h8.2.1, if_pos h8.2.2, show min (max (max t.mn t.mx) 1) (4001 : Int) = 4001 by omega] at h9
                omega
            obtain ⟨u1, u2⟩ := HK.out.2 t.mn (by omega) (by omega)
            have w0 : wrap64 (a * t.mn) = a * t.mn := HK.out.1 _ (by omega) (by omega)
            have w1 : wrap64 (a * t.mn + t.mn) = a * t.mn + t.mn := HK.out.1 _ (by omega) (by omega)
            have w2 : wrap64 (a * t.mn + t.mn + 1) = a * t.mn + t.mn + 1 := HK.out.1 _ (by omega) (by omega)
            have HU := Lib.hid (And.intro u1 u2)
            clear u1 u2
            go_wp2_with fail
            all_goals
              go_ret
              refine ⟨ret_int ?_, HB.out.1⟩
              have h9 := HB.out.2
              have h8 := HO.out
              obtain ⟨u1, u2⟩ := HU.out
              unfold opW at h9
              rw [if_neg h8.1, if_neg h8.2.1, if_pos h8.2.2, show min (max (max t.mn t.mx) 1) (4001 : Int) = t.mn by omega] at h9
              omega
        by_cases h7 : t.op = 7
        · have o7 : (t.op == 7) = true := by rw [h7]; rfl
          have o6 : (t.op == 6) = false := by simpa using h6
          have o12 : (t.op == 12) = false := by simpa using h12
          have o10 : (t.op == 10) = false := by simpa using h10
          have HO := Lib.hid (And.intro h6 (And.intro h12 (And.intro h10 (h7))))
          clear h6 h12 h10 h7
          go_wp2_with fail
          all_goals
            go_ret
            refine ⟨ret_int ?_, HB.out.1⟩
            have h9 := HB.out.2
            have h8 := HO.out
            unfold opW at h9
            rw [if_neg h8.1, if_neg h8.2.1, if_neg h8.2.2.1, if_pos (by omega)] at h9
            omega
        by_cases h8 : t.op = 8
        · have o8 : (t.op == 8) = true := by rw [h8]; rfl
          have o6 : (t.op == 6) = false := by simpa using h6
          have o12 : (t.op == 12) = false := by simpa using h12
          have o10 : (t.op == 10) = false := by simpa using h10
          have o7 : (t.op == 7) = false := by simpa using h7
          have HO := Lib.hid (And.intro h6 (And.intro h12 (And.intro h10 (And.intro h7 (h8)))))
          clear h6 h12 h10 h7 h8
          go_wp2_with fail
          all_goals
            go_ret
            refine ⟨ret_int ?_, HB.out.1⟩
            have h9 := HB.out.2
            have h8 := HO.out
            unfold opW at h9
            rw [if_neg h8.1, if_neg h8.2.1, if_neg h8.2.2.1, if_pos (by omega)] at h9
            omega
        by_cases h9 : t.op = 9
        · have o9 : (t.op == 9) = true := by rw [h9]; rfl
          have o6 : (t.op == 6) = false := by simpa using h6
          have o12 : (t.op == 12) = false := by simpa using h12
          have o10 : (t.op == 10) = false := by simpa using h10
          have o7 : (t.op == 7) = false := by simpa using h7
          have o8 : (t.op == 8) = false := by simpa using h8
          have HO := Lib.hid (And.intro h6 (And.intro h12 (And.intro h10 (And.intro h7 (And.intro h8 (h9))))))
          clear h6 h12 h10 h7 h8 h9
          go_wp2_with fail
          all_goals
            go_ret
            refine ⟨ret_int ?_, HB.out.1⟩
            have h9 := HB.out.2
            have h8 := HO.out
            unfold opW at h9
            rw [if_neg h8.1, if_neg h8.2.1, if_neg h8.2.2.1, if_pos (by omega)] at h9
            omega
        by_cases h11 : t.op = 11
        · have o11 : (t.op == 11) = true := by rw [h11]; rfl
          have o6 : (t.op == 6) = false := by simpa using h6
          have o12 : (t.op == 12) = false := by simpa using h12
          have o10 : (t.op == 10) = false := by simpa using h10
          have o7 : (t.op == 7) = false := by simpa using h7
          have o8 : (t.op == 8) = false := by simpa using h8
          have o9 : (t.op == 9) = false := by simpa using h9
          have HO := Lib.hid (And.intro h6 (And.intro h12 (And.intro h10 (And.intro h7 (And.intro h8 (And.intro h9 (h11)))))))
          clear h6 h12 h10 h7 h8 h9 h11
          go_wp2_with fail
          all_goals
            go_ret
            refine ⟨ret_int ?_, HB.out.1⟩
            have h9 := HB.out.2
            have h8 := HO.out
            unfold opW at h9
            rw [if_neg h8.1, if_neg h8.2.1, if_neg h8.2.2.1, if_pos (by omega)] at h9
            omega
        have o6 : (t.op == 6) = false := by simpa using h6
        have o12 : (t.op == 12) = false := by simpa using h12
        have o10 : (t.op == 10) = false := by simpa using h10
        have o7 : (t.op == 7) = false := by simpa using h7
        have o8 : (t.op == 8) = false := by simpa using h8
        have o9 : (t.op == 9) = false := by simpa using h9
        have o11 : (t.op == 11) = false := by simpa using h11
        have HO := Lib.hid (And.intro h6 (And.intro h12 (And.intro h10 (And.intro h7 (And.intro h8 (And.intro h9 (h11)))))))
        clear h6 h12 h10 h7 h8 h9 h11
        go_wp2_with fail
        all_goals
          go_ret
          refine ⟨ret_int ?_, HB.out.1⟩
          have h9 := HB.out.2
          have h8 := HO.out
          unfold opW at h9
          rw [if_neg h8.1, if_neg h8.2.1, if_neg h8.2.2.1, if_neg (by omega)] at h9
          omega
end Go.Proofs.Ytdnbholiijgedaa
