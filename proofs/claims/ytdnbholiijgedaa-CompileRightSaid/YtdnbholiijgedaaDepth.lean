/-
  trees.Depth. No condition but small lists.
-/
import Derived.Test.YtdnbholiijgedaaWeight
namespace Go.Proofs.Ytdnbholiijgedaa
open Go.RowKit
set_option linter.unusedVariables false

mutual
def dS : Tr → Int
  | ⟨op, kids, rune, set, at_, cap, name, mn, mx, lz⟩ => dL kids 0 + 1
def dL : List Tr → Int → Int
  | [], a => a
  | k :: ks, a => dL ks (max a (dS k))
end
theorem dS_eq (t : Tr) : dS t = dL t.kids 0 + 1 := by cases t; rw [dS]
theorem dL_snoc : ∀ (l : List Tr) (k : Tr) (a : Int), dL (l ++ [k]) a = max (dL l a) (dS k)
  | [], k, a => by rw [List.nil_append, dL, dL, dL]
  | x :: l, k, a => by rw [List.cons_append, dL, dL, dL_snoc l k]
theorem dL_nn : ∀ (l : List Tr) (a : Int), 0 ≤ a → 0 ≤ dL l a
  | [], a, h => by rw [dL]; exact h
  | k :: ks, a, h => by rw [dL]; exact dL_nn ks _ (by omega)
theorem dS_nn (t : Tr) : 0 ≤ dS t := by rw [dS_eq]; have := dL_nn t.kids 0 (by omega); omega
mutual
theorem dS_le : ∀ t : Tr, dS t ≤ (parts t).length
  | ⟨op, kids, rune, set, at_, cap, name, mn, mx, lz⟩ => by
    rw [dS, parts, List.length_cons, partsL_flat]
    have := dL_le kids 0
    omega
theorem dL_le : ∀ (l : List Tr) (a : Int), dL l a ≤ max a (l.flatMap parts).length
  | [], a => by rw [dL]; omega
  | k :: ks, a => by
    rw [dL, List.flatMap_cons, List.length_append]
    have h1 := dS_le k
    have h2 := dL_le ks (max a (dS k))
    omega
end
theorem take_parts (t : Tr) (j : Nat) : ((t.kids.take j).flatMap parts).length + 1 ≤ (parts t).length := by
  rw [parts_eq, partsL_flat, List.length_cons]
  have h := congrArg List.length (congrArg (fun l => List.flatMap parts l) (List.take_append_drop j t.kids))
  simp only [List.flatMap_append, List.length_append] at h
  omega
set_option maxRecDepth 100000 in
set_option maxHeartbeats 1000000 in
theorem depth_any (ok : Nat → Prop) : ∀ (n : Nat) (t : Tr) (cs : List Value) (w : World), (parts t).length ≤ n → TrC ok w t cs → (∀ p ∈ parts t, p.kids.length ≤ 140737488351232) → n ≤ 1000000000 →
    Calls Try.prog 26 #[.agg cs.toArray] w fun e w' => e = .returned (.int .i64 (dS t)) ∧ Below w.heap.size w w' := by
  intro n
  induction n with
  | zero => intro t cs w hn; rw [parts_eq] at hn; simp at hn
  | succ n ih =>
    intro t cs w hn ht hsm hn9
    have hs2 := hsm t (mem_parts_self t)
    obtain ⟨A, c, B, d, rfl, h1, h2, h3, h4, h5, h6⟩ := trC_iff.1 ht
    have hdS := dS_eq t
    have HS := Lib.hid (And.intro hsm (And.intro hdS h6))
    clear hdS hsm ht h5 h6
    go_enter Try.func26, Try.ntmps26
    go_wp2_with fail
    have hx := heap_new1 w (.cells #[.int .i64 t.op, .slice A t.kids.length c, .int .i32 t.rune, .slice B t.set.length d, .int .i64 t.at_, .int .i64 t.cap, .string t.name, .int .i64 t.mn, .int .i64 t.mx, .bool t.lz] 27)
    have hxb : Below w.heap.size w (w.alloc (.cells #[.int .i64 t.op, .slice A t.kids.length c, .int .i32 t.rune, .slice B t.set.length d, .int .i64 t.at_, .int .i64 t.cap, .string t.name, .int .i64 t.mn, .int .i64 t.mx, .bool t.lz] 27)) := below_al (Below.refl _ _) _
    go_loopw [3, 9] (fun s3 s9 wr => ∃ (j : Nat), s9 = .int .i64 j ∧ s3 = .int .i64 (dL (t.kids.take j) 0) ∧ j ≤ t.kids.length ∧ Below w.heap.size w wr ∧ wr.heap[w.heap.size]? = some (.cells #[.int .i64 t.op, .slice A t.kids.length c, .int .i32 t.rune, .slice B t.set.length d, .int .i64 t.at_, .int .i64 t.cap, .string t.name, .int .i64 t.mn, .int .i64 t.mx, .bool t.lz] 27 (0, 0))) (fun _ s9 _ => t.kids.length - (intOf s9).toNat)
    case atStart => exact ⟨0, rfl, by rw [List.take_zero, dL], Nat.zero_le _, hxb, hx⟩
    case round =>
      obtain ⟨j, rfl, rfl, hj, hBr, hbx⟩ := hrel
      obtain ⟨g0, g1, g2, g3, g4, g5, g6, g7, g8, g9⟩ := cells10 hbx
      have hdb := dL_le (t.kids.take j) 0
      have hfl := take_parts t j
      have hv := dL_nn (t.kids.take j) 0 (by omega)
      by_cases hlt : j < t.kids.length
      · obtain ⟨ad, A1, c1, A3, c3, rfl, hTk, k0, k1, k2, k3, k4, k5, k6, k7, k8, k9⟩ := trArr_at HS.out.2.2 wr (fun b _ hb' => hBr.block b hb') j hlt
        have hkk := parts_kid hlt
        have hih := fun (W : World) (hW : Below wr.heap.size wr W) => ih _ _ W (by omega) (hTk.move (fun b hb' hlt' => ⟨(hW.block b (by have := hBr.size; omega)).trans (hBr.block b hlt'), hb'⟩)) (fun p hp => HS.out.1 p (mem_parts_kid hlt hp)) (by omega)
        have hsn := dL_snoc (t.kids.take j) t.kids[j] 0
        rw [← List.take_succ_eq_append_getElem hlt] at hsn
        have hwk := dS_nn t.kids[j]
        clear hkk hTk ih
        generalize dL (t.kids.take j) 0 = a at *
        have HB := Lib.hid (And.intro hBr (And.intro hbx hsn))
        clear hBr hbx hsn
        go_wp2_with fail
        refine (hih _ (below_al (Below.refl _ _) _)).mono ?_
        clear hih g0 g1 g2 g3 g4 g5 g6 g7 g8 g9 k0 k1 k2 k3 k4 k5 k6 k7 k8 k9
        rintro e w1 ⟨rfl, hb1⟩
        dsimp only
        have hbx2 := (hb1.block w.heap.size (by have := heap_lt HB.out.2.1; simp; omega)).trans ((below_al (Below.refl wr.heap.size wr) _).block w.heap.size (heap_lt HB.out.2.1) |>.trans HB.out.2.1)
        have hbw := below_and (below_and hb1 (below_al (Below.refl wr.heap.size wr) _)) HB.out.1
        have hsn := HB.out.2.2
        generalize dS t.kids[j] = r at *
        have HZ := Lib.hid (And.intro hbx2 (And.intro hbw hsn))
        clear hbx2 hbw hsn hb1
        go_wp2_with fail
        go_roundw
        case rel =>
          refine ⟨j + 1, by go_num, ?_, by omega, HZ.out.2.1, HZ.out.1⟩
          rw [HZ.out.2.2]
          congr 1
          split <;> omega
        case measure => simp [intOf]; omega
      · obtain rfl : j = t.kids.length := by omega
        rw [List.take_length] at hv hdb hfl ⊢
        have hdS := HS.out.2.1
        generalize dL t.kids 0 = a at *
        have HB := Lib.hid (And.intro hBr hdS)
        clear hBr hbx hdS hx hxb ih
        have hwS := HS.out.2.1
        go_wp2_with fail
        go_ret
        exact ⟨ret_int (by have h9 := HB.out.2; omega), HB.out.1⟩
end Go.Proofs.Ytdnbholiijgedaa
