/-
  Law 10's counted, tidy, of trees that were made plain; SimplifyPlain. No condition but small lists.
-/
import Derived.Test.YtdnbholiijgedaaSimple
import Derived.Test.YtdnbholiijgedaaParts
namespace Go.Proofs.Ytdnbholiijgedaa
open Go.RowKit
set_option linter.unusedVariables false

def LoopRel (w : World) (ct : List Value) (n : Nat) (s : Value) (wr : World) : Prop :=
  ∃ j : Nat, s = .int .i64 j ∧ j ≤ n ∧ Below w.heap.size w wr ∧ wr.heap[w.heap.size]? = some (.cells ct.toArray 27 (0, 0))
set_option maxRecDepth 100000 in
set_option maxHeartbeats 1000000 in
theorem counted10_any (ok : Nat → Prop) : ∀ (n : Nat) (t : Tr) (cs : List Value) (w : World), szT t ≤ n → TrC ok w t cs → GoodT t → n ≤ 1000000000 →
    Calls Try.prog 20 #[.agg cs.toArray] w fun e w' => e = .returned (.bool false) ∧ Below w.heap.size w w' := by
  intro n
  induction n with
  | zero => intro t cs w hn; rw [szT_eq] at hn; omega
  | succ n ih =>
    intro t cs w hn ht hg hn9
    obtain ⟨A, c, B, d, rfl, h1, h2, h3, h4, h5, h6⟩ := trC_iff.1 ht
    have hkl : t.kids.length ≤ 1000000001 := by have := kids_szT t; omega
    have o10 : (t.op == 10) = false := (by simpa using (good_iff.1 hg).1.no10)
    have HS := Lib.hid (And.intro (good_iff.1 hg).2 h6)
    clear hg ht h5 h6
    go_enter Try.func20, Try.ntmps20
    have hx := heap_new1 w (.cells #[.int .i64 t.op, .slice A t.kids.length c, .int .i32 t.rune, .slice B t.set.length d, .int .i64 t.at_, .int .i64 t.cap, .string t.name, .int .i64 t.mn, .int .i64 t.mx, .bool t.lz] 27)
    have hxb : Below w.heap.size w (w.alloc (.cells #[.int .i64 t.op, .slice A t.kids.length c, .int .i32 t.rune, .slice B t.set.length d, .int .i64 t.at_, .int .i64 t.cap, .string t.name, .int .i64 t.mn, .int .i64 t.mx, .bool t.lz] 27)) := below_al (Below.refl _ _) _
    have HX := Lib.hid (And.intro hx hxb)
    clear hx hxb
    go_wp2_with fail
    go_loopw [3] (fun s3 wr => LoopRel w [.int .i64 t.op, .slice A t.kids.length c, .int .i32 t.rune, .slice B t.set.length d, .int .i64 t.at_, .int .i64 t.cap, .string t.name, .int .i64 t.mn, .int .i64 t.mx, .bool t.lz] t.kids.length s3 wr) (fun s3 _ => t.kids.length - (intOf s3).toNat)
    case atStart => exact ⟨0, rfl, Nat.zero_le _, HX.out.2, HX.out.1⟩
    case round =>
      obtain ⟨j, rfl, hj, hBr, hbx⟩ := hrel
      obtain ⟨g0, g1, g2, g3, g4, g5, g6, g7, g8, g9⟩ := cells10 hbx
      have hn0 := heap_lt hbx
      by_cases hlt : j < t.kids.length
      · obtain ⟨ad, A1, c1, A3, c3, rfl, hTk, k0, k1, k2, k3, k4, k5, k6, k7, k8, k9⟩ := trArr_at HS.out.2 wr (fun b _ hb' => hBr.block b hb') j hlt
        have hkk := parts_kid hlt
        have hih := ih t.kids[j] _ wr (by unfold szT at *; omega) (hTk.move (fun b hb' hlt' => ⟨hBr.block b hlt', hb'⟩)) (HS.out.1 _ (List.getElem_mem hlt)) (by omega)
        generalize t.kids[j] = kj at *
        have HB := Lib.hid (And.intro hBr hbx)
        clear hBr hbx hTk hkk
        go_wp2_with fail
        refine hih.mono ?_
        clear hih g0 g1 g2 g3 g4 g5 g6 g7 g8 g9 k0 k1 k2 k3 k4 k5 k6 k7 k8 k9
        rintro e w1 ⟨rfl, hb1⟩
        dsimp only
        have HZ := Lib.hid (And.intro ((hb1.block _ hn0).trans HB.out.2) (below_and hb1 HB.out.1))
        clear hb1
        go_wp2_with fail
        go_roundw
        case rel => exact ⟨j + 1, by go_num, by omega, HZ.out.2, HZ.out.1⟩
        case measure => simp [intOf]; omega
      · obtain rfl : j = t.kids.length := by omega
        have HB := Lib.hid hBr
        clear hBr hbx
        go_wp2_with fail
        go_ret
        exact ⟨rfl, HB.out⟩
set_option maxRecDepth 100000 in
set_option maxHeartbeats 2000000 in
theorem tidy_any (ok : Nat → Prop) : ∀ (n : Nat) (t : Tr) (cs : List Value) (w : World), szT t ≤ n → TrC ok w t cs → GoodT t → n ≤ 1000000000 →
    Calls Try.prog 21 #[.agg cs.toArray] w fun e w' => e = .returned (.bool true) ∧ Below w.heap.size w w' := by
  intro n
  induction n with
  | zero => intro t cs w hn; rw [szT_eq] at hn; omega
  | succ n ih =>
    intro t cs w hn ht hg hn9
    obtain ⟨A, c, B, d, rfl, h1, h2, h3, h4, h5, h6⟩ := trC_iff.1 ht
    have hkl : t.kids.length ≤ 1000000001 := by have := kids_szT t; omega
    have htwo := (good_iff.1 hg).1.two
    have HS := Lib.hid (And.intro (good_iff.1 hg).2 (And.intro h6 (good_iff.1 hg).1.kid))
    clear hg ht h5 h6
    have hx := heap_new1 w (.cells #[.int .i64 t.op, .slice A t.kids.length c, .int .i32 t.rune, .slice B t.set.length d, .int .i64 t.at_, .int .i64 t.cap, .string t.name, .int .i64 t.mn, .int .i64 t.mx, .bool t.lz] 27)
    have hxb : Below w.heap.size w (w.alloc (.cells #[.int .i64 t.op, .slice A t.kids.length c, .int .i32 t.rune, .slice B t.set.length d, .int .i64 t.at_, .int .i64 t.cap, .string t.name, .int .i64 t.mn, .int .i64 t.mx, .bool t.lz] 27)) := below_al (Below.refl _ _) _
    have HX := Lib.hid (And.intro hx hxb)
    clear hx hxb
    have HT := Lib.hid htwo
    clear htwo
    go_enter Try.func21, Try.ntmps21
    go_wp2_with fail
    go_loopw [3] (fun s3 wr => LoopRel w [.int .i64 t.op, .slice A t.kids.length c, .int .i32 t.rune, .slice B t.set.length d, .int .i64 t.at_, .int .i64 t.cap, .string t.name, .int .i64 t.mn, .int .i64 t.mx, .bool t.lz] t.kids.length s3 wr) (fun s3 _ => t.kids.length - (intOf s3).toNat)
    case atStart => exact ⟨0, rfl, Nat.zero_le _, HX.out.2, HX.out.1⟩
    case round =>
      obtain ⟨j, rfl, hj, hBr, hbx⟩ := hrel
      obtain ⟨g0, g1, g2, g3, g4, g5, g6, g7, g8, g9⟩ := cells10 hbx
      have hn0 := heap_lt hbx
      by_cases hlt : j < t.kids.length
      · obtain ⟨ad, A1, c1, A3, c3, rfl, hTk, k0, k1, k2, k3, k4, k5, k6, k7, k8, k9⟩ := trArr_at HS.out.2.1 wr (fun b _ hb' => hBr.block b hb') j hlt
        have hkk := parts_kid hlt
        have hmem := List.getElem_mem hlt
        have hih := fun (W : World) (hW : Below wr.heap.size wr W) => ih t.kids[j] _ W (by unfold szT at *; omega) (hTk.move (fun b hb' hlt' => ⟨(hW.block b (by have := hBr.size; omega)).trans (hBr.block b hlt'), hb'⟩)) (HS.out.1 _ hmem) (by omega)
        obtain ⟨q1, q2, _⟩ := HS.out.2.2 _ hmem
        generalize t.kids[j] = kj at *
        have HB := Lib.hid (And.intro hBr hbx)
        have b1 : (kj.op == 1) = false := (by simpa using q1)
        clear hBr hbx hTk hkk hmem q1
        by_cases e11 : t.op = 11
        · have o11 : (t.op == 11) = true := (by rw [e11]; rfl)
          have b2 : (kj.op == 2) = false := (by simpa using (q2 e11).1)
          have b3 : (kj.op == 11) = false := (by simpa using (q2 e11).2)
          clear e11 q2
          go_wp2_with fail
          refine (hih _ (below_al (Below.refl _ _) _)).mono ?_
          clear hih g0 g1 g2 g3 g4 g5 g6 g7 g8 g9 k0 k1 k2 k3 k4 k5 k6 k7 k8 k9
          rintro e w1 ⟨rfl, hb1⟩
          dsimp only
          have hB1 := below_and hb1 (below_al (Below.refl _ _) _)
          have HZ := Lib.hid (And.intro ((hB1.block _ hn0).trans HB.out.2) (below_and hB1 HB.out.1))
          clear hb1 hB1
          go_wp2_with fail
          go_roundw
          case rel => exact ⟨j + 1, by go_num, by omega, HZ.out.2, HZ.out.1⟩
          case measure => simp [intOf]; omega
        · have o11 : (t.op == 11) = false := (by simpa using e11)
          clear e11 q2
          go_wp2_with fail
          refine (hih _ (below_al (Below.refl _ _) _)).mono ?_
          clear hih g0 g1 g2 g3 g4 g5 g6 g7 g8 g9 k0 k1 k2 k3 k4 k5 k6 k7 k8 k9
          rintro e w1 ⟨rfl, hb1⟩
          dsimp only
          have hB1 := below_and hb1 (below_al (Below.refl _ _) _)
          have HZ := Lib.hid (And.intro ((hB1.block _ hn0).trans HB.out.2) (below_and hB1 HB.out.1))
          clear hb1 hB1
          go_wp2_with fail
          go_roundw
          case rel => exact ⟨j + 1, by go_num, by omega, HZ.out.2, HZ.out.1⟩
          case measure => simp [intOf]; omega
      · obtain rfl : j = t.kids.length := by omega
        have HB := Lib.hid hBr
        clear hBr hbx
        by_cases e : t.op = 11 ∨ t.op = 12
        · have h2 := HT.out e
          have h2' : decide (1 < t.kids.length) = true := decide_eq_true h2
          have h3' : decide (1 < (t.kids.length : Int)) = true := decide_eq_true (by omega)
          rcases e with e | e
          · have o11 : (t.op != 11) = false := (by rw [e]; rfl)
            clear e
            go_wp2_with fail
            go_ret
            exact ⟨rfl, HB.out⟩
          · have o11 : (t.op != 11) = true := (by rw [e]; rfl)
            have o12 : (t.op != 12) = false := (by rw [e]; rfl)
            clear e
            go_wp2_with fail
            go_ret
            exact ⟨rfl, HB.out⟩
        · have o11 : (t.op != 11) = true := (by simp; omega)
          have o12 : (t.op != 12) = true := (by simp; omega)
          clear e
          go_wp2_with fail
          go_ret
          exact ⟨rfl, HB.out⟩
end Go.Proofs.Ytdnbholiijgedaa
