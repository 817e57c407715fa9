/-
  martelloref02.Same, martelloref05.Same, of alike ones. No condition but on the size.
-/
import Derived.Test.YtdnbholiijgedaaSimple
namespace Go.Proofs.Ytdnbholiijgedaa
open Go.RowKit
set_option linter.unusedVariables false
attribute [local go_sem high] eq_rg

set_option maxHeartbeats 1000000 in
theorem same02_any (ok : Nat → Prop) (w : World) (A B : Option Addr) (c d : Nat) (xs : List Rg) (hx : Arr ok w 2 RgC A xs) (hy : Arr ok w 2 RgC B xs) (hN : xs.length ≤ 1000000000) :
    Calls Try.prog 29 #[.slice A xs.length c, .slice B xs.length d] w fun e w' => e = .returned (.bool true) ∧ Below w.heap.size w w' := by
  have HX := Lib.hid hx
  have HY := Lib.hid hy
  clear hx hy
  have hu84 := Try.underlying61
  go_enter Try.func29, Try.ntmps29
  go_wp2_with fail
  go_loopw [5] (fun i wr => ∃ k : Nat, k ≤ xs.length ∧ i = .int .i64 k ∧ (∃ q, wr = w.drewN q)) (fun i _ => xs.length - (intOf i).toNat)
  case atStart => exact ⟨0, Nat.zero_le _, rfl, ⟨0, rfl⟩⟩
  case round =>
    obtain ⟨k, hk, rfl, ⟨q, rfl⟩⟩ := hrel
    by_cases hlt : k < xs.length
    · obtain ⟨ad, rfl, hc1, hc2⟩ := rg_cells HX.out k hlt
      obtain ⟨bd, rfl, hd1, hd2⟩ := rg_cells HY.out k hlt
      generalize xs[k].lo = a1 at *
      generalize xs[k].hi = a2 at *
      go_wp2
      repeat (go_quiet (fail); try go_wp2)
      go_roundw
      case measure => simp [intOf]; omega
      case rel => exact ⟨k + 1, by omega, by go_num, _, by first | rfl | (simp; rfl)⟩
    · go_wp2
      go_ret
      exact ⟨rfl, below_drewN (Below.refl _ _) _⟩
def SameRel (w : World) (ct cu : List Value) (n : Nat) (s : Value) (wr : World) : Prop :=
  ∃ j : Nat, s = .int .i64 j ∧ j ≤ n ∧ Below w.heap.size w wr ∧ wr.heap[w.heap.size]? = some (.cells ct.toArray 27 (0, 0)) ∧ wr.heap[w.heap.size + 1]? = some (.cells cu.toArray 27 (0, 0))
set_option maxRecDepth 100000 in
set_option maxHeartbeats 8000000 in
theorem same05_any (ok : Nat → Prop) : ∀ (n : Nat) (t : Tr) (cs cs' : List Value) (w : World), szT t ≤ n → TrC ok w t cs → TrC ok w t cs' → SmallT t →
    Calls Try.prog 18 #[.agg cs.toArray, .agg cs'.toArray] w fun e w' => e = .returned (.bool true) ∧ Below w.heap.size w w' := by
  intro n
  induction n with
  | zero => intro t cs cs' w hn; rw [szT_eq] at hn; omega
  | succ n ih =>
    intro t cs cs' w hn ht hu hsm
    obtain ⟨A, c, B, d, rfl, m1, m2, m3, m4, h5, h6⟩ := trC_iff.1 ht
    obtain ⟨A', c', B', d', rfl, p1, p2, p3, p4, h5', h6'⟩ := trC_iff.1 hu
    have hks := (hsm.1 t (mem_parts_self t)).2.1
    have hst := (hsm.1 t (mem_parts_self t)).1
    have hs2 := fun (W : World) (hW : Below w.heap.size w W) => same02_any ok W B B' d d' t.set (h5.move (fun b hb hlt => ⟨hW.block b hlt, hb⟩) (by omega)) (h5'.move (fun b hb hlt => ⟨hW.block b hlt, hb⟩) (by omega)) (by omega)
    have hsk : ∀ k ∈ t.kids, SmallT k := fun k hk => by
      obtain ⟨i, hi, rfl⟩ := List.getElem_of_mem hk
      refine ⟨fun p hp => hsm.1 p (mem_parts_kid hi hp), ?_⟩
      have h1 := parts_kid hi
      have h2 := hsm.2
      unfold szT at *; omega
    have HS := Lib.hid (And.intro h6 (And.intro h6' hsk))
    clear ht hu h5 h5' h6 h6' hsm hsk
    go_enter Try.func18, Try.ntmps18
    go_wp2_with fail
    obtain ⟨X, hX⟩ : ∃ X, (w.alloc (.cells #[.int .i64 t.op, .slice A t.kids.length c, .int .i32 t.rune, .slice B t.set.length d, .int .i64 t.at_, .int .i64 t.cap, .string t.name, .int .i64 t.mn, .int .i64 t.mx, .bool t.lz] 27)).alloc (.cells #[.int .i64 t.op, .slice A' t.kids.length c', .int .i32 t.rune, .slice B' t.set.length d', .int .i64 t.at_, .int .i64 t.cap, .string t.name, .int .i64 t.mn, .int .i64 t.mx, .bool t.lz] 27) = X := ⟨_, rfl⟩
    have xb : Below w.heap.size w X := by rw [← hX]; exact below_al (below_al (Below.refl _ _) _) _
    have x0 : X.heap[w.heap.size]? = some (.cells #[.int .i64 t.op, .slice A t.kids.length c, .int .i32 t.rune, .slice B t.set.length d, .int .i64 t.at_, .int .i64 t.cap, .string t.name, .int .i64 t.mn, .int .i64 t.mx, .bool t.lz] 27 (0, 0)) := by rw [← hX]; exact (Below.heap_alloc _ _ _ (by simp)).trans (heap_new1 _ _)
    have x1 : X.heap[w.heap.size + 1]? = some (.cells #[.int .i64 t.op, .slice A' t.kids.length c', .int .i32 t.rune, .slice B' t.set.length d', .int .i64 t.at_, .int .i64 t.cap, .string t.name, .int .i64 t.mn, .int .i64 t.mx, .bool t.lz] 27 (0, 0)) := by rw [← hX]; exact heap_new2 _ _ _
    rw [hX]
    clear hX
    refine (hs2 X xb).mono ?_
    clear hs2
    rintro e w1 ⟨rfl, hb1⟩
    dsimp only
    have y0 := (hb1.block _ (heap_lt x0)).trans x0
    have y1 := (hb1.block _ (heap_lt x1)).trans x1
    have yb := below_and hb1 xb
    clear xb x0 x1 hb1
    have hn0 := heap_lt y0
    have hn1 := heap_lt y1
    obtain ⟨g0, g1, g2, g3, g4, g5, g6, g7, g8, g9⟩ := cells10 y0
    obtain ⟨q0, q1, q2, q3, q4, q5, q6, q7, q8, q9⟩ := cells10 y1
    have HY := Lib.hid (And.intro yb (And.intro y0 y1))
    clear yb y0 y1
    go_wp2_with fail
    clear g0 g1 g2 g3 g4 g5 g6 g7 g8 g9 q0 q1 q2 q3 q4 q5 q6 q7 q8 q9 hn0 hn1
    go_loopw [6] (fun s wr => SameRel w [.int .i64 t.op, .slice A t.kids.length c, .int .i32 t.rune, .slice B t.set.length d, .int .i64 t.at_, .int .i64 t.cap, .string t.name, .int .i64 t.mn, .int .i64 t.mx, .bool t.lz] [.int .i64 t.op, .slice A' t.kids.length c', .int .i32 t.rune, .slice B' t.set.length d', .int .i64 t.at_, .int .i64 t.cap, .string t.name, .int .i64 t.mn, .int .i64 t.mx, .bool t.lz] t.kids.length s wr) (fun s _ => t.kids.length - (intOf s).toNat)
    case atStart => exact ⟨0, rfl, Nat.zero_le _, HY.out.1, HY.out.2.1, HY.out.2.2⟩
    case round =>
      obtain ⟨j, rfl, hj, hBr, hbx, hby⟩ := hrel
      have hn0 := heap_lt hbx
      have hn1 := heap_lt hby
      obtain ⟨g0, g1, g2, g3, g4, g5, g6, g7, g8, g9⟩ := cells10 hbx
      obtain ⟨q0, q1, q2, q3, q4, q5, q6, q7, q8, q9⟩ := cells10 hby
      by_cases hlt : j < t.kids.length
      · obtain ⟨ad, A1, c1, A3, c3, rfl, hTk, k0, k1, k2, k3, k4, k5, k6, k7, k8, k9⟩ := trArr_at HS.out.1 wr (fun b _ hb' => hBr.block b hb') j hlt
        obtain ⟨bd, D1, e1, D3, e3, rfl, hUk, l0, l1, l2, l3, l4, l5, l6, l7, l8, l9⟩ := trArr_at HS.out.2.1 wr (fun b _ hb' => hBr.block b hb') j hlt
        have hkk := parts_kid hlt
        have hbw := hBr.size
        have hih := fun (W : World) (hW : Below wr.heap.size wr W) => ih t.kids[j] _ _ W (by unfold szT at *; omega) (hTk.move (fun b hb' hlt' => ⟨(hW.block b (by omega)).trans (hBr.block b hlt'), hb'⟩)) (hUk.move (fun b hb' hlt' => ⟨(hW.block b (by omega)).trans (hBr.block b hlt'), hb'⟩)) (HS.out.2.2 _ (List.getElem_mem hlt))
        have hadb : ad.block < wr.heap.size := by have := World.block_lt_of_cell? wr _ k0; rwa [add_block] at this
        have hbdb : bd.block < wr.heap.size := by have := World.block_lt_of_cell? wr _ l0; rwa [add_block] at this
        generalize t.kids[j] = kj at *
        have HB := Lib.hid (And.intro hBr (And.intro hbx hby))
        clear hTk hUk hkk hBr hbx hby
        have hj1 : (0 : Int) ≤ (j : Int) := by omega
        have hj2 : (j : Int) < (t.kids.length : Int) := by omega
        go_wp2_with fail
        refine wp_region_seq (fun W' => W'.heap[w.heap.size]? = some (.cells ([.int .i64 t.op, .slice (some ad) t.kids.length c, .int .i32 t.rune, .slice B t.set.length d, .int .i64 t.at_, .int .i64 t.cap, .string t.name, .int .i64 t.mn, .int .i64 t.mx, .bool t.lz] : List Value).toArray 27 (0, 0)) ∧ W'.heap[w.heap.size + 1]? = some (.cells ([.int .i64 t.op, .slice (some bd) t.kids.length c', .int .i32 t.rune, .slice B' t.set.length d', .int .i64 t.at_, .int .i64 t.cap, .string t.name, .int .i64 t.mn, .int .i64 t.mx, .bool t.lz] : List Value).toArray 27 (0, 0)) ∧ W'.heap[ad.block]? = wr.heap[ad.block]? ∧ W'.heap[bd.block]? = wr.heap[bd.block]?) (by kernel_rfl) (by kernel_rfl) (fun _ _ _ _ _ h => h)
          [(0, 87, .pointer (some ⟨w.heap.size, 1, none⟩)), (1, 88, .slice (some ad) t.kids.length c), (2, 89, .int .i64 (j : Nat)), (3, 90, .pointer (some (ad.add (j * 10)))), (4, 91, .agg ([.int .i64 kj.op, .slice A1 kj.kids.length c1, .int .i32 kj.rune, .slice A3 kj.set.length c3, .int .i64 kj.at_, .int .i64 kj.cap, .string kj.name, .int .i64 kj.mn, .int .i64 kj.mx, .bool kj.lz] : List Value).toArray), (5, 92, .pointer (some ⟨w.heap.size + 1, 1, none⟩)), (6, 93, .slice (some bd) t.kids.length c'), (7, 94, .int .i64 (j : Nat)), (8, 95, .pointer (some (bd.add (j * 10)))), (9, 96, .agg ([.int .i64 kj.op, .slice D1 kj.kids.length e1, .int .i32 kj.rune, .slice D3 kj.set.length e3, .int .i64 kj.at_, .int .i64 kj.cap, .string kj.name, .int .i64 kj.mn, .int .i64 kj.mx, .bool kj.lz] : List Value).toArray)] [10, 11] rfl (by kernel_rfl) ⟨HB.out.2.1, HB.out.2.2, rfl, rfl⟩ ?_ ?_
        · refine ⟨⟨_, rfl, rfl, yi_pure rfl (fun _ => by go_simp)⟩, ?_⟩
          simp only [Act.put, List.setIfInBounds_toArray, List.set_cons_zero, List.set_cons_succ]
          refine ⟨⟨_, rfl, rfl, yi_cell 23 _ rfl ⟨w.heap.size, 1, none⟩ _ rfl rfl _ Try.underlying23 rfl (fun W hS => by rw [cell_of_blk hS.1]; rfl)⟩, ?_⟩
          simp only [Act.put, List.setIfInBounds_toArray, List.set_cons_zero, List.set_cons_succ]
          refine ⟨⟨_, rfl, rfl, yi_pure rfl (fun _ => by go_simp)⟩, ?_⟩
          simp only [Act.put, List.setIfInBounds_toArray, List.set_cons_zero, List.set_cons_succ]
          refine ⟨⟨_, rfl, rfl, yi_pure rfl (fun _ => by go_simp)⟩, ?_⟩
          simp only [Act.put, List.setIfInBounds_toArray, List.set_cons_zero, List.set_cons_succ]
          refine ⟨⟨_, rfl, rfl, yi_rowA 27 _ rfl (ad.add (j * 10)) [.int .i64 kj.op, .slice A1 kj.kids.length c1, .int .i32 kj.rune, .slice A3 kj.set.length c3, .int .i64 kj.at_, .int .i64 kj.cap, .string kj.name, .int .i64 kj.mn, .int .i64 kj.mx, .bool kj.lz] rfl rfl _ Try.underlying27 rfl infoTrS (fun W hS r u hu => (World.cell?_of_block (by rw [add_block, add_block]; exact hS.2.2.1)).trans (rows10 k0 k1 k2 k3 k4 k5 k6 k7 k8 k9 r u hu))⟩, ?_⟩
          simp only [Act.put, List.setIfInBounds_toArray, List.set_cons_zero, List.set_cons_succ]
          refine ⟨⟨_, rfl, rfl, yi_pure rfl (fun _ => by go_simp)⟩, ?_⟩
          simp only [Act.put, List.setIfInBounds_toArray, List.set_cons_zero, List.set_cons_succ]
          refine ⟨⟨_, rfl, rfl, yi_cell 23 _ rfl ⟨w.heap.size + 1, 1, none⟩ _ rfl rfl _ Try.underlying23 rfl (fun W hS => by rw [cell_of_blk hS.2.1]; rfl)⟩, ?_⟩
          simp only [Act.put, List.setIfInBounds_toArray, List.set_cons_zero, List.set_cons_succ]
          refine ⟨⟨_, rfl, rfl, yi_pure rfl (fun _ => by go_simp)⟩, ?_⟩
          simp only [Act.put, List.setIfInBounds_toArray, List.set_cons_zero, List.set_cons_succ]
          refine ⟨⟨_, rfl, rfl, yi_pure rfl (fun _ => by go_simp)⟩, ?_⟩
          simp only [Act.put, List.setIfInBounds_toArray, List.set_cons_zero, List.set_cons_succ]
          refine ⟨⟨_, rfl, rfl, yi_rowA 27 _ rfl (bd.add (j * 10)) [.int .i64 kj.op, .slice D1 kj.kids.length e1, .int .i32 kj.rune, .slice D3 kj.set.length e3, .int .i64 kj.at_, .int .i64 kj.cap, .string kj.name, .int .i64 kj.mn, .int .i64 kj.mx, .bool kj.lz] rfl rfl _ Try.underlying27 rfl infoTrS (fun W hS r u hu => (World.cell?_of_block (by rw [add_block, add_block]; exact hS.2.2.2)).trans (rows10 l0 l1 l2 l3 l4 l5 l6 l7 l8 l9 r u hu))⟩, ?_⟩
          simp only [Act.put, List.setIfInBounds_toArray, List.set_cons_zero, List.set_cons_succ]
          trivial
        clear g0 g1 g2 g3 g4 g5 g6 g7 g8 g9 k0 k1 k2 k3 k4 k5 k6 k7 k8 k9 l0 l1 l2 l3 l4 l5 l6 l7 l8 l9 q0 q1 q2 q3 q4 q5 q6 q7 q8 q9
        simp only [putAll, Act.put, List.setIfInBounds_toArray, List.set_cons_zero, List.set_cons_succ]
        refine Seq.cons rfl rfl (fun K hK => ?_)
        go_simp
        refine (hih wr.drew (Below.refl _ _).drew).mono ?_
        clear hih
        rintro e w1 ⟨rfl, hb1⟩
        dsimp only
        have hbd1 : Below wr.heap.size wr w1 := below_and (w1 := wr.drew) hb1 (Below.refl _ _).drew
        have hS1 : w1.heap[w.heap.size]? = some (.cells ([.int .i64 t.op, .slice (some ad) t.kids.length c, .int .i32 t.rune, .slice B t.set.length d, .int .i64 t.at_, .int .i64 t.cap, .string t.name, .int .i64 t.mn, .int .i64 t.mx, .bool t.lz] : List Value).toArray 27 (0, 0)) := (hbd1.block _ hn0).trans HB.out.2.1
        have hS2 : w1.heap[w.heap.size + 1]? = some (.cells ([.int .i64 t.op, .slice (some bd) t.kids.length c', .int .i32 t.rune, .slice B' t.set.length d', .int .i64 t.at_, .int .i64 t.cap, .string t.name, .int .i64 t.mn, .int .i64 t.mx, .bool t.lz] : List Value).toArray 27 (0, 0)) := (hbd1.block _ hn1).trans HB.out.2.2
        refine hK _ _ ⟨hS1, hS2, hbd1.block _ hadb, hbd1.block _ hbdb⟩ ?_
        clear hK K
        refine Seq.cons rfl rfl (fun K hK => ?_)
        have HZ := Lib.hid (And.intro hS1 (And.intro hS2 (And.intro (hbd1.block _ hadb) (And.intro (hbd1.block _ hbdb) (below_and hbd1 HB.out.1)))))
        clear hS1 hS2 hbd1 hb1
        go_simp
        refine hK _ _ ⟨HZ.out.1, HZ.out.2.1, HZ.out.2.2.1, HZ.out.2.2.2.1⟩ ?_
        clear hK K
        simp only [Seq]
        go_wp2_with fail
        go_roundw
        case rel => exact ⟨j + 1, by go_num, by omega, HZ.out.2.2.2.2, HZ.out.1, HZ.out.2.1⟩
        case measure => simp [intOf]; omega
      · obtain rfl : j = t.kids.length := by omega
        have HB := Lib.hid hBr
        clear hBr hbx hby
        go_wp2_with fail
        go_ret
        exact ⟨rfl, HB.out⟩
end Go.Proofs.Ytdnbholiijgedaa
