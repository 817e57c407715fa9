/-
  slices.Repeat of one element, at each element type. No condition but on the size.
-/
import Derived.Test.YtdnbholiijgedaaMem
namespace Go.Proofs.Ytdnbholiijgedaa
open Go.RowKit
set_option linter.unusedVariables false

def RepRel (w : World) (e : TypeId) (sz n : Nat) (X : List Value) (s8 : Value) (wr : World) : Prop :=
  ∃ (m : Nat) (R : List Value), s8 = .int .i64 m ∧ m ≤ n ∧ (0 < n → 0 < m) ∧ Below w.heap.size w wr ∧ wr.heap[w.heap.size]? = some (.cells ((List.replicate m X).flatten ++ R).toArray e (0, 0)) ∧ R.length = (n - m) * sz
def RepPost (e : TypeId) (sz n : Nat) (X : List Value) (w : World) (en : Ending) (w' : World) : Prop :=
  ∃ v', en = .returned v' ∧ Owns w' w.heap.size e sz v' (List.replicate n X) ∧ Below w.heap.size w w'
theorem flat_rep {X : List Value} {sz : Nat} (hX : X.length = sz) (n : Nat) : (List.replicate n X).flatten.length = n * sz := by
  induction n with
  | zero => simp
  | succ n ih => rw [List.replicate_succ, List.flatten_cons, List.length_append, ih, hX, Nat.succ_mul]; omega
theorem rep_splice {X : List Value} {sz : Nat} (hX : X.length = sz) {m k n : Nat} {R : List Value} (hR : R.length = (n - m) * sz) (hk : k ≤ n - m) :
    ∃ R', splice ((List.replicate m X).flatten ++ R) (m * sz) (List.replicate k X).flatten = (List.replicate (m + k) X).flatten ++ R' ∧ R'.length = (n - (m + k)) * sz := by
  refine ⟨R.drop (k * sz), ?_, ?_⟩
  · have h1 := flat_rep hX m
    have h2 := flat_rep hX k
    unfold splice
    rw [h2, List.take_left' h1, ← Nat.add_mul, ← List.replicate_append_replicate, List.flatten_append, List.append_assoc, List.drop_append, h1, List.drop_eq_nil_of_le (by rw [h1]; exact Nat.mul_le_mul_right _ (by omega)), List.nil_append, show (m + k) * sz - m * sz = k * sz by rw [Nat.add_mul]; omega]
  · rw [List.length_drop, hR, ← Nat.sub_mul]
    congr 1
    omega
theorem rep_pre {X : List Value} {m k : Nat} (hk : k ≤ m) (R : List Value) {j : Nat} {v : Value} (h : (List.replicate k X).flatten[j]? = some v) : ((List.replicate m X).flatten ++ R)[j]? = some v := by
  obtain ⟨d, rfl⟩ : ∃ d, m = k + d := ⟨m - k, by omega⟩
  rw [← List.replicate_append_replicate, List.flatten_append, List.append_assoc, List.getElem?_append_left (List.getElem?_eq_some_iff.1 h).1]
  exact h
theorem copy_src (gx : Nat) (X : List Value) (k m : Nat) (hk : k ≤ m) (R : List Value) (w : World) {T : TypeId} (h : w.heap[gx]? = some (.cells ((List.replicate m X).flatten ++ R).toArray T (0, 0))) : ∀ j v, (List.replicate k X).flatten[j]? = some v → w.cell? ((⟨gx, 0, none⟩ : Addr).add j) = some v := by
  intro j v hj
  have h9 := rep_pre (X := X) (m := m) hk R hj
  rw [show (⟨gx, 0, none⟩ : Addr).add j = ⟨gx, j, none⟩ by unfold Addr.add; split <;> simp_all, cell_of_blk h]
  simpa using h9

theorem infoRTree : (Try.prog.info? 27).map (fun i => (i.zero, i.size, i.bytes)) = some (some (.agg #[.int .i64 0, .slice none 0 0, .int .i32 0, .slice none 0 0, .int .i64 0, .int .i64 0, .string ⟨#[]⟩, .int .i64 0, .int .i64 0, .bool false]), 10, 120) := by kernel_rfl
theorem infoRsTree : (Try.prog.info? 27).map (·.size) = some 10 := by kernel_rfl
set_option maxRecDepth 100000 in
set_option maxHeartbeats 2000000 in
theorem repTree (w : World) (gx n : Nat) (X : List Value) (hX : X.length = 10) (h1 : ∀ u ∈ X, u.oneCell' = true) (hg : w.heap[gx]? = some (.cells X.toArray 27 (0, 0))) (hn : n ≤ 1000000) :
    Calls Try.prog 49 #[.slice (some ⟨gx, 0, none⟩) 1 1, .int .i64 n] w (RepPost 27 10 n X w) := by
  obtain ⟨i0, hi, hz0, hz1, hz2⟩ := info_parts infoRTree
  have hmul := fun W => mul_one n (by omega) W
  have hone : ∀ k, ∀ u ∈ (List.replicate k X).flatten, u.oneCell' = true := fun k u hu => by
    obtain ⟨c', hc', hu'⟩ := List.mem_flatten.1 hu
    rw [(List.mem_replicate.1 hc').2] at hu'
    exact h1 u hu'
  have H := Lib.hid (And.intro hX (And.intro hg hone))
  clear hX hg hone h1
  have hsz : gx < w.heap.size := heap_lt H.out.2.1
  obtain ⟨m0, hm0⟩ : ∃ m0, Nat.min 1 n = m0 := ⟨_, rfl⟩
  have HM := Lib.hid hm0
  clear hm0
  go_enter Try.func49, Try.ntmps49
  go_wp2_with (first | (go_at_call 66; refine (hmul _).mono ?_; clear hmul; rintro e w' ⟨rfl, rfl⟩) | (at_make; refine wpList_make_full _ rfl _ _ 23 rfl w.heap.size 27 i0 (.agg #[.int .i64 0, .slice none 0 0, .int .i32 0, .slice none 0 0, .int .i64 0, .int .i64 0, .string ⟨#[]⟩, .int .i64 0, .int .i64 0, .bool false]) 10 Try.underlying23 hi hz0 hz1 _ _ _ _ n rfl rfl rfl rfl (by rw [hz2]; omega) (by unfold maxLen; omega) (Nat.le_refl _) ?_))
  intro w1 hown hgr
  have hs1 : w1.heap.size = w1.heap.size := rfl
  rcases hown.2 with ⟨hv, _⟩ | ⟨g, cap, cur, hv, _, hcur, _, _, hcs, _⟩
  · simp at hv
  simp only [Value.slice.injEq, Option.some.injEq, Addr.mk.injEq, and_true, true_and] at hv
  obtain ⟨rfl, rfl⟩ := hv
  have hb1 : Below w.heap.size w w1 := (Below.refl _ _).grown hgr (Nat.le_refl _) (fun k e => by cases e)
  have hgx1 := (hb1.block gx hsz).trans H.out.2.1
  have H1 := Lib.hid (And.intro hb1 (And.intro hcur (And.intro (show cur.toList.length = n * 10 by simpa using hcs) hgx1)))
  clear hown hgr hb1 hcur hcs hgx1 hs1
  have hc1 := copy_src gx X m0 1 (by rw [← HM.out]; exact Nat.min_le_left 1 n) [] w1 (by simpa using H1.out.2.2.2)
  have hc2 : 0 + (List.replicate m0 X).flatten.length ≤ cur.toList.length := by
    rw [flat_rep H.out.1, H1.out.2.2.1, Nat.zero_add]
    exact Nat.mul_le_mul_right _ (by rw [← HM.out]; exact Nat.min_le_right 1 n)
  have HC := Lib.hid (And.intro hc1 hc2)
  clear hc1 hc2
  go_wp2_with ((refine wpList_copyS rfl _ _ 23 23 rfl 27 10 Try.underlying23 infoRsTree _ _ _ _ _ _ rfl rfl w.heap.size 0 cur.toList 27 (by simpa using H1.out.2.1) (List.replicate m0 X).flatten (by rw [HM.out]; exact flat_rep H.out.1 _) (fun _ => ⟨rfl, _, rfl, HC.out.1⟩) (by decide) HC.out.2 (H.out.2.2 _) m0 HM.out ?_))
  intro w2 HG2 hgr2 hs2
  have hm : m0 ≤ n := by rw [← HM.out]; exact Nat.min_le_right 1 n
  have hm0 : 0 < n → 0 < m0 := fun h => by rw [← HM.out]; show 0 < min 1 n; omega
  obtain ⟨R, hR1, hR2⟩ := rep_splice (X := X) H.out.1 (m := 0) (n := n) (R := cur.toList) (by rw [H1.out.2.2.1, Nat.sub_zero]) hm
  simp only [List.replicate_zero, List.flatten_nil, List.nil_append, Nat.zero_mul, Nat.zero_add] at hR1 hR2
  have hb2 : Below w.heap.size w w2 := H1.out.1.grown hgr2 H1.out.1.size (fun k e => by cases e; exact Nat.le_refl _)
  have hc2 := HG2.out
  rw [hR1] at hc2
  have H2 := Lib.hid (And.intro hb2 (And.intro hc2 hR2))
  clear HG2 hgr2 hs2 hR1 hR2 hb2 hc2
  go_wp2_with fail
  go_loopw [8] (fun s8 wr => RepRel w 27 10 n X s8 wr) (fun s8 _ => n - (intOf s8).toNat)
  case atStart => exact ⟨m0, R, rfl, hm, hm0, H2.out.1, H2.out.2.1, H2.out.2.2⟩
  case round =>
    obtain ⟨m, R, rfl, hmn, hmp, hBr, hcr, hRl⟩ := hrel
    have HR := Lib.hid (And.intro hBr (And.intro hcr (And.intro hRl hmp)))
    clear hBr hcr hRl hmp H2 H1 hm hm0
    by_cases hlt : m < n
    · obtain ⟨k, hk⟩ : ∃ k, k = Nat.min m (n - m) := ⟨_, rfl⟩
      have hmp := HR.out.2.2.2 (by omega)
      have hkb : 0 < k ∧ k ≤ m ∧ k ≤ n - m := by have hk' : k = min m (n - m) := hk; omega
      obtain ⟨hk1, hk2, hk3⟩ := hkb
      have HK := Lib.hid hk
      clear hk
      have hi1 : (0 : Int) ≤ (m : Int) := by omega
      have hi2 : (m : Int) ≤ (n : Int) := by omega
      have hw9 : IntKind.i64.wrap ((m : Int) + (k : Int)) = (m : Int) + (k : Int) := IntWalk.i64_in _ (by omega)
      go_wp2_with fail
      have hsrc := copy_src w.heap.size X k m hk2 R wr.drew HR.out.2.1
      have hfit : m * 10 + (List.replicate k X).flatten.length ≤ ((List.replicate m X).flatten ++ R).length := by
        rw [List.length_append, flat_rep H.out.1, flat_rep H.out.1, HR.out.2.2.1]
        exact Nat.add_le_add_left (Nat.mul_le_mul_right _ hk3) _
      have HS := Lib.hid (And.intro hsrc hfit)
      clear hsrc hfit
      go_region_law ((refine step_copyS (by rfl) (.tmp 41) (.tmp 44) 23 23 (by rfl) 27 10 Try.underlying23 infoRsTree (if n = m then some ⟨w.heap.size, 0, none⟩ else some ⟨w.heap.size, m * 10, none⟩) (some ⟨w.heap.size, 0, none⟩) (n - m) (n - m) m n (by simp [Act.eval, Act.put]) (by simp [Act.eval, Act.put]) w.heap.size (m * 10) ((List.replicate m X).flatten ++ R) 27 HR.out.2.1 (List.replicate k X).flatten (by rw [← HK.out]; exact flat_rep H.out.1 _) (fun _ => ⟨by rw [if_neg (by omega)], _, rfl, HS.out.1⟩) (by decide) HS.out.2 (H.out.2.2 _) k HK.out.symm ?_; intro w3 HG3 hgr3 hs3))
      obtain ⟨R', hR1, hR2⟩ := rep_splice (X := X) H.out.1 (m := m) (n := n) (R := R) HR.out.2.2.1 hk3
      have hc3 := HG3.out
      rw [hR1] at hc3
      have hb3 : Below w.heap.size w w3 := (HR.out.1.drew).grown hgr3 HR.out.1.size (fun k e => by cases e; exact Nat.le_refl _)
      have H3 := Lib.hid (And.intro hb3 (And.intro hc3 hR2))
      clear HG3 hgr3 hs3 hR1 hR2 hb3 hc3
      go_wp2_with fail
      go_roundw
      case rel => exact ⟨m + k, R', by go_num, by omega, fun _ => by omega, H3.out.1, H3.out.2.1, H3.out.2.2⟩
      case measure => simp [intOf]; omega
    · obtain rfl : m = n := by omega
      go_wp2_with fail
      go_ret
      refine ⟨.slice (some ⟨w.heap.size, 0, none⟩) m m, rfl, ⟨⟨?_, .inr ⟨w.heap.size, m, ((List.replicate m X).flatten ++ R).toArray, by rw [List.length_replicate], Nat.le_refl _, HR.out.2.1, by rw [List.length_replicate]; exact Nat.le_refl _, by unfold maxLen; omega, ?_, ?_⟩⟩, fun c hc => by rw [(List.mem_replicate.1 hc).2]; exact H.out.1⟩, HR.out.1⟩
      · rw [List.length_replicate]; exact flat_rep H.out.1 _
      · have h9 := flat_rep H.out.1 m
        have h8 := HR.out.2.2.1
        rw [List.size_toArray, List.length_append, h9, h8]; omega
      · rw [List.length_replicate]
        exact List.take_left' (flat_rep H.out.1 m)
end Go.Proofs.Ytdnbholiijgedaa
