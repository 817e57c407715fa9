/-
  The stretches between edges, in plain words; the order among edges at one place does not matter. No condition.
  sets.spans: what is handed on. No condition.
-/
import Derived.Test.YtdnbholiijgedaaEdges
import Derived.Test.YtdnbholiijgedaaEach
namespace Go.Proofs.Ytdnbholiijgedaa
set_option linter.unusedVariables false

/-- The stretches between edges, each with how many ranges are there. -/
def spansOf : Int → Int → List (Int × Int) → List (Rg × Int)
  | f, n, [] => if f ≤ 1114111 then [(⟨f, 1114111⟩, n)] else []
  | f, n, x :: es => if f < x.1 then (⟨f, x.1 - 1⟩, n) :: spansOf x.1 (n + x.2) es else spansOf f (n + x.2) es

theorem spans_move (x : Int × Int) (v : List (Int × Int)) : ∀ (u : List (Int × Int)) (f n : Int), (∀ y ∈ u, y.1 = x.1) → spansOf f n (u ++ x :: v) = spansOf f n (x :: (u ++ v))
  | [], f, n, _ => rfl
  | y :: u, f, n, h => by
    have hy := h y (by simp)
    have ih := fun f n => spans_move x v u f n (fun z hz => h z (by simp [hz]))
    rw [List.cons_append, spansOf]
    by_cases h1 : f < y.1
    · rw [if_pos h1, ih, spansOf, if_neg (by omega), spansOf, if_pos (by omega), List.cons_append, spansOf, if_neg (by omega), hy, Int.add_right_comm]
    · rw [if_neg h1, ih, spansOf, spansOf]
      rw [if_neg (by omega), if_neg (by omega), List.cons_append, spansOf, if_neg (by omega), Int.add_right_comm]

theorem spans_perm : ∀ (es es' : List (Int × Int)) (f n : Int), es.Perm es' → es.Pairwise (fun x y => x.1 ≤ y.1) → es'.Pairwise (fun x y => x.1 ≤ y.1) → spansOf f n es = spansOf f n es'
  | [], es', f, n, hp, _, _ => by rw [List.nil_perm.1 hp]
  | x :: es, es', f, n, hp, h1, h2 => by
    obtain ⟨u, v, rfl⟩ := List.append_of_mem (hp.subset (by simp : x ∈ x :: es))
    have hu : ∀ y ∈ u, y.1 = x.1 := fun y hy => by
      have h3 := (List.pairwise_append.1 h2).2.2 y hy x (by simp)
      have h4 : y ∈ x :: es := hp.symm.subset (by simp [hy])
      rcases List.mem_cons.1 h4 with rfl | h4
      · rfl
      · have := (List.pairwise_cons.1 h1).1 y h4
        omega
    rw [spans_move x v u f n hu]
    have hp2 : es.Perm (u ++ v) := (List.perm_cons x).1 (hp.trans List.perm_middle)
    have h5 : (u ++ v).Pairwise (fun x y => x.1 ≤ y.1) := h2.sublist (List.Sublist.append (List.Sublist.refl u) (List.sublist_cons_self x v))
    have ih := fun f n => spans_perm es (u ++ v) f n hp2 (List.pairwise_cons.1 h1).2 h5
    rw [spansOf, spansOf]
    split <;> rw [ih]

/-- A stretch is put behind those that are there already. -/
def putSpan (out : List Rg) (x : Rg) : List Rg :=
  match out.getLast? with
  | some y => if y.hi + 1 = x.lo then out.dropLast ++ [⟨y.lo, x.hi⟩] else out ++ [x]
  | none => [x]
/-- The set of the stretches whose number is right. -/
def thoseOf (is : Int → Bool) (ss : List (Rg × Int)) : List Rg := ss.foldl (fun out s => if is s.2 then putSpan out s.1 else out) []
theorem those_next (is : Int → Bool) (ss : List (Rg × Int)) (s : Rg × Int) : thoseOf is (ss ++ [s]) = if is s.2 then putSpan (thoseOf is ss) s.1 else thoseOf is ss := by
  simp [thoseOf, List.foldl_append]
/-- The union of lists. -/
def normOf (ls : List (List Rg)) : List Rg := thoseOf (fun n => decide (0 < n)) (spansOf 0 0 ((edgesOf ls).mergeSort fun x y => decide (x.1 ≤ y.1)))
theorem norm_any (ls : List (List Rg)) (es : List (Int × Int)) (hp : es.Perm (edgesOf ls)) (hs : es.Pairwise (fun x y => x.1 ≤ y.1)) : thoseOf (fun n => decide (0 < n)) (spansOf 0 0 es) = normOf ls := by
  unfold normOf
  rw [spans_perm es _ 0 0 (hp.trans (List.mergeSort_perm _ _).symm) hs]
  have h := List.pairwise_mergeSort (le := fun x y : Int × Int => decide (x.1 ≤ y.1)) (fun a b c h1 h2 => by simp at *; omega) (fun a b => by simp; omega) (edgesOf ls)
  exact h.imp (fun h => by simpa using h)
end Go.Proofs.Ytdnbholiijgedaa
namespace Go.Proofs.Ytdnbholiijgedaa
open Go.RowKit Go.Shelf
set_option linter.unusedVariables false
attribute [local go_sem] Oper.semAt_some

/-- What a round of the ranging code keeps: what lay there ahead of the call; each edge. -/
def KeepsE (B0 : Nat) (W W' : World) : Prop := Below B0 W W' ∧ ∀ (b : Nat) (cs : Array Value) (fr : Nat × Nat), W.heap[b]? = some (.cells cs 113 fr) → W'.heap[b]? = some (.cells cs 113 fr)
theorem KeepsE.trans {B0 : Nat} {A B C : World} (h : KeepsE B0 A B) (k : KeepsE B0 B C) : KeepsE B0 A C := ⟨h.1.trans k.1, fun b cs fr hb => k.2 b cs fr (h.2 b cs fr hb)⟩
theorem KeepsE.of_below {B0 : Nat} {A B : World} (h : Below A.heap.size A B) (hB : B0 ≤ A.heap.size) : KeepsE B0 A B := ⟨h.mono hB, fun b cs fr hb => (h.block b (heap_lt hb)).trans hb⟩
def spanA (s : Rg × Int) : Array Value := #[.agg #[.int .i32 s.1.lo, .int .i32 s.1.hi], .int .i64 s.2]
theorem spans_len : ∀ (es : List (Int × Int)) (f n : Int), (spansOf f n es).length ≤ es.length + 1
  | [], f, n => by rw [spansOf]; split <;> simp
  | x :: es, f, n => by
    have ih := fun f n => spans_len es f n
    rw [spansOf]
    split
    · have := ih x.1 (n + x.2); simp; omega
    · have := ih f (n + x.2); simp; omega

theorem edge_at {ok : Nat → Prop} {w wr : World} {B : Option Addr} {l : List (Int × Int)} (h : Arr ok w 2 (fun x cs => cs = edgeC x) B l) (hb : ∀ b, ok b → wr.heap[b]? = w.heap[b]?) (j : Nat) (hj : j < l.length) :
    ∃ ad, B = some ad ∧ wr.cell? (ad.add (j * 2)) = some (.int .i32 l[j].1) ∧ wr.cell? ⟨(ad.add (j * 2)).block, (ad.add (j * 2)).off + 1, none⟩ = some (.int .i64 l[j].2) := by
  obtain ⟨ad, cs, rfl, hok, hr, _, hc⟩ := h j _ (List.getElem?_eq_getElem hj)
  rw [hr] at hc
  have h0 := hc 0 _ rfl
  have h1 := hc 1 _ rfl
  rw [add_field _ _ _ (by omega)] at h1
  refine ⟨ad, rfl, ?_, ?_⟩
  · rw [← h0]; exact World.cell?_of_block (by rw [add_block]; exact hb _ hok)
  · rw [← h1]; exact World.cell?_of_block (by show wr.heap[(ad.add (j * 2)).block]? = _; rw [add_block]; exact hb _ hok)
set_option maxRecDepth 100000 in
set_option maxHeartbeats 4000000 in
theorem spans_stops (n B0 Bt : Nat) (w : World) (A : Option Addr) (cap : Nat) (es : List (Int × Int)) (hB0 : B0 ≤ w.heap.size) (hbt : w.heap[Bt]? = some (.cells #[.slice A es.length cap] 106 (0, 0)))
    (hes : Arr (fun b => b < B0) w 2 (fun x cs => cs = edgeC x) A es) (hN : es.length ≤ 1000000000000) (hv : ∀ x ∈ es, (0 ≤ x.1 ∧ x.1 ≤ 1114112) ∧ (-1 ≤ x.2 ∧ x.2 ≤ 1)) :
    SeqStopsK Fence.wide n Try.prog 81 #[.pointer (some ⟨Bt, 0, none⟩)] spanA (KeepsE B0) (fun ys => ys = spansOf 0 0 es) (fun pre => pre <+: spansOf 0 0 es) (spansOf 0 0 es).length w := by
  intro l J Jx W hW hJ hJx hY h0
  have hc0 : W.cell? ⟨Bt, 0, none⟩ = some (.slice A es.length cap) := by rw [hW.cell (p := ⟨Bt, 0, none⟩) (heap_lt hbt), cell_of_blk hbt]; rfl
  have hJa : ∀ s W o, J s W → J s (W.alloc o) := fun s W o hs => hJ s W _ none hs (World.grownBy_alloc W o none) (fun r e => by cases e)
  have hdd : ∀ k : Nat, (Fence.wide.depth.isSome = true → 1 ≤ k) := fun k h => by simp [Fence.wide] at h
  have HE := Lib.hid (And.intro hes (And.intro hv (And.intro hW hbt)))
  have HY := Lib.hid hY
  have hsn := spans_len es 0 0
  clear hes hv hbt hY
  refine callsIn_of_wp Try.func81 rfl trivial ?_ rfl
  simp only [Try.ntmps81, List.size_toArray, List.length_cons, List.length_nil, Nat.reduceAdd, Nat.reduceSub, Array.replicate_succ, Array.replicate_zero, List.push_toArray, List.append_toArray, List.nil_append, List.cons_append]
  gi_wp2_with fail
  gi_loopw [3, 4, 9] (fun s3 s4 s9 wr => ∃ (i : Nat) (f m : Int) (ys : List (Rg × Int)), s9 = .int .i64 i ∧ s3 = .int .i32 f ∧ s4 = .int .i64 m ∧ i ≤ es.length ∧ (0 ≤ f ∧ f ≤ 1114112) ∧ (-(i : Int) ≤ m ∧ m ≤ i) ∧ Hid (ys ++ spansOf f m (es.drop i) = spansOf 0 0 es) ∧ J ys wr ∧ Below B0 W wr) (fun _ _ v _ => es.length - (intOf v).toNat)
  case atStart => exact ⟨0, 0, 0, [], rfl, rfl, rfl, Nat.zero_le _, by omega, by omega, Lib.hid rfl, h0, Below.refl _ _⟩
  case round =>
    obtain ⟨i, f, m, ys, rfl, rfl, rfl, hi, hf, hm, HS, hJi, hBr⟩ := hrel
    by_cases hlt : i < es.length
    · obtain ⟨ad, rfl, hc1, hc2⟩ := edge_at HE.out.1 (fun b hb => (hBr.block b hb).trans (HE.out.2.2.1.block b (by omega))) i hlt
      have hvv := HE.out.2.1 _ (List.getElem_mem hlt)
      obtain ⟨a, ha⟩ : ∃ a, a = es[i].1 := ⟨_, rfl⟩
      obtain ⟨b, hb⟩ : ∃ b, b = es[i].2 := ⟨_, rfl⟩
      rw [← ha] at hc1 hvv
      rw [← hb] at hc2 hvv
      have hdrop : es.drop i = (a, b) :: es.drop (i + 1) := by
        rw [List.drop_eq_getElem_cons hlt, ha, hb]
      have HD := Lib.hid (And.intro hdrop hBr)
      clear ha hb hdrop
      have hJ1 := hJa _ _ (.cells #[.int .i32 a, .int .i64 b] 113) hJi
      by_cases hfa : f < a
      · have hS2 : (ys ++ [((⟨f, a - 1⟩ : Rg), m)]) ++ spansOf a (m + b) (es.drop (i + 1)) = spansOf 0 0 es := by
          rw [← HS.out, HD.out.1, spansOf, if_pos hfa]; simp
        have hpl : ys.length < (spansOf 0 0 es).length := by rw [← hS2]; simp
        obtain ⟨fn, tmps, assign, body, hy1, hR⟩ := HY.out ys (⟨f, a - 1⟩, m) _ hJ1 hpl
        have hR1 := hR.mono (R' := fun e W2 => (e = .returned (.bool true) ∧ J (ys ++ [((⟨f, a - 1⟩ : Rg), m)]) W2 ∧ Below B0 W W2 ∧ W2.cell? ⟨wr.heap.size, 0, none⟩ = some (.int .i32 a) ∧ W2.cell? ⟨wr.heap.size, 1, none⟩ = some (.int .i64 b)) ∨ (e = .returned (.bool false) ∧ Jx (ys ++ [((⟨f, a - 1⟩ : Rg), m)]) W2))
          (fun e W2 h => h.elim (fun ⟨he, hj, hk2⟩ => .inl ⟨he, hj, (hBr.alloc (Nat.le_trans hB0 (Nat.le_trans HE.out.2.2.1.size hBr.size)) _).trans hk2.1, by rw [cell_of_blk (hk2.2 _ _ _ (heap_new1 _ _))]; rfl, by rw [cell_of_blk (hk2.2 _ _ _ (heap_new1 _ _))]; rfl⟩) .inr)
        dsimp only [spanA] at hy1 hR1
        have HS2 := Lib.hid hS2
        have hpre : (ys ++ [((⟨f, a - 1⟩ : Rg), m)]) <+: spansOf 0 0 es := by rw [← hS2]; exact List.prefix_append _ _
        have HP := Lib.hid hpre
        clear hR hS2 hpl hJ1 hJi hBr hpre
        gi_wp2_with ((try refine ⟨hdd _, ?_⟩); refine hR1.mono ?_; clear hR1; rintro e W2 (⟨rfl, hJ2, hk2, q0, q1⟩ | ⟨rfl, hx2⟩))
        · go_roundw
          case rel => exact ⟨i + 1, a, m + b, _, by go_num, rfl, rfl, by omega, by omega, by omega, HS2, hJ2, hk2⟩
          case measure => simp [intOf]; omega
        · refine bodyPost_ret (results_none rfl _ _ _) rfl ?_
          exact ⟨⟨_, rfl⟩, .inr ⟨_, HP.out, hx2⟩⟩
      · have hS2 : ys ++ spansOf f (m + b) (es.drop (i + 1)) = spansOf 0 0 es := by
          rw [← HS.out, HD.out.1, spansOf, if_neg hfa]
        have HS2 := Lib.hid hS2
        have hB2 := hBr.alloc (Nat.le_trans hB0 (Nat.le_trans HE.out.2.2.1.size hBr.size)) (.cells #[.int .i32 a, .int .i64 b] 113)
        have HB2 := Lib.hid (And.intro hJ1 hB2)
        clear hS2 hJ1 hJi hBr hB2
        gi_wp2
        go_roundw
        case rel => exact ⟨i + 1, f, m + b, _, by go_num, rfl, by go_num, by omega, by omega, by omega, HS2, HB2.out.1, HB2.out.2⟩
        case measure => simp [intOf]; omega
    · obtain rfl : i = es.length := by omega
      by_cases hff : f ≤ 1114111
      · have hS2 : ys ++ [((⟨f, 1114111⟩ : Rg), m)] = spansOf 0 0 es := by
          rw [← HS.out, List.drop_length, spansOf, if_pos hff]
        have hpl : ys.length < (spansOf 0 0 es).length := by rw [← hS2]; simp
        obtain ⟨fn, tmps, assign, body, hy1, hR1⟩ := HY.out ys (⟨f, 1114111⟩, m) _ hJi hpl
        dsimp only [spanA] at hy1 hR1
        have HS2 := Lib.hid hS2
        clear hS2 hpl hJi hBr
        gi_wp2_with ((try refine ⟨hdd _, ?_⟩); refine hR1.mono ?_; clear hR1; rintro e W2 (⟨rfl, hJ2, hk2⟩ | ⟨rfl, hx2⟩))
        · go_end0
          exact ⟨⟨_, rfl⟩, .inl ⟨_, HS2.out, hJ2⟩⟩
        · go_end0
          exact ⟨⟨_, rfl⟩, .inr ⟨_, by rw [HS2.out]; exact List.prefix_rfl, hx2⟩⟩
      · have hS2 : ys = spansOf 0 0 es := by
          have := HS.out
          rw [List.drop_length, spansOf, if_neg hff, List.append_nil] at this
          exact this
        have HS2 := Lib.hid hS2
        clear hS2
        gi_wp2
        go_end0
        refine ⟨⟨_, rfl⟩, .inl ?_⟩
        first | exact HS2.out ▸ hJi | exact ⟨ys, HS2.out, hJi⟩
end Go.Proofs.Ytdnbholiijgedaa
