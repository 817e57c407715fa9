/-
  trees.each, trees.all: all of a tree's parts are handed on, in order. No condition.
-/
import Derived.Test.YtdnbholiijgedaaCore
import Derived.Test.YtdnbholiijgedaaProg
import Derived.RangeFuncNested
import Derived.RangeFuncBound
import Derived.RangeFuncCalls
import Derived.RangeFuncLeaves
import Derived.Shelf.Abstract
import Derived.Shelf.RegionOpen
import Derived.OwnWalkIn
import Derived.TacticsInMore
import Derived.LoopNIn
import Derived.LoopIn
namespace Go.Proofs.Ytdnbholiijgedaa
open Go.RowKit Go.Shelf
set_option linter.unusedVariables false
attribute [local go_sem] Oper.semAt_some

/-- A part that is handed on: a tree, and the cells in which it is handed on; what it leads to lies below n₀ in W0. -/
abbrev PartAt (Q : Tr → Prop) (n₀ : Nat) (W0 : World) : Type := { x : Tr × List Value // TrC (fun b => b < n₀) W0 x.1 x.2 ∧ Q x.1 }

theorem take_flat_snoc {α β : Type} (f : α → List β) (l : List α) (k : Nat) (h : k < l.length) : (l.take (k + 1)).flatMap f = (l.take k).flatMap f ++ f l[k] := by
  rw [List.take_succ_eq_append_getElem h, List.flatMap_append]; simp

set_option maxRecDepth 100000 in
set_option maxHeartbeats 2000000 in
theorem each_in (Q : Tr → Prop) (l B0 B1 N : Nat) (W0 : World) (hB0 : B0 ≤ B1) (hB1 : B1 ≤ W0.heap.size) (J Jx : List (PartAt Q B0 W0) → World → Prop)
    (hJ : ∀ s W o, J s W → J s (W.alloc o))
    (hY : ∀ m pre (x : PartAt Q B0 W0) W, J pre W → pre.length < N → Below B0 W0 W → YieldAt Fence.wide m Try.prog l #[.agg x.1.2.toArray] W fun e W' =>
      (e = .returned (.bool true) ∧ J (pre ++ [x]) W' ∧ Keeps B0 B1 W W') ∨ (e = .returned (.bool false) ∧ Jx (pre ++ [x]) W')) (k : Nat) :
    ∀ (t : Tr) (cs : List Value) (n : Nat) (pre : List (PartAt Q B0 W0)) (W : World), (parts t).length ≤ k → TrC (fun b => b < B0) W0 t cs → (∀ p ∈ parts t, Q p) → Below B0 W0 W → J pre W → pre.length + (parts t).length ≤ N →
      CallsIn Fence.wide n Try.prog 52 #[.agg cs.toArray, .func (.yield l) #[] #[]] W fun e W' =>
        (e = .returned (.bool true) ∧ ∃ ys : List (PartAt Q B0 W0), ys.map (·.1.1) = parts t ∧ J (pre ++ ys) W' ∧ Keeps B0 B1 W W') ∨
        (e = .returned (.bool false) ∧ ∃ ys : List (PartAt Q B0 W0), ys.map (·.1.1) <+: parts t ∧ Jx (pre ++ ys) W') := by
  induction k with
  | zero => intro t cs n pre W hk; rw [parts_eq] at hk; simp at hk
  | succ k ih =>
    intro t cs n pre W hk ht hQ hB hJ0 hN
    have hsz : B1 ≤ W.heap.size := Nat.le_trans hB1 hB.size
    have hQt : Q t := hQ t (by rw [parts_eq]; simp)
    have hy := hY (n - 1) pre ⟨(t, cs), ht, hQt⟩
    obtain ⟨A, c, B, d, rfl, h1, h2, h3, h4, h5, h6⟩ := trC_iff.1 ht
    have hdd : ∀ k : Nat, (Fence.wide.depth.isSome = true → 1 ≤ k) := fun k h => by simp [Fence.wide] at h
    have hF : Fence.wide.fn 52 := trivial
    have hkl : t.kids.length ≤ 9223372036854775807 := by unfold maxLen at h2; omega
    obtain ⟨fn, tmps, assign, body, hy1, hR⟩ := hy _ (hJ _ _ (.cells #[.int .i64 t.op, .slice A t.kids.length c, .int .i32 t.rune, .slice B t.set.length d, .int .i64 t.at_, .int .i64 t.cap, .string t.name, .int .i64 t.mn, .int .i64 t.mx, .bool t.lz] 27) hJ0) (by rw [parts_eq] at hN; simp at hN; omega) (hB.alloc (by omega) _)
    have hR1 := hR.mono (R' := fun e W2 => (e = .returned (.bool true) ∧ J (pre ++ [⟨(t, _), ht, hQt⟩]) W2 ∧ Keeps B0 B1 W W2 ∧ W2.cell? ⟨W.heap.size, 1, none⟩ = some (.slice A t.kids.length c)) ∨ (e = .returned (.bool false) ∧ Jx (pre ++ [⟨(t, _), ht, hQt⟩]) W2)) (fun e W2 h => h.elim (fun ⟨he, hj, hk2⟩ => .inl ⟨he, hj, ((Keeps.refl _ _ _).alloc (by omega) _).trans hk2, by
      rw [World.cell?_of_block (hk2.cells W.heap.size _ _ _ hsz (World.alloc_heap_new _ _)), World.cell?_alloc_new]; rfl⟩) .inr)
    clear hy hR
    have HB := Lib.hid hB
    clear hB
    refine callsIn_of_wp Try.func52 rfl trivial ?_ rfl
    simp only [Try.ntmps52, List.size_toArray, List.length_cons, List.length_nil, Nat.reduceAdd, Nat.reduceSub, Array.replicate_succ, Array.replicate_zero, List.push_toArray, List.append_toArray, List.nil_append, List.cons_append]
    gi_wp2_with ((try refine ⟨hdd _, ?_⟩); refine hR1.mono ?_; clear hR1; rintro e W2 (⟨rfl, hJ2, hk2, hc2⟩ | ⟨rfl, hx2⟩))
    · gi_loopw [14] (fun v wr => ∃ (i : Nat) (ys : List (PartAt Q B0 W0)), v = .int .i64 i ∧ i ≤ t.kids.length ∧ ys.map (·.1.1) = t :: (t.kids.take i).flatMap parts ∧ J (pre ++ ys) wr ∧ Keeps B0 B1 W wr) (fun v _ => t.kids.length - (intOf v).toNat)
      case atStart => exact ⟨0, [⟨(t, _), ht, hQt⟩], rfl, Nat.zero_le _, by simp, hJ2, hk2⟩
      case round =>
        obtain ⟨i, ys, rfl, hi, hys, hJi, hki⟩ := hrel
        by_cases hlt : i < t.kids.length
        · have hBr : Below B0 W0 wr := HB.out.trans hki.below
          obtain ⟨ad, A1, c1, A3, c3, rfl, hTk, g0, g1, g2, g3, g4, g5, g6, g7, g8, g9⟩ := trArr_at h6 wr (fun b hb _ => hBr.block b hb) i hlt
          have hkk : (parts t.kids[i]).length ≤ k := by
            have := parts_eq t; rw [this, partsL_flat] at hk; simp only [List.length_cons] at hk
            have h7 : (parts t.kids[i]).length ≤ (t.kids.flatMap parts).length := by
              have h8 := take_flat_snoc parts t.kids i hlt
              have h9 := congrArg List.length (congrArg (List.flatMap parts) (List.take_append_drop (i + 1) t.kids))
              rw [List.flatMap_append, List.length_append, h8, List.length_append] at h9
              omega
            omega
          have hnn : (pre ++ ys).length + (parts t.kids[i]).length ≤ N := by
            have hp := parts_eq t; rw [hp, partsL_flat] at hN
            have h7 := congrArg List.length hys
            rw [List.length_map, List.length_cons] at h7
            have h8 := take_flat_snoc parts t.kids i hlt
            have h9 := congrArg List.length (congrArg (List.flatMap parts) (List.take_append_drop (i + 1) t.kids))
            rw [List.flatMap_append, List.length_append, h8, List.length_append] at h9
            rw [List.length_append]; simp only [List.length_cons] at hN
            omega
          have hih := ih t.kids[i] _ (n - 1) (pre ++ ys) _ hkk hTk (fun p hp => hQ p (by rw [parts_eq, partsL_flat]; exact List.mem_cons_of_mem _ (List.mem_flatMap.2 ⟨_, List.getElem_mem hlt, hp⟩))) (hBr.alloc (by have := HB.out.size; have := hki.below.size; omega) (.cells #[.int .i64 t.kids[i].op, .slice A1 t.kids[i].kids.length c1, .int .i32 t.kids[i].rune, .slice A3 t.kids[i].set.length c3, .int .i64 t.kids[i].at_, .int .i64 t.kids[i].cap, .string t.kids[i].name, .int .i64 t.kids[i].mn, .int .i64 t.kids[i].mx, .bool t.kids[i].lz] 27)) (hJ _ _ _ hJi) hnn
          have HT := Lib.hid hTk
          have HY := Lib.hid hys
          clear hTk hys hkk hnn ih hy1 hc2 hk2 hQ
          gi_wp2_with ((try refine ⟨hdd _, ?_⟩); gi_at_call 52; refine hih.mono ?_; clear hih; rintro e W3 (⟨rfl, zs, hzs, hJ3, hk3⟩ | ⟨rfl, zs, hzs, hx3⟩))
          · go_roundw
            case rel =>
              exact ⟨i + 1, ys ++ zs, by go_num, by omega, by rw [List.map_append, HY.out, hzs, take_flat_snoc parts t.kids i hlt, List.cons_append], by rw [← List.append_assoc]; exact hJ3, hki.trans (((Keeps.refl _ _ _).alloc (by have := hki.below.size; omega) _).trans hk3)⟩
            case measure => simp [intOf]; omega
          · go_ret
            exact .inr ⟨rfl, ys ++ zs, by
              rw [List.map_append, HY.out, parts_eq, partsL_flat, List.cons_append]
              have h9 := congrArg (List.flatMap parts) (List.take_append_drop (i + 1) t.kids)
              rw [List.flatMap_append, take_flat_snoc parts t.kids i hlt] at h9
              rw [← h9, List.append_assoc]
              exact List.cons_prefix_cons.2 ⟨rfl, (List.prefix_append_right_inj _).2 (hzs.trans (List.prefix_append _ _))⟩, by rw [← List.append_assoc]; exact hx3⟩
        · have HY := Lib.hid hys
          obtain rfl : i = t.kids.length := by omega
          clear hys ih hQ
          gi_wp2
          go_ret
          exact .inl ⟨rfl, ys, by rw [HY.out, parts_eq, partsL_flat, List.take_length], hJi, hki⟩
    · go_ret
      exact .inr ⟨rfl, [⟨(t, _), ht, hQt⟩], by rw [parts_eq]; simp, hx2⟩

theorem wide_room (k : Nat) : Fence.wide.room k := fun d h => by simp [Fence.wide] at h
theorem round_anyDepth {m m' : Nat} {P : Program} {l : Nat} {f : FuncId} {tmps : Array Value} {assign body : Code} {w : World} {R : Ending → World → Prop}
    (h : RoundIn Fence.wide m P l f tmps assign body w R) : RoundIn Fence.wide m' P l f tmps assign body w R := ⟨h.1, fun c cs _ => h.2 c cs (wide_room _)⟩
theorem yield_anyDepth {m : Nat} (m' : Nat) {P : Program} {l : Nat} {args : Array Value} {W : World} {R : Ending → World → Prop} (h : YieldAt Fence.wide m P l args W R) : YieldAt Fence.wide m' P l args W R := by
  obtain ⟨fn, tmps, assign, body, hy, hR⟩ := h
  exact ⟨fn, tmps, assign, body, hy, round_anyDepth hR⟩

set_option maxHeartbeats 1000000 in
theorem all_stops (Q : Tr → Prop) (n B0 B1 Bt : Nat) (w : World) (t : Tr) (cs : List Value) (hB0 : B0 ≤ B1) (hB1 : B1 ≤ w.heap.size) (hbt : w.heap[Bt]? = some (.cells cs.toArray 27 (0, 0))) (ht : TrC (fun b => b < B0) w t cs) (hQ : ∀ p ∈ parts t, Q p) :
    SeqStopsK Fence.wide n Try.prog 51 #[.pointer (some ⟨Bt, 0, none⟩)] (fun x : PartAt Q B0 w => #[Value.agg x.1.2.toArray]) (Keeps B0 B1) (fun ys => ys.map (·.1.1) = parts t) (fun pre => pre.map (·.1.1) <+: parts t) (parts t).length w := by
  intro l J Jx W hW hJ hJx hY h0
  have hB0w : Below B0 w W := hW.mono (by omega)
  have hbW : W.heap[Bt]? = some (.cells cs.toArray 27 (0, 0)) := (hW.block _ (heap_lt hbt)).trans hbt
  have hE := each_in Q l B0 B1 (parts t).length w hB0 hB1 J Jx (fun s W o hs => hJ s W _ none hs (World.grownBy_alloc W o none) (fun r e => by cases e))
    (fun m pre x W1 hj hl _ => yield_anyDepth m (hY pre x W1 hj hl)) (parts t).length t cs (n - 1) [] W (Nat.le_refl _) ht hQ hB0w h0 (by simp)
  obtain ⟨A, c, B, d, rfl, _⟩ := trC_iff.1 ht
  obtain ⟨g0, g1, g2, g3, g4, g5, g6, g7, g8, g9⟩ := cells10 hbW
  have hF : Fence.wide.fn 52 := trivial
  have hdd : ∀ k : Nat, (Fence.wide.depth.isSome = true → 1 ≤ k) := fun k h => by simp [Fence.wide] at h
  clear hbW hbt hY h0 hB0w hW hQ
  refine callsIn_of_wp Try.func51 rfl trivial ?_ rfl
  simp only [Try.ntmps51, List.size_toArray, List.length_cons, List.length_nil, Nat.reduceAdd, Nat.reduceSub, Array.replicate_succ, Array.replicate_zero, List.push_toArray, List.append_toArray, List.nil_append, List.cons_append]
  gi_wp2_with ((try refine ⟨hdd _, ?_⟩); gi_at_call 52; refine hE.mono ?_; clear hE; rintro e W1 (⟨rfl, ys, hys, hJ1, _⟩ | ⟨rfl, ys, hys, hx⟩))
  · go_end0
    exact ⟨⟨_, rfl⟩, .inl ⟨ys, hys, by simpa using hJ1⟩⟩
  · go_end0
    exact ⟨⟨_, rfl⟩, .inr ⟨ys, hys, by simpa using hx⟩⟩

set_option maxHeartbeats 1000000 in
theorem all_any (w : World) (c0 c1 c2 c3 c4 c5 c6 c7 c8 c9 : Value) :
    Calls Try.prog 27 #[.agg #[c0, c1, c2, c3, c4, c5, c6, c7, c8, c9]] w fun e w' =>
      e = .returned (.func (.func 51) #[] #[.pointer (some ⟨w.heap.size, 0, none⟩)]) ∧ w.alloc (.cells #[c0, c1, c2, c3, c4, c5, c6, c7, c8, c9] 27) = w' := by
  go_enter Try.func27, Try.ntmps27
  go_wp2
  go_ret
  exact ⟨rfl, rfl⟩
end Go.Proofs.Ytdnbholiijgedaa
