/-
  PrefixRuns: the walk. No condition.
-/
import Derived.Test.YtdnbholiijgedaaDoorRunsA
namespace Go.Proofs.YtdnbholiijgedaaDoor
open Go.RowKit Go.Shelf
set_option linter.unusedVariables false

theorem heap_newN {W : World} {o : Obj} {n : Nat} (h : n = W.heap.size) : (W.alloc o).heap[n]? = some o := by subst h; exact World.alloc_heap_new _ _
theorem heap_oldN {W : World} {o x : Obj} {n : Nat} (h2 : W.heap[n]? = some x) : (W.alloc o).heap[n]? = some x := (Below.heap_alloc _ _ _ (heap_lt h2)).trans h2
theorem kidsT {ok : Nat → Prop} {w : World} {base : Nat} {A : Option Addr} {d : Nat} {xs : List Int} (h : Owns w base 27 10 (.slice A xs.length d) (xs.map runeTC)) (hok : ∀ a, A = some a → ok a.block) (h1 : xs.length ≤ d) (h2 : d ≤ maxLen) :
    TrC ok w (nodeT 11 0 (xs.map runeT)) (nodeTC 11 0 A xs.length d) := by
  have := nodeTrC (op := 11) (cap := 0) (ownsKids h hok) (by simpa using h1) h2
  rwa [List.length_map] at this
theorem oneT {ok : Nat → Prop} {w : World} {op cap : Int} {b : Nat} {ty : TypeId} {fr : Nat × Nat} {t : Tr} {cs : List Value} (h : TrC ok w t cs) (hb : w.heap[b]? = some (.cells cs.toArray ty fr)) (hok : ok b) : TrC ok w (nodeT op cap [t]) (nodeTC op cap (some ⟨b, 0, none⟩) 1 1) :=
  nodeTrC (arrBlk hb hok [cs] [t] (by simp) rfl (fun i x c hx hc => by
    rcases i with _ | i
    · cases hx; cases hc; exact h
    · simp at hx)) (Nat.le_refl _) (by unfold maxLen; decide)
theorem threeT {ok : Nat → Prop} {w : World} {op cap : Int} {b : Nat} {ty : TypeId} {fr : Nat × Nat} {t t2 t3 : Tr} {cs cs2 cs3 : List Value} {arr : Array Value} (h : TrC ok w t cs) (h2 : TrC ok w t2 cs2) (h3 : TrC ok w t3 cs3) (hb : w.heap[b]? = some (.cells arr ty fr)) (hok : ok b) (ha : arr = (cs ++ (cs2 ++ cs3)).toArray) :
    TrC ok w (nodeT op cap [t, t2, t3]) (nodeTC op cap (some ⟨b, 0, none⟩) 3 3) :=
  nodeTrC (arrBlk hb hok [cs, cs2, cs3] [t, t2, t3] (by rw [ha]; simp) rfl (fun i x c hx hc => by
    rcases i with _ | _ | _ | i
    · cases hx; cases hc; exact h
    · cases hx; cases hc; exact h2
    · cases hx; cases hc; exact h3
    · simp at hx)) (Nat.le_refl _) (by unfold maxLen; decide)

set_option maxRecDepth 100000 in
set_option maxHeartbeats 4000000 in
theorem prefixRuns_any (ok : Nat → Prop) (w : World) (A : Option Addr) (c : Nat) (xs : List Int) (group again : Bool) (h : Arr ok w 1 (IntC .i32) A xs) (hN : xs.length ≤ c) (hc : c ≤ maxLen) :
    Calls Tryd.prog 6 #[.slice A xs.length c, .bool group, .bool again] w (HeadedPost w) := by
  have hh := head_any w
  have hl0 : xs.length ≤ 9223372036854775807 := by unfold maxLen at hc; omega
  by_cases hl : 1000 < xs.length
  · go_enter Tryd.func6, Tryd.ntmps6
    clear h
    go_wp2_with (go_at_call 7; refine hh.mono ?_; rintro e w1 ⟨rfl, hb1⟩)
    go_ret
    exact ⟨rfl, hb1⟩
  · obtain ⟨i0, hi, hx⟩ := Option.map_eq_some_iff.1 infoTree
    simp only [Prod.mk.injEq] at hx
    obtain ⟨hz0, hz1, hz2⟩ := hx
    have HA := Lib.hid h
    clear h
    go_enter Tryd.func6, Tryd.ntmps6
    go_wp2_with (go_at_call 7; refine hh.mono ?_; rintro e w1 ⟨rfl, hb1⟩)
    have HB := Lib.hid hb1
    clear hb1 hh
    go_loopw [8, 9] (fun v i wr => ∃ k : Nat, k ≤ xs.length ∧ i = .int .i64 k ∧ Hid (∀ (j : Nat) (hj : j < xs.length), j < k → 0 ≤ xs[j] ∧ xs[j] ≤ 1114111) ∧ Owns wr w.heap.size 27 10 v ((xs.take k).map runeTC) ∧ Below w.heap.size w wr) (fun _ i _ => xs.length - (intOf i).toNat)
    case atStart => exact ⟨0, Nat.zero_le _, rfl, Lib.hid (fun j _ h => by omega), Owns.nil _ _ _ _, HB.out⟩
    case round =>
      obtain ⟨k, hk, rfl, HJ, hown, hBr⟩ := hrel
      by_cases hlt : k < xs.length
      · obtain ⟨ad, rfl, hcw⟩ := ints_at HA.out k hlt
        have hcr : wr.cell? (ad.add k) = some (.int .i32 xs[k]) := (hBr.cell (cell_lt hcw)).trans hcw
        have HBr := Lib.hid hBr
        have HO := Lib.hid hown
        clear hBr hcw hown
        by_cases hlo : xs[k] < 0
        · go_wp2_with fail
          go_ret
          exact ⟨rfl, HBr.out⟩
        · by_cases hhi : 1114111 < xs[k]
          · go_wp2_with fail
            go_ret
            exact ⟨rfl, HBr.out⟩
          · obtain ⟨x, hx⟩ : ∃ x, x = xs[k] := ⟨_, rfl⟩
            rw [← hx] at hcr hlo hhi
            have HX := Lib.hid hx
            clear hx
            go_wp2_with (at_builtin; refine wpList_app1 rfl _ _ 23 rfl w.heap.size 27 i0 _ 10 120 Tryd.underlying23 hi hz0 hz1 hz2 rfl (by decide) _ _ rfl (HO.out.alloc _) _ (runeTC x) rfl rfl (heap_new1 _ _) ?c2 ?c3 ?c4 ?c5 ?_)
            case c2 => intro u hu; simp [runeTC] at hu; rcases hu with rfl | rfl | rfl | rfl | rfl | rfl | rfl | rfl | rfl | rfl <;> rfl
            case c3 => unfold maxLen; omega
            case c4 => omega
            case c5 => have := HBr.out.size; simp; omega
            intro v' w2 hown' hgrow
            have hb2 := below_app (below_al HBr.out (.cells (runeTC x).toArray 27)) (by have := HBr.out.size; simp; omega) (HO.out.alloc _) hgrow
            have H2 := Lib.hid (And.intro hown' hb2)
            clear hown' hgrow hb2
            go_wp2_with fail
            go_round
            case rel =>
              refine ⟨k + 1, by omega, by go_num, Lib.hid (fun j hj hjk => ?_), ?_, H2.out.2⟩
              · rcases Nat.lt_or_ge j k with h3 | h3
                · exact HJ.out j hj h3
                · obtain rfl : j = k := by omega
                  rw [← HX.out]; omega
              · have h5 := H2.out.1
                rw [← List.map_take] at h5
                rw [List.take_succ_eq_append_getElem hlt, List.map_append, ← HX.out]
                exact h5
            case measure => simp [intOf]; omega
      · obtain rfl : k = xs.length := by omega
        rw [List.take_length] at hown
        have hgood : ∀ x ∈ xs, 0 ≤ x ∧ x ≤ 1114111 := fun x hx => by
          obtain ⟨j, hj, rfl⟩ := List.mem_iff_getElem.1 hx
          exact HJ.out j hj hj
        obtain ⟨B, d, rfl, hd1, hd2⟩ := hown.shape
        rw [List.length_map] at hd1
        simp only [List.length_map] at hown ⊢
        have HO := Lib.hid hown
        have HBr := Lib.hid hBr
        have HG := Lib.hid hgood
        clear hown hBr hgood HJ
        cases group <;> cases again
        all_goals go_wp2_with fail
        · have hx4 := groupPfx false xs
          refine Calls.mono (pcall (groupT false xs) (nodeTC 11 0 B xs.length d) ?_ (groupGood false xs HG.out) (by have := groupCount false xs; omega)) ?_
          · exact (kidsT (by repeat (first | exact HO.out | apply Owns.alloc)) (fun _ _ => trivial) hd1 hd2)
          rw [hx4]
          clear hx4
          rintro e w3 ⟨v3, rfl, ho3, hb3⟩
          rw [List.nil_append] at ho3
          obtain ⟨A3, c3, rfl, _, _⟩ := Owns.shape ho3
          rw [List.length_map] at ho3 ⊢
          have hB3 := below_and hb3 (w := w) (by repeat (first | exact HBr.out | apply below_al))
          have hs := same_any w3 _ _ A3 A c3 c xs xs (ownI_arr ho3) (arr_same HA.out hB3 (by omega)) hl0 hl0
          rw [decide_eq_true (rfl : xs = xs)] at hs
          have H3 := Lib.hid hB3
          clear ho3 hb3 hB3
          go_wp2_with (go_at_call 11; refine hs.mono ?_; rintro e w4 ⟨rfl, nq, rfl⟩)
          go_ret
          exact ⟨rfl, below_drewN H3.out nq⟩
        · have hx4 := againPfx false xs
          refine Calls.mono (pcall (againT false xs) (nodeTC 11 0 (some ⟨wr.heap.size + 1 + 1 + 1, 0, none⟩) 3 3) ?_ (againGood false xs HG.out) (by have := againCount false xs; omega)) ?_
          · exact (threeT (kidsT (by repeat (first | exact HO.out | apply Owns.alloc)) (fun _ _ => trivial) hd1 hd2) (oneT (runeTrC _ _ 120) (heap_oldN (heap_newN (by simp))) trivial) (runeTrC _ _ 121) (heap_newN (by simp)) trivial rfl)
          rw [hx4]
          clear hx4
          rintro e w3 ⟨v3, rfl, ho3, hb3⟩
          rw [List.nil_append] at ho3
          obtain ⟨A3, c3, rfl, _, _⟩ := Owns.shape ho3
          rw [List.length_map] at ho3 ⊢
          have hB3 := below_and hb3 (w := w) (by repeat (first | exact HBr.out | apply below_al))
          have hs := same_any w3 _ _ A3 A c3 c xs xs (ownI_arr ho3) (arr_same HA.out hB3 (by omega)) hl0 hl0
          rw [decide_eq_true (rfl : xs = xs)] at hs
          have H3 := Lib.hid hB3
          clear ho3 hb3 hB3
          go_wp2_with (go_at_call 11; refine hs.mono ?_; rintro e w4 ⟨rfl, nq, rfl⟩)
          go_ret
          exact ⟨rfl, below_drewN H3.out nq⟩
        · have hx4 := groupPfx true xs
          refine Calls.mono (pcall (groupT true xs) (nodeTC 6 1 (some ⟨wr.heap.size + 1, 0, none⟩) 1 1) ?_ (groupGood true xs HG.out) (by have := groupCount true xs; omega)) ?_
          · exact (oneT (kidsT (by repeat (first | exact HO.out | apply Owns.alloc)) (fun _ _ => trivial) hd1 hd2) (heap_newN (by simp)) trivial)
          rw [hx4]
          clear hx4
          rintro e w3 ⟨v3, rfl, ho3, hb3⟩
          rw [List.nil_append] at ho3
          obtain ⟨A3, c3, rfl, _, _⟩ := Owns.shape ho3
          rw [List.length_map] at ho3 ⊢
          have hB3 := below_and hb3 (w := w) (by repeat (first | exact HBr.out | apply below_al))
          have hs := same_any w3 _ _ A3 A c3 c xs xs (ownI_arr ho3) (arr_same HA.out hB3 (by omega)) hl0 hl0
          rw [decide_eq_true (rfl : xs = xs)] at hs
          have H3 := Lib.hid hB3
          clear ho3 hb3 hB3
          go_wp2_with (go_at_call 11; refine hs.mono ?_; rintro e w4 ⟨rfl, nq, rfl⟩)
          go_ret
          exact ⟨rfl, below_drewN H3.out nq⟩
        · have hx4 := againPfx true xs
          refine Calls.mono (pcall (againT true xs) (nodeTC 11 0 (some ⟨wr.heap.size + 1 + 1 + 1 + 1, 0, none⟩) 3 3) ?_ (againGood true xs HG.out) (by have := againCount true xs; omega)) ?_
          · exact (threeT (oneT (kidsT (by repeat (first | exact HO.out | apply Owns.alloc)) (fun _ _ => trivial) hd1 hd2) (heap_oldN (heap_oldN (heap_oldN (heap_newN (by simp))))) trivial) (oneT (runeTrC _ _ 120) (heap_oldN (heap_newN (by simp))) trivial) (runeTrC _ _ 121) (heap_newN (by simp)) trivial rfl)
          rw [hx4]
          clear hx4
          rintro e w3 ⟨v3, rfl, ho3, hb3⟩
          rw [List.nil_append] at ho3
          obtain ⟨A3, c3, rfl, _, _⟩ := Owns.shape ho3
          rw [List.length_map] at ho3 ⊢
          have hB3 := below_and hb3 (w := w) (by repeat (first | exact HBr.out | apply below_al))
          have hs := same_any w3 _ _ A3 A c3 c xs xs (ownI_arr ho3) (arr_same HA.out hB3 (by omega)) hl0 hl0
          rw [decide_eq_true (rfl : xs = xs)] at hs
          have H3 := Lib.hid hB3
          clear ho3 hb3 hB3
          go_wp2_with (go_at_call 11; refine hs.mono ?_; rintro e w4 ⟨rfl, nq, rfl⟩)
          go_ret
          exact ⟨rfl, below_drewN H3.out nq⟩
end Go.Proofs.YtdnbholiijgedaaDoor
