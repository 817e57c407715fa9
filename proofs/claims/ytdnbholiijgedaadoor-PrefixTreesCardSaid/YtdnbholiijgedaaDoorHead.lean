/-
  martellolaw14.same, head. No condition.
-/
import Derived.Test.YtdnbholiijgedaaDoorIndex3
import Derived.Lib.SlBytesConst
namespace Go.Proofs.YtdnbholiijgedaaDoor
open Go.RowKit Go.Shelf
set_option linter.unusedVariables false

set_option maxRecDepth 100000 in
set_option maxHeartbeats 1000000 in
theorem same_any (w : World) (ok ok' : Nat → Prop) (A B : Option Addr) (c d : Nat) (xs ys : List Int) (hx : Arr ok w 1 (IntC .i32) A xs) (hy : Arr ok' w 1 (IntC .i32) B ys) (hN : xs.length ≤ 9223372036854775807) (hM : ys.length ≤ 9223372036854775807) :
    Calls Tryd.prog 11 #[.slice A xs.length c, .slice B ys.length d] w fun e w' => e = .returned (.bool (decide (xs = ys))) ∧ ∃ n, w' = w.drewN n := by
  go_enter Tryd.func11, Tryd.ntmps11
  by_cases hl : xs.length = ys.length
  · have hlb : ((xs.length : Int) != (ys.length : Int)) = false := by simp [hl]
    go_wp2_with fail
    go_loopw [5] (fun i wr => ∃ k n : Nat, k ≤ xs.length ∧ i = .int .i64 k ∧ Hid (∀ (j : Nat) (h1 : j < xs.length) (h2 : j < ys.length), j < k → xs[j] = ys[j]) ∧ wr = w.drewN n) (fun i _ => xs.length - (intOf i).toNat)
    case atStart => exact ⟨0, 0, Nat.zero_le _, rfl, Lib.hid (fun j _ _ h => by omega), rfl⟩
    case round =>
      obtain ⟨k, n, hk, rfl, HJ, rfl⟩ := hrel
      by_cases hlt : k < xs.length
      · have hlt2 : k < ys.length := by omega
        obtain ⟨ad, rfl, hc⟩ := ints_at hx k hlt
        obtain ⟨bd, rfl, hd⟩ := ints_at hy k hlt2
        rw [← World.cell?_drewN w n] at hc hd
        have HX := Lib.hid (And.intro hx hy)
        clear hx hy
        generalize hw1 : w.drewN n = w1 at *
        have HW := Lib.hid hw1
        clear hw1
        by_cases hq : (xs[k] != ys[k]) = true
        · go_wp2_with fail
          go_quiet (fail)
          go_wp2_with fail
          go_ret
          refine ⟨ret_bool ?_, _, by rw [← HW.out, World.drewN_drewN]⟩
          symm
          apply decide_eq_false
          rintro rfl
          simp at hq
        · have hq' : (xs[k] != ys[k]) = false := by simpa using hq
          have HQ := Lib.hid hq'
          clear hq
          go_wp2_with fail
          go_quiet (fail)
          go_wp2_with fail
          go_round
          case rel =>
            exact ⟨k + 1, _, by omega, by go_num, Lib.hid (fun j h1 h2 hjk => by
              rcases Nat.lt_or_ge j k with h3 | h3
              · exact HJ.out j h1 h2 h3
              · obtain rfl : j = k := by omega
                simpa using HQ.out), by rw [← HW.out, World.drewN_drewN]⟩
          case measure => simp [intOf]; omega
      · go_wp2_with fail
        go_ret
        refine ⟨ret_bool ?_, _, rfl⟩
        symm
        apply decide_eq_true
        apply List.ext_getElem hl
        intro j h1 h2
        exact HJ.out j h1 h2 (by omega)
  · have hlb : ((xs.length : Int) != (ys.length : Int)) = true := by simp; omega
    go_wp2_with fail
    go_ret
    refine ⟨ret_bool ?_, 0, rfl⟩
    symm
    apply decide_eq_false
    rintro rfl
    exact hl rfl

/-! ### head -/
def trB : Tr := ⟨3, [], 98, [], 0, 0, ⟨#[]⟩, 0, 0, false⟩
def txB : ByteArray := ⟨#[97, 97, 98]⟩
theorem symsB : symsOf txB = [(97, 0), (97, 1), (98, 2), (-1, 3)] := by kernel_rfl
theorem firstB : FirstAt (symsOf txB) [98] 0 2 := by
  rw [symsB]
  refine .inr ⟨2, rfl, by decide, ⟨by decide, fun i hi => ?_⟩, fun b _ hb hs => ?_⟩
  · simp at hi; subst hi; rfl
  · have := hs.2 0 (by simp)
    rcases b with _ | _ | b
    · simp [runeAt] at this
    · simp [runeAt] at this
    · omega
theorem textB (w1 : World) (fr : Nat × Nat) : TextC (fun _ => True) (w1.alloc (.cells #[.int .u8 97, .int .u8 97, .int .u8 98] 5 fr)) (some ⟨w1.heap.size, 0, none⟩) txB := by
  intro i x hi
  have hb : (w1.alloc (.cells #[.int .u8 97, .int .u8 97, .int .u8 98] 5 fr)).heap[w1.heap.size]? = some (.cells #[.int .u8 97, .int .u8 97, .int .u8 98] 5 fr) := World.alloc_heap_new _ _
  have hcell := fun j => cell_of_blk hb j
  have hadd : ∀ n, (⟨w1.heap.size, 0, none⟩ : Addr).add n = ⟨w1.heap.size, n, none⟩ := fun n => by unfold Addr.add; split <;> simp_all
  refine ⟨_, _, rfl, trivial, rfl, rfl, fun j u hj => ?_⟩
  rw [hadd, hcell]
  simp only [List.getElem?_singleton] at hj
  split at hj
  · rename_i h0
    subst h0
    cases hj
    change ([97, 97, 98] : List UInt8)[i]? = some x at hi
    rcases i with _ | _ | _ | i <;> simp at hi <;> subst hi <;> rfl
  · cases hj
def HeadPost (w : World) (e : Ending) (w' : World) : Prop := e = .returned (.bool true) ∧ Below w.heap.size w w'
theorem ownI_arr {w : World} {base : Nat} {A : Option Addr} {n cap : Nat} {xs : List Int} (h : OwnI w base (.slice A n cap) xs) : Arr (fun b => b < w.heap.size) w 1 (IntC .i32) A xs := by
  have hl := h.lt
  refine Owns.arr h (by simp) (fun i x cs hx hc => ?_) (fun a hA => ?_)
  · rw [List.getElem?_map, hx] at hc; simp at hc; subst hc; rfl
  · subst hA; exact (hl a.block rfl).2
set_option maxRecDepth 100000 in
set_option maxHeartbeats 2000000 in
theorem head_any (w : World) : Calls Tryd.prog 7 #[] w (HeadPost w) := by
  have hp := prefix_yes (fun _ => false) w (fun _ => True) trB [.int .i64 3, .slice none 0 0, .int .i32 98, .slice none 0 0, .int .i64 0, .int .i64 0, .string ⟨#[]⟩, .int .i64 0, .int .i64 0, .bool false]
    (trC_iff.2 ⟨none, 0, none, 0, rfl, Nat.le_refl _, Nat.zero_le _, Nat.le_refl _, Nat.zero_le _, Arr.nil, Arr.nil⟩) (fun p hp h4 => by rw [parts_eq] at hp; simp [trB, partsL] at hp; subst hp; simp at h4) (by kernel_rfl) (by simp [parts_eq, trB, partsL])
  have hpf : pfx trB = ([98], true) := by kernel_rfl
  rw [hpf] at hp
  have kc := fun (w : World) (C : Array Value) (n c : Nat) => Lib.run_convert_bytes_const (P := Tryd.prog) w 35 5 C n c Tryd.underlying35 Tryd.underlying5
  go_enter Tryd.func7, Tryd.ntmps7
  go_wp2_with (first
    | (go_at_call 9
       refine hp.mono ?_
       rintro e w1 ⟨v1, rfl, ho, hb1⟩
       obtain ⟨A1, c1, rfl, hcap, _⟩ := Owns.shape ho
       simp only [List.nil_append, List.map_cons, List.map_nil, List.length_cons, List.length_nil, Nat.zero_add] at ho hcap ⊢
       have harr := ownI_arr ho
       obtain ⟨ad, hA1, hc0⟩ := ints_at harr 0 (by simp)
       subst hA1
       rw [show ad.add 0 = ad by simp [Addr.add]] at hc0
       simp only [List.getElem_cons_zero] at hc0
       have HA := Lib.hid (And.intro harr hb1)
       clear ho hb1 harr)
    | (go_at_call 12
       refine (text_small (fun _ => True) _ _ 3 txB (textB w1 _) (by decide)).mono ?_
       rintro e w2 ⟨b2, rfl, hI, hb2⟩
       have hBB := (below_al HA.out.2 _).trans (hb2.mono (below_al HA.out.2 (.cells #[.int .u8 97, .int .u8 97, .int .u8 98] 5 (3, 4))).size)
       have hb12 := (below_al (Below.refl _ w1) _).trans (hb2.mono (below_al (Below.refl _ w1) (.cells #[.int .u8 97, .int .u8 97, .int .u8 98] 5 (3, 4))).size)
       have hix := index_any (fun _ => True) w2 ⟨b2, 0, none⟩ (symsOf txB) (some ad) c1 [98] 0 (hI.move (fun b _ _ => ⟨rfl, trivial⟩)) (HA.out.1.move (fun b hb _ => ⟨hb12.block b hb, trivial⟩) (by omega)) hcap (by decide) (by rw [symsB]; decide) (by rw [symsB]; decide) (by decide)
       have HB := Lib.hid hBB
       clear hI hb2 hBB hb12)
    | (go_at_call 13
       refine hix.mono ?_
       rintro e w3 ⟨r, rfl, hr, hb3⟩
       obtain rfl : r = 2 := hr.same firstB
       have HC := Lib.hid hb3
       clear hr hb3 hix))
  go_ret
  exact ⟨rfl, HB.out.trans (HC.out.mono HB.out.size)⟩
end Go.Proofs.YtdnbholiijgedaaDoor
