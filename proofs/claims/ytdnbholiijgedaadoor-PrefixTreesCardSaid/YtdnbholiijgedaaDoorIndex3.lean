/-
  The step of prefix.Index: how far the runes may be moved; prefix.Index: the first place at which the runes stand. No condition.
  prefix.Index: the first place at which the runes stand. No condition.
-/
import Derived.Test.YtdnbholiijgedaaDoorIndex
import Derived.Deep.QuietTactic
import Derived.BigQuiet
import Derived.Deep.RegionWith
import Derived.Deep.LoopGhost
import Derived.IntWalk
import Derived.WalkKit
namespace Go.Proofs.YtdnbholiijgedaaDoor
open Go.RowKit Go.Shelf
set_option linter.unusedVariables false

/-! ### the law behind the step -/
def stepOf (l : List Int) (c : Int) : Nat := if 0 ≤ idxI l.dropLast.reverse c then (idxI l.dropLast.reverse c).toNat + 1 else l.length

theorem step_pos {l : List Int} (c : Int) (h : 0 < l.length) : 0 < stepOf l c := by
  unfold stepOf; split <;> omega

theorem arr_take {ok : Nat → Prop} {w : World} {A : Option Addr} {l : List Int} (h : Arr ok w 1 (IntC .i32) A l) : Arr ok w 1 (IntC .i32) A l.dropLast := by
  intro i x hi
  apply h i x
  rw [List.dropLast_eq_take, List.getElem?_take] at hi
  split at hi
  · exact hi
  · cases hi

theorem cell_lt {w : World} {p : Addr} {v : Value} (h : w.cell? p = some v) : p.block < w.heap.size := by
  rcases Nat.lt_or_ge p.block w.heap.size with h1 | h1
  · exact h1
  · unfold World.cell? at h
    rw [Array.getElem?_eq_none h1] at h
    simp at h
theorem idxI_lt (xs : List Int) (v : Int) : idxI xs v < xs.length := by
  unfold idxI
  split
  · rename_i i h
    have := (List.findIdx?_eq_some_iff_getElem.1 h).1
    omega
  · omega

def StepPost (l : List Int) (c : Int) (w : World) (e : Ending) (w' : World) : Prop := e = .returned (.int .i64 (stepOf l c)) ∧ Below w.heap.size w w'
set_option maxHeartbeats 1000000 in
theorem step_any (ok : Nat → Prop) (w : World) (bl bn : Addr) (A : Option Addr) (cap : Nat) (l : List Int) (c : Int) (h : Arr ok w 1 (IntC .i32) A l) (hb : w.cell? bl = some (.slice A l.length cap)) (hn : w.cell? bn = some (.int .i64 l.length)) (hp : 0 < l.length) (hcap : l.length ≤ cap) (hN : l.length ≤ 1000000000) :
    Calls Tryd.prog 23 #[.int .i32 c, .pointer (some bl), .pointer (some bn)] w (StepPost l c w) := by
  obtain ⟨ad, hA, _⟩ := ints_at h 0 hp
  subst hA
  have hrev := reversed_any ok w (some ad) cap l.dropLast (arr_take h) (by simp; omega)
  rw [List.length_dropLast] at hrev
  have hl1 : ((l.length : Int) - 1).toNat = l.length - 1 := by omega
  have hix : ∀ (w1 : World) (A1 : Option Addr) (c1 : Nat), OwnI w1 w.heap.size (.slice A1 (l.length - 1) c1) l.dropLast.reverse → Calls Tryd.prog 24 #[.slice A1 (l.length - 1) c1, .int .i32 c] w1 fun e w' => e = .returned (.int .i64 (idxI l.dropLast.reverse c)) ∧ w1 = w' := by
    intro w1 A1 c1 ho
    have h2 := Owns.arr ho (E := IntC .i32) (xs := l.dropLast.reverse) (by simp) (by intro i x cs hx hc; rw [List.getElem?_map, hx] at hc; simp at hc; subst hc; rfl) (ok := fun _ => True) (fun _ _ => trivial)
    have h3 := indexRune_any w1 _ A1 c1 l.dropLast.reverse c h2 (by simp; omega)
    simpa using h3
  have hz3 : idxI l.dropLast.reverse c < 1000000000 := by have := idxI_lt l.dropLast.reverse c; simp at this; omega
  have HS : Hid ((0 ≤ idxI l.dropLast.reverse c → stepOf l c = (idxI l.dropLast.reverse c).toNat + 1) ∧ (idxI l.dropLast.reverse c < 0 → stepOf l c = l.length)) := Lib.hid ⟨fun hz => by unfold stepOf; rw [if_pos hz], fun hz => by unfold stepOf; rw [if_neg (by omega)]⟩
  generalize idxI l.dropLast.reverse c = z at *
  clear h
  go_enter Tryd.func23, Tryd.ntmps23
  go_wp2_with (first
    | (go_at_call 25
       refine hrev.mono ?_
       rintro e w1 ⟨v1, rfl, ho, hb1⟩
       obtain ⟨A1, c1, rfl, _, _⟩ := ho.shape
       simp only [List.length_map, List.length_reverse, List.length_dropLast] at ho ⊢
       have HO := Lib.hid ho
       have hn' := (hb1.cell (cell_lt hn)).trans hn
       have HB := Lib.hid hb1
       clear ho hb1)
    | (go_at_call 24
       refine (hix w1 A1 c1 HO.out).mono ?_
       rintro e w2 ⟨rfl, rfl⟩))
  · go_ret
    exact ⟨ret_int (by rw [HS.out.1 (by omega)]; omega), HB.out⟩
  · go_ret
    exact ⟨ret_int (by rw [HS.out.2 (by omega)]), HB.out⟩
end Go.Proofs.YtdnbholiijgedaaDoor
namespace Go.Proofs.YtdnbholiijgedaaDoor
open Go.RowKit Go.Shelf
set_option linter.unusedVariables false

/-! ### the law -/
/-- The runes stand at a place. -/
def stands (rs : List (Int × Int)) (l : List Int) (at0 : Nat) : Prop := (at0 : Int) + l.length ≤ (rs.length : Int) - 1 ∧ ∀ (i : Nat) (hi : i < l.length), runeAt rs ((at0 + i : Nat) : Int) = l[i]
/-- The answer: the first place from f on, or -1. -/
def FirstAt (rs : List (Int × Int)) (l : List Int) (f r : Int) : Prop := (r = -1 ∧ ∀ b : Nat, f ≤ b → ¬ stands rs l b) ∨ (∃ a : Nat, r = a ∧ f ≤ a ∧ stands rs l a ∧ ∀ b : Nat, f ≤ b → b < a → ¬ stands rs l b)
theorem FirstAt.same {rs : List (Int × Int)} {l : List Int} {f r s : Int} (h : FirstAt rs l f r) (k : FirstAt rs l f s) : r = s := by
  rcases h with ⟨rfl, h⟩ | ⟨a, rfl, ha, hs, hb⟩ <;> rcases k with ⟨rfl, k⟩ | ⟨c, rfl, hc, ks, kb⟩
  · rfl
  · exact absurd ks (h c hc)
  · exact absurd hs (k a ha)
  · rcases Nat.lt_trichotomy a c with h1 | h1 | h1
    · exact absurd hs (kb a ha h1)
    · rw [h1]
    · exact absurd ks (hb c hc h1)
theorem idxI_before (xs : List Int) (v : Int) (j : Nat) (hj : j < xs.length) (h : (j : Int) < idxI xs v ∨ idxI xs v < 0) : xs[j] ≠ v := by
  unfold idxI at h
  split at h
  · rename_i i hf
    have := (List.findIdx?_eq_some_iff_getElem.1 hf).2.2 j (by omega)
    simpa using this
  · rename_i hf
    rw [List.findIdx?_eq_none_iff] at hf
    simpa using hf _ (List.getElem_mem hj)
theorem skip_ok (rs : List (Int × Int)) (l : List Int) (a : Nat) (hl : 0 < l.length) (hmis : ¬ stands rs l a) (b : Nat) (h1 : a ≤ b) (h2 : b < a + stepOf l (runeAt rs ((a + (l.length - 1) : Nat) : Int))) : ¬ stands rs l b := by
  rcases Nat.eq_or_lt_of_le h1 with rfl | h3
  · exact hmis
  obtain ⟨t, rfl⟩ : ∃ t, b = a + t := ⟨b - a, by omega⟩
  intro hs
  generalize hc : runeAt rs ((a + (l.length - 1) : Nat) : Int) = c at h2
  have hlen : l.dropLast.reverse.length = l.length - 1 := by simp
  have hle : stepOf l c ≤ l.length := by
    have := idxI_lt l.dropLast.reverse c
    unfold stepOf
    split <;> omega
  have h4 := hs.2 (l.length - 1 - t) (by omega)
  rw [show a + t + (l.length - 1 - t) = a + (l.length - 1) by omega, hc] at h4
  refine idxI_before l.dropLast.reverse c (t - 1) (by omega) ?_ ?_
  · unfold stepOf at h2
    split at h2 <;> omega
  · rw [List.getElem_reverse, List.getElem_dropLast]
    refine Eq.trans ?_ h4.symm
    congr 1
    simp
    omega

theorem step_le (l : List Int) (c : Int) : stepOf l c ≤ l.length ∨ stepOf l c ≤ 1 := by
  have := idxI_lt l.dropLast.reverse c
  have hlen : l.dropLast.reverse.length = l.length - 1 := by simp
  unfold stepOf
  split <;> omega
/-! ### the walk -/
theorem InpC.same {ok : Nat → Prop} {w w' : World} {a : Addr} {rs : List (Int × Int)} (h : InpC ok w a rs) (hb : Below w.heap.size w w') : InpC ok w' a rs := h.move fun b hok hlt => ⟨hb.block b hlt, hok⟩
theorem arr_same {α : Type} {ok : Nat → Prop} {w w' : World} {sz : Nat} {E : α → List Value → Prop} {A : Option Addr} {xs : List α} (h : Arr ok w sz E A xs) (hb : Below w.heap.size w w') (hs : 0 < sz) : Arr ok w' sz E A xs := h.move (fun b hok hlt => ⟨hb.block b hlt, hok⟩) hs

theorem heap_old1 (w : World) (o1 o2 : Obj) : ((w.alloc o1).alloc o2).heap[w.heap.size]? = some o1 :=
  ((Below.refl _ (w.alloc o1)).alloc (Nat.le_refl _) o2).block w.heap.size (heap_lt (World.alloc_heap_new w o1)) |>.trans (World.alloc_heap_new _ _)
def IndexPost (rs : List (Int × Int)) (l : List Int) (f : Int) (w : World) (e : Ending) (w' : World) : Prop := ∃ r : Int, e = .returned (.int .i64 r) ∧ FirstAt rs l f r ∧ Below w.heap.size w w'
set_option maxRecDepth 100000 in
set_option maxHeartbeats 1000000 in
theorem index_nil (w : World) (l : Value) (f : Int) (hl : l.oneCell' = true) :
    Calls Tryd.prog 13 #[.pointer none, l, .int .i64 f] w fun e w' => e = .returned (.int .i64 (-1)) ∧ Below w.heap.size w w' := by
  have hcl : l.cells = #[l] := by cases l <;> simp_all [Value.oneCell', Value.cells]
  simp only [Value.cells] at hcl
  go_enter Tryd.func13, Tryd.ntmps13
  go_wp2
  go_ret
  exact ⟨rfl, below_al below_w _⟩
set_option maxRecDepth 100000 in
set_option maxHeartbeats 1000000 in
theorem index_any (ok : Nat → Prop) (w : World) (a : Addr) (rs : List (Int × Int)) (A : Option Addr) (cap : Nat) (l : List Int) (f : Int) (hin : InpC ok w a rs) (h : Arr ok w 1 (IntC .i32) A l) (hcap : l.length ≤ cap) (hN : l.length ≤ 1000000000) (hR : rs.length ≤ 1000000001) (hR1 : 1 ≤ rs.length) (hf : f ≤ 9223372036854775807) :
    Calls Tryd.prog 13 #[.pointer (some a), .slice A l.length cap, .int .i64 f] w (IndexPost rs l f w) := by
  have HI := Lib.hid hin
  have HA := Lib.hid h
  clear hin h
  go_enter Tryd.func13, Tryd.ntmps13
  by_cases hn : 0 < l.length
  · go_wp2_with fail
    go_step3
    go_wp2_with fail
    go_step3
    go_wp2_with fail
    go_loopg [2] (rs.length - (max f 0).toNat) (fun g s2 wr => ∃ at0 : Nat, s2 = .int .i64 at0 ∧ rs.length - at0 ≤ g ∧ f ≤ at0 ∧ (at0 : Int) ≤ 9223372036854775807 ∧ (∀ b : Nat, f ≤ b → b < at0 → ¬ stands rs l b) ∧ Below (w.heap.size + 2) ((w.alloc (.cells #[.slice A l.length cap] 30)).alloc (.cells #[.int .i64 l.length] 3)) wr)
    case atStart => exact ⟨(max f 0).toNat, by congr 1; omega, Nat.le_refl _, by omega, by omega, fun b hb1 hb2 => by omega, Below.refl _ _⟩
    case round =>
      obtain ⟨at0, rfl, hg, hfa, hax, hno, hB⟩ := hrel
      obtain ⟨G, hG⟩ : ∃ G, G = gk := ⟨_, rfl⟩
      rw [← hG] at hg
      have hBw : Below w.heap.size w wr := (below_al (below_al below_w _) _).trans (hB.mono (by omega))
      have hin : ∀ k, InpC ok (wr.drewN k) a rs := fun k => HI.out.same (below_drewN hBw k)
      have hbc : wr.cell? ⟨w.heap.size, 0, none⟩ = some (.slice A l.length cap) := by
        rw [hB.cell (p := ⟨w.heap.size, 0, none⟩) (by simp)]
        exact cell_of_blk (heap_old1 w _ _) 0
      have hnc : wr.cell? ⟨w.heap.size + 1, 0, none⟩ = some (.int .i64 l.length) := by
        rw [hB.cell (p := ⟨w.heap.size + 1, 0, none⟩) (by simp)]
        exact cell_of_blk (heap_new2 w _ _) 0
      have hlen : ∀ k, Calls Tryd.prog 16 #[.pointer (some a)] (wr.drewN k) fun e w' => e = .returned (.int .i64 ((rs.length : Int) - 1)) ∧ w' = wr.drewN k := fun k => (len_any ok _ a rs (hin k)).mono fun _ _ h => ⟨h.1, h.2.symm⟩
      have HB := Lib.hid (And.intro hB hBw)
      have HN := Lib.hid hno
      have HG := Lib.hid hg
      clear hB hBw hno hg
      by_cases h1 : (at0 : Int) ≤ (rs.length : Int) - 1
      · have hw1 : IntKind.i64.wrap ((rs.length : Int) - 1 - (at0 : Int)) = (rs.length : Int) - 1 - (at0 : Int) := IntWalk.i64_in _ (by omega)
        by_cases h2 : (l.length : Int) ≤ (rs.length : Int) - 1 - (at0 : Int)
        · go_wp2_with fail
          go_quiet ((go_at_call 16; exact Calls.quiet_of_same (hlen _)))
          clear hw1
          go_wp2_with fail
          have HB2 := Lib.hid (And.intro (below_drewN HB.out.1 nq) (below_drewN HB.out.2 nq))
          have hin2 := hin nq
          clear hin hlen HB
          rw [← World.cell?_drewN wr nq] at hbc hnc
          generalize wr.drewN nq = w1 at *
          have ha1 := arr_same HA.out HB2.out.2 (by omega)
          obtain ⟨ad, hA, _⟩ := ints_at ha1 0 hn
          subst hA
          go_loopg [2, 38] l.length (fun g2 s2 s38 wy => ∃ j : Nat, j + g2 = l.length ∧ s2 = .int .i64 at0 ∧ s38 = .int .i64 j ∧ Hid (∀ (i : Nat) (hi : i < l.length), i < j → runeAt rs ((at0 + i : Nat) : Int) = l[i]) ∧ w1 = wy)
          case atStart => exact ⟨0, by omega, rfl, rfl, Lib.hid (fun i _ h => by omega), rfl⟩
          case round =>
            obtain ⟨j, hj, rfl, rfl, HJ, rfl⟩ := hrel
            by_cases hlt : j < l.length
            · obtain ⟨_, hA, hc⟩ := ints_at ha1 j hlt
              injection hA with hA
              subst hA
              have hr := rune_any ok w1 a rs hin2 ((at0 : Int) + (j : Int))
              have hcast : ((at0 + j : Nat) : Int) = (at0 : Int) + (j : Int) := by omega
              have HC := Lib.hid hcast
              clear hcast
              by_cases hq : (runeAt rs ((at0 : Int) + (j : Int)) == l[j]) = true
              · have HQ := Lib.hid hq
                have hne : (runeAt rs ((at0 : Int) + (j : Int)) != l[j]) = false := by simpa using hq
                clear hq
                go_wp2_with (go_at_call 17; refine hr.mono ?_; rintro e w2 ⟨rfl, rfl⟩)
                go_roundg (gk - 1)
                case measure => omega
                case rel => exact ⟨j + 1, by omega, rfl, by go_num, Lib.hid (fun i hi hij => by
                    rcases Nat.lt_or_ge i j with h3 | h3
                    · exact HJ.out i hi h3
                    · obtain rfl : i = j := by omega
                      rw [HC.out]; simpa using HQ.out), rfl⟩
              · have hne : (runeAt rs ((at0 : Int) + (j : Int)) != l[j]) = true := by simpa using hq
                have HQ := Lib.hid hne
                clear hq
                go_wp2_with (go_at_call 17; refine hr.mono ?_; rintro e w2 ⟨rfl, rfl⟩)
                have hmis : ¬ stands rs l at0 := fun hs => by
                  have h5 := hs.2 j hlt
                  rw [HC.out] at h5
                  rw [h5] at HQ
                  have := HQ.out
                  simp at this
                have hcast2 : ((at0 + (l.length - 1) : Nat) : Int) = (at0 : Int) + (l.length : Int) - 1 := by omega
                have hsk := skip_ok rs l at0 hn hmis
                rw [hcast2] at hsk
                have hsp := step_pos (l := l) (runeAt rs ((at0 : Int) + (l.length : Int) - 1)) hn
                have hsl := step_le l (runeAt rs ((at0 : Int) + (l.length : Int) - 1))
                have hr2 := rune_any ok w1.drew a rs (hin2.same (Below.drew (Below.refl _ _))) ((at0 : Int) + (l.length : Int) - 1)
                have hst := step_any ok w1.drew ⟨w.heap.size, 0, none⟩ ⟨w.heap.size + 1, 0, none⟩ (some ad) cap l (runeAt rs ((at0 : Int) + (l.length : Int) - 1)) (arr_same ha1 (Below.drew (Below.refl _ _)) (by omega)) hbc hnc hn hcap hN
                generalize runeAt rs ((at0 : Int) + (l.length : Int) - 1) = c at *
                have HSK := Lib.hid hsk
                generalize hs : stepOf l c = s at *
                have hst' : Calls Tryd.prog 23 #[.int .i32 c, .pointer (some ⟨w.heap.size, 0, none⟩), .pointer (some ⟨w.heap.size + 1, 0, none⟩)] w1.drew fun e w' => e = .returned (.int .i64 s) ∧ Below w1.drew.heap.size w1.drew w' := hst.mono fun e w' h => by unfold StepPost at h; rw [hs] at h; exact h
                have hw1 : IntKind.i64.wrap ((at0 : Int) + (l.length : Int)) = (at0 : Int) + (l.length : Int) := IntWalk.i64_in _ (by omega)
                have hw2 : IntKind.i64.wrap ((at0 : Int) + (l.length : Int) - 1) = (at0 : Int) + (l.length : Int) - 1 := IntWalk.i64_in _ (by omega)
                have hw3 : IntKind.i64.wrap ((at0 : Int) + (s : Int)) = (at0 : Int) + (s : Int) := IntWalk.i64_in _ (by omega)
                clear hs hst hsk hcast2 hmis hr
                go_region_with (first
                  | (go_at_call 17; refine hr2.mono ?_; rintro e w2 ⟨rfl, rfl⟩)
                  | (go_at_call 23; refine hst'.mono ?_; rintro e w2 ⟨rfl, hb2⟩))
                all_goals
                  clear hw1 hw2 hw3
                  go_wp2_with fail
                  go_roundg (G - 1)
                  case measure => have := HG.out; omega
                  case rel =>
                    have hd2 : Below w1.heap.size w1 w2 := (Below.drew (Below.refl _ w1)).trans hb2
                    refine ⟨at0 + s, by simp, by have := HG.out; omega, by omega, by omega, fun b hb1 hb3 => ?_, below_then HB2.out.1 ?_ hd2⟩
                    · rcases Nat.lt_or_ge b at0 with h3 | h3
                      · exact HN.out b hb1 h3
                      · exact HSK.out b h3 hb3
                    · have := HB2.out.1.size
                      simpa using this
            · go_wp2_with fail
              go_ret
              exact ⟨(at0 : Int), rfl, .inr ⟨at0, rfl, hfa, ⟨by omega, fun i hi => HJ.out i hi (by omega)⟩, HN.out⟩, HB2.out.2⟩
        · have hd : decide ((l.length : Int) ≤ (rs.length : Int) - 1 - (at0 : Int)) = false := by simpa using h2
          go_wp2_with fail
          go_quiet ((go_at_call 16; exact Calls.quiet_of_same (hlen _)))
          clear hw1
          go_wp2_with fail
          go_ret
          exact ⟨-1, rfl, .inl ⟨rfl, fun b hb hs => by
            rcases Nat.lt_or_ge b at0 with h3 | h3
            · exact HN.out b hb h3 hs
            · have := hs.1; omega⟩, below_drewN HB.out.2 _⟩
      · have hd : decide ((at0 : Int) ≤ (rs.length : Int) - 1) = false := by simpa using h1
        go_wp2_with fail
        go_quiet ((go_at_call 16; exact Calls.quiet_of_same (hlen _)))
        go_wp2_with fail
        go_ret
        exact ⟨-1, rfl, .inl ⟨rfl, fun b hb hs => by
          rcases Nat.lt_or_ge b at0 with h3 | h3
          · exact HN.out b hb h3 hs
          · have := hs.1; omega⟩, below_drewN HB.out.2 _⟩
  · have hl0 : l = [] := List.eq_nil_of_length_eq_zero (by omega)
    have hB : Below w.heap.size w ((w.alloc (.cells #[.slice A l.length cap] 30)).alloc (.cells #[.int .i64 l.length] 3)) := below_al (below_al below_w _) _
    have hlen := len_any ok _ a rs (HI.out.same hB)
    have HB := Lib.hid hB
    clear hB
    by_cases h1 : (rs.length : Int) - 1 < max f 0
    · have h2 : FirstAt rs l f (-1) := .inl ⟨rfl, fun b hb hs => by have := hs.1; simp only [hl0, List.length_nil] at this; omega⟩
      clear hl0
      go_wp2_with (go_at_call 16; refine hlen.mono ?_; rintro e w2 ⟨rfl, rfl⟩)
      go_ret
      exact ⟨-1, rfl, h2, HB.out⟩
    · have h2 : FirstAt rs l f (max f 0) := .inr ⟨(max f 0).toNat, by omega, by omega, ⟨by simp only [hl0, List.length_nil]; omega, fun i hi => by simp [hl0] at hi⟩, fun b hb1 hb2 => by omega⟩
      clear hl0
      go_wp2_with (go_at_call 16; refine hlen.mono ?_; rintro e w2 ⟨rfl, rfl⟩)
      go_ret
      exact ⟨_, rfl, h2, HB.out⟩
end Go.Proofs.YtdnbholiijgedaaDoor
