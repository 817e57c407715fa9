/-
  PrefixIndex: the walk. No condition but that the two tables stand.
-/
import Derived.Test.YtdnbholiijgedaaDoorDoc2
import Derived.Test.YtdnbholiijgedaaDoorStands
namespace Go.Proofs.YtdnbholiijgedaaDoor
open Go.RowKit Go.Shelf
set_option linter.unusedVariables false

set_option maxRecDepth 100000 in
set_option maxHeartbeats 4000000 in
theorem prefixIndex_any (w : World) (A : Option Addr) (c : Nat) (s : ByteArray) (B : Option Addr) (d : Nat) (l : List Int) (f : Int) (h : TextC (fun b => b < w.heap.size) w A s) (hs : s.size ≤ c) (hc : c ≤ maxLen) (hl : Arr (fun b => b < w.heap.size) w 1 (IntC .i32) B l) (hld : l.length ≤ d) (hd : d ≤ maxLen) (hf : f ≤ 9223372036854775807) (hT : Tabs w) :
    Calls Tryd.prog 4 #[.slice A s.size c, .slice B l.length d, .int .i64 f] w (HeadedPost w) := by
  have hh := head_any w
  have hl63 : l.length ≤ 9223372036854775807 := by unfold maxLen at hd; omega
  by_cases hb : 65536 < s.size
  · clear h hl hT
    go_enter Tryd.func4, Tryd.ntmps4
    go_wp2_with (first
      | (go_at_call 7; refine hh.mono ?_; rintro e w1 ⟨rfl, hb1⟩)
      | (go_at_call 12; refine (text_big _ A c s.size hb).mono ?_; rintro e w2 ⟨rfl, rfl⟩)
      | (go_at_call 13; refine (index_nil _ (.slice B l.length d) f rfl).mono ?_; rintro e w3 ⟨rfl, hb3⟩))
    go_ret
    exact ⟨rfl, below_and hb3 hb1⟩
  · have HT := Lib.hid (And.intro h (And.intro hl hT))
    clear h hl hT
    have hsl := symsOf_len s
    have hsr := same_runes s
    by_cases hz : 3000 < s.size ∨ 3000 < l.length
    · go_enter Tryd.func4, Tryd.ntmps4
      go_wp2_with (first
        | (go_at_call 7; refine hh.mono ?_; rintro e w1 ⟨rfl, hb1⟩)
        | (go_at_call 12
           refine (text_small _ w1 A c s (HT.out.1.move (ok' := fun _ => True) (fun b _ hb => ⟨hb1.block b hb, trivial⟩)) (by omega)).mono ?_
           rintro e w2 ⟨b2, rfl, hI, hb2⟩
           have HB := Lib.hid (below_and hb2 hb1)
           clear hI hb2 hb1))
      all_goals go_ret
      all_goals exact ⟨rfl, HB.out⟩
    · obtain ⟨hz1, hz2⟩ := not_or.1 hz
      clear hz
      generalize hrs : symsOf s = rs at *
      generalize hcs : codesOf s = cs at *
      have HS := Lib.hid (And.intro hrs (And.intro hcs hsr))
      have hcl : cs.length ≤ 3000 := by have := hsr.1; omega
      clear hrs hcs hsr
      have hnil : ∀ W : World, Calls Tryd.prog 13 #[.pointer none, .slice B l.length d, .int .i64 f] W fun e w' => e = .returned (.int .i64 (-1)) ∧ Below W.heap.size W w' := fun W => index_nil W (.slice B l.length d) f rfl
      go_enter Tryd.func4, Tryd.ntmps4
      go_wp2_with (first
        | (go_at_call 7; refine hh.mono ?_; rintro e w1 ⟨rfl, hb1⟩)
        | (go_at_call 12
           refine (text_small _ w1 A c s (HT.out.1.move (ok' := fun _ => True) (fun b _ hb => ⟨hb1.block b hb, trivial⟩)) (by omega)).mono ?_
           rintro e w2 ⟨b2, rfl, hI, hb2⟩
           rw [HS.out.1] at hI
           have hB2 := below_and hb2 hb1
           have hix := index_any (fun _ => True) w2 ⟨b2, 0, none⟩ rs B d l f (hI.move (fun b _ _ => ⟨rfl, trivial⟩)) (HT.out.2.1.move (fun b hb' _ => ⟨hB2.block b hb', trivial⟩) (by omega)) hld (by omega) (by omega) (by omega) hf
           have HB := Lib.hid hB2
           clear hI hb2 hb1 hB2)
        | (go_at_call 13
           refine hix.mono ?_
           clear hix
           rintro e w3 ⟨r, rfl, hfr, hb3⟩
           have hB3 := below_and hb3 HB.out
           have hdc := doc_any _ w3 A c s (HT.out.1.move (ok' := fun _ => True) (fun b hb' _ => ⟨hB3.block b hb', trivial⟩)) hs hc (by omega) (HT.out.2.2.below hB3)
           have HF := Lib.hid hfr
           have HB3 := Lib.hid hB3
           clear hfr hb3 hB3)
        | (go_at_call 15
           refine hdc.mono ?_
           clear hdc
           rintro e w4 ⟨b4, rfl, hI4, hb4⟩
           rw [HS.out.2.1] at hI4
           have hB4 := below_and hb4 HB3.out
           have hrx := refIndex_any _ (fun _ => True) w4 b4 rs cs B d l f hI4 HS.out.2.2 (HT.out.2.1.move (fun b hb' _ => ⟨hB4.block b hb', trivial⟩) (by omega)) (by omega) (by omega) hf
           have HB4 := Lib.hid hB4
           clear hI4 hb4 hB4)
        | (go_at_call 14
           refine hrx.mono ?_
           clear hrx
           rintro e w5 ⟨r5, n5, rfl, hfr5, rfl⟩
           obtain rfl : r5 = r := hfr5.same HF.out
           clear hfr5)
        | (go_at_call 13
           refine (hnil _).mono ?_
           rintro e w8 ⟨rfl, hb8⟩))
      go_ret
      exact ⟨rfl, below_and hb8 (below_drewN HB4.out n5)⟩
end Go.Proofs.YtdnbholiijgedaaDoor
