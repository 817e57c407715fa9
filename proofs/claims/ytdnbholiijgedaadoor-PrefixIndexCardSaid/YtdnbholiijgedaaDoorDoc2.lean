/-
  The document's input and its index: martellolaw11.Doc, (*martelloref01.Input).Len, martelloref14.Index. No condition but that the two tables stand.
-/
import Derived.Test.YtdnbholiijgedaaDoorDoc
import Derived.Test.YtdnbholiijgedaaDoorIndex3
namespace Go.Proofs.YtdnbholiijgedaaDoor
open Go.RowKit Go.Shelf
set_option linter.unusedVariables false

def DocPost (w : World) (s : ByteArray) (e : Ending) (w' : World) : Prop :=
  ∃ b, e = .returned (.pointer (some ⟨b, 0, none⟩)) ∧ RefC (fun k => w.heap.size ≤ k) w' ⟨b, 0, none⟩ (codesOf s) ∧ Below w.heap.size w w'
set_option maxHeartbeats 400000 in
theorem doc_any (ok : Nat → Prop) (w : World) (A : Option Addr) (c : Nat) (s : ByteArray) (h : TextC ok w A s) (hsc : s.size ≤ c) (hc : c ≤ maxLen) (hs : s.size ≤ 65536) (hT : Tabs w) :
    Calls Tryd.prog 15 #[.slice A s.size c] w (DocPost w s) := by
  have hn := refNew_any ok w A c s h hsc hc hs hT
  clear h hT
  go_enter Tryd.func15, Tryd.ntmps15
  go_wp2_with (go_at_call 27; refine hn.mono ?_; clear hn; rintro e w2 ⟨b, rfl, hI, hb2⟩)
  go_ret
  exact ⟨b, rfl, hI, hb2⟩
set_option maxHeartbeats 400000 in
theorem refLen_any (w : World) (b : Nat) (cs : List Int) (A : Option Addr) (c : Nat) (h : w.cell? ⟨b, 2, none⟩ = some (.slice A cs.length c)) (hl : cs.length ≤ 1000000000) :
    Calls Tryd.prog 26 #[.pointer (some ⟨b, 0, none⟩)] w fun e w' => e = .returned (.int .i64 (cs.length : Int)) ∧ w = w' := by
  go_enter Tryd.func26, Tryd.ntmps26
  go_wp2
  go_ret
  exact ⟨rfl, rfl⟩

/-- The document's runes are the program's. -/
def SameRunes (rs : List (Int × Int)) (cs : List Int) : Prop := rs.length = cs.length + 1 ∧ ∀ (k : Nat) (hk : k < cs.length), runeAt rs (k : Int) = cs[k]
theorem same_runes (s : ByteArray) : SameRunes (symsOf s) (codesOf s) := by
  refine ⟨by simp [symsOf, codesOf], fun k hk => ?_⟩
  have hk' : k < (symsFrom s s.size 0).length := by simpa [codesOf] using hk
  unfold runeAt
  rw [if_pos (by omega), Int.toNat_natCast]
  simp [symsOf, codesOf, List.getElem?_append_left hk', List.getElem?_eq_getElem hk']

def RefIndexPost (rs : List (Int × Int)) (l : List Int) (f : Int) (w : World) (e : Ending) (w' : World) : Prop := ∃ (r : Int) (n : Nat), e = .returned (.int .i64 r) ∧ FirstAt rs l f r ∧ w' = w.drewN n
set_option maxRecDepth 100000 in
set_option maxHeartbeats 2000000 in
theorem refIndex_any (ok ok' : Nat → Prop) (w : World) (b : Nat) (rs : List (Int × Int)) (cs : List Int) (B : Option Addr) (cap : Nat) (l : List Int) (f : Int) (hin : RefC ok w ⟨b, 0, none⟩ cs) (hrs : SameRunes rs cs) (h : Arr ok' w 1 (IntC .i32) B l) (hN : l.length ≤ 1000000000) (hR : cs.length ≤ 1000000000) (hf : f ≤ 9223372036854775807) :
    Calls Tryd.prog 14 #[.pointer (some ⟨b, 0, none⟩), .slice B l.length cap, .int .i64 f] w (RefIndexPost rs l f w) := by
  obtain ⟨A, c, _, hc2, _, _, hA⟩ := hin
  rw [show (⟨b, 0 + 2, none⟩ : Addr) = ⟨b, 2, none⟩ from rfl] at hc2
  have HA := Lib.hid (And.intro hA (And.intro h hrs))
  clear hA h hrs
  go_enter Tryd.func14, Tryd.ntmps14
  go_wp2_with fail
  go_loopg [7] (cs.length + 1 - (max f 0).toNat) (fun g s7 wr => ∃ at0 n : Nat, s7 = .int .i64 at0 ∧ cs.length + 1 - at0 ≤ g ∧ f ≤ at0 ∧ (at0 : Int) ≤ 9223372036854775807 ∧ Hid (∀ b : Nat, f ≤ b → b < at0 → ¬ stands rs l b) ∧ wr = w.drewN n)
  case atStart => exact ⟨(max f 0).toNat, 0, by congr 1; omega, Nat.le_refl _, by omega, by omega, Lib.hid (fun b hb1 hb2 => by omega), rfl⟩
  case round =>
    obtain ⟨at0, n, rfl, hg, hfa, hax, HN, rfl⟩ := hrel
    obtain ⟨G, hG⟩ : ∃ G, G = gk := ⟨_, rfl⟩
    rw [← hG] at hg
    have hlen : Calls Tryd.prog 26 #[.pointer (some ⟨b, 0, none⟩)] (w.drewN n) fun e w' => e = .returned (.int .i64 (cs.length : Int)) ∧ w.drewN n = w' := refLen_any (w.drewN n) b cs A c hc2 hR
    have hcn : (w.drewN n).cell? ⟨b, 2, none⟩ = some (.slice A cs.length c) := hc2
    by_cases h1 : (at0 : Int) ≤ (cs.length : Int) ∧ (l.length : Int) ≤ (cs.length : Int) - (at0 : Int)
    · obtain ⟨h1, h2⟩ := h1
      go_wp2_with (go_at_call 26; refine hlen.mono ?_; rintro e w2 ⟨rfl, rfl⟩)
      go_loopg [8, 9] l.length (fun g2 s8 s9 wy => ∃ (j q : Nat) (bb : Bool), s8 = .bool bb ∧ s9 = .int .i64 j ∧ j + g2 = l.length ∧ Hid ((bb = true → ∀ (i : Nat) (hi : i < l.length), i < j → runeAt rs ((at0 + i : Nat) : Int) = l[i]) ∧ (bb = false → ¬ stands rs l at0)) ∧ wy = w.drewN q)
      case atStart => exact ⟨0, n, true, rfl, rfl, by omega, Lib.hid ⟨fun _ i _ h => by omega, fun h => by cases h⟩, rfl⟩
      case round =>
        obtain ⟨j, q, bb, rfl, rfl, hj, HJ, rfl⟩ := hrel
        by_cases hlt : j < l.length
        · cases bb
          · go_wp2_with fail
            go_roundg (G - 1)
            case measure => omega
            case rel =>
              refine ⟨at0 + 1, q, by simp, by omega, by omega, by omega, Lib.hid (fun b hb1 hb3 => ?_), rfl⟩
              rcases Nat.lt_or_ge b at0 with h3 | h3
              · exact HN.out b hb1 h3
              · obtain rfl : b = at0 := by omega
                exact HJ.out.2 (by trivial)
          · have hjc : at0 + j < cs.length := by omega
            obtain ⟨ad, rfl, hca⟩ := ints_at HA.out.1 (at0 + j) hjc
            obtain ⟨bd, rfl, hcb⟩ := ints_at HA.out.2.1 j hlt
            have hcq : (w.drewN q).cell? ⟨b, 2, none⟩ = some (.slice (some ad) cs.length c) := hc2
            have hcaq : (w.drewN q).cell? (ad.add (at0 + j)) = some (.int .i32 cs[at0 + j]) := hca
            have hcbq : (w.drewN q).cell? (bd.add j) = some (.int .i32 l[j]) := hcb
            have hw1 : IntKind.i64.wrap ((at0 : Int) + (j : Int)) = (at0 : Int) + (j : Int) := IntWalk.i64_in _ (by omega)
            have hn1 : ((at0 : Int) + (j : Int)).toNat = at0 + j := by omega
            have hn2 : (0 : Int) ≤ (at0 : Int) + (j : Int) := by omega
            have hn3 : (at0 : Int) + (j : Int) < (cs.length : Int) := by omega
            have HC := Lib.hid (And.intro hca (And.intro hcb hcn))
            clear hca hcb hcn hlen
            generalize hq6 : w.drewN q = w6 at *
            have HQ6 := Lib.hid hq6
            clear hq6
            go_wp2_with fail
            go_quiet (fail)
            clear hw1 hn1
            go_wp2_with fail
            go_roundg (gk - 1)
            case measure => omega
            case rel =>
              have hrk := HA.out.2.2.2 (at0 + j) hjc
              refine ⟨j + 1, _, cs[at0 + j] == l[j], rfl, by go_num, by omega, Lib.hid ⟨fun he i hi hij => ?_, fun he hs => ?_⟩, by rw [← HQ6.out, World.drewN_drewN]⟩
              · rcases Nat.lt_or_ge i j with h3 | h3
                · exact HJ.out.1 (by trivial) i hi h3
                · obtain rfl : i = j := by omega
                  rw [hrk]; simpa using he
              · have h5 := hs.2 j hlt
                rw [hrk] at h5
                simp [h5] at he
        · cases bb
          · go_wp2_with fail
            go_roundg (G - 1)
            case measure => omega
            case rel =>
              refine ⟨at0 + 1, q, by simp, by omega, by omega, by omega, Lib.hid (fun b hb1 hb3 => ?_), rfl⟩
              rcases Nat.lt_or_ge b at0 with h3 | h3
              · exact HN.out b hb1 h3
              · obtain rfl : b = at0 := by omega
                exact HJ.out.2 (by trivial)
          · go_wp2_with fail
            go_ret
            exact ⟨(at0 : Int), q, rfl, .inr ⟨at0, rfl, hfa, ⟨by have := HA.out.2.2.1; omega, fun i hi => HJ.out.1 (by trivial) i hi (by omega)⟩, HN.out⟩, rfl⟩
    · have hno : FirstAt rs l f (-1) := .inl ⟨rfl, fun b hb hs => by
        rcases Nat.lt_or_ge b at0 with h3 | h3
        · exact HN.out b hb h3 hs
        · have h5 := hs.1
          have h6 := HA.out.2.2.1
          omega⟩
      have HNO := Lib.hid hno
      clear hno
      by_cases h2 : (at0 : Int) ≤ (cs.length : Int)
      · have h3 : ¬ (l.length : Int) ≤ (cs.length : Int) - (at0 : Int) := fun h => h1 ⟨h2, h⟩
        clear h1
        go_wp2_with (go_at_call 26; refine hlen.mono ?_; rintro e w2 ⟨rfl, rfl⟩)
        go_ret
        exact ⟨-1, n, rfl, HNO.out, rfl⟩
      · clear h1
        go_wp2_with (go_at_call 26; refine hlen.mono ?_; rintro e w2 ⟨rfl, rfl⟩)
        go_ret
        exact ⟨-1, n, rfl, HNO.out, rfl⟩
end Go.Proofs.YtdnbholiijgedaaDoor
