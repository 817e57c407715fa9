/-
  prefix.runes, prefix.Prefix: what a tree's matches begin with. What sets.Right answers of its sets is a premise. No other condition but a bound on the parts.
-/
import Derived.Test.YtdnbholiijgedaaDoorShaped
import Derived.Test.YtdnbholiijgedaaDoorMore
namespace Go.Proofs.YtdnbholiijgedaaDoor
open Go.RowKit
set_option linter.unusedVariables false

theorem infoRune : (Tryd.prog.info? 21).map (fun i => (i.zero, i.size, i.bytes)) = some (some (.int .i32 0), 1, 4) := by kernel_rfl

/-- A list of runes of one's own. -/
def runeC (x : Int) : List Value := [.int .i32 x]
def OwnI (w : World) (base : Nat) (v : Value) (xs : List Int) : Prop := Owns w base 21 1 v (xs.map runeC)

/-- How many Kids a part must have. -/
def okK (p : Tr) : Prop := (p.op = 6 ∨ p.op = 8 ∨ p.op = 10 → p.kids.length = 1)

def RunesPost (base : Nat) (w : World) (xs : List Int) (r : List Int × Bool) (e : Ending) (w' : World) : Prop :=
  ∃ v', e = .returned (.tuple #[v', .bool r.2]) ∧ OwnI w' base v' (xs ++ r.1) ∧ Below base w w'

theorem ret_two {v v' : Value} {b b' : Bool} (h : b = b') (hv : v = v') : Ending.returned (.tuple #[v, .bool b]) = .returned (.tuple #[v', .bool b']) := by rw [h, hv]

set_option maxRecDepth 100000 in
set_option maxHeartbeats 4000000 in
theorem runes_any (base : Nat) (k : Nat) : ∀ (t : Tr) (cs : List Value) (v : Value) (xs : List Int) (w : World), (parts t).length ≤ k → TrC (fun b => b < base) w t cs → (∀ p ∈ parts t, okK p) → OwnI w base v xs → base ≤ w.heap.size →
    xs.length + (parts t).length ≤ 1000000000 → Calls Tryd.prog 19 #[.agg cs.toArray, v] w (RunesPost base w xs (pfx t)) := by
  induction k with
  | zero => intro t cs v xs w hk; rw [parts_eq] at hk; simp at hk
  | succ k ih =>
    intro t cs v xs w hk ht hok hown hb hN
    obtain ⟨i0, hi, hz0, hz1, hz2⟩ := info_parts infoRune
    have hokt : okK t := hok t (by rw [parts_eq]; simp)
    have hpx := pfx_eq t
    have hpk := parts_eq t
    obtain ⟨A, c, B, d, rfl, h1, h2, h3, h4, h5, h6⟩ := trC_iff.1 ht
    have hkl : t.kids.length ≤ 9223372036854775807 := by unfold maxLen at h2; omega
    by_cases o2 : t.op = 2
    · rw [if_pos o2] at hpx
      have HP := Lib.hid hpx
      have HO := Lib.hid hown
      clear hpx hpk hown
      go_enter Tryd.func19, Tryd.ntmps19
      go_wp2_with fail
      go_ret2
      exact ⟨v, ret_two (by rw [HP.out]) rfl, by rw [HP.out, List.append_nil]; exact HO.out.alloc _, (Below.refl _ _).alloc hb _⟩
    rw [if_neg o2] at hpx
    by_cases o3 : t.op = 3
    · rw [if_pos o3] at hpx
      have HP := Lib.hid hpx
      have HO := Lib.hid (show Owns w base 21 1 v (xs.map runeC) from hown)
      clear hpx hpk hown
      go_enter Tryd.func19, Tryd.ntmps19
      go_wp2_with (at_builtin; refine wpList_app1 rfl _ _ 30 rfl base 21 i0 (.int .i32 0) 1 4 Tryd.underlying30 hi hz0 hz1 hz2 rfl (by decide) _ _ rfl ((HO.out.alloc _).alloc _) _ [.int .i32 t.rune] rfl rfl (heap_new2 _ _ _) ?c2 ?c3 ?c4 ?c5 ?_)
      case c2 => intro u hu; simp at hu; subst hu; rfl
      case c3 => unfold maxLen; simp; omega
      case c4 => simp; omega
      case c5 => simp; omega
      · intro v' w1 hown' hgrow
        have hb1 := below_app (balc (balc (Below.refl base w) hb _) hb _) (by simp; omega) ((HO.out.alloc _).alloc _) hgrow
        have HG := Lib.hid (And.intro hown' hgrow)
        clear hown' hgrow
        go_wp2_with fail
        go_ret2
        exact ⟨v', ret_two (by rw [HP.out]) rfl, by
          rw [HP.out]
          show Owns _ _ _ _ _ ((xs ++ [t.rune]).map runeC)
          rw [List.map_append]; exact HG.out.1, hb1⟩
    rw [if_neg o3] at hpx
    have q2 : (t.op == 2) = false := by simpa using o2
    have q3 : (t.op == 3) = false := by simpa using o3
    clear o2 o3
    by_cases o6 : t.op = 6 ∨ (t.op = 12 ∧ t.kids.length = 1)
    · rw [if_pos o6] at hpx
      have hlen : t.kids.length = 1 := o6.elim (fun h => hokt (.inl h)) (fun h => h.2)
      have h0 : 0 < t.kids.length := by omega
      rw [pfxH_eq h0] at hpx
      have hkk := parts_kid h0
      have hokk : ∀ p ∈ parts t.kids[0], okK p := fun p hp => hok p (mem_parts_kid h0 hp)
      obtain ⟨ad, A1, c1, A3, c3, rfl, hTk, g0, g1, g2, g3, g4, g5, g6, g7, g8, g9⟩ := trArr_at0 h6 (w.alloc (.cells #[.int .i64 t.op, .slice A t.kids.length c, .int .i32 t.rune, .slice B t.set.length d, .int .i64 t.at_, .int .i64 t.cap, .string t.name, .int .i64 t.mn, .int .i64 t.mx, .bool t.lz] 27)) (fun b hb' _ => Below.heap_alloc _ _ _ (by omega)) h0
      have hih := ih t.kids[0] _ v xs (w.alloc (.cells #[.int .i64 t.op, .slice (some ad) t.kids.length c, .int .i32 t.rune, .slice B t.set.length d, .int .i64 t.at_, .int .i64 t.cap, .string t.name, .int .i64 t.mn, .int .i64 t.mx, .bool t.lz] 27)) (by omega) (hTk.move (fun b hb' _ => ⟨Below.heap_alloc _ _ _ (by omega), hb'⟩)) hokk (hown.alloc _) (by simp; omega) (by omega)
      have HP := Lib.hid hpx
      have hl1 : ((t.kids.length : Int) == 1) = true := by rw [hlen]; rfl
      clear hpx hpk hown hokk hkk ih hTk ht hok hlen
      rcases o6 with o6 | ⟨o12, o1⟩
      · have q6 : (t.op == 6) = true := by simpa using o6
        clear o6
        go_enter Tryd.func19, Tryd.ntmps19
        go_wp2_with (go_at_call 19; refine hih.mono ?_; clear hih; rintro e w1 ⟨v1, rfl, hown1, hb1⟩)
        go_ret2
        exact ⟨v1, ret_two (by rw [HP.out]) rfl, by rw [HP.out]; exact hown1, (balc (Below.refl base w) hb _).trans hb1⟩
      · have q6 : (t.op == 6) = false := by rw [o12]; rfl
        have q12 : (t.op == 12) = true := by rw [o12]; rfl
        clear o12 o1
        go_enter Tryd.func19, Tryd.ntmps19
        go_wp2_with (go_at_call 19; refine hih.mono ?_; clear hih; rintro e w1 ⟨v1, rfl, hown1, hb1⟩)
        go_ret2
        exact ⟨v1, ret_two (by rw [HP.out]) rfl, by rw [HP.out]; exact hown1, (balc (Below.refl base w) hb _).trans hb1⟩
    rw [if_neg o6] at hpx
    have q6 : (t.op == 6) = false := by simp; exact fun h => o6 (.inl h)
    by_cases o8 : t.op = 8 ∨ (t.op = 10 ∧ 0 < t.mn)
    · rw [if_pos o8] at hpx
      have hlen : t.kids.length = 1 := o8.elim (fun h => hokt (.inr (.inl h))) (fun h => hokt (.inr (.inr h.1)))
      have h0 : 0 < t.kids.length := by omega
      rw [pfxH_eq h0] at hpx
      have hkk := parts_kid h0
      have hokk : ∀ p ∈ parts t.kids[0], okK p := fun p hp => hok p (mem_parts_kid h0 hp)
      obtain ⟨ad, A1, c1, A3, c3, rfl, hTk, g0, g1, g2, g3, g4, g5, g6, g7, g8, g9⟩ := trArr_at0 h6 (w.alloc (.cells #[.int .i64 t.op, .slice A t.kids.length c, .int .i32 t.rune, .slice B t.set.length d, .int .i64 t.at_, .int .i64 t.cap, .string t.name, .int .i64 t.mn, .int .i64 t.mx, .bool t.lz] 27)) (fun b hb' _ => Below.heap_alloc _ _ _ (by omega)) h0
      have hih := ih t.kids[0] _ v xs (w.alloc (.cells #[.int .i64 t.op, .slice (some ad) t.kids.length c, .int .i32 t.rune, .slice B t.set.length d, .int .i64 t.at_, .int .i64 t.cap, .string t.name, .int .i64 t.mn, .int .i64 t.mx, .bool t.lz] 27)) (by omega) (hTk.move (fun b hb' _ => ⟨Below.heap_alloc _ _ _ (by omega), hb'⟩)) hokk (hown.alloc _) (by simp; omega) (by omega)
      have HP := Lib.hid hpx
      have q12 : (t.op == 12) = false := by rcases o8 with h | ⟨h, _⟩ <;> (rw [h]; rfl)
      clear hpx hpk hown hokk hkk ih hTk ht hok hlen o6
      rcases o8 with o8 | ⟨o10, omn⟩
      · have q8 : (t.op == 8) = true := by simpa using o8
        clear o8
        go_enter Tryd.func19, Tryd.ntmps19
        go_wp2_with (go_at_call 19; refine hih.mono ?_; clear hih; rintro e w1 ⟨v1, rfl, hown1, hb1⟩)
        go_ret2
        exact ⟨v1, ret_two (by rw [HP.out]) rfl, by rw [HP.out]; exact hown1, (balc (Below.refl base w) hb _).trans hb1⟩
      · have q8 : (t.op == 8) = false := by rw [o10]; rfl
        have q10 : (t.op == 10) = true := by rw [o10]; rfl
        clear o10
        go_enter Tryd.func19, Tryd.ntmps19
        go_wp2_with (go_at_call 19; refine hih.mono ?_; clear hih; rintro e w1 ⟨v1, rfl, hown1, hb1⟩)
        go_ret2
        exact ⟨v1, ret_two (by rw [HP.out]) rfl, by rw [HP.out]; exact hown1, (balc (Below.refl base w) hb _).trans hb1⟩
    rw [if_neg o8] at hpx
    have q8 : (t.op == 8) = false := by simp; exact fun h => o8 (.inl h)
    by_cases o11 : t.op = 11
    · rw [if_pos o11] at hpx
      have q11 : (t.op == 11) = true := by simpa using o11
      have q12 : (t.op == 12) = false := by rw [o11]; rfl
      have q10 : (t.op == 10) = false := by rw [o11]; rfl
      have HP := Lib.hid hpx
      have HK := Lib.hid hok
      have HT := Lib.hid ht
      clear hpx hpk o6 o8 o11 hok ht
      have HO := Lib.hid hown
      clear hown
      go_enter Tryd.func19, Tryd.ntmps19
      go_wp2_with fail
      go_loopw [72, 1] (fun i u wr => ∃ (j : Nat) (ys : List Int), i = .int .i64 j ∧ j ≤ t.kids.length ∧ pfxL (t.kids.take j) = (ys, true) ∧ OwnI wr base u (xs ++ ys) ∧ Below base w wr) (fun i _ _ => t.kids.length - (intOf i).toNat)
      case atStart => exact ⟨0, [], rfl, Nat.zero_le _, rfl, by rw [List.append_nil]; exact HO.out.alloc _, balc (Below.refl base w) hb _⟩
      case round =>
        obtain ⟨j, ys, rfl, hj, hys, hownr, hBr⟩ := hrel
        by_cases hlt : j < t.kids.length
        · obtain ⟨ad, A1, c1, A3, c3, rfl, hTk, g0, g1, g2, g3, g4, g5, g6, g7, g8, g9⟩ := trArr_at h6 wr (fun b hb' _ => hBr.block b hb') j hlt
          have hkk := parts_kid hlt
          have hyl := pfxL_len (t.kids.take j)
          rw [hys, partsL_flat] at hyl
          have hbr : base ≤ wr.heap.size := Nat.le_trans hb hBr.size
          have hih := ih t.kids[j] _ u1 (xs ++ ys) (wr.alloc (.cells #[.int .i64 t.kids[j].op, .slice A1 t.kids[j].kids.length c1, .int .i32 t.kids[j].rune, .slice A3 t.kids[j].set.length c3, .int .i64 t.kids[j].at_, .int .i64 t.kids[j].cap, .string t.kids[j].name, .int .i64 t.kids[j].mn, .int .i64 t.kids[j].mx, .bool t.kids[j].lz] 27)) (by omega)
            (hTk.move (fun b hb' _ => ⟨(Below.heap_alloc _ _ _ (by omega)).trans (hBr.block b hb'), hb'⟩)) (fun p hp => HK.out p (mem_parts_kid hlt hp)) (hownr.alloc _) (by simp; omega) (by rw [List.length_append]; simp only at hyl; omega)
          have HY := Lib.hid hys
          clear hys hyl hkk hTk ih
          cases hpk : (pfx t.kids[j]).2
          · have HPK := Lib.hid hpk
            clear hpk
            have hih2 := hih.mono (R' := fun e w' => ∃ v', e = .returned (.tuple #[v', .bool false]) ∧ OwnI w' base v' (xs ++ ys ++ (pfx t.kids[j]).1) ∧ Below base _ w') (fun e w' h => by obtain ⟨v', h1, h2, h3⟩ := h; exact ⟨v', by rw [h1, HPK.out], h2, h3⟩)
            clear hih
            go_wp2_with (go_at_call 19; refine hih2.mono ?_; clear hih2; rintro e w1 ⟨v1, rfl, hown1, hb1⟩)
            go_ret2
            have h7 := pfxL_stop hlt HY.out HPK.out
            exact ⟨v1, ret_two (by rw [HP.out, h7]) rfl, by rw [HP.out, h7, ← List.append_assoc]; exact hown1, hBr.trans ((balc (Below.refl base wr) hbr _).trans hb1)⟩
          · have HPK := Lib.hid hpk
            clear hpk
            have hih2 := hih.mono (R' := fun e w' => ∃ v', e = .returned (.tuple #[v', .bool true]) ∧ OwnI w' base v' (xs ++ ys ++ (pfx t.kids[j]).1) ∧ Below base _ w') (fun e w' h => by obtain ⟨v', h1, h2, h3⟩ := h; exact ⟨v', by rw [h1, HPK.out], h2, h3⟩)
            clear hih
            go_wp2_with (go_at_call 19; refine hih2.mono ?_; clear hih2; rintro e w1 ⟨v1, rfl, hown1, hb1⟩)
            have h7 := pfxL_take hlt HY.out
            rw [HPK.out] at h7
            go_roundw
            case rel => exact ⟨j + 1, ys ++ (pfx t.kids[j]).1, by go_num, by omega, h7, by rw [← List.append_assoc]; exact hown1, hBr.trans ((balc (Below.refl base wr) hbr _).trans hb1)⟩
            case measure => simp [intOf]; omega
        · obtain rfl : j = t.kids.length := by omega
          rw [List.take_length] at hys
          have HY := Lib.hid hys
          clear hys
          go_wp2_with fail
          go_ret2
          exact ⟨_, ret_two (by rw [HP.out, HY.out]) rfl, by rw [HP.out, HY.out]; exact hownr, hBr⟩
    rw [if_neg o11] at hpx
    have q11 : (t.op == 11) = false := by simpa using o11
    have HP := Lib.hid hpx
    have HO := Lib.hid hown
    have h6' : t.op = 12 → ¬ t.kids.length = 1 := fun h h' => o6 (.inr ⟨h, h'⟩)
    have h8' : t.op = 10 → ¬ 0 < t.mn := fun h h' => o8 (.inr ⟨h, h'⟩)
    have H6 := Lib.hid h6'
    have H8 := Lib.hid h8'
    clear hpx hpk hown h6' h8' o6 o8 o11 ih hok ht
    go_enter Tryd.func19, Tryd.ntmps19
    go_wp2_with fail
    all_goals first
      | (go_ret2; exact ⟨v, ret_two (by rw [HP.out]) rfl, by rw [HP.out, List.append_nil]; exact HO.out.alloc _, balc (Below.refl base w) hb _⟩)
      | (exfalso; exact H6.out (by assumption) (by have h1 := ‹((t.kids.length : Int) == 1) = true›; simp at h1; omega))
      | (exfalso; have h1 := H8.out (by assumption); omega)

/-- From what is shaped: each part has as many Kids as it must have. -/
theorem okK_of {R : List Rg → Bool} {t : Tr} (h : shapedB R t = true) : ∀ p ∈ parts t, okK p := by
  intro p hp
  have h1 := List.all_eq_true.1 h p hp
  unfold goodP plainB plainV opV at h1
  intro ho
  rcases ho with ho | ho | ho
  all_goals
    simp only [ho] at h1
    repeat' split at h1
    all_goals (simp at h1; try omega)

set_option maxRecDepth 100000 in
set_option maxHeartbeats 400000 in
/-- prefix.Prefix. -/
theorem prefix_yes (R : List Rg → Bool) (w : World) (ok : Nat → Prop) (t : Tr) (cs : List Value) (ht : TrC ok w t cs) (hR : ∀ p ∈ parts t, p.op = 4 → RightOK R p.set) (hs : shapedB R t = true) (hN : (parts t).length ≤ 1000000000) :
    Calls Tryd.prog 9 #[.agg cs.toArray] w (RunesPost w.heap.size w [] (pfx t)) := by
  have hsh := shaped_any R ok (w.alloc (.cells cs.toArray 27)) t cs (ht.move (fun b hb hlt => ⟨Below.heap_alloc _ _ _ hlt, hb⟩)) hR
  rw [hs] at hsh
  have ht2 : TrC (fun b => b < w.heap.size) w t cs := ht.old.mono (fun b h => h.2)
  have hru : ∀ w1, Below w.heap.size w w1 → Calls Tryd.prog 19 #[.agg cs.toArray, .slice none 0 0] w1 (RunesPost w.heap.size w1 [] (pfx t)) := fun w1 hb =>
    runes_any w.heap.size _ t cs _ [] w1 (Nat.le_refl _) (ht2.move (fun b hb' _ => ⟨hb.block b hb', hb'⟩)) (okK_of hs) (Owns.nil _ _ _ _) hb.size (by simpa using hN)
  have HRU := Lib.hid hru
  obtain ⟨A, c, B, d, rfl, _⟩ := trC_iff.1 ht
  clear hru ht2 ht hR hs
  have hsh2 := hsh.mono (R' := fun e w1 => e = .returned (.bool true) ∧ Below w.heap.size w w1 ∧ w1.heap[w.heap.size]? = some (.cells #[.int .i64 t.op, .slice A t.kids.length c, .int .i32 t.rune, .slice B t.set.length d, .int .i64 t.at_, .int .i64 t.cap, .string t.name, .int .i64 t.mn, .int .i64 t.mx, .bool t.lz] 27 (0, 0)))
    (fun e w1 h => ⟨h.1, below_and h.2 (below_al (Below.refl _ _) _), (h.2.block _ (by simp)).trans (heap_new1 _ _)⟩)
  clear hsh
  go_enter Tryd.func9, Tryd.ntmps9
  go_wp2_with fail
  refine hsh2.mono ?_
  rintro e w1 ⟨rfl, hb1, hbx⟩
  obtain ⟨g0, g1, g2, g3, g4, g5, g6, g7, g8, g9⟩ := cells10 hbx
  have hru := HRU.out w1 hb1
  clear hbx hsh2
  have HB := Lib.hid hb1
  clear hb1
  go_wp2_with (go_at_call 19; refine hru.mono ?_; clear hru; rintro e w2 ⟨v2, rfl, hown2, hb2⟩)
  go_ret2
  exact ⟨v2, rfl, hown2, HB.out.trans hb2⟩
end Go.Proofs.YtdnbholiijgedaaDoor
