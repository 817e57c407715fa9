/-
  slices.Contains over At, trees.name, trees.bare, trees.plain: is a part well formed? No condition.
-/
import Derived.Test.YtdnbholiijgedaaCore
import Derived.Test.YtdnbholiijgedaaProg
import Derived.Lib.ConvBytes
namespace Go.Proofs.Ytdnbholiijgedaa
open Go.RowKit
set_option linter.unusedVariables false

/-! ### lists of whole numbers -/
def IntC (k : IntKind) (x : Int) (cs : List Value) : Prop := cs = [.int k x]
theorem ints_at {ok : Nat → Prop} {w : World} {k : IntKind} {A : Option Addr} {xs : List Int} (h : Arr ok w 1 (IntC k) A xs) (i : Nat) (hi : i < xs.length) : ∃ ad, A = some ad ∧ w.cell? (ad.add i) = some (.int k xs[i]) := by
  obtain ⟨ad, cs, rfl, _, rfl, _, hc⟩ := h i _ (List.getElem?_eq_getElem hi)
  exact ⟨ad, rfl, by simpa using hc 0 _ rfl⟩
def idxI (xs : List Int) (v : Int) : Int := match xs.findIdx? (· == v) with | some i => (i : Int) | none => -1
theorem idxI_some {xs : List Int} {v : Int} {i : Nat} (hi : i < xs.length) (h : (v == xs[i]) = true) (hb : ∀ j (hj : j < xs.length), j < i → ¬ v = xs[j]) : idxI xs v = i := by
  have : xs.findIdx? (· == v) = some i := by
    rw [List.findIdx?_eq_some_iff_getElem]
    refine ⟨hi, by rw [beq_iff_eq] at h ⊢; exact h.symm, fun j hj => ?_⟩
    rw [beq_iff_eq]
    exact fun e => hb j (by omega) hj e.symm
  simp [idxI, this]
theorem idxI_none {xs : List Int} {v : Int} (hb : ∀ j (hj : j < xs.length), ¬ v = xs[j]) : idxI xs v = -1 := by
  have : xs.findIdx? (· == v) = none := by
    rw [List.findIdx?_eq_none_iff]
    intro x hx
    obtain ⟨j, hj, rfl⟩ := List.getElem_of_mem hx
    rw [beq_eq_false_iff_ne]
    exact fun e => hb j hj e.symm
  simp [idxI, this]
theorem idxI_ge {xs : List Int} {v : Int} : decide (0 ≤ idxI xs v) = xs.contains v := by
  unfold idxI
  cases h : xs.findIdx? (· == v) with
  | some i =>
    rw [List.findIdx?_eq_some_iff_getElem] at h
    obtain ⟨hi, h1, _⟩ := h
    have h2 : xs[i] = v := by simpa using h1
    rw [List.contains_iff_mem.2 (h2 ▸ List.getElem_mem hi)]
    simp
  | none =>
    rw [List.findIdx?_eq_none_iff] at h
    have : xs.contains v = false := by
      rw [Bool.eq_false_iff]
      intro hc
      have := h v (List.contains_iff_mem.1 hc)
      simp at this
    rw [this]; rfl

set_option maxHeartbeats 400000 in
theorem indexAt_any (w : World) (ok : Nat → Prop) (A : Option Addr) (c : Nat) (xs : List Int) (v : Int) (h : Arr ok w 1 (IntC .i64) A xs) (hl : xs.length ≤ 9223372036854775807) :
    Calls Try.prog 69 #[.slice A xs.length c, .int .i64 v] w fun e w' => e = .returned (.int .i64 (idxI xs v)) ∧ w = w' := by
  go_enter Try.func69, Try.ntmps69
  go_wp2
  go_loop [8] (fun i => ∃ k : Nat, k ≤ xs.length ∧ i = .int .i64 k ∧ ∀ j (hj : j < xs.length), j < k → ¬ v = xs[j]) (fun i => xs.length - (intOf i).toNat)
  case atStart => exact ⟨0, Nat.zero_le _, rfl, fun j _ h => by omega⟩
  case round =>
    obtain ⟨k, hk, rfl, hb⟩ := hrel
    have HB := Lib.hid hb
    clear hb
    by_cases hlt : k < xs.length
    · obtain ⟨ad, rfl, hc⟩ := ints_at h k hlt
      by_cases he : (v == xs[k]) = true
      · go_wp2
        go_ret
        exact ⟨ret_int (idxI_some hlt he HB.out).symm, rfl⟩
      · have he' : (v == xs[k]) = false := by simpa using he
        clear he
        have HE := Lib.hid he'
        go_wp2
        go_round
        case rel =>
          exact ⟨k + 1, by omega, by go_num, fun j hj hjk => by
            rcases Nat.lt_or_ge j k with h1 | h1
            · exact HB.out j hj h1
            · obtain rfl : j = k := by omega
              simpa using HE.out⟩
        case measure => simp [intOf]; omega
    · obtain rfl : k = xs.length := by omega
      go_wp2
      go_ret
      exact ⟨ret_int (idxI_none (fun j hj => HB.out j hj hj)).symm, rfl⟩

set_option maxHeartbeats 400000 in
theorem containsAt_any (w : World) (ok : Nat → Prop) (A : Option Addr) (c : Nat) (xs : List Int) (v : Int) (h : Arr ok w 1 (IntC .i64) A xs) (hl : xs.length ≤ 9223372036854775807) :
    Calls Try.prog 55 #[.slice A xs.length c, .int .i64 v] w fun e w' => e = .returned (.bool (xs.contains v)) ∧ w = w' := by
  have hg := @idxI_ge xs v
  have HG := Lib.hid hg
  clear hg
  go_enter Try.func55, Try.ntmps55
  go_wp2_with (go_at_call 69; refine (indexAt_any w ok A c xs v h hl).mono ?_; rintro e w' ⟨rfl, rfl⟩)
  go_ret
  exact ⟨ret_bool HG.out, rfl⟩

/-! ### a group's name -/
def nth (s : ByteArray) (i : Nat) : Int := ((s.data.toList.getD i 0).toNat : Int)
theorem nth_bd (s : ByteArray) (i : Nat) : 0 ≤ nth s i ∧ nth s i ≤ 255 := by
  unfold nth; have := (s.data.toList.getD i 0).toNat_lt; omega
theorem run_index0 (w : World) (s : ByteArray) (hs : 0 < s.size) : (Instr.index 9 (.string s) (.int .i64 0)).run Try.prog w = .ok (.int .u8 (nth s 0)) w := by
  have : nth s 0 = ((s[0]'hs).toNat : Int) := by
    unfold nth
    rw [List.getD_eq_getElem?_getD, List.getElem?_eq_getElem (by simpa using hs)]
    rfl
  rw [this]
  simp [go_sem, hs]
def chB (c : Int) : Bool := (decide (97 ≤ c) && decide (c ≤ 122)) || (decide (65 ≤ c) && decide (c ≤ 90)) || (decide (48 ≤ c) && decide (c ≤ 57)) || (c == 95)
def nameB (s : ByteArray) : Bool := decide (0 < s.size) && decide (s.size ≤ 32) && !(decide (48 ≤ nth s 0) && decide (nth s 0 ≤ 57)) && (List.range s.size).all (fun j => chB (nth s j))

theorem below_bytes (w : World) (e : TypeId) (s : ByteArray) : Below w.heap.size w (Lib.bytesWorld w e s) :=
  ⟨rfl, rfl, rfl, by rw [Lib.bytesWorld_size]; omega, fun k hk => Lib.bytesWorld_at_old w e s k hk⟩

set_option maxRecDepth 100000 in
set_option maxHeartbeats 400000 in
theorem name_loop (w : World) (s : ByteArray) (hs : 0 < s.size) (h1 : s.size ≤ 32) (hd : ¬ (48 ≤ nth s 0 ∧ nth s 0 ≤ 57)) :
    Calls Try.prog 56 #[.string s] w fun e w' => e = .returned (.bool (nameB s)) ∧ Below w.heap.size w w' := by
  have hcv := fun W => Lib.run_convert_string_bytes (P := Try.prog) W 9 96 5 s Try.underlying9 Try.underlying96 Try.underlying5
  have hs0 : s.toList.isEmpty = false := by
    cases h : s.toList with
    | nil =>
      rw [ByteArray.toList_eq] at h
      have h3 : s.data.toList.length = s.size := by rw [Array.length_toList]; rfl
      rw [h] at h3; simp only [List.length_nil] at h3; omega
    | cons a l => rfl
  have hix := fun W => run_index0 W s hs
  have HD := Lib.hid hd
  have hbb := below_bytes w 5 s
  have HBB := Lib.hid hbb
  clear hd hbb
  go_enter Try.func56, Try.ntmps56
  go_wp2_with fail
  · exact (HD.out ⟨by assumption, by omega⟩).elim
  all_goals
    go_loop [25] (fun v => ∃ k : Nat, k ≤ s.size ∧ v = .int .i64 k ∧ ∀ j, j < k → chB (nth s j) = true) (fun v => s.size - (intOf v).toNat)
    case atStart => exact ⟨0, Nat.zero_le _, rfl, fun j h => by omega⟩
    case round =>
      obtain ⟨k, hk, rfl, hb⟩ := hrel
      have HB := Lib.hid hb
      clear hb
      by_cases hlt : k < s.size
      · have hc := Lib.bytesWorld_cell w 5 s k hlt
        rw [show ((s.data.toList.getD k 0).toNat : Int) = nth s k from rfl] at hc
        have hbd := nth_bd s k
        generalize hnk : nth s k = c at hc hbd
        have HN := Lib.hid hnk
        clear hnk
        by_cases h95 : c = 95
        · subst h95
          go_wp2
          all_goals exact ⟨⟨k + 1, by omega, by go_num, fun j hj => by
            rcases Nat.lt_or_ge j k with h1 | h1
            · exact HB.out j h1
            · obtain rfl : j = k := by omega
              rw [HN.out]; rfl⟩, by simp [intOf]; omega⟩
        have h95' : (c == 95) = false := by simpa using h95
        go_wp2
        all_goals first
          | (go_ret
             have hch : chB c = false := by unfold chB; simp only [Bool.or_eq_false_iff, Bool.and_eq_false_iff, decide_eq_false_iff_not, beq_eq_false_iff_ne]; omega
             exact ⟨ret_bool (Eq.symm (by
               unfold nameB
               have : (List.range s.size).all (fun j => chB (nth s j)) = false := by
                 rw [List.all_eq_false]; exact ⟨k, List.mem_range.2 hlt, by rw [HN.out, hch]; simp⟩
               rw [this]; simp)), HBB.out⟩)
          | (have hch : chB c = true := by unfold chB; simp only [Bool.or_eq_true, Bool.and_eq_true, decide_eq_true_eq, beq_iff_eq]; omega
             go_round
             case rel =>
               exact ⟨k + 1, by omega, by go_num, fun j hj => by
                 rcases Nat.lt_or_ge j k with h1 | h1
                 · exact HB.out j h1
                 · obtain rfl : j = k := by omega
                   rw [HN.out, hch]⟩
             case measure => simp [intOf]; omega)
      · obtain rfl : k = s.size := by omega
        go_wp2
        go_ret
        exact ⟨ret_bool (Eq.symm (by
          unfold nameB
          have h2 : (List.range s.size).all (fun j => chB (nth s j)) = true := List.all_eq_true.2 (fun j hj => HB.out j (List.mem_range.1 hj))
          have h3 : (decide (48 ≤ nth s 0) && decide (nth s 0 ≤ 57)) = false := by
            have := HD.out; rw [Bool.and_eq_false_iff, decide_eq_false_iff_not, decide_eq_false_iff_not]; omega
          rw [h2, h3]; simp; omega)), HBB.out⟩

theorem isEmpty_of_size {s : ByteArray} : s.toList.isEmpty = decide (s.size = 0) := by
  rw [ByteArray.toList_eq, Bool.eq_iff_iff, List.isEmpty_iff, decide_eq_true_iff]
  have h3 : s.data.toList.length = s.size := by rw [Array.length_toList]; rfl
  rw [← h3, List.length_eq_zero_iff]

set_option maxRecDepth 100000 in
set_option maxHeartbeats 400000 in
theorem name_any (w : World) (s : ByteArray) : Calls Try.prog 56 #[.string s] w fun e w' => e = .returned (.bool (nameB s)) ∧ Below w.heap.size w w' := by
  have he := @isEmpty_of_size s
  by_cases h0 : s.size = 0
  · have hf : nameB s = false := by unfold nameB; rw [h0]; rfl
    have HF := Lib.hid hf
    rw [decide_eq_true h0] at he
    clear hf h0
    go_enter Try.func56, Try.ntmps56
    go_wp2_with fail
    go_ret
    exact ⟨ret_bool HF.out.symm, Below.refl _ _⟩
  rw [decide_eq_false h0] at he
  by_cases h1 : s.size ≤ 32
  · by_cases hd : 48 ≤ nth s 0 ∧ nth s 0 ≤ 57
    · have hf : nameB s = false := by unfold nameB; rw [decide_eq_true hd.1, decide_eq_true hd.2]; simp
      have HF := Lib.hid hf
      obtain ⟨h3, h4⟩ := hd
      have h1' : ¬ 32 < (s.size : Int) := by omega
      have hix := fun W => run_index0 W s (by omega)
      clear hf h0
      go_enter Try.func56, Try.ntmps56
      go_wp2_with fail
      go_ret
      exact ⟨ret_bool HF.out.symm, Below.refl _ _⟩
    · exact name_loop w s (by omega) h1 hd
  · have hf : nameB s = false := by unfold nameB; rw [decide_eq_false h1]; simp
    have HF := Lib.hid hf
    have h1' : 32 < (s.size : Int) := by omega
    clear hf h0 h1
    go_enter Try.func56, Try.ntmps56
    go_wp2_with fail
    go_ret
    exact ⟨ret_bool HF.out.symm, Below.refl _ _⟩

/-! ### a tree with the fields alone that its Op has -/
def bI (k op x : Int) : Int := if op = k then x else 0
def bN (op : Int) (n : Nat) : Nat := if op = 4 then n else 0
def bA (op : Int) (A : Option Addr) : Option Addr := if op = 4 then A else none
def bS (op : Int) (s : ByteArray) : ByteArray := if op = 6 then s else ⟨#[]⟩
def bL (op : Int) (b : Bool) : Bool := if op = 7 ∨ op = 8 ∨ op = 9 ∨ op = 10 then b else false

set_option maxRecDepth 100000 in
set_option maxHeartbeats 2000000 in
theorem bare_any (w : World) (op r at_ c mn mx : Int) (A B : Option Addr) (n m p q : Nat) (nm : ByteArray) (lz : Bool) :
    Calls Try.prog 53 #[.agg #[.int .i64 op, .slice A n p, .int .i32 r, .slice B m q, .int .i64 at_, .int .i64 c, .string nm, .int .i64 mn, .int .i64 mx, .bool lz]] w fun e w' =>
      e = .returned (.agg #[.int .i64 op, .slice none 0 0, .int .i32 (bI 3 op r), .slice (bA op B) (bN op m) (bN op q), .int .i64 (bI 5 op at_), .int .i64 (bI 6 op c), .string (bS op nm), .int .i64 (bI 10 op mn), .int .i64 (bI 10 op mx), .bool (bL op lz)]) ∧ Below w.heap.size w w' := by
  go_enter Try.func53, Try.ntmps53
  go_wp2_with fail
  all_goals try (go_region; all_goals go_wp2_with fail)
  all_goals
    refine bodyPost_ret (v := .agg #[.int .i64 op, .slice none 0 0, .int .i32 (bI 3 op r), .slice (bA op B) (bN op m) (bN op q), .int .i64 (bI 5 op at_), .int .i64 (bI 6 op c), .string (bS op nm), .int .i64 (bI 10 op mn), .int .i64 (bI 10 op mx), .bool (bL op lz)]) ?_ rfl ⟨rfl, ?_⟩
    · simp only [beq_iff_eq, beq_eq_false_iff_ne] at *
      simp [results, Try.f53, go_sem, bI, bN, bA, bS, bL, *]
    · repeat (first | exact Below.refl _ _ | refine Below.drew ?_ | (refine Below.alloc ?_ (by simp <;> omega) _))
end Go.Proofs.Ytdnbholiijgedaa
