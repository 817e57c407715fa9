/-
  simplify's small functions: is, moves, the closures. No condition.
-/
import Derived.Test.YtdnbholiijgedaaCounted
import Derived.Test.YtdnbholiijgedaaWeight
namespace Go.Proofs.Ytdnbholiijgedaa
open Go.RowKit
set_option linter.unusedVariables false

set_option maxHeartbeats 400000 in
theorem indexOp_any (w : World) (ok : Nat → Prop) (A : Option Addr) (c : Nat) (xs : List Int) (v : Int) (h : Arr ok w 1 (IntC .i64) A xs) (hl : xs.length ≤ 9223372036854775807) :
    Calls Try.prog 70 #[.slice A xs.length c, .int .i64 v] w fun e w' => e = .returned (.int .i64 (idxI xs v)) ∧ w = w' := by
  go_enter Try.func70, Try.ntmps70
  go_wp2
  go_loop [8] (fun i => ∃ k : Nat, k ≤ xs.length ∧ i = .int .i64 k ∧ ∀ j (hj : j < xs.length), j < k → ¬ v = xs[j]) (fun i => xs.length - (intOf i).toNat)
  case atStart => exact ⟨0, Nat.zero_le _, rfl, fun j _ h => by omega⟩
  case round =>
    obtain ⟨k, hk, rfl, hb⟩ := hrel
    have HB := Lib.hid hb
    clear hb
    by_cases hlt : k < xs.length
    · obtain ⟨ad, rfl, hc⟩ := ints_at h k hlt
      by_cases he : (v == xs[k]) = true
      · go_wp2
        go_ret
        exact ⟨ret_int (idxI_some hlt he HB.out).symm, rfl⟩
      · have he' : (v == xs[k]) = false := by simpa using he
        clear he
        have HE := Lib.hid he'
        go_wp2
        go_round
        case rel =>
          exact ⟨k + 1, by omega, by go_num, fun j hj hjk => by
            rcases Nat.lt_or_ge j k with h1 | h1
            · exact HB.out j hj h1
            · obtain rfl : j = k := by omega
              simpa using HE.out⟩
        case measure => simp [intOf]; omega
    · obtain rfl : k = xs.length := by omega
      go_wp2
      go_ret
      exact ⟨ret_int (idxI_none (fun j hj => HB.out j hj hj)).symm, rfl⟩

set_option maxHeartbeats 400000 in
theorem containsOp_any (w : World) (ok : Nat → Prop) (A : Option Addr) (c : Nat) (xs : List Int) (v : Int) (h : Arr ok w 1 (IntC .i64) A xs) (hl : xs.length ≤ 9223372036854775807) :
    Calls Try.prog 64 #[.slice A xs.length c, .int .i64 v] w fun e w' => e = .returned (.bool (xs.contains v)) ∧ w = w' := by
  have hg := @idxI_ge xs v
  have HG := Lib.hid hg
  clear hg
  go_enter Try.func64, Try.ntmps64
  go_wp2_with (go_at_call 70; refine (indexOp_any w ok A c xs v h hl).mono ?_; rintro e w' ⟨rfl, rfl⟩)
  go_ret
  exact ⟨ret_bool HG.out, rfl⟩


/-- A tree's fields as one value. -/
def treeC (t : Tr) (A : Option Addr) (c : Nat) (B : Option Addr) (d : Nat) : List Value := [.int .i64 t.op, .slice A t.kids.length c, .int .i32 t.rune, .slice B t.set.length d, .int .i64 t.at_, .int .i64 t.cap, .string t.name, .int .i64 t.mn, .int .i64 t.mx, .bool t.lz]
set_option maxRecDepth 100000 in
set_option maxHeartbeats 1000000 in
theorem is_any (w : World) (t : Tr) (A : Option Addr) (c : Nat) (B : Option Addr) (d : Nat) (ops : List Int) (A2 : Option Addr) (c2 : Nat) (ok : Nat → Prop) (h : Arr ok w 1 (IntC .i64) A2 ops) (hl : ops.length ≤ 1000000000) :
    Calls Try.prog 45 #[.agg (treeC t A c B d).toArray, .slice A2 ops.length c2] w fun e w' => e = .returned (.bool (ops.contains t.op)) ∧ Below w.heap.size w w' := by
  have hco := fun (W : World) (hW : Below w.heap.size w W) => containsOp_any W ok A2 c2 ops t.op (h.move (fun b hb hlt => ⟨hW.block b hlt, hb⟩) (by omega)) (by omega)
  clear h
  generalize ops.contains t.op = bb at *
  unfold treeC
  go_enter Try.func45, Try.ntmps45
  go_wp2_with fail
  refine (hco _ (below_al (Below.refl _ _) _)).mono ?_
  clear hco
  rintro e w1 ⟨rfl, rfl⟩
  go_wp2_with fail
  go_ret
  exact ⟨rfl, below_al (Below.refl _ _) _⟩
theorem is_lit (w : World) (t : Tr) (A : Option Addr) (c : Nat) (B : Option Addr) (d : Nat) (ops : List Int) (g : Nat) (n : Nat) (hn : ops.length = n) (hg : w.heap[g]? = some (.cells (ops.map (Value.int .i64)).toArray 22 (0, 0))) (hl : ops.length ≤ 1000000000) :
    Calls Try.prog 45 #[.agg (treeC t A c B d).toArray, .slice (some ⟨g, 0, none⟩) n n] w fun e w' => e = .returned (.bool (ops.contains t.op)) ∧ Below w.heap.size w w' := by
  subst hn
  exact is_any w t A c B d ops _ _ (fun _ => True) (arr_lit hg trivial) hl
set_option maxRecDepth 100000 in
set_option maxHeartbeats 1000000 in
theorem simple1_any (w : World) (t : Tr) (cs : List Value) (ok : Nat → Prop) (ht : TrC ok w t cs) :
    Calls Try.prog 44 #[.agg cs.toArray] w fun e w' => e = .returned (.bool (!(t.op == 1))) ∧ Below w.heap.size w w' := by
  obtain ⟨A, c, B, d, rfl, _⟩ := trC_iff.1 ht
  clear ht
  have hi := fun (W : World) (g : Nat) hg => is_lit W t A c B d [1] g 1 rfl hg (by simp)
  unfold treeC at hi
  have hb : ([1] : List Int).contains t.op = (t.op == 1) := by rw [Bool.eq_iff_iff]; simp
  rw [hb] at hi
  go_enter Try.func44, Try.ntmps44
  go_wp2_with fail
  refine (hi _ _ (heap_new2 _ _ _)).mono ?_
  clear hi
  rintro e w1 ⟨rfl, hb1⟩
  have HB := Lib.hid (below_and hb1 (below_al (below_al (Below.refl _ _) _) _))
  clear hb1
  go_wp2_with fail
  go_ret
  exact ⟨rfl, HB.out⟩
set_option maxRecDepth 100000 in
set_option maxHeartbeats 1000000 in
theorem joined1_any (w : World) (t : Tr) (cs : List Value) (ok : Nat → Prop) (ht : TrC ok w t cs) :
    Calls Try.prog 62 #[.agg cs.toArray] w fun e w' => e = .returned (.bool (!(t.op == 2))) ∧ Below w.heap.size w w' := by
  obtain ⟨A, c, B, d, rfl, _⟩ := trC_iff.1 ht
  clear ht
  have hi := fun (W : World) (g : Nat) hg => is_lit W t A c B d [2] g 1 rfl hg (by simp)
  unfold treeC at hi
  have hb : ([2] : List Int).contains t.op = (t.op == 2) := by rw [Bool.eq_iff_iff]; simp
  rw [hb] at hi
  go_enter Try.func62, Try.ntmps62
  go_wp2_with fail
  refine (hi _ _ (heap_new2 _ _ _)).mono ?_
  clear hi
  rintro e w1 ⟨rfl, hb1⟩
  have HB := Lib.hid (below_and hb1 (below_al (below_al (Below.refl _ _) _) _))
  clear hb1
  go_wp2_with fail
  go_ret
  exact ⟨rfl, HB.out⟩
set_option maxRecDepth 100000 in
set_option maxHeartbeats 1000000 in
theorem joined2_any (w : World) (t : Tr) (cs : List Value) (ok : Nat → Prop) (ht : TrC ok w t cs) :
    Calls Try.prog 63 #[.agg cs.toArray] w fun e w' => e = .returned (.bool (t.op == 1)) ∧ Below w.heap.size w w' := by
  obtain ⟨A, c, B, d, rfl, _⟩ := trC_iff.1 ht
  clear ht
  have hi := fun (W : World) (g : Nat) hg => is_lit W t A c B d [1] g 1 rfl hg (by simp)
  unfold treeC at hi
  have hb : ([1] : List Int).contains t.op = (t.op == 1) := by rw [Bool.eq_iff_iff]; simp
  rw [hb] at hi
  go_enter Try.func63, Try.ntmps63
  go_wp2_with fail
  refine (hi _ _ (heap_new2 _ _ _)).mono ?_
  clear hi
  rintro e w1 ⟨rfl, hb1⟩
  have HB := Lib.hid (below_and hb1 (below_al (below_al (Below.refl _ _) _) _))
  clear hb1
  go_wp2_with fail
  go_ret
  exact ⟨rfl, HB.out⟩
set_option maxRecDepth 100000 in
set_option maxHeartbeats 1000000 in
/-- slices.IndexFunc over trees, of moves, where it answers q of each Kid. -/
theorem index_moves (ok : Nat → Prop) (w : World) (A : Option Addr) (c : Nat) (kids : List Tr) (q : Tr → Bool) (h6 : Arr ok w 10 (TrC ok w) A kids) (hN : kids.length ≤ 140737488351232)
    (hf : ∀ k ∈ kids, ∀ (cs : List Value) (W : World), Below w.heap.size w W → TrC ok W k cs → Calls Try.prog 65 #[.agg cs.toArray] W fun e w' => e = .returned (.bool (q k)) ∧ Below W.heap.size W w') :
    Calls Try.prog 59 #[.slice A kids.length c, .func (.func 65) #[] #[]] w fun e w' => (∃ r : Int, e = .returned (.int .i64 r) ∧ decide (0 ≤ r) = kids.any q) ∧ Below w.heap.size w w' := by
  have HE := Lib.hid (And.intro h6 hf)
  clear h6 hf
  go_enter Try.func59, Try.ntmps59
  go_wp2_with fail
  go_loopw [8] (fun s8 wr => ∃ j : Nat, s8 = .int .i64 j ∧ j ≤ kids.length ∧ Hid ((kids.take j).any q = false) ∧ Below w.heap.size w wr) (fun s8 _ => kids.length - (intOf s8).toNat)
  case atStart => exact ⟨0, rfl, Nat.zero_le _, Lib.hid (by simp), by repeat (first | exact Below.refl _ _ | apply below_al)⟩
  case round =>
    obtain ⟨j, rfl, hj, HJ, hB⟩ := hrel
    by_cases hlt : j < kids.length
    · obtain ⟨ad, A1, c1, A3, c3, rfl, hTk, k0, k1, k2, k3, k4, k5, k6, k7, k8, k9⟩ := trArr_at HE.out.1 wr (fun b _ hb' => hB.block b hb') j hlt
      have hcall := HE.out.2 kids[j] (List.getElem_mem hlt) _ wr hB (hTk.move (fun b hb' hlt' => ⟨hB.block b hlt', hb'⟩))
      clear hTk
      have hnx : (kids.take (j + 1)).any q = q kids[j] := by
        rw [List.take_succ_eq_append_getElem hlt, List.any_append, HJ.out]; simp
      have hmem := List.getElem_mem hlt
      generalize kids[j] = kj at *
      cases hq : q kj with
      | true =>
        rw [hq] at hcall
        have HQ := Lib.hid (And.intro hq (And.intro hB hmem))
        clear hq hB hnx
        go_wp2_with (go_at_call 65; refine hcall.mono ?_; clear hcall; rintro e w1 ⟨rfl, hb1⟩)
        go_ret
        refine ⟨⟨j, rfl, ?_⟩, below_and hb1 HQ.out.2.1⟩
        rw [List.any_eq_true.2 ⟨kj, HQ.out.2.2, HQ.out.1⟩]
        simp
      | false =>
        rw [hq] at hcall hnx
        have HQ := Lib.hid (And.intro hnx hB)
        clear hq hB hnx
        go_wp2_with (go_at_call 65; refine hcall.mono ?_; clear hcall; rintro e w1 ⟨rfl, hb1⟩)
        go_roundw
        case rel => exact ⟨j + 1, by go_num, by omega, Lib.hid HQ.out.1, below_and hb1 HQ.out.2⟩
        case measure => simp [intOf]; omega
    · obtain rfl : j = kids.length := by omega
      go_wp2_with fail
      go_ret
      refine ⟨⟨-1, rfl, ?_⟩, hB⟩
      have := HJ.out
      rw [List.take_length] at this
      rw [this]; rfl

set_option maxRecDepth 100000 in
set_option maxHeartbeats 1000000 in
theorem contains_moves (ok : Nat → Prop) (w : World) (A : Option Addr) (c : Nat) (kids : List Tr) (q : Tr → Bool) (h6 : Arr ok w 10 (TrC ok w) A kids) (hN : kids.length ≤ 140737488351232)
    (hf : ∀ k ∈ kids, ∀ (cs : List Value) (W : World), Below w.heap.size w W → TrC ok W k cs → Calls Try.prog 65 #[.agg cs.toArray] W fun e w' => e = .returned (.bool (q k)) ∧ Below W.heap.size W w') :
    Calls Try.prog 33 #[.slice A kids.length c, .func (.func 65) #[] #[]] w fun e w' => e = .returned (.bool (kids.any q)) ∧ Below w.heap.size w w' := by
  have hi := index_moves ok w A c kids q h6 hN hf
  clear h6 hf
  go_enter Try.func33, Try.ntmps33
  go_wp2_with (go_at_call 59; refine hi.mono ?_; clear hi; rintro e w1 ⟨⟨r, rfl, hr⟩, hb1⟩)
  go_ret
  exact ⟨by rw [← hr]; rfl, hb1⟩
set_option maxRecDepth 100000 in
set_option maxHeartbeats 1000000 in
/-- slices.IndexFunc over trees, of none, where it answers q of each Kid. -/
theorem index_none (ok : Nat → Prop) (w : World) (A : Option Addr) (c : Nat) (kids : List Tr) (q : Tr → Bool) (h6 : Arr ok w 10 (TrC ok w) A kids) (hN : kids.length ≤ 140737488351232)
    (hf : ∀ k ∈ kids, ∀ (cs : List Value) (W : World), Below w.heap.size w W → TrC ok W k cs → Calls Try.prog 63 #[.agg cs.toArray] W fun e w' => e = .returned (.bool (q k)) ∧ Below W.heap.size W w') :
    Calls Try.prog 59 #[.slice A kids.length c, .func (.func 63) #[] #[]] w fun e w' => (∃ r : Int, e = .returned (.int .i64 r) ∧ decide (0 ≤ r) = kids.any q) ∧ Below w.heap.size w w' := by
  have HE := Lib.hid (And.intro h6 hf)
  clear h6 hf
  go_enter Try.func59, Try.ntmps59
  go_wp2_with fail
  go_loopw [8] (fun s8 wr => ∃ j : Nat, s8 = .int .i64 j ∧ j ≤ kids.length ∧ Hid ((kids.take j).any q = false) ∧ Below w.heap.size w wr) (fun s8 _ => kids.length - (intOf s8).toNat)
  case atStart => exact ⟨0, rfl, Nat.zero_le _, Lib.hid (by simp), by repeat (first | exact Below.refl _ _ | apply below_al)⟩
  case round =>
    obtain ⟨j, rfl, hj, HJ, hB⟩ := hrel
    by_cases hlt : j < kids.length
    · obtain ⟨ad, A1, c1, A3, c3, rfl, hTk, k0, k1, k2, k3, k4, k5, k6, k7, k8, k9⟩ := trArr_at HE.out.1 wr (fun b _ hb' => hB.block b hb') j hlt
      have hcall := HE.out.2 kids[j] (List.getElem_mem hlt) _ wr hB (hTk.move (fun b hb' hlt' => ⟨hB.block b hlt', hb'⟩))
      clear hTk
      have hnx : (kids.take (j + 1)).any q = q kids[j] := by
        rw [List.take_succ_eq_append_getElem hlt, List.any_append, HJ.out]; simp
      have hmem := List.getElem_mem hlt
      generalize kids[j] = kj at *
      cases hq : q kj with
      | true =>
        rw [hq] at hcall
        have HQ := Lib.hid (And.intro hq (And.intro hB hmem))
        clear hq hB hnx
        go_wp2_with (go_at_call 63; refine hcall.mono ?_; clear hcall; rintro e w1 ⟨rfl, hb1⟩)
        go_ret
        refine ⟨⟨j, rfl, ?_⟩, below_and hb1 HQ.out.2.1⟩
        rw [List.any_eq_true.2 ⟨kj, HQ.out.2.2, HQ.out.1⟩]
        simp
      | false =>
        rw [hq] at hcall hnx
        have HQ := Lib.hid (And.intro hnx hB)
        clear hq hB hnx
        go_wp2_with (go_at_call 63; refine hcall.mono ?_; clear hcall; rintro e w1 ⟨rfl, hb1⟩)
        go_roundw
        case rel => exact ⟨j + 1, by go_num, by omega, Lib.hid HQ.out.1, below_and hb1 HQ.out.2⟩
        case measure => simp [intOf]; omega
    · obtain rfl : j = kids.length := by omega
      go_wp2_with fail
      go_ret
      refine ⟨⟨-1, rfl, ?_⟩, hB⟩
      have := HJ.out
      rw [List.take_length] at this
      rw [this]; rfl

set_option maxRecDepth 100000 in
set_option maxHeartbeats 1000000 in
theorem contains_none (ok : Nat → Prop) (w : World) (A : Option Addr) (c : Nat) (kids : List Tr) (q : Tr → Bool) (h6 : Arr ok w 10 (TrC ok w) A kids) (hN : kids.length ≤ 140737488351232)
    (hf : ∀ k ∈ kids, ∀ (cs : List Value) (W : World), Below w.heap.size w W → TrC ok W k cs → Calls Try.prog 63 #[.agg cs.toArray] W fun e w' => e = .returned (.bool (q k)) ∧ Below W.heap.size W w') :
    Calls Try.prog 33 #[.slice A kids.length c, .func (.func 63) #[] #[]] w fun e w' => e = .returned (.bool (kids.any q)) ∧ Below w.heap.size w w' := by
  have hi := index_none ok w A c kids q h6 hN hf
  clear h6 hf
  go_enter Try.func33, Try.ntmps33
  go_wp2_with (go_at_call 59; refine hi.mono ?_; clear hi; rintro e w1 ⟨⟨r, rfl, hr⟩, hb1⟩)
  go_ret
  exact ⟨by rw [← hr]; rfl, hb1⟩
end Go.Proofs.Ytdnbholiijgedaa
