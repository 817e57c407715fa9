/-
  slices.ContainsFunc over trees, compile.counted: does a part repeat counted? No condition.
-/
import Derived.Test.YtdnbholiijgedaaShaped
import Derived.Test.YtdnbholiijgedaaMore
namespace Go.Proofs.Ytdnbholiijgedaa
open Go.RowKit
set_option linter.unusedVariables false

set_option maxRecDepth 100000 in
set_option maxHeartbeats 1000000 in
/-- slices.IndexFunc over trees, of counted, where it answers q of each Kid. -/
theorem index_trees (ok : Nat → Prop) (w : World) (A : Option Addr) (c : Nat) (kids : List Tr) (q : Tr → Bool) (h6 : Arr ok w 10 (TrC ok w) A kids) (hN : kids.length ≤ 140737488351232)
    (hf : ∀ k ∈ kids, ∀ (cs : List Value) (W : World), Below w.heap.size w W → TrC ok W k cs → Calls Try.prog 23 #[.agg cs.toArray] W fun e w' => e = .returned (.bool (q k)) ∧ Below W.heap.size W w') :
    Calls Try.prog 59 #[.slice A kids.length c, .func (.func 23) #[] #[]] w fun e w' => (∃ r : Int, e = .returned (.int .i64 r) ∧ decide (0 ≤ r) = kids.any q) ∧ Below w.heap.size w w' := by
  have HE := Lib.hid (And.intro h6 hf)
  clear h6 hf
  go_enter Try.func59, Try.ntmps59
  go_wp2_with fail
  go_loopw [8] (fun s8 wr => ∃ j : Nat, s8 = .int .i64 j ∧ j ≤ kids.length ∧ Hid ((kids.take j).any q = false) ∧ Below w.heap.size w wr) (fun s8 _ => kids.length - (intOf s8).toNat)
  case atStart => exact ⟨0, rfl, Nat.zero_le _, Lib.hid (by simp), by repeat (first | exact Below.refl _ _ | apply below_al)⟩
  case round =>
    obtain ⟨j, rfl, hj, HJ, hB⟩ := hrel
    by_cases hlt : j < kids.length
    · obtain ⟨ad, A1, c1, A3, c3, rfl, hTk, k0, k1, k2, k3, k4, k5, k6, k7, k8, k9⟩ := trArr_at HE.out.1 wr (fun b _ hb' => hB.block b hb') j hlt
      have hcall := HE.out.2 kids[j] (List.getElem_mem hlt) _ wr hB (hTk.move (fun b hb' hlt' => ⟨hB.block b hlt', hb'⟩))
      clear hTk
      have hnx : (kids.take (j + 1)).any q = q kids[j] := by
        rw [List.take_succ_eq_append_getElem hlt, List.any_append, HJ.out]; simp
      have hmem := List.getElem_mem hlt
      generalize kids[j] = kj at *
      cases hq : q kj with
      | true =>
        rw [hq] at hcall
        have HQ := Lib.hid (And.intro hq (And.intro hB hmem))
        clear hq hB hnx
        go_wp2_with (go_at_call 23; refine hcall.mono ?_; clear hcall; rintro e w1 ⟨rfl, hb1⟩)
        go_ret
        refine ⟨⟨j, rfl, ?_⟩, below_and hb1 HQ.out.2.1⟩
        rw [List.any_eq_true.2 ⟨kj, HQ.out.2.2, HQ.out.1⟩]
        simp
      | false =>
        rw [hq] at hcall hnx
        have HQ := Lib.hid (And.intro hnx hB)
        clear hq hB hnx
        go_wp2_with (go_at_call 23; refine hcall.mono ?_; clear hcall; rintro e w1 ⟨rfl, hb1⟩)
        go_roundw
        case rel => exact ⟨j + 1, by go_num, by omega, Lib.hid HQ.out.1, below_and hb1 HQ.out.2⟩
        case measure => simp [intOf]; omega
    · obtain rfl : j = kids.length := by omega
      go_wp2_with fail
      go_ret
      refine ⟨⟨-1, rfl, ?_⟩, hB⟩
      have := HJ.out
      rw [List.take_length] at this
      rw [this]; rfl

set_option maxRecDepth 100000 in
set_option maxHeartbeats 1000000 in
theorem contains_trees (ok : Nat → Prop) (w : World) (A : Option Addr) (c : Nat) (kids : List Tr) (q : Tr → Bool) (h6 : Arr ok w 10 (TrC ok w) A kids) (hN : kids.length ≤ 140737488351232)
    (hf : ∀ k ∈ kids, ∀ (cs : List Value) (W : World), Below w.heap.size w W → TrC ok W k cs → Calls Try.prog 23 #[.agg cs.toArray] W fun e w' => e = .returned (.bool (q k)) ∧ Below W.heap.size W w') :
    Calls Try.prog 33 #[.slice A kids.length c, .func (.func 23) #[] #[]] w fun e w' => e = .returned (.bool (kids.any q)) ∧ Below w.heap.size w w' := by
  have hi := index_trees ok w A c kids q h6 hN hf
  clear h6 hf
  go_enter Try.func33, Try.ntmps33
  go_wp2_with (go_at_call 59; refine hi.mono ?_; clear hi; rintro e w1 ⟨⟨r, rfl, hr⟩, hb1⟩)
  go_ret
  exact ⟨by rw [← hr]; rfl, hb1⟩
def countedB (t : Tr) : Bool := (parts t).any (fun p => p.op == 10)
theorem counted_step (t : Tr) : countedB t = (t.op == 10 || t.kids.any countedB) := by
  unfold countedB
  rw [parts_eq, List.any_cons, partsL_flat, List.any_flatMap]
set_option maxRecDepth 100000 in
set_option maxHeartbeats 1000000 in
theorem counted_any (ok : Nat → Prop) : ∀ (n : Nat) (t : Tr) (cs : List Value) (w : World), (parts t).length ≤ n → TrC ok w t cs → (∀ p ∈ parts t, p.kids.length ≤ 140737488351232) →
    Calls Try.prog 23 #[.agg cs.toArray] w fun e w' => e = .returned (.bool (countedB t)) ∧ Below w.heap.size w w' := by
  intro n
  induction n with
  | zero => intro t cs w hn; rw [parts_eq] at hn; simp at hn
  | succ n ih =>
    intro t cs w hn ht hs
    have hst := counted_step t
    have hkn := hs t (mem_parts_self t)
    obtain ⟨A, c, B, d, rfl, h1, h2, h3, h4, h5, h6⟩ := trC_iff.1 ht
    have hco := fun (W : World) (hW : Below w.heap.size w W) => contains_trees ok W A c t.kids countedB (h6.move (fun b hb hlt => ⟨hW.block b hlt, hb⟩) (by omega) |>.weak (fun x _ cs hx => hx.move (fun b hb hlt => ⟨hW.block b hlt, hb⟩))) hkn
      (fun k hk cs W2 hW2 hT => by
        obtain ⟨i, hi, rfl⟩ := List.getElem_of_mem hk
        have := parts_kid hi
        exact ih _ cs W2 (by omega) hT (fun p hp => hs p (mem_parts_kid hi hp)))
    generalize countedB t = C at *
    generalize t.kids.any countedB = D at *
    clear ih hs hn ht h5 h6
    by_cases ho : t.op = 10
    · have o1 : (t.op == 10) = true := by rw [ho]; rfl
      rw [o1] at hst
      subst hst
      clear ho
      go_enter Try.func23, Try.ntmps23
      go_wp2_with fail
      go_ret
      exact ⟨rfl, below_al (Below.refl _ _) _⟩
    · have o1 : (t.op == 10) = false := by simpa using ho
      rw [o1] at hst
      subst hst
      clear ho
      go_enter Try.func23, Try.ntmps23
      go_wp2_with (go_at_call 33; refine (hco _ (by repeat (first | exact Below.refl _ _ | apply below_al))).mono ?_; clear hco; rintro e w1 ⟨rfl, hb1⟩)
      go_ret
      exact ⟨rfl, below_and hb1 (below_al (Below.refl _ _) _)⟩
end Go.Proofs.Ytdnbholiijgedaa
