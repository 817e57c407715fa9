/-
  progs.Check: is it a program? What sets.Right answers is a premise. No other condition.
-/
import Derived.Test.YtdnbholiijgedaaPgm
namespace Go.Proofs.Ytdnbholiijgedaa
open Go.RowKit
set_option linter.unusedVariables false

theorem inArr_at {ok : Nat → Prop} {w : World} {A : Option Addr} {xs : List In} (h : Arr ok w 5 (InO ok w) A xs) (wr : World) (hmv : ∀ b, ok b → b < w.heap.size → wr.heap[b]? = w.heap[b]?) (i : Nat) (hi : i < xs.length) :
    ∃ ad B d, A = some ad ∧ ok ad.block ∧ ad.block < w.heap.size ∧ InO ok w xs[i] [.int .i64 xs[i].op, .int .i64 xs[i].out, .int .i64 xs[i].arg, .slice B xs[i].set.length d, .int .i64 xs[i].at_] ∧
      wr.cell? (ad.add (i * 5)) = some (.int .i64 xs[i].op) ∧ wr.cell? ⟨(ad.add (i * 5)).block, (ad.add (i * 5)).off + 1, none⟩ = some (.int .i64 xs[i].out) ∧
      wr.cell? ⟨(ad.add (i * 5)).block, (ad.add (i * 5)).off + 2, none⟩ = some (.int .i64 xs[i].arg) ∧ wr.cell? ⟨(ad.add (i * 5)).block, (ad.add (i * 5)).off + 3, none⟩ = some (.slice B xs[i].set.length d) ∧
      wr.cell? ⟨(ad.add (i * 5)).block, (ad.add (i * 5)).off + 4, none⟩ = some (.int .i64 xs[i].at_) := by
  obtain ⟨ad, cs, rfl, hok, hE, hl, hc0⟩ := h i _ (List.getElem?_eq_getElem hi)
  have hb : ad.block < w.heap.size := by
    have := World.block_lt_of_cell? w _ (hc0 0 _ (List.getElem?_eq_getElem (by omega)))
    rwa [add_block] at this
  have hc : ∀ j u, cs[j]? = some u → wr.cell? (ad.add (i * 5 + j)) = some u := fun j u hu => by
    rw [← hc0 j u hu]; exact World.cell?_of_block (by rw [add_block]; exact hmv _ hok hb)
  have hE0 := hE
  obtain ⟨B, d, rfl, _⟩ := hE
  refine ⟨ad, B, d, rfl, hok, hb, hE0, hc 0 _ rfl, ?_, ?_, ?_, ?_⟩
  · rw [← add_field _ _ 1 (by omega)]; exact hc 1 _ rfl
  · rw [← add_field _ _ 2 (by omega)]; exact hc 2 _ rfl
  · rw [← add_field _ _ 3 (by omega)]; exact hc 3 _ rfl
  · rw [← add_field _ _ 4 (by omega)]; exact hc 4 _ rfl
set_option maxRecDepth 100000 in
set_option maxHeartbeats 1000000 in
theorem check1_any (R : List Rg → Bool) (ok : Nat → Prop) (w : World) (b0 : Nat) (p : Pg) (ps xs : List Value) (x : In) (hb : w.heap[b0]? = some (.cells ps.toArray 32 (0, 0))) (hp : PgC ok w p ps) (hx : InO ok w x xs) (hR : x.op = 2 → RightOK R x.set) (hpl : p.ins.length ≤ 140737488351232) :
    Calls Try.prog 31 #[.agg xs.toArray, .pointer (some ⟨b0, 0, none⟩)] w fun e w' => e = .returned (.bool (!rightI R p.ins.length p.caps x)) ∧ Below w.heap.size w w' := by
  have hr := fun (W : World) (hW : Below w.heap.size w W) => right_pg R ok W p x ps xs (hp.below hW) (hx.below hW) hR hpl
  have hp0 := hp
  have hx0 := hx
  obtain ⟨A, c, rfl, p1, p2, _⟩ := hp
  obtain ⟨B, d, rfl, x1, x2, x3⟩ := hx
  obtain ⟨g0, g1, g2⟩ := cells3 hb
  have hn := heap_lt hb
  clear hb hp0 hx0 x3
  generalize rightI R p.ins.length p.caps x = r at *
  go_enter Try.func31, Try.ntmps31
  go_wp2_with fail
  refine (hr _ (below_al (Below.refl _ _) _)).mono ?_
  clear hr g0 g1 g2
  rintro e w1 ⟨rfl, hb1⟩
  dsimp only
  have HB := Lib.hid (below_and hb1 (below_al (Below.refl _ _) _))
  clear hb1
  go_wp2_with fail
  go_ret
  exact ⟨rfl, HB.out⟩
set_option maxRecDepth 100000 in
set_option maxHeartbeats 1000000 in
theorem index_check (R : List Rg → Bool) (ok : Nat → Prop) (w : World) (b0 : Nat) (p : Pg) (ps : List Value) (A : Option Addr) (c : Nat) (hb : w.heap[b0]? = some (.cells ps.toArray 32 (0, 0))) (hp : PgC ok w p ps) (h6 : Arr ok w 5 (InO ok w) A p.ins) (hN : p.ins.length ≤ 140737488351232)
    (hR : ∀ x ∈ p.ins, x.op = 2 → RightOK R x.set) :
    Calls Try.prog 57 #[.slice A p.ins.length c, .func (.func 31) #[] #[.pointer (some ⟨b0, 0, none⟩)]] w fun e w' => (∃ r : Int, e = .returned (.int .i64 r) ∧ decide (0 ≤ r) = p.ins.any (fun x => !rightI R p.ins.length p.caps x)) ∧ Below w.heap.size w w' := by
  have HE := Lib.hid (And.intro h6 (And.intro hp (And.intro hb hR)))
  clear h6 hp hb hR
  go_enter Try.func57, Try.ntmps57
  go_wp2_with fail
  go_loopw [8] (fun s8 wr => ∃ j : Nat, s8 = .int .i64 j ∧ j ≤ p.ins.length ∧ Hid ((p.ins.take j).any (fun x => !rightI R p.ins.length p.caps x) = false) ∧ Below w.heap.size w wr) (fun s8 _ => p.ins.length - (intOf s8).toNat)
  case atStart => exact ⟨0, rfl, Nat.zero_le _, Lib.hid (by simp), by repeat (first | exact Below.refl _ _ | apply below_al)⟩
  case round =>
    obtain ⟨j, rfl, hj, HJ, hB⟩ := hrel
    by_cases hlt : j < p.ins.length
    · obtain ⟨ad, B3, d3, rfl, _, _, hIk, k0, k1, k2, k3, k4⟩ := inArr_at HE.out.1 wr (fun b _ hb' => hB.block b hb') j hlt
      have hcall := check1_any R ok wr b0 p ps _ p.ins[j] ((hB.block _ (heap_lt HE.out.2.2.1)).trans HE.out.2.2.1) (HE.out.2.1.below hB) (hIk.below hB) (HE.out.2.2.2 _ (List.getElem_mem hlt)) hN
      have hnx : (p.ins.take (j + 1)).any (fun x => !rightI R p.ins.length p.caps x) = !rightI R p.ins.length p.caps p.ins[j] := by
        rw [List.take_succ_eq_append_getElem hlt, List.any_append, HJ.out]; simp
      have hmem := List.getElem_mem hlt
      generalize p.ins[j] = x at *
      cases hq : rightI R p.ins.length p.caps x with
      | false =>
        rw [hq] at hcall
        have HQ := Lib.hid (And.intro hq (And.intro hB hmem))
        clear hq hB hnx hIk
        go_wp2_with (go_at_call 31; refine hcall.mono ?_; clear hcall; rintro e w1 ⟨rfl, hb1⟩)
        go_ret
        refine ⟨⟨j, rfl, ?_⟩, below_and hb1 HQ.out.2.1⟩
        rw [List.any_eq_true.2 ⟨x, HQ.out.2.2, by rw [HQ.out.1]; rfl⟩]
        simp
      | true =>
        rw [hq] at hcall hnx
        have HQ := Lib.hid (And.intro hnx hB)
        clear hq hB hnx hIk
        go_wp2_with (go_at_call 31; refine hcall.mono ?_; clear hcall; rintro e w1 ⟨rfl, hb1⟩)
        go_roundw
        case rel => exact ⟨j + 1, by go_num, by omega, Lib.hid HQ.out.1, below_and hb1 HQ.out.2⟩
        case measure => simp [intOf]; omega
    · obtain rfl : j = p.ins.length := by omega
      go_wp2_with fail
      go_ret
      refine ⟨⟨-1, rfl, ?_⟩, hB⟩
      have := HJ.out
      rw [List.take_length] at this
      rw [this]; rfl
set_option maxRecDepth 100000 in
set_option maxHeartbeats 1000000 in
theorem contains_check (R : List Rg → Bool) (ok : Nat → Prop) (w : World) (b0 : Nat) (p : Pg) (ps : List Value) (A : Option Addr) (c : Nat) (hb : w.heap[b0]? = some (.cells ps.toArray 32 (0, 0))) (hp : PgC ok w p ps) (h6 : Arr ok w 5 (InO ok w) A p.ins) (hN : p.ins.length ≤ 140737488351232)
    (hR : ∀ x ∈ p.ins, x.op = 2 → RightOK R x.set) :
    Calls Try.prog 30 #[.slice A p.ins.length c, .func (.func 31) #[] #[.pointer (some ⟨b0, 0, none⟩)]] w fun e w' => e = .returned (.bool (p.ins.any (fun x => !rightI R p.ins.length p.caps x))) ∧ Below w.heap.size w w' := by
  have hi := index_check R ok w b0 p ps A c hb hp h6 hN hR
  clear h6 hp hb hR
  generalize p.ins.any (fun x => !rightI R p.ins.length p.caps x) = rr at *
  go_enter Try.func30, Try.ntmps30
  go_wp2_with (go_at_call 57; refine hi.mono ?_; clear hi; rintro e w1 ⟨⟨r, rfl, hr⟩, hb1⟩)
  go_ret
  exact ⟨by rw [← hr]; rfl, hb1⟩
/-- What Check answers: 0 or 121. -/
def checkS (R : List Rg → Bool) (p : Pg) : Int :=
  if (p.ins.length = 0 ∨ 10000 < p.ins.length) ∨ (p.start < 0 ∨ (p.ins.length : Int) ≤ p.start) ∨ (p.caps < 2 ∨ 4002 < p.caps ∨ p.caps % 2 = 1) then 121
  else if p.ins.any (fun x => !rightI R p.ins.length p.caps x) = true then 121 else 0
set_option maxRecDepth 100000 in
set_option maxHeartbeats 4000000 in
theorem check_any (R : List Rg → Bool) (ok : Nat → Prop) (w : World) (p : Pg) (ps : List Value) (hp : PgC ok w p ps) (hN : p.ins.length ≤ 140737488351232) (hR : ∀ x ∈ p.ins, x.op = 2 → RightOK R x.set) :
    Calls Try.prog 22 #[.agg ps.toArray] w fun e w' => e = .returned (.int .i64 (checkS R p)) ∧ Below w.heap.size w w' := by
  have hp0 := hp
  obtain ⟨A, c, rfl, p1, p2, h6⟩ := hp
  have hcf := fun (W : World) (hW : Below w.heap.size w W) hb => contains_check R ok W w.heap.size p _ A c hb (hp0.below hW) (h6.move (fun b hb hlt => ⟨hW.block b hlt, hb⟩) (by omega) |>.weak (fun x _ cs hx => hx.below hW)) hN hR
  have HS := Lib.hid (show checkS R p = (if (p.ins.length = 0 ∨ 10000 < p.ins.length) ∨ (p.start < 0 ∨ (p.ins.length : Int) ≤ p.start) ∨ (p.caps < 2 ∨ 4002 < p.caps ∨ p.caps % 2 = 1) then 121
    else if p.ins.any (fun x => !rightI R p.ins.length p.caps x) = true then 121 else 0) from rfl)
  generalize checkS R p = res at *
  generalize p.ins.any (fun x => !rightI R p.ins.length p.caps x) = bad at *
  have yb : Below w.heap.size w (w.alloc (.cells #[.slice A p.ins.length c, .int .i64 p.start, .int .i64 p.caps] 32)) := below_al (Below.refl _ _) _
  have y0 := heap_new1 w (.cells #[.slice A p.ins.length c, .int .i64 p.start, .int .i64 p.caps] 32)
  have hc := hcf _ yb y0
  clear hp0 h6 hR hcf
  have YB := Lib.hid yb
  clear yb y0
  go_enter Try.func22, Try.ntmps22
  go_wp2_with (go_at_call 30; refine hc.mono ?_; clear hc; rintro e w1 ⟨rfl, hb1⟩; have HB := Lib.hid (below_and hb1 YB.out); clear hb1)
  all_goals
    go_ret
    refine ⟨ret_int ?_, by first | exact HB.out | exact YB.out | exact below_al (Below.refl _ _) _⟩
    have h9 := HS.out
    first
    | (rw [h9, if_pos (by omega)])
    | (cases bad <;> simp_all <;> omega)
end Go.Proofs.Ytdnbholiijgedaa
