/-
  compile's group and loop, given the code of the Kid. No condition.
-/
import Derived.Test.YtdnbholiijgedaaComp1
namespace Go.Proofs.Ytdnbholiijgedaa
open Go.RowKit
set_option linter.unusedVariables false

def CodeOK (B0 G : Nat) (st cp gr : Int) (t : Tr) : Prop := ∀ (cs : List Value) (to : Int) (w : World) (v : Value) (s : St), TrC (fun b => b < B0) w t cs → BldAt w B0 G v st cp gr s → s.1.length ≤ 10000 →
  Calls Try.prog 24 #[.pointer (some ⟨G, 0, none⟩), .agg cs.toArray, .int .i64 to] w (EmitPost B0 G st cp gr v w (codeS gr t to s))
theorem BldAt.glt {w : World} {B0 G : Nat} {v : Value} {st cp gr : Int} {s : St} (h : BldAt w B0 G v st cp gr s) : G < w.heap.size ∧ B0 ≤ w.heap.size := ⟨heap_lt h.blk, by have := heap_lt h.blk; have := h.base; omega⟩
/-- What lay there stays, but the builder's. -/
theorem Touch.old {w w' : World} {B0 G : Nat} {v v' : Value} {st cp gr : Int} {s : St} (h : Touch G v.ownBlock v'.ownBlock w w') (hb : BldAt w B0 G v st cp gr s) : Below B0 w w' :=
  h.below (Below.refl _ _) hb.glt.2 hb.base (fun k hk => (hb.rowlt k hk).1)
/-- A block of another type stays. -/
theorem Touch.keep {w w' : World} {B0 G : Nat} {v v' : Value} {st cp gr : Int} {s : St} (h : Touch G v.ownBlock v'.ownBlock w w') (hb : BldAt w B0 G v st cp gr s) {b : Nat} {cs : Array Value} {ty : TypeId} {fr : Nat × Nat} (ho : w.heap[b]? = some (.cells cs ty fr))
    (h1 : ty ≠ 39) (h2 : ty ≠ 49) : w'.heap[b]? = some (.cells cs ty fr) := by
  obtain ⟨css, hr, _⟩ := hb.row
  exact (h.block b (heap_lt ho) ((show TyB ty w b from ⟨_, _, ho⟩).ne hb.blk h2) ((show TyB ty w b from ⟨_, _, ho⟩).ne_own hr h1)).trans ho
theorem emitS_len (x : In) (s : St) (h : s.1.length ≤ 10000) : (emitS x s).2.1.length ≤ 10000 := by
  unfold emitS
  split
  · exact h
  · split
    · exact h
    · simp; omega
theorem forksS_len : ∀ (l : List Int) (to : Int) (s : St), s.1.length ≤ 10000 → (forksS l to s).2.1.length ≤ 10000
  | [], to, s, h => by rw [forksS]; exact h
  | i :: l, to, s, h => by rw [forksS]; exact emitS_len _ _ (forksS_len l to s h)
theorem setI_len (s : St) (i : Int) (x : In) (h : s.1.length ≤ 10000) : (setI s i x).1.length ≤ 10000 := by
  unfold setI; split
  · exact h
  · simpa using h
theorem ite_len {c : Prop} [Decidable c] {a b : Int × St} (h1 : c → a.2.1.length ≤ 10000) (h2 : ¬ c → b.2.1.length ≤ 10000) : (if c then a else b).2.1.length ≤ 10000 := by
  split
  · exact h1 (by assumption)
  · exact h2 (by assumption)
mutual
theorem codeS_len (g : Int) : ∀ (t : Tr) (to : Int) (s : St), s.1.length ≤ 10000 → (codeS g t to s).2.1.length ≤ 10000
  | ⟨op, kids, rune, set, at_, cap, name, mn, mx, lz⟩, to, s, h => by
    have hH := fun to s h => codeH_len g kids to s h
    have hR := codeR_len g kids to s h
    have hA := codeA_ln g kids to s h
    rw [codeS]
    refine ite_len (fun _ => h) (fun _ => ite_len (fun _ => emitS_len _ _ h) (fun _ => ite_len (fun _ => emitS_len _ _ h) (fun _ => ite_len (fun _ => emitS_len _ _ h) (fun _ => ite_len (fun _ => emitS_len _ _ h) (fun _ =>
      ite_len (fun _ => ite_len (fun _ => hH _ _ h) (fun _ => emitS_len _ _ (hH _ _ (emitS_len _ _ h)))) (fun _ => ite_len (fun _ => hR) (fun _ => ite_len (fun _ => forksS_len _ _ _ hA) (fun _ => ite_len (fun _ => emitS_len _ _ (hH _ _ h)) (fun _ =>
      ite_len (fun _ => setI_len _ _ _ (hH _ _ (emitS_len _ _ h))) (fun _ => h))))))))))
theorem codeH_len (g : Int) : ∀ (l : List Tr) (to : Int) (s : St), s.1.length ≤ 10000 → (codeH g l to s).2.1.length ≤ 10000
  | [], to, s, h => by rw [codeH]; exact h
  | k :: l, to, s, h => by rw [codeH]; exact codeS_len g k to s h
theorem codeR_len (g : Int) : ∀ (l : List Tr) (to : Int) (s : St), s.1.length ≤ 10000 → (codeR g l to s).2.1.length ≤ 10000
  | [], to, s, h => by rw [codeR]; exact h
  | k :: l, to, s, h => by rw [codeR]; exact codeS_len g k _ _ (codeR_len g l to s h)
theorem codeA_ln (g : Int) : ∀ (l : List Tr) (to : Int) (s : St), s.1.length ≤ 10000 → (codeA g l to s).2.1.length ≤ 10000
  | [], to, s, h => by rw [codeA]; exact h
  | k :: l, to, s, h => by rw [codeA]; exact codeA_ln g l to _ (codeS_len g k _ _ h)
end
theorem inC_lit (w : World) (op out arg at_ : Int) : InC w ⟨op, out, arg, [], at_⟩ [.int .i64 op, .int .i64 out, .int .i64 arg, .slice none 0 0, .int .i64 at_] := ⟨none, 0, rfl, Nat.le_refl _, Nat.zero_le _, Arr.nil⟩

def groupS (g : Int) (t : Tr) (to : Int) (s : St) : Int × St :=
  if g < t.cap then codeH g t.kids to s else
    let e := emitS ⟨4, to, 2 * t.cap + 1, [], 0⟩ s
    let i := codeH g t.kids e.1 e.2
    emitS ⟨4, i.1, 2 * t.cap, [], 0⟩ i.2
set_option maxRecDepth 100000 in
set_option maxHeartbeats 1000000 in
theorem group_any (B0 G : Nat) (st cp gr : Int) (hgr : 0 ≤ gr ∧ gr ≤ 2000) (t : Tr) (cs : List Value) (to : Int) (w : World) (v : Value) (s : St) (ht : TrC (fun b => b < B0) w t cs) (hb : BldAt w B0 G v st cp gr s) (hl : s.1.length ≤ 10000)
    (h1 : 0 < t.kids.length) (hc : 1 ≤ t.cap) (ih : CodeOK B0 G st cp gr t.kids[0]) :
    Calls Try.prog 36 #[.pointer (some ⟨G, 0, none⟩), .agg cs.toArray, .int .i64 to] w (EmitPost B0 G st cp gr v w (groupS gr t to s)) := by
  obtain ⟨A, c, B, d, rfl, k1, k2, k3, k4, h5, h6⟩ := trC_iff.1 ht
  have hk := hb.blk
  have hg3 : w.cell? ⟨G, 3, none⟩ = some (.int .i64 gr) := by rw [cell_of_blk hk]; rfl
  have hGlt := hb.glt.1
  have hB0 := hb.glt.2
  by_cases hcap : gr < t.cap
  · have hS : groupS gr t to s = codeS gr t.kids[0] to s := by unfold groupS; rw [if_pos hcap, codeH_eq h1]
    obtain ⟨ad, A1, c1, A3, c3, rfl, hTk, g0, g1, g2, g3, g4, g5, g6, g7, g8, g9⟩ := trArr_at0 h6 (w.alloc (.cells #[.int .i64 t.op, .slice A t.kids.length c, .int .i32 t.rune, .slice B t.set.length d, .int .i64 t.at_, .int .i64 t.cap, .string t.name, .int .i64 t.mn, .int .i64 t.mx, .bool t.lz] 27)) (fun b _ hb' => Below.heap_alloc _ _ _ hb') h1
    have hih := fun W (hW : Below w.heap.size w W) => ih _ to W v s (hTk.move (fun b hb' hlt => ⟨hW.block b hlt, hb'⟩)) (hb.below hW) hl
    have HS := Lib.hid hS
    clear hS ih hTk ht hb hk
    go_enter Try.func36, Try.ntmps36
    go_wp2_with fail
    go_quiet (fail)
    go_wp2_with fail
    refine (hih _ (by repeat (first | exact Below.refl _ _ | apply below_al | apply below_drewN))).mono ?_
    rintro e w1 ⟨v1, rfl, hb1, ht1⟩
    clear hih
    have HE := Lib.hid (And.intro hb1 ht1)
    clear hb1 ht1
    go_wp2_with fail
    go_ret
    rw [HS.out]
    exact ⟨v1, rfl, HE.out.1, (Touch.of_below (by repeat (first | exact Below.refl _ _ | apply below_al | apply below_drewN))).trans HE.out.2⟩
  · have hS : groupS gr t to s = emitS ⟨4, (codeS gr t.kids[0] (emitS ⟨4, to, 2 * t.cap + 1, [], 0⟩ s).1 (emitS ⟨4, to, 2 * t.cap + 1, [], 0⟩ s).2).1, 2 * t.cap, [], 0⟩ (codeS gr t.kids[0] (emitS ⟨4, to, 2 * t.cap + 1, [], 0⟩ s).1 (emitS ⟨4, to, 2 * t.cap + 1, [], 0⟩ s).2).2 := by unfold groupS; rw [if_neg hcap]; simp only [codeH_eq h1]
    have hcd : decide (gr < t.cap) = false := by simpa using hcap
    have hem := fun W (hW : Below w.heap.size w W) => emit_any W B0 G v st cp gr s ⟨4, to, 2 * t.cap + 1, [], 0⟩ _ (hb.below hW) (inC_lit W _ _ _ _) hl
    have HH := Lib.hid (And.intro hb (And.intro h6 (And.intro ih hS)))
    clear hS ih ht hb hk h6
    go_enter Try.func36, Try.ntmps36
    go_wp2_with fail
    go_quiet (fail)
    go_wp2_with fail
    refine (hem _ (by repeat (first | exact Below.refl _ _ | apply below_al | apply below_drewN))).mono ?_
    rintro e w1 ⟨v1, rfl, hb1, ht1⟩
    clear hem
    have hWX : Below w.heap.size w ((w.alloc (.cells #[.int .i64 t.op, .slice A t.kids.length c, .int .i32 t.rune, .slice B t.set.length d, .int .i64 t.at_, .int .i64 t.cap, .string t.name, .int .i64 t.mn, .int .i64 t.mx, .bool t.lz] 27)).drewN nq) := by repeat (first | exact Below.refl _ _ | apply below_al | apply below_drewN)
    have hx1 := ht1.keep (HH.out.1.below hWX) (heap_new1 w _) (by decide) (by decide)
    have hol : Below B0 w w1 := (hWX.mono hB0).trans (ht1.old (HH.out.1.below hWX))
    have htt := (Touch.of_below hWX).trans ht1
    clear hWX ht1
    obtain ⟨g0, g1, g2, g3, g4, g5, g6, g7, g8, g9⟩ := cells10 hx1
    obtain ⟨ad, A1, c1, A3, c3, rfl, hTk, k0, k1', k2', k3', k4', k5, k6, k7, k8, k9⟩ := trArr_at0 HH.out.2.1 w1 (fun b hb' _ => hol.block b hb') h1
    have hih := HH.out.2.2.1 _ (emitS ⟨4, to, 2 * t.cap + 1, [], 0⟩ s).1 w1 v1 (emitS ⟨4, to, 2 * t.cap + 1, [], 0⟩ s).2 (hTk.move (fun b hb' _ => ⟨hol.block b hb', hb'⟩)) hb1 (emitS_len _ _ hl)
    have hl1 := emitS_len ⟨4, to, 2 * t.cap + 1, [], 0⟩ s hl
    have hS := HH.out.2.2.2
    generalize emitS ⟨4, to, 2 * t.cap + 1, [], 0⟩ s = E1 at *
    have H1 := Lib.hid (And.intro hb1 (And.intro htt (And.intro hx1 hS)))
    clear hb1 htt hx1 hS hTk hol
    go_wp2_with fail
    refine hih.mono ?_
    rintro e w2 ⟨v2, rfl, hb2, ht2⟩
    clear hih g0 g1 g2 g3 g4 g5 g6 g7 g8 g9 k0 k1' k2' k3' k4' k5 k6 k7 k8 k9
    have hx2 := ht2.keep H1.out.1 H1.out.2.2.1 (by decide) (by decide)
    obtain ⟨g0, g1, g2, g3, g4, g5, g6, g7, g8, g9⟩ := cells10 hx2
    have hl2 := codeS_len gr t.kids[0] E1.1 E1.2 hl1
    have hS := H1.out.2.2.2
    generalize codeS gr t.kids[0] E1.1 E1.2 = E2 at *
    have hem := emit_any w2 B0 G v2 st cp gr E2.2 ⟨4, E2.1, 2 * t.cap, [], 0⟩ _ hb2 (inC_lit _ _ _ _ _) hl2
    have htt := H1.out.2.1.trans ht2
    have H2 := Lib.hid (And.intro htt hS)
    clear htt hS hb2 ht2 hx2
    go_wp2_with fail
    refine hem.mono ?_
    rintro e w3 ⟨v3, rfl, hb3, ht3⟩
    clear hem g0 g1 g2 g3 g4 g5 g6 g7 g8 g9
    have H3 := Lib.hid (And.intro hb3 ht3)
    clear hb3 ht3
    go_wp2_with fail
    go_ret
    rw [H2.out.2]
    exact ⟨v3, rfl, H3.out.1, H2.out.1.trans H3.out.2⟩
end Go.Proofs.Ytdnbholiijgedaa
