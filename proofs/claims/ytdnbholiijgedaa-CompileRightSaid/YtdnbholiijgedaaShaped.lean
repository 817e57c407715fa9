/-
  trees.Shaped: are all parts well formed? What sets.Right answers of their sets is a premise. No other condition.
-/
import Derived.Test.YtdnbholiijgedaaEach
import Derived.Test.YtdnbholiijgedaaPlain2
import Derived.RangeFuncBox
namespace Go.Proofs.Ytdnbholiijgedaa
open Go.RowKit Go.Shelf
set_option linter.unusedVariables false
attribute [local go_sem] Oper.semAt_some

theorem keepsFrom_below {B : Nat} {W W' : World} (h : Below W.heap.size W W') : KeepsFrom B W W' := ⟨h.size, fun k o _ hk _ => (h.block k (heap_lt hk)).trans hk⟩

def goodP (R : List Rg → Bool) (p : Tr) : Bool := plainB R p && !(p.op == 6 && decide (p.cap < 1))
def shapedB (R : List Rg → Bool) (t : Tr) : Bool := (parts t).all (goodP R)

def HasBad (R : List Rg → Bool) {Q : Tr → Prop} {n : Nat} {W0 : World} (pre : List (PartAt Q n W0)) : Prop := ∃ x ∈ pre, goodP R x.1.1 = false
def AllGood (R : List Rg → Bool) {Q : Tr → Prop} {n : Nat} {W0 : World} (pre : List (PartAt Q n W0)) : Prop := ∀ x ∈ pre, goodP R x.1.1 = true
theorem blk_own {β : Type} (b : Nat) (cs : Array Value) (ty : TypeId) : Own (fun (_ : β) W => W.heap[b]? = some (Obj.cells cs ty (0, 0))) := by
  intro s W W' row h hg hr
  refine (hg.block b (heap_lt h) (fun e => ?_)).trans h
  obtain ⟨o, ho, hc⟩ := hr b e.symm
  rw [h] at ho; cases ho; simp [Obj.isCells] at hc

set_option maxRecDepth 100000 in
set_option maxHeartbeats 4000000 in
theorem shaped_in (R : List Rg → Bool) (w : World) (t : Tr) (cs : List Value) (ht : TrC (fun b => b < w.heap.size) w t cs) (hR : ∀ p ∈ parts t, p.op = 4 → RightOK R p.set) :
    CallsIn Fence.wide 9 Try.prog 19 #[.agg cs.toArray] w fun e w' => e = .returned (.bool (shapedB R t)) ∧ Below w.heap.size w w' := by
  obtain ⟨A, c, B, d, rfl, _⟩ := trC_iff.1 ht
  have hF1 : Fence.wide.fn 27 := trivial
  have hF2 : Fence.wide.fn 51 := trivial
  have hF3 : Fence.wide.fn 28 := trivial
  have hdd : ∀ k : Nat, (Fence.wide.depth.isSome = true → 1 ≤ k) := fun k h => by simp [Fence.wide] at h
  have HT := Lib.hid ht
  have HR := Lib.hid hR
  clear ht hR
  refine callsIn_of_wp_marks Try.func19 rfl trivial ?_ rfl
  simp only [Try.ntmps19, List.size_toArray, List.length_cons, List.length_nil, Nat.reduceAdd, Nat.reduceSub, Array.replicate_succ, Array.replicate_zero, List.push_toArray, List.append_toArray, List.nil_append, List.cons_append]
  gi_wp2_with ((try refine ⟨hdd _, ?_⟩); gi_at_call 27; refine (callsIn_wide.2 (all_any _ _ _ _ _ _ _ _ _ _ _)).mono ?_; rintro e w' ⟨rfl, rfl⟩)
  generalize hcs : (#[.int .i64 t.op, .slice A t.kids.length c, .int .i32 t.rune, .slice B t.set.length d, .int .i64 t.at_, .int .i64 t.cap, .string t.name, .int .i64 t.mn, .int .i64 t.mx, .bool t.lz] : Array Value) = ca at *
  have bR : (((w.alloc (.cells ca 27)).alloc (.cells #[.bool false] 4)).alloc (.cells ca 27)).heap[w.heap.size + 1]? = some (.cells #[.bool false] 4 (0, 0)) := by
    rw [Below.heap_alloc _ _ _ (by simp)]; exact heap_new2 _ _ _
  have bT : (((w.alloc (.cells ca 27)).alloc (.cells #[.bool false] 4)).alloc (.cells ca 27)).heap[w.heap.size + 1 + 1]? = some (.cells ca 27 (0, 0)) := by
    have := World.alloc_heap_new ((w.alloc (.cells ca 27)).alloc (.cells #[.bool false] 4)) (.cells ca 27); simpa using this
  have hB0 : Below w.heap.size w (((w.alloc (.cells ca 27)).alloc (.cells #[.bool false] 4)).alloc (.cells ca 27)) := below_al (below_al (below_al (Below.refl _ _) _) _) _
  have hsz : (((w.alloc (.cells ca 27)).alloc (.cells #[.bool false] 4)).alloc (.cells ca 27)).heap.size = w.heap.size + 3 := by simp
  obtain ⟨W0, hW0⟩ : ∃ W0, (((w.alloc (.cells ca 27)).alloc (.cells #[.bool false] 4)).alloc (.cells ca 27)) = W0 := ⟨_, rfl⟩
  rw [hW0] at bR bT hB0 hsz ⊢
  clear hW0
  refine wpIn_rangeFunc_ownH rfl (by omega) (gf := 51) (lb := #[.pointer (some ⟨w.heap.size + 1 + 1, 0, none⟩)]) rfl trivial (enters_of Try.func51 (by kernel_rfl) rfl)
    (all_stops (fun p => p ∈ parts t) _ w.heap.size W0.heap.size (w.heap.size + 1 + 1) W0 t _ (by omega) (Nat.le_refl _) (by rw [bT, ← hcs]) (HT.out.move (fun b hb _ => ⟨hB0.block b hb, hb⟩)) (fun p hp => hp)) Keeps.trans
    (fun W l o o' hl ho hc _ => Keeps.putObj (by omega) (Nat.le_refl _) W l o o' hl ho hc) (Below.refl _ _) (fun _ => rfl)
    (fun pre W => (W.heap[w.heap.size + 1]? = some (.cells #[.bool false] 4 (0, 0)) ∧ AllGood R pre) ∧ Below w.heap.size w W)
    (fun c pre W => (c = .ret ∧ W.heap[w.heap.size + 1]? = some (.cells #[.bool false] 4 (0, 0)) ∧ HasBad R pre) ∧ Below w.heap.size w W)
    (OwnFrom.and (Own.from (fun s X Y row hs hg hr => ⟨blk_own _ _ _ s X Y row hs.1 hg hr, hs.2⟩) _) (ownFrom_below (Nat.le_refl _) (by omega)))
    (fun c => OwnFrom.and (Own.from (fun s X Y row hs hg hr => ⟨hs.1, blk_own _ _ _ s X Y row hs.2.1 hg hr, hs.2.2⟩) _) (ownFrom_below (Nat.le_refl _) (by omega)))
    ⟨⟨bR, fun x hx => by simp at hx⟩, hB0⟩
    (fun x a' W => ∃ Bx, W.heap[Bx]? = some (.cells x.1.2.toArray 27 (0, 0)) ∧ a' = { tmps := #[.agg ca, .pointer (some ⟨w.heap.size, 0, none⟩), .pointer (some ⟨w.heap.size + 1, 0, none⟩), .pointer (some ⟨Bx, 0, none⟩), .agg ca, .func (.func 51) #[] #[.pointer (some ⟨w.heap.size + 1 + 1, 0, none⟩)], .agg x.1.2.toArray, undef, undef, undef, undef, undef, undef, undef, undef, undef, undef, undef, undef, undef], defers := [] })
    (fun x a' _ X Y row hs hg hr => by obtain ⟨Bx, h2, h3⟩ := hs; exact ⟨Bx, blk_own Bx _ _ () X Y row h2 hg (fun r e => (hr r e).2), h3⟩)
    ?assign ?body ?done ?stop
  case assign =>
    rintro l pre ⟨⟨t', cs'⟩, hx⟩ W K ⟨⟨hr, hg⟩, hB⟩ hK
    obtain ⟨A', c', B', d', rfl, _⟩ := trC_iff.1 (show TrC _ _ t' cs' from hx.1)
    have hBr := below_al hB (.cells #[.int .i64 t'.op, .slice A' t'.kids.length c', .int .i32 t'.rune, .slice B' t'.set.length d', .int .i64 t'.at_, .int .i64 t'.cap, .string t'.name, .int .i64 t'.mn, .int .i64 t'.mx, .bool t'.lz] 27)
    have hK1 := hK _ _ (keepsFrom_below (below_al (Below.refl _ _) _)) ((Keeps.refl _ _ _).alloc hB.size _) ⟨⟨(Below.heap_alloc _ _ _ (heap_lt hr)).trans hr, hg⟩, hBr⟩ ⟨W.heap.size, heap_new1 _ _, rfl⟩
    clear hK hr hg hB hBr
    gi_wp2
    exact hK1
  case body =>
    rintro l pre ⟨⟨t', cs'⟩, hx⟩ a' W hl _ ⟨⟨hr, hg⟩, hB⟩ ⟨Bx, hbx, rfl⟩ hlen
    obtain ⟨A', c', B', d', rfl, _⟩ := trC_iff.1 (show TrC _ _ t' cs' from hx.1)
    obtain ⟨g0, g1, g2, g3, g4, g5, g6, g7, g8, g9⟩ := cells10 hbx
    have hxW : TrC (fun b => b < w.heap.size) W t' [.int .i64 t'.op, .slice A' t'.kids.length c', .int .i32 t'.rune, .slice B' t'.set.length d', .int .i64 t'.at_, .int .i64 t'.cap, .string t'.name, .int .i64 t'.mn, .int .i64 t'.mx, .bool t'.lz] :=
      TrC.move (fun b hb _ => ⟨(hB.block b hb).trans (hB0.block b hb).symm, hb⟩) hx.1
    have hpl := plain_any R _ W t' _ hxW (HR.out t' hx.2)
    have HH := Lib.hid (And.intro hr (And.intro hg hB))
    have hpl2 := hpl.mono (R' := fun e W' => e = .returned (.bool (plainB R t')) ∧ Below W.heap.size W W' ∧ W'.cell? ⟨Bx, 0, none⟩ = some (.int .i64 t'.op) ∧ W'.cell? ⟨Bx, 5, none⟩ = some (.int .i64 t'.cap) ∧ W'.cell? ⟨w.heap.size + 1, 0, none⟩ = some (.bool false) ∧ W'.frozen? ⟨w.heap.size + 1, 0, none⟩ = false)
      (fun e W' h => ⟨h.1, h.2, (h.2.cell (p := ⟨Bx, 0, none⟩) (heap_lt hbx)).trans g0, (h.2.cell (p := ⟨Bx, 5, none⟩) (heap_lt hbx)).trans g5,
        (h.2.cell (p := ⟨w.heap.size + 1, 0, none⟩) (heap_lt hr)).trans (by rw [cell_of_blk hr]; rfl), (h.2.frozen (p := ⟨w.heap.size + 1, 0, none⟩) (heap_lt hr)).trans (by simp [World.frozen?, hr])⟩)
    clear hpl hr hg hB hbx hxW
    cases hp : plainB R t'
    · rw [hp] at hpl2
      have HP := Lib.hid hp
      clear hp
      gi_wp2_with ((try refine ⟨hdd _, ?_⟩); gi_at_call 28; refine (CallsIn.inRound l (callsIn_wide.2 hpl2)).mono ?_; clear hpl2; rintro e W2 ⟨rfl, hb2, q0, q5, qr, qf⟩)
      obtain ⟨hr, hg, hB⟩ := HH.out
      have bR2 : Boxed W2 (w.heap.size + 1) 4 (.bool false) := (hb2.block _ (heap_lt hr)).trans hr
      exact ⟨(keepsFrom_below hb2).trans ((KeepsOthers.setCell _ _ _).from _), ⟨rfl, bR2.set _, ⟨⟨(t', _), hx⟩, List.mem_append.2 (.inr (List.mem_singleton.2 rfl)), by simp [goodP, HP.out]⟩⟩, (below_then hB hB.size hb2).setCell (p := ⟨w.heap.size + 1, 0, none⟩) (by simp) _⟩
    · rw [hp] at hpl2
      have HP := Lib.hid hp
      clear hp
      gi_wp2_with ((try refine ⟨hdd _, ?_⟩); gi_at_call 28; refine (CallsIn.inRound l (callsIn_wide.2 hpl2)).mono ?_; clear hpl2; rintro e W2 ⟨rfl, hb2, q0, q5, qr, qf⟩)
      · have h1 : t'.op = 6 := by assumption
        have h2 : t'.cap < 1 := by assumption
        obtain ⟨hr, hg, hB⟩ := HH.out
        have bR2 : Boxed W2 (w.heap.size + 1) 4 (.bool false) := (hb2.block _ (heap_lt hr)).trans hr
        exact ⟨(keepsFrom_below hb2).trans ((KeepsOthers.setCell _ _ _).from _), ⟨rfl, bR2.set _, ⟨_, List.mem_append.2 (.inr (List.mem_singleton.2 rfl)), by show goodP R t' = false; simp [goodP, h1, h2]⟩⟩, (below_then hB hB.size hb2).setCell (p := ⟨w.heap.size + 1, 0, none⟩) (by simp) _⟩
      all_goals
        have hgd : goodP R t' = true := by
          unfold goodP
          rw [HP.out]
          simp
          omega
        obtain ⟨hr, hg, hB⟩ := HH.out
        exact ⟨keepsFrom_below hb2, Keeps.of_below hb2 hB.size, ⟨(hb2.block _ (heap_lt hr)).trans hr, fun x hx' => (List.mem_append.1 hx').elim (hg x) (fun e => by rw [List.mem_singleton.1 e]; exact hgd)⟩, below_then hB hB.size hb2⟩
  case done =>
    rintro D ys W hD hys ⟨⟨hr, hg⟩, hB⟩ hK
    have hcr : W.cell? ⟨w.heap.size + 1, 0, none⟩ = some (.bool false) := by rw [cell_of_blk hr]; rfl
    have hfr : W.frozen? ⟨w.heap.size + 1, 0, none⟩ = false := by simp [World.frozen?, hr]
    have hsh : shapedB R t = true := by
      unfold shapedB
      rw [← hys, List.all_eq_true]
      intro p hp
      obtain ⟨x, hx, rfl⟩ := List.mem_map.1 hp
      exact hg x hx
    have HH := Lib.hid (And.intro hsh hB)
    clear hr hg hys hB hsh
    gi_wp2
    obtain ⟨hsh, hB⟩ := HH.out
    have hK' := (KeepsOthers.setCell W ⟨w.heap.size + 1, 0, none⟩ (.bool true)).same D _ hK rfl
    refine ⟨by simp, .inl ⟨_, _, rfl, run_takeDeferred hK', ?_⟩⟩
    have hc5 := cell_kept (World.cell?_setCell_same' W ⟨w.heap.size + 1, 0, none⟩ (.bool true) (by rw [hcr]; rfl)) (grownBy_putObj' _ D (.deferred none)) (fun r e => by cases e; exact ⟨_, hK', rfl⟩)
    refine ⟨.bool true, ?_, by rw [hsh], (hB.setCell (p := ⟨w.heap.size + 1, 0, none⟩) (by simp) _).trans (belowK_b (w := w) (Nat.le_refl _) _ D _ _ (by omega) hK' rfl rfl)⟩
    simp [results, Try.f19, go_sem, hc5]
  case stop =>
    rintro D c pre W hD hpre ⟨⟨rfl, hr, ⟨x, hx, hgx⟩⟩, hB⟩ hK
    have hcr : W.cell? ⟨w.heap.size + 1, 0, none⟩ = some (.bool false) := by rw [cell_of_blk hr]; rfl
    have hsh : shapedB R t = false := by
      unfold shapedB
      rw [List.all_eq_false]
      exact ⟨x.1.1, x.2.2, by rw [hgx]; simp⟩
    have HH := Lib.hid (And.intro hsh hB)
    clear hr hgx hpre hB hsh hx x
    gi_wp2
    obtain ⟨hsh, hB⟩ := HH.out
    refine ⟨by simp, .inl ⟨_, _, rfl, run_takeDeferred hK, ?_⟩⟩
    have hc5 := cell_kept hcr (grownBy_putObj' _ D (.deferred none)) (fun r e => by cases e; exact ⟨_, hK, rfl⟩)
    refine ⟨.bool false, ?_, by rw [hsh], hB.trans (belowK_b (w := w) (Nat.le_refl _) W D _ _ (by omega) hK rfl rfl)⟩
    simp [results, Try.f19, go_sem, hc5]

theorem shaped_any (R : List Rg → Bool) (ok : Nat → Prop) (w : World) (t : Tr) (cs : List Value) (ht : TrC ok w t cs) (hR : ∀ p ∈ parts t, p.op = 4 → RightOK R p.set) :
    Calls Try.prog 19 #[.agg cs.toArray] w fun e w' => e = .returned (.bool (shapedB R t)) ∧ Below w.heap.size w w' :=
  callsIn_wide.1 (shaped_in R w t cs (ht.old.mono (fun b h => h.2)) hR)
end Go.Proofs.Ytdnbholiijgedaa
