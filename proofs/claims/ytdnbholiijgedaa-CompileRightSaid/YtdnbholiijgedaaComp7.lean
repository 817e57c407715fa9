/-
  compile's code: trees one behind the other. No condition.
-/
import Derived.Test.YtdnbholiijgedaaComp6
import Derived.Test.YtdnbholiijgedaaBack
import Derived.Test.YtdnbholiijgedaaShaped
import Derived.RangeFuncBox
import Derived.RangeFuncCalls
namespace Go.Proofs.Ytdnbholiijgedaa
open Go.RowKit Go.Shelf
set_option linter.unusedVariables false
attribute [local go_sem] Oper.semAt_some

theorem bld_own {X Y : World} {B0 G : Nat} {v : Value} {st cp gr : Int} {s : St} {row : Option Nat} (h : BldAt X B0 G v st cp gr s) (hg : X.grownBy Y row) (hr : ∀ r, row = some r → ∃ o : Obj, X.heap[r]? = some o ∧ o.isCells = false) : BldAt Y B0 G v st cp gr s := by
  have hne : ∀ (b : Nat) (cs : Array Value) (T : TypeId) (fr : Nat × Nat), X.heap[b]? = some (.cells cs T fr) → Y.heap[b]? = X.heap[b]? := fun b cs T fr hb => hg.block b (heap_lt hb) (fun e => by
    obtain ⟨o, ho, hc⟩ := hr b e.symm
    rw [hb] at ho; cases ho; simp [Obj.isCells] at hc)
  obtain ⟨h0, h1, css, h2, h3⟩ := h
  refine ⟨h0, (hne _ _ _ _ h1).trans h1, css, h2.kept hg ?_, h3.move (fun b hb => by obtain ⟨cs, fr, hb⟩ := hb; exact hne _ _ _ _ hb)⟩
  cases hv : v.ownBlock with
  | none => exact .inl rfl
  | some g =>
    refine .inr fun e => ?_
    obtain ⟨o, ho, hc⟩ := hr g e.symm
    obtain ⟨cs, fr, hk⟩ := own_ty h2 hv
    rw [hk] at ho; cases ho; simp [Obj.isCells] at hc
theorem touch_own {w X Y : World} {G : Nat} {r r' row : Option Nat} (h : Touch G r r' w X) (hg : X.grownBy Y row) (hr : ∀ k, row = some k → w.heap.size ≤ k) : Touch G r r' w Y :=
  ⟨hg.os.trans h.os, hg.tape.trans h.tape, hg.output.trans h.output, Nat.le_trans h.size hg.size, fun b hb h1 h2 => (hg.block b (Nat.lt_of_lt_of_le hb h.size) (fun e => by have := hr b e.symm; omega)).trans (h.block b hb h1 h2), h.row⟩
theorem bld_far {W : World} {B0 G : Nat} {v : Value} {st cp gr : Int} {s : St} (h : BldAt W B0 G v st cp gr s) {b : Nat} {cs : Array Value} {ty : TypeId} {fr : Nat × Nat} (hb : W.heap[b]? = some (.cells cs ty fr)) (h1 : ty ≠ 39) (h2 : ty ≠ 49) (h3 : ty ≠ 61) (j : Nat) (u : Value) :
    BldAt (W.setCell ⟨b, j, none⟩ u) B0 G v st cp gr s := by
  have hty : TyB ty W b := ⟨_, _, hb⟩
  obtain ⟨k0, k1, css, k2, k3⟩ := h
  exact ⟨k0, (Below.heap_setCell _ _ _ _ (fun e => hty.ne k1 h2 e.symm)).trans k1, css, ⟨ownsRow_setCell_other k2.1 (fun e => hty.ne_own k2 h1 e.symm) _, k2.2⟩, k3.move (fun b' hb' => Below.heap_setCell _ _ _ _ (hb'.ne hb (fun e => h3 e.symm)))⟩
theorem touch_others {W W' : World} {B0 G : Nat} {v v' : Value} {st cp gr : Int} {s : St} (h : Touch G v.ownBlock v'.ownBlock W W') (hb : BldAt W B0 G v st cp gr s) : KeepsOthers W W' :=
  ⟨h.size, fun k o hk ho => (h.block k (heap_lt hk) (fun e => by subst e; rw [hb.blk] at hk; cases hk; simp [Obj.isCells] at ho) (fun e => by
    obtain ⟨css, hr, _⟩ := hb.row
    obtain ⟨cs, fr, hc⟩ := own_ty hr e.symm
    rw [hc] at hk; cases hk; simp [Obj.isCells] at ho)).trans hk⟩
theorem touch_new {w W : World} {G : Nat} {r r' : Option Nat} (h : Touch G r r' w W) {b : Nat} (hb : w.heap.size ≤ b) (j : Nat) (u : Value) : Touch G r r' w (W.setCell ⟨b, j, none⟩ u) :=
  ⟨h.os, h.tape, h.output, by rw [size_set]; exact h.size, fun k hk h1 h2 => (Below.heap_setCell _ _ _ _ (by show k ≠ b; omega)).trans (h.block k hk h1 h2), h.row⟩
/-- A round behind the code of a Kid, and the store of its place. -/
theorem keepsF_round {W W' : World} {B0 G : Nat} {v v' : Value} {st cp gr : Int} {s : St} (h : Touch G v.ownBlock v'.ownBlock W W') (hb : BldAt W B0 G v st cp gr s) {b : Nat} {cs : Array Value} {ty T : TypeId} {fr : Nat × Nat} (hx : W'.heap[b]? = some (.cells cs ty fr)) (hne : ty ≠ T) (hB : B0 ≤ b) (h1 : T ≠ 39) (h2 : T ≠ 49) (u : Value) (j : Nat) :
    KeepsF T (fun b => b < B0) W (W'.setCell ⟨b, j, none⟩ u) :=
  ⟨fun k hk => (Below.heap_setCell _ _ _ _ (by show k ≠ b; omega)).trans ((h.old hb).block k hk), fun k cs2 fr2 hk => (Below.heap_setCell _ _ _ _ (fun e => by
    have h9 := h.keep hb hk h1 h2
    have e' : k = b := e
    rw [e', hx] at h9
    injection h9 with h9
    injection h9 with _ h9
    exact hne h9)).trans (h.keep hb hk h1 h2)⟩
def foldN (g : Int) (kids : List Tr) (l : List Nat) (r : Int × St) : Int × St := l.foldl (fun r i => match kids[i]? with | some k => codeS g k r.1 r.2 | none => r) r
theorem foldN_snoc (g : Int) (kids : List Tr) (l : List Nat) (i : Nat) (r : Int × St) (h : i < kids.length) : foldN g kids (l ++ [i]) r = codeS g kids[i] (foldN g kids l r).1 (foldN g kids l r).2 := by
  unfold foldN
  rw [List.foldl_append]
  simp only [List.foldl_cons, List.foldl_nil, List.getElem?_eq_getElem h]
theorem codeR_fold (g : Int) : ∀ (l : List Tr) (to : Int) (s : St), codeR g l to s = l.foldr (fun k r => codeS g k r.1 r.2) (to, s)
  | [], to, s => by rw [codeR]; rfl
  | k :: l, to, s => by rw [codeR, codeR_fold g l, List.foldr_cons]
theorem range_foldr (g : Int) : ∀ (l : List Tr) (r : Int × St), (List.range l.length).foldr (fun i r => match l[i]? with | some k => codeS g k r.1 r.2 | none => r) r = l.foldr (fun k r => codeS g k r.1 r.2) r
  | [], r => rfl
  | k :: l, r => by
    rw [List.length_cons, List.range_succ_eq_map, List.foldr_cons, List.foldr_map, List.foldr_cons]
    simp only [List.getElem?_cons_zero, List.getElem?_cons_succ]
    rw [range_foldr g l r]
theorem foldN_rev (g : Int) (kids : List Tr) (to : Int) (s : St) : foldN g kids (List.range kids.length).reverse (to, s) = codeR g kids to s := by
  unfold foldN
  rw [List.foldl_reverse, codeR_fold, ← range_foldr]
theorem foldN_len (g : Int) (kids : List Tr) : ∀ (l : List Nat) (r : Int × St), r.2.1.length ≤ 10000 → (foldN g kids l r).2.1.length ≤ 10000
  | [], r, h => h
  | i :: l, r, h => by
    unfold foldN
    rw [List.foldl_cons]
    refine foldN_len g kids l _ ?_
    split
    · exact codeS_len g _ _ _ h
    · exact h
set_option maxRecDepth 100000 in
set_option maxHeartbeats 1000000 in
theorem code_cat (B0 G : Nat) (st cp gr : Int) (t : Tr) (cs : List Value) (to : Int) (w : World) (v : Value) (s : St) (ht : TrC (fun b => b < B0) w t cs) (hb : BldAt w B0 G v st cp gr s) (hl : s.1.length ≤ 10000) (hm : s.2 = false) (ho : t.op = 11) (hN : t.kids.length ≤ 1000000000) (ih : ∀ k ∈ t.kids, CodeOK B0 G st cp gr k) :
    CallsIn Fence.wide 9 Try.prog 24 #[.pointer (some ⟨G, 0, none⟩), .agg cs.toArray, .int .i64 to] w (EmitPost B0 G st cp gr v w (codeS gr t to s)) := by
  obtain ⟨A, c, B, d, rfl, m1, m2, m3, m4, h5, h6⟩ := trC_iff.1 ht
  obtain ⟨k4, hG, hG1, hG2⟩ := code_open hb
  have o1 : (t.op == 1) = false := by rw [ho]; rfl
  have o3 : (t.op == 3) = false := by rw [ho]; rfl
  have o4 : (t.op == 4) = false := by rw [ho]; rfl
  have o5 : (t.op == 5) = false := by rw [ho]; rfl
  have o6 : (t.op == 6) = false := by rw [ho]; rfl
  have o11 : (t.op == 11) = true := by rw [ho]; rfl
  have o12 : (t.op == 12) = false := by rw [ho]; rfl
  have o9 : (t.op == 9) = false := by rw [ho]; rfl
  have o7 : (t.op == 7) = false := by rw [ho]; rfl
  have o8 : (t.op == 8) = false := by rw [ho]; rfl
  have hS : codeS gr t to s = codeR gr t.kids to s := by
    rw [codeS_eq, if_neg (by rw [hm]; simp), if_neg (by omega), if_neg (by omega), if_neg (by omega), if_neg (by omega), if_neg (by omega), if_pos ho]
  rw [hm] at k4
  have hF1 : Fence.wide.fn 37 := trivial
  have hF2 : Fence.wide.fn 60 := trivial
  have hF3 : Fence.wide.fn 24 := trivial
  have hdd : ∀ k : Nat, (Fence.wide.depth.isSome = true → 1 ≤ k) := fun k h => by simp [Fence.wide] at h
  have HH := Lib.hid (And.intro hS (And.intro ih (And.intro hb h6)))
  clear hb hS hm ht ho h5 h6 ih
  refine callsIn_of_wp_marks Try.func24 rfl trivial ?_ rfl
  simp only [Try.ntmps24, List.size_toArray, List.length_cons, List.length_nil, Nat.reduceAdd, Nat.reduceSub, Array.replicate_succ, Array.replicate_zero, List.push_toArray, List.append_toArray, List.nil_append, List.cons_append]
  gi_wp2_with ((try refine ⟨hdd _, ?_⟩); gi_at_call 37; refine (callsIn_wide.2 (backT_any _ _ _ _)).mono ?_; rintro e w' ⟨rfl, rfl⟩)
  obtain ⟨x0, x1, x2, x3, xb⟩ := box3 w (.cells #[.pointer (some ⟨G, 0, none⟩)] 47) (.cells #[.int .i64 t.op, .slice A t.kids.length c, .int .i32 t.rune, .slice B t.set.length d, .int .i64 t.at_, .int .i64 t.cap, .string t.name, .int .i64 t.mn, .int .i64 t.mx, .bool t.lz] 27) (.cells #[.int .i64 to] 3)
  obtain ⟨X, hX⟩ : ∃ X, (((w.alloc (.cells #[.pointer (some ⟨G, 0, none⟩)] 47)).alloc (.cells #[.int .i64 t.op, .slice A t.kids.length c, .int .i32 t.rune, .slice B t.set.length d, .int .i64 t.at_, .int .i64 t.cap, .string t.name, .int .i64 t.mn, .int .i64 t.mx, .bool t.lz] 27)).alloc (.cells #[.int .i64 to] 3)) = X := ⟨_, rfl⟩
  rw [hX] at x0 x1 x2 x3 xb ⊢
  clear hX
  have y0 : (X.alloc (.cells #[.slice A t.kids.length c] 23)).heap[w.heap.size]? = _ := (Below.heap_alloc _ _ _ (heap_lt x0)).trans x0
  have y2 : (X.alloc (.cells #[.slice A t.kids.length c] 23)).heap[w.heap.size + 1 + 1]? = _ := (Below.heap_alloc _ _ _ (heap_lt x2)).trans x2
  have y3 := World.alloc_heap_new X (.cells #[.slice A t.kids.length c] 23)
  rw [x3] at y3
  have yb : Below w.heap.size w (X.alloc (.cells #[.slice A t.kids.length c] 23)) := below_al xb _
  have ysz : (X.alloc (.cells #[.slice A t.kids.length c] 23)).heap.size = w.heap.size + 4 := by rw [World.size_alloc, x3]
  obtain ⟨W0, hW0⟩ : ∃ W0, X.alloc (.cells #[.slice A t.kids.length c] 23) = W0 := ⟨_, rfl⟩
  rw [hW0] at y0 y2 y3 yb ysz ⊢
  clear hW0 x0 x1 x2 x3 xb X
  have hB0 := HH.out.2.2.1.glt.2
  have hGw := HH.out.2.2.1.glt.1
  refine wpIn_rangeFunc_ownH rfl (by omega) (gf := 60) (lb := #[.pointer (some ⟨w.heap.size + 1 + 1 + 1, 0, none⟩)]) rfl trivial (enters_of Try.func60 (by kernel_rfl) rfl)
    (backT_stops _ B0 (w.heap.size + 1 + 1 + 1) W0 A c t.kids (HH.out.2.2.2.move (fun b hb hlt => ⟨yb.block b hlt, hb⟩) (by omega) |>.weak (fun x _ cs hx => hx.move (fun b hb hlt => ⟨yb.block b hlt, hb⟩))) (by omega) y3 (by omega)) KeepsF.trans
    (fun W l o o' hl' ho' hc' _ => ?kb) (Below.refl _ _) (fun _ => rfl)
    (fun pre W => ∃ v', W.heap[w.heap.size]? = some (.cells #[.pointer (some ⟨G, 0, none⟩)] 47 (0, 0)) ∧ W.heap[w.heap.size + 1 + 1]? = some (.cells #[.int .i64 (foldN gr t.kids (pre.map (fun x => x.1.1)) (to, s)).1] 3 (0, 0)) ∧ BldAt W B0 G v' st cp gr (foldN gr t.kids (pre.map (fun x => x.1.1)) (to, s)).2 ∧ Touch G v.ownBlock v'.ownBlock w W)
    (fun c pre W => False) ?own (fun _ _ _ _ _ h => h.elim) ⟨v, y0, y2, HH.out.2.2.1.below yb, Touch.of_below yb⟩
    (fun x a' (W : World) => ∃ Bx : Nat, W.heap[Bx]? = some (Obj.cells x.1.2.toArray 27 (0, 0)) ∧ a' = { tmps := #[.pointer (some ⟨G, 0, none⟩), .agg #[.int .i64 t.op, .slice A t.kids.length c, .int .i32 t.rune, .slice B t.set.length d, .int .i64 t.at_, .int .i64 t.cap, .string t.name, .int .i64 t.mn, .int .i64 t.mx, .bool t.lz], .int .i64 to, .pointer (some ⟨w.heap.size, 0, none⟩), .pointer (some ⟨w.heap.size + 1, 0, none⟩), .pointer (some ⟨w.heap.size + 1 + 1, 0, none⟩), .int .i64 0, undef, .pointer (some ⟨Bx, 0, none⟩), undef, undef, undef, undef, undef, undef, undef, undef, undef, undef, undef, .pointer (some ⟨G, 0, none⟩), .pointer (some ⟨G, 0, none⟩), .pointer (some ⟨G, 4, none⟩), .bool false, .pointer (some ⟨w.heap.size + 1, 0, none⟩), .int .i64 t.op, .bool false, .bool false, undef, undef, undef, .bool false, .bool false, undef, undef, undef, undef, undef, undef, undef, undef, undef, undef, .bool false, .bool false, undef, undef, undef, undef, undef, undef, undef, .bool false, .bool false, undef, undef, undef, undef, undef, undef, .bool false, .bool false, undef, undef, undef, undef, .bool true, .bool true, .pointer (some ⟨w.heap.size + 1, 1, none⟩), .slice A t.kids.length c, .func (.func 60) #[] #[.pointer (some ⟨w.heap.size + 1 + 1 + 1, 0, none⟩)], .int .i64 (x.1.1 : Int), .agg x.1.2.toArray, undef, undef, undef, undef, undef, undef, undef, undef, undef, undef, undef, undef, undef, undef, undef, undef, undef, undef, undef, undef, undef, undef, undef, undef, undef, undef, undef, undef, undef, undef, undef, undef, undef, undef, undef, undef, undef, undef, undef, undef, undef, undef, undef, undef, undef, undef, undef, undef, undef, undef, undef, undef, undef, undef, undef, undef, undef, undef, undef, undef, undef, undef, undef, undef, undef, undef, undef, undef, undef, undef, undef, undef, undef, undef, undef, undef], defers := [] })
    ?ownx ?assign ?body ?done ?stop
  case kb => exact ⟨fun b hb => World.putObj_heap_other (by omega), fun b cs fr hb => (World.putObj_heap_other (fun e => by subst e; rw [ho'] at hb; cases hb; simp [Obj.isCells] at hc')).trans hb⟩
  case own =>
    rintro pre X Y row ⟨v', h0, h2, h3, h4⟩ hg hr
    exact ⟨v', blk_own _ _ _ () X Y row h0 hg (fun r e => (hr r e).2), blk_own _ _ _ () X Y row h2 hg (fun r e => (hr r e).2), bld_own h3 hg (fun r e => (hr r e).2), touch_own h4 hg (fun k e => by have := (hr k e).1; omega)⟩
  case ownx =>
    rintro x a' _ X Y row ⟨Bx, h2, h3⟩ hg hr
    exact ⟨Bx, blk_own Bx _ _ () X Y row h2 hg (fun r e => (hr r e).2), h3⟩
  case assign =>
    rintro l pre ⟨⟨xi, xcs⟩, hxi, hT⟩ W K ⟨v', h0, h2, h3, h4⟩ hK
    obtain ⟨Ak, ck, Bk, dk, hxl, _⟩ := trC_iff.1 hT
    dsimp only at hxl hxi
    subst hxl
    have hK1 := hK _ _ (keepsFrom_below (below_al (Below.refl _ _) (.cells #[.int .i64 t.kids[xi].op, .slice Ak t.kids[xi].kids.length ck, .int .i32 t.kids[xi].rune, .slice Bk t.kids[xi].set.length dk, .int .i64 t.kids[xi].at_, .int .i64 t.kids[xi].cap, .string t.kids[xi].name, .int .i64 t.kids[xi].mn, .int .i64 t.kids[xi].mx, .bool t.kids[xi].lz] 27))) (KeepsF.of_below (below_al (Below.refl _ _) _) (fun b hb => by have := h3.glt.2; omega)) ⟨v', (Below.heap_alloc _ _ _ (heap_lt h0)).trans h0, (Below.heap_alloc _ _ _ (heap_lt h2)).trans h2, h3.below (below_al (Below.refl _ _) _), h4.trans (Touch.of_below (below_al (Below.refl _ _) _))⟩ ⟨W.heap.size, heap_new1 _ _, rfl⟩
    clear hK h0 h2 h3 h4
    dsimp only [kidA]
    gi_wp2
    exact hK1
  case body =>
    rintro l pre ⟨⟨xi, xcs⟩, hxi, hT⟩ a' W hl' _ ⟨v1, h0, h2, h3, h4⟩ ⟨Bx, hbx, rfl⟩ hlen
    obtain ⟨Ak, ck, Bk, dk, hxl, _⟩ := trC_iff.1 hT
    dsimp only at hxl hxi hbx
    subst hxl
    have hcall := HH.out.2.1 t.kids[xi] (List.getElem_mem hxi) _ (foldN gr t.kids (pre.map (fun x => x.1.1)) (to, s)).1 W v1 (foldN gr t.kids (pre.map (fun x => x.1.1)) (to, s)).2 (hT.move (fun b hb _ => ⟨by
      have e1 := (h4.old HH.out.2.2.1).block b hb
      have e2 := yb.block b (by omega)
      exact e1.trans e2.symm, hb⟩)) h3 (foldN_len gr t.kids _ (to, s) hl)
    dsimp only at hcall
    have hsn := foldN_snoc gr t.kids (pre.map (fun x => x.1.1)) xi (to, s) hxi
    generalize foldN gr t.kids (pre.map (fun x => x.1.1)) (to, s) = R at *
    have b0 : W.cell? ⟨w.heap.size, 0, none⟩ = some (.pointer (some ⟨G, 0, none⟩)) := by rw [cell_of_blk h0]; rfl
    have b2 : W.cell? ⟨w.heap.size + 1 + 1, 0, none⟩ = some (.int .i64 R.1) := by rw [cell_of_blk h2]; rfl
    obtain ⟨g0, g1, g2, g3, g4, g5, g6, g7, g8, g9⟩ := cells10 hbx
    have HW := Lib.hid (And.intro h0 (And.intro h2 (And.intro h3 (And.intro h4 hsn))))
    clear h0 h2 h3 h4 hbx hsn
    gi_wp2_with fail
    refine (CallsIn.inRound l (callsIn_wide.2 hcall)).mono ?_
    clear hcall
    rintro e w2 ⟨v2, rfl, hb2, ht2⟩
    clear b0 b2 g0 g1 g2 g3 g4 g5 g6 g7 g8 g9
    have z0 := ht2.keep HW.out.2.2.1 HW.out.1 (by decide) (by decide)
    have z2 := ht2.keep HW.out.2.2.1 HW.out.2.1 (by decide) (by decide)
    have q1 : w2.cell? ⟨w.heap.size + 1 + 1, 0, none⟩ = some (.int .i64 R.1) := by rw [cell_of_blk z2]; rfl
    have q2 : w2.frozen? ⟨w.heap.size + 1 + 1, 0, none⟩ = false := by simp [World.frozen?, z2]
    have H2 := Lib.hid (And.intro hb2 (And.intro ht2 (And.intro z0 z2)))
    clear hb2 ht2 z0 z2
    gi_wp2_with fail
    obtain ⟨hb2, ht2, z0, z2⟩ := H2.out
    refine ⟨((touch_others ht2 HW.out.2.2.1).trans (KeepsOthers.setCell _ _ _)).from _, keepsF_round ht2 HW.out.2.2.1 z2 (by decide) (by omega) (by decide) (by decide) _ _, v2, (Below.heap_setCell _ _ _ _ (by show w.heap.size ≠ w.heap.size + 1 + 1; omega)).trans z0, ?_, ?_, ?_⟩
    · rw [List.map_append, List.map_cons, List.map_nil, HW.out.2.2.2.2]
      exact blk_set z2 0 _
    · rw [List.map_append, List.map_cons, List.map_nil, HW.out.2.2.2.2]
      exact bld_far hb2 z2 (by decide) (by decide) (by decide) _ _
    · exact touch_new (HW.out.2.2.2.1.trans ht2) (by omega) _ _
  case done =>
    rintro D ys W hD hys ⟨v1, h0, h2, h3, h4⟩ hK
    rw [hys, foldN_rev] at h2 h3
    have b2 : W.cell? ⟨w.heap.size + 1 + 1, 0, none⟩ = some (.int .i64 (codeR gr t.kids to s).1) := by rw [cell_of_blk h2]; rfl
    have HW := Lib.hid (And.intro h3 h4)
    clear h0 h2 h3 h4 hys
    gi_wp2
    obtain ⟨h3, h4⟩ := HW.out
    refine ⟨by simp, .inl ⟨_, _, rfl, run_takeDeferred hK, ?_⟩⟩
    refine ⟨.int .i64 (codeR gr t.kids to s).1, ?_, v1, ?_, ?_, ?_⟩
    · simp [results, Try.f24, go_sem]
    · rw [HH.out.1]
    · rw [HH.out.1]
      exact bld_own h3 (grownBy_putObj' W D (.deferred none)) (fun r e => by cases e; exact ⟨_, hK, rfl⟩)
    · exact touch_own h4 (grownBy_putObj' W D (.deferred none)) (fun k e => by cases e; omega)
  case stop => exact fun _ _ _ _ _ _ h => h.elim
end Go.Proofs.Ytdnbholiijgedaa
