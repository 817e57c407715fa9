/-
  trees.Right: is it a tree? What sets.Right answers of its sets is a premise; small lists. No other condition.
-/
import Derived.Test.YtdnbholiijgedaaNames
import Derived.Test.YtdnbholiijgedaaComp1
import Derived.BigGuardPart
import Derived.WalkMore
namespace Go.Proofs.Ytdnbholiijgedaa
open Go.RowKit Go.Shelf
set_option linter.unusedVariables false
attribute [local go_sem] Oper.semAt_some

/-- What Right keeps of its own as the parts come: right, n, names. -/
structure RSt (w : World) (b1 : Nat) (rt : Bool) (n : Nat) (s : List ByteArray) (W : World) : Prop where
  bel : Below w.heap.size w W
  r : W.heap[b1]? = some (.cells #[.bool rt] 4 (0, 0))
  num : W.heap[b1 + 1]? = some (.cells #[.int .i64 n] 3 (0, 0))
  m : ∃ k, k ≤ n ∧ NamesAt W (b1 + 1 + 1) k s
  p : W.heap[b1 + 1 + 1 + 1]? = some (.cells #[.map (some (b1 + 1 + 1))] 50 (0, 0))
  sz : b1 + 5 ≤ W.heap.size
theorem RSt.grown {w W W' : World} {b1 n : Nat} {rt : Bool} {s : List ByteArray} {row : Option Nat} (h : RSt w b1 rt n s W) (hw : w.heap.size ≤ b1) (hg : W.grownBy W' row) (hr : ∀ r, row = some r → b1 + 5 ≤ r) : RSt w b1 rt n s W' := by
  have hne : ∀ b, b < b1 + 5 → some b ≠ row := fun b hb e => by have := hr b e.symm; omega
  have hsz := h.sz
  exact ⟨h.bel.grown hg h.bel.size (fun k e => by have := hr k e; omega), (hg.block _ (by omega) (hne _ (by omega))).trans h.r, (hg.block _ (by omega) (hne _ (by omega))).trans h.num, h.m.imp (fun k h => ⟨h.1, h.2.kept hg (hne _ (by omega))⟩), (hg.block _ (by omega) (hne _ (by omega))).trans h.p, Nat.le_trans h.sz hg.size⟩
theorem RSt.below {w W W' : World} {b1 n : Nat} {rt : Bool} {s : List ByteArray} (h : RSt w b1 rt n s W) (hb : Below W.heap.size W W') : RSt w b1 rt n s W' := by
  have hsz := h.sz
  exact ⟨below_and hb h.bel, (hb.block _ (by omega)).trans h.r, (hb.block _ (by omega)).trans h.num, h.m.imp (fun k h => ⟨h.1, h.2.blk (hb.block _ (by omega))⟩), (hb.block _ (by omega)).trans h.p, Nat.le_trans h.sz hb.size⟩
theorem RSt.setR {w W : World} {b1 n : Nat} {rt : Bool} {s : List ByteArray} (h : RSt w b1 rt n s W) (hw : w.heap.size ≤ b1) (rt' : Bool) : RSt w b1 rt' n s (W.setCell ⟨b1, 0, none⟩ (.bool rt')) :=
  ⟨h.bel.setCell (p := ⟨b1, 0, none⟩) hw _, blk_set h.r 0 _, (Below.heap_setCell _ _ _ _ (by simp)).trans h.num, h.m.imp (fun k h => ⟨h.1, h.2.blk (Below.heap_setCell _ _ _ _ (show b1 + 1 + 1 ≠ b1 by omega))⟩), (Below.heap_setCell _ _ _ _ (show b1 + 1 + 1 + 1 ≠ b1 by omega)).trans h.p, by have := h.sz; rw [size_set]; exact this⟩
theorem RSt.setN {w W : World} {b1 n : Nat} {rt : Bool} {s : List ByteArray} (h : RSt w b1 rt n s W) (hw : w.heap.size ≤ b1) : RSt w b1 rt (n + 1) s (W.setCell ⟨b1 + 1, 0, none⟩ (.int .i64 ((n + 1 : Nat) : Int))) :=
  ⟨h.bel.setCell (p := ⟨b1 + 1, 0, none⟩) (show w.heap.size ≤ b1 + 1 by omega) _, (Below.heap_setCell _ _ _ _ (show b1 ≠ b1 + 1 by omega)).trans h.r, blk_set h.num 0 _, h.m.imp (fun k h => ⟨by omega, h.2.blk (Below.heap_setCell _ _ _ _ (show b1 + 1 + 1 ≠ b1 + 1 by omega))⟩), (Below.heap_setCell _ _ _ _ (show b1 + 1 + 1 + 1 ≠ b1 + 1 by omega)).trans h.p, by have := h.sz; rw [size_set]; exact this⟩
theorem RSt.look {w W : World} {b1 n : Nat} {rt : Bool} {s : List ByteArray} (h : RSt w b1 rt n s W) (x : ByteArray) (hx : x.size ≤ maxLen) : (Instr.lookup 50 (.map (some (b1 + 1 + 1))) (.string x) false).run Try.prog W = .ok (.bool (hasName s x)) W := by
  obtain ⟨k, _, hk⟩ := h.m
  exact names_look hk x hx
theorem RSt.put {w W W' : World} {b1 n k : Nat} {rt : Bool} {s s' : List ByteArray} (h : RSt w b1 rt n s W) (hw : w.heap.size ≤ b1) (hk : k ≤ n) (hm : NamesAt W' (b1 + 1 + 1) k s') (hg : W.grownBy W' (some (b1 + 1 + 1))) : RSt w b1 rt n s' W' := by
  have hne : ∀ b, b ≠ b1 + 1 + 1 → some b ≠ some (b1 + 1 + 1) := fun b hb e => by cases e; exact hb rfl
  have hsz := h.sz
  exact ⟨h.bel.grown hg h.bel.size (fun j e => by cases e; omega), (hg.block _ (by omega) (hne _ (by omega))).trans h.r, (hg.block _ (by omega) (hne _ (by omega))).trans h.num, ⟨k, hk, hm⟩, (hg.block _ (by omega) (hne _ (by omega))).trans h.p, Nat.le_trans h.sz hg.size⟩
theorem keepsFrom_grown {B g : Nat} {W W' : World} (hg : W.grownBy W' (some g)) (h : g < B) : KeepsFrom B W W' := ⟨hg.size, fun k o hk ho _ => (hg.block k (heap_lt ho) (fun e => by cases e; omega)).trans ho⟩
theorem Keeps.grown {B0 B1 g : Nat} {A B C : World} (h : Keeps B0 B1 A B) (hg : B.grownBy C (some g)) (hB : B0 ≤ B.heap.size) (h0 : B0 ≤ g) (h1 : g < B1) : Keeps B0 B1 A C :=
  h.trans ⟨(Below.refl _ _).grown hg hB (fun k e => by cases e; exact h0), fun b cs ty fr hb hc => hg.block b (heap_lt hc) (fun e => by cases e; omega)⟩
def RightJ (R : List Rg → Bool) (w : World) (b1 : Nat) {Q : Tr → Prop} {n : Nat} {W0 : World} (pre : List (PartAt Q n W0)) (W : World) : Prop :=
  ∃ s, rightFold R (pre.map (fun x => x.1.1)) (0, []) = some s ∧ RSt w b1 true s.1 s.2 W
def RightX (R : List Rg → Bool) (w : World) (b1 : Nat) {Q : Tr → Prop} {n : Nat} {W0 : World} (c : Code) (pre : List (PartAt Q n W0)) (W : World) : Prop :=
  c = .exit 0 ∧ rightFold R (pre.map (fun x => x.1.1)) (0, []) = none ∧ ∃ n s, RSt w b1 false n s W
set_option maxRecDepth 100000 in
set_option maxHeartbeats 4000000 in
theorem tright_in (R : List Rg → Bool) (w : World) (t : Tr) (cs : List Value) (ht : TrC (fun b => b < w.heap.size) w t cs) (hR : ∀ p ∈ parts t, p.op = 4 → RightOK R p.set) (hsm : ∀ p ∈ parts t, p.kids.length ≤ 140737488351232) (hnm : ∀ p ∈ parts t, p.name.size ≤ maxLen) (hn : (parts t).length ≤ 1000000000) :
    CallsIn Fence.wide 9 Try.prog 17 #[.agg cs.toArray] w fun e w' => e = .returned (.bool (rightTB R t)) ∧ Below w.heap.size w w' := by
  obtain ⟨A, c, B, d, rfl, _⟩ := trC_iff.1 ht
  have hF1 : Fence.wide.fn 27 := trivial
  have hF2 : Fence.wide.fn 51 := trivial
  have hF3 : Fence.wide.fn 28 := trivial
  have hF4 : Fence.wide.fn 26 := trivial
  have hF5 : Fence.wide.fn 13 := trivial
  have hdd : ∀ k : Nat, (Fence.wide.depth.isSome = true → 1 ≤ k) := fun k h => by simp [Fence.wide] at h
  have hdp := fun (W : World) (hW : Below w.heap.size w W) => depth_any (fun b => b < w.heap.size) _ t _ W (Nat.le_refl _) (ht.move (fun b hb _ => ⟨hW.block b hb, hb⟩)) hsm hn
  have hwt := fun (W : World) (hW : Below w.heap.size w W) => weight_any (fun b => b < w.heap.size) _ t _ W (Nat.le_refl _) (ht.move (fun b hb _ => ⟨hW.block b hb, hb⟩)) hsm
  have hRB : rightTB R t = (decide (dS t ≤ 50) && decide (wS t ≤ 4000) && (rightFold R (parts t) (0, [])).isSome) := rfl
  have HT := Lib.hid (And.intro ht (And.intro hR (And.intro hsm (And.intro hnm (And.intro hn hRB)))))
  generalize rightTB R t = rb at *
  clear ht hR hsm hnm hn hRB
  refine callsIn_of_wp_marks Try.func17 rfl trivial ?_ rfl
  simp only [Try.ntmps17, List.size_toArray, List.length_cons, List.length_nil, Nat.reduceAdd, Nat.reduceSub, Array.replicate_succ, Array.replicate_zero, List.push_toArray, List.append_toArray, List.nil_append, List.cons_append]
  refine wpIn_wide.2 ?_
  go_wp2_with fail
  obtain ⟨X, hX⟩ : ∃ X, w.alloc (.cells #[.int .i64 t.op, .slice A t.kids.length c, .int .i32 t.rune, .slice B t.set.length d, .int .i64 t.at_, .int .i64 t.cap, .string t.name, .int .i64 t.mn, .int .i64 t.mx, .bool t.lz] 27) = X := ⟨_, rfl⟩
  have x0 : X.heap[w.heap.size]? = some (.cells #[.int .i64 t.op, .slice A t.kids.length c, .int .i32 t.rune, .slice B t.set.length d, .int .i64 t.at_, .int .i64 t.cap, .string t.name, .int .i64 t.mn, .int .i64 t.mx, .bool t.lz] 27 (0, 0)) := by rw [← hX]; exact heap_new1 _ _
  have xb : Below w.heap.size w X := by rw [← hX]; exact below_al (Below.refl _ _) _
  have hd := hdp X xb
  rw [hX]
  clear hX
  obtain ⟨g0, g1, g2, g3, g4, g5, g6, g7, g8, g9⟩ := cells10 x0
  have HX := Lib.hid (And.intro x0 xb)
  have hn0 := heap_lt x0
  clear x0 xb
  refine wp_scope_straight ?_
  go_wp2_with fail
  refine hd.mono ?_
  clear hd g0 g1 g2 g3 g4 g5 g6 g7 g8 g9
  rintro e w1 ⟨rfl, hb1⟩
  dsimp only
  have x1 := (hb1.block _ hn0).trans HX.out.1
  have xb1 := below_and hb1 HX.out.2
  obtain ⟨g0, g1, g2, g3, g4, g5, g6, g7, g8, g9⟩ := cells10 x1
  have hn1 := heap_lt x1
  have hwt1 := hwt w1 xb1
  have HX1 := Lib.hid (And.intro x1 xb1)
  clear x1 xb1 hb1 hdp hwt hn0 HX
  have hRB := HT.out.2.2.2.2.2
  generalize dS t = D at *
  by_cases hD : D ≤ 50
  · have d0 : decide (50 < D) = false := (by simpa using hD)
    go_wp2_with fail
    refine hwt1.mono ?_
    clear hwt1 g0 g1 g2 g3 g4 g5 g6 g7 g8 g9
    rintro e w2 ⟨rfl, hb2⟩
    dsimp only
    have x2 := (hb2.block _ hn1).trans HX1.out.1
    have xb2 := below_and hb2 HX1.out.2
    obtain ⟨g0, g1, g2, g3, g4, g5, g6, g7, g8, g9⟩ := cells10 x2
    have hn2 := heap_lt x2
    have HX2 := Lib.hid (And.intro x2 xb2)
    clear x2 xb2 hb2 hn1 HX1
    generalize wS t = S at *
    by_cases hS : S ≤ 4000
    · have s0 : decide (4000 < S) = false := (by simpa using hS)
      have HR := Lib.hid (And.intro hRB (And.intro hD hS))
      clear hRB hD hS
      have hmm := @run_makeMap Try.prog
      go_wp2_with fail
      go_step3
      obtain ⟨V, hV⟩ : ∃ V, (((w2.alloc (.cells #[.bool true] 4)).alloc (.cells #[.int .i64 0] 3)).alloc (.map #[] 0)).alloc (.cells #[.map (some (w2.heap.size + 1 + 1))] 50) = V := ⟨_, rfl⟩
      have hVb : Below w2.heap.size w2 V := by rw [← hV]; exact below_al (below_al (below_al (below_al (Below.refl _ _) _) _) _) _
      have v0 := (hVb.block _ hn2).trans HX2.out.1
      have v1 : V.heap[w2.heap.size]? = some (.cells #[.bool true] 4 (0, 0)) := by rw [← hV]; exact (Below.heap_alloc _ _ _ (by simp; omega)).trans ((Below.heap_alloc _ _ _ (by simp; omega)).trans ((Below.heap_alloc _ _ _ (by simp)).trans (heap_new1 _ _)))
      have v2 : V.heap[w2.heap.size + 1]? = some (.cells #[.int .i64 0] 3 (0, 0)) := by rw [← hV]; exact (Below.heap_alloc _ _ _ (by simp)).trans ((Below.heap_alloc _ _ _ (by simp)).trans (heap_new2 _ _ _))
      have v3 : NamesAt V (w2.heap.size + 1 + 1) 0 [] := by
        have h9 := NamesAt.made ((w2.alloc (.cells #[.bool true] 4)).alloc (.cells #[.int .i64 0] 3))
        rw [World.size_alloc, World.size_alloc] at h9
        rw [← hV]; exact h9.blk (Below.heap_alloc _ _ _ (by simp))
      have v4 : V.heap[w2.heap.size + 1 + 1 + 1]? = some (.cells #[.map (some (w2.heap.size + 1 + 1))] 50 (0, 0)) := by
        have h9 := World.alloc_heap_new (((w2.alloc (.cells #[.bool true] 4)).alloc (.cells #[.int .i64 0] 3)).alloc (.map #[] 0)) (.cells #[.map (some (w2.heap.size + 1 + 1))] 50)
        rw [← hV]; simpa using h9
      have hVs : w2.heap.size + 4 ≤ V.heap.size := by have := heap_lt v4; omega
      rw [hV]
      clear hV g0 g1 g2 g3 g4 g5 g6 g7 g8 g9 hmm
      obtain ⟨g0, g1, g2, g3, g4, g5, g6, g7, g8, g9⟩ := cells10 v0
      have hn3 := heap_lt v0
      have HV := Lib.hid (And.intro v0 (And.intro v1 (And.intro v2 (And.intro v3 (And.intro v4 (below_and hVb HX2.out.2))))))
      clear v0 v1 v2 v3 v4 hVb
      go_wp2_with (go_at_call 27; refine (all_any _ _ _ _ _ _ _ _ _ _ _).mono ?_; rintro e w' ⟨rfl, rfl⟩)
      generalize hcs : (#[.int .i64 t.op, .slice A t.kids.length c, .int .i32 t.rune, .slice B t.set.length d, .int .i64 t.at_, .int .i64 t.cap, .string t.name, .int .i64 t.mn, .int .i64 t.mx, .bool t.lz] : Array Value) = ca at *
      obtain ⟨W0, hW0⟩ : ∃ W0, V.alloc (.cells ca 27) = W0 := ⟨_, rfl⟩
      have hWb : Below V.heap.size V W0 := by rw [← hW0]; exact below_al (Below.refl _ _) _
      have bT : W0.heap[V.heap.size]? = some (.cells ca 27 (0, 0)) := by rw [← hW0]; exact heap_new1 _ _
      have hWs : V.heap.size + 1 ≤ W0.heap.size := heap_lt bT
      have hst0 : RSt w w2.heap.size true 0 [] W0 := by
        obtain ⟨v0, v1, v2, v3, v4, v5⟩ := HV.out
        exact ⟨below_and hWb v5, (hWb.block _ (by omega)).trans v1, (hWb.block _ (by omega)).trans v2, ⟨0, Nat.le_refl _, v3.blk (hWb.block _ (by omega))⟩, (hWb.block _ (by omega)).trans v4, by omega⟩
      have hw1 : w.heap.size ≤ w2.heap.size := HX2.out.2.size
      rw [hW0]
      clear hW0 g0 g1 g2 g3 g4 g5 g6 g7 g8 g9
      refine (wpIn_wide (n := 9)).1 (wpIn_rangeFunc_ownH rfl (by omega) (gf := 51) (lb := #[.pointer (some ⟨V.heap.size, 0, none⟩)]) rfl trivial (enters_of Try.func51 (by kernel_rfl) rfl)
        (all_stops (fun p => p ∈ parts t) _ w.heap.size W0.heap.size V.heap.size W0 t _ (by omega) (Nat.le_refl _) (by rw [bT, ← hcs]) (HT.out.1.move (fun b hb _ => ⟨hst0.bel.block b hb, hb⟩)) (fun p hp => hp)) Keeps.trans
        (fun W l o o' hl ho hc _ => Keeps.putObj (by omega) (Nat.le_refl _) W l o o' hl ho hc) (Below.refl _ _) (fun _ => rfl)
        (RightJ R w w2.heap.size) (RightX R w w2.heap.size)
        (fun s X Y row hs hg hr => by obtain ⟨s, h1, h2⟩ := hs; exact ⟨s, h1, h2.grown hw1 hg (fun r e => by have := (hr r e).1; omega)⟩)
        (fun c s X Y row hs hg hr => by obtain ⟨h1, h2, n, s, h3⟩ := hs; exact ⟨h1, h2, n, s, h3.grown hw1 hg (fun r e => by have := (hr r e).1; omega)⟩)
        ⟨(0, []), rfl, hst0⟩
        (fun x a' W => ∃ Bx, W.heap[Bx]? = some (.cells x.1.2.toArray 27 (0, 0)) ∧ w2.heap.size + 5 ≤ Bx ∧ a' = { tmps := #[.agg ca, .pointer (some ⟨w.heap.size, 0, none⟩), .bool false, .pointer (some ⟨w2.heap.size, 0, none⟩), .pointer (some ⟨w2.heap.size + 1, 0, none⟩), .pointer (some ⟨w2.heap.size + 1 + 1 + 1, 0, none⟩), .pointer (some ⟨Bx, 0, none⟩), .agg ca, .int .i64 D, .bool false, .bool false, .agg ca, .int .i64 S, .bool false, .bool false, .map (some (w2.heap.size + 1 + 1)), .agg ca, .func (.func 51) #[] #[.pointer (some ⟨V.heap.size, 0, none⟩)], .agg x.1.2.toArray, undef, undef, undef, undef, undef, undef, undef, undef, undef, undef, undef, undef, undef, undef, undef, undef, undef, undef, undef, undef, undef, undef, undef, undef, undef, undef, undef, undef], defers := [] })
        (fun x a' _ X Y row hs hg hr => by obtain ⟨Bx, h2, h4, h3⟩ := hs; exact ⟨Bx, blk_own Bx _ _ () X Y row h2 hg (fun r e => (hr r e).2), h4, h3⟩)
        ?assign ?body ?done ?stop)
      case assign =>
        rintro l pre ⟨⟨t', cs'⟩, hx⟩ W K ⟨s, hf, hst⟩ hK
        obtain ⟨A', c', B', d', rfl, _⟩ := trC_iff.1 (show TrC _ _ t' cs' from hx.1)
        have hBr := below_al (Below.refl W.heap.size W) (.cells #[.int .i64 t'.op, .slice A' t'.kids.length c', .int .i32 t'.rune, .slice B' t'.set.length d', .int .i64 t'.at_, .int .i64 t'.cap, .string t'.name, .int .i64 t'.mn, .int .i64 t'.mx, .bool t'.lz] 27)
        have hK1 := hK _ _ (keepsFrom_below hBr) ((Keeps.refl _ _ _).alloc hst.bel.size _) ⟨s, hf, hst.below hBr⟩ ⟨W.heap.size, heap_new1 _ _, hst.sz, rfl⟩
        clear hK hst hBr hf
        gi_wp2
        exact hK1
      case body =>
        rintro l pre ⟨⟨t', cs'⟩, hx⟩ a' W hl _ ⟨s, hf, hst⟩ ⟨Bx, hbx, hbl, rfl⟩ hlen
        obtain ⟨A', c', B', d', rfl, _⟩ := trC_iff.1 (show TrC _ _ t' cs' from hx.1)
        obtain ⟨g0, g1, g2, g3, g4, g5, g6, g7, g8, g9⟩ := cells10 hbx
        have hxW : TrC (fun b => b < w.heap.size) W t' [.int .i64 t'.op, .slice A' t'.kids.length c', .int .i32 t'.rune, .slice B' t'.set.length d', .int .i64 t'.at_, .int .i64 t'.cap, .string t'.name, .int .i64 t'.mn, .int .i64 t'.mx, .bool t'.lz] :=
          TrC.move (fun b hb _ => ⟨(hst.bel.block b hb).trans (hst0.bel.block b hb).symm, hb⟩) hx.1
        have hpl := plain_any R _ W t' _ hxW (HT.out.2.1 t' hx.2)
        have hnx : ∀ x : PartAt (fun p => p ∈ parts t) w.heap.size W0, x.1.1 = t' → rightFold R ((pre ++ [x]).map (fun x => x.1.1)) (0, []) = rightStep R s t' := fun x hx => by
          rw [List.map_append, List.map_cons, List.map_nil, hx, rightFold_snoc, hf]; rfl
        have hs1 := rightFold_le R _ _ _ hf
        rw [List.length_map] at hs1
        obtain ⟨sn, ss⟩ := s
        have hs2 : sn ≤ 1000000000 := by have h1 := HT.out.2.2.2.2.1; have h2 : pre.length < (parts t).length := hlen; simp only [Nat.zero_add] at hs1; omega
        have hs3 : IntKind.i64.wrap ((sn : Int) + 1) = ((sn + 1 : Nat) : Int) := by rw [IntWalk.i64_in _ (by omega)]; omega
        dsimp only at hs1 hst
        have hbW := heap_lt hbx
        have hsW := hst.sz
        have hne1 : ¬ Bx = w2.heap.size := by omega
        have hne2 : ¬ Bx = w2.heap.size + 1 := by omega
        have hbB := hst.bel.size
        have HH := Lib.hid (And.intro hst (And.intro hbx hnx))
        have hnmz := HT.out.2.2.2.1 t' hx.2
        have hpl2 := hpl.mono (R' := fun e W' => e = .returned (.bool (plainB R t')) ∧ Below W.heap.size W W' ∧ RSt w w2.heap.size true sn ss W' ∧ W'.heap[Bx]? = some (.cells #[.int .i64 t'.op, .slice A' t'.kids.length c', .int .i32 t'.rune, .slice B' t'.set.length d', .int .i64 t'.at_, .int .i64 t'.cap, .string t'.name, .int .i64 t'.mn, .int .i64 t'.mx, .bool t'.lz] 27 (0, 0)) ∧
            W'.cell? ⟨Bx, 0, none⟩ = some (.int .i64 t'.op) ∧ W'.cell? ⟨Bx, 5, none⟩ = some (.int .i64 t'.cap) ∧ W'.cell? ⟨Bx, 6, none⟩ = some (.string t'.name) ∧ W'.cell? ⟨w2.heap.size, 0, none⟩ = some (.bool true) ∧ W'.frozen? ⟨w2.heap.size, 0, none⟩ = false ∧
            W'.cell? ⟨w2.heap.size + 1, 0, none⟩ = some (.int .i64 sn) ∧ W'.frozen? ⟨w2.heap.size + 1, 0, none⟩ = false ∧ W'.cell? ⟨w2.heap.size + 1 + 1 + 1, 0, none⟩ = some (.map (some (w2.heap.size + 1 + 1))) ∧
            (Instr.lookup 50 (.map (some (w2.heap.size + 1 + 1))) (.string t'.name) false).run Try.prog ((W'.setCell ⟨w2.heap.size, 0, none⟩ (.bool true)).setCell ⟨w2.heap.size + 1, 0, none⟩ (.int .i64 ((sn : Int) + 1))) = .ok (.bool (hasName ss t'.name)) ((W'.setCell ⟨w2.heap.size, 0, none⟩ (.bool true)).setCell ⟨w2.heap.size + 1, 0, none⟩ (.int .i64 ((sn : Int) + 1))))
          (fun e W' h => by
            have k1 := hst.below h.2
            have k2 := (h.2.block _ hbW).trans hbx
            obtain ⟨j0, j1, j2, j3, j4, j5, j6, _⟩ := cells10 k2
            exact ⟨h.1, h.2, k1, k2, j0, j5, j6, by rw [cell_of_blk k1.r]; rfl, by simp [World.frozen?, k1.r], by rw [cell_of_blk k1.num]; rfl, by simp [World.frozen?, k1.num], by rw [cell_of_blk k1.p]; rfl, ((k1.setR hw1 true).setN hw1).look _ hnmz⟩)
        clear hpl hst hbx hxW hf hs1 hlen hnx
        have hRS : rightStep R (sn, ss) t' = if plainB R t' = false then none else if t'.op = 6 then (if t'.cap ≠ (sn : Int) + 1 ∨ (t'.name.data.toList ≠ [] ∧ hasName ss t'.name = true) then none else some (sn + 1, t'.name :: ss)) else some (sn, ss) := rfl
        generalize rightStep R (sn, ss) t' = RS at *
        generalize plainB R t' = pl at *
        generalize hasName ss t'.name = hh at *
        have HRS := Lib.hid hRS
        clear hRS
        cases pl with
        | false =>
          gi_wp2_with ((try refine ⟨hdd _, ?_⟩); gi_at_call 28; refine (CallsIn.inRound l (callsIn_wide.2 hpl2)).mono ?_; clear hpl2; rintro e W2 ⟨rfl, hb2, hst2, hbx2, q0, q5, q6, qr, qrf, qn, qnf, qp, hlook⟩)
          refine ⟨(keepsFrom_below hb2).trans ((KeepsOthers.setCell _ _ _).from _), rfl, ?_, sn, ss, hst2.setR hw1 false⟩
          rw [HH.out.2.2 _ rfl, HRS.out]; simp
        | true =>
          by_cases h6 : t'.op = 6
          · have o6 : (t'.op == 6) = true := (by rw [h6]; rfl)
            have H6 := Lib.hid h6
            clear h6
            by_cases hc : t'.cap = (sn : Int) + 1
            · have oc : (t'.cap != (sn : Int) + 1) = false := (by simpa using hc)
              have HC := Lib.hid hc
              clear hc
              by_cases hnm : t'.name.toList = []
              · have on : (t'.name.toList.isEmpty) = true := (by simpa using hnm)
                have HNM := Lib.hid hnm
                gi_wp2_with (first | ((try refine ⟨hdd _, ?_⟩); gi_at_call 28; refine (CallsIn.inRound l (callsIn_wide.2 hpl2)).mono ?_; clear hpl2; rintro e W2 ⟨rfl, hb2, hst2, hbx2, q0, q5, q6, qr, qrf, qn, qnf, qp, hlook⟩; have hst3 := (hst2.setR hw1 true).setN hw1; obtain ⟨kk, hk1, hk20⟩ := (hst2.setR hw1 true).m; have hk2 := hk20.blk (Below.heap_setCell _ ⟨w2.heap.size + 1, 0, none⟩ (.int .i64 ((sn : Int) + 1)) _ (show w2.heap.size + 1 + 1 ≠ w2.heap.size + 1 by omega)); clear hk20; have H3 := Lib.hid (And.intro hst3 (And.intro hk2 (And.intro hb2 hst2))); clear hst3 hk2 hb2 hst2 hbx2) | (gi_at_mapUpdate; refine wpListIn_names rfl _ _ _ rfl (w2.heap.size + 1 + 1) kk ss rfl H3.out.2.1 (by unfold maxLen; omega) t'.name hnmz rfl rfl ?_; intro w5 hm5 hg5; have H5 := Lib.hid (And.intro hm5 hg5); clear hm5 hg5))
                obtain ⟨hst3, hk2, hb2, hst2⟩ := H3.out
                have hKp := ((Keeps.of_below (B0 := w.heap.size) (B1 := W0.heap.size) hb2 HH.out.1.bel.size).setCell (p := ⟨w2.heap.size, 0, none⟩) hw1 (show w2.heap.size < W0.heap.size by omega) (.bool true)).setCell (p := ⟨w2.heap.size + 1, 0, none⟩) (show w.heap.size ≤ w2.heap.size + 1 by omega) (show w2.heap.size + 1 < W0.heap.size by omega) (.int .i64 ((sn + 1 : Nat) : Int))
                refine ⟨((keepsFrom_below hb2).trans (((KeepsOthers.setCell _ _ _).trans (KeepsOthers.setCell _ _ _)).from _)).trans (keepsFrom_grown H5.out.2 (by omega)), hKp.grown H5.out.2 hst3.bel.size (by omega) (by omega), (sn + 1, t'.name :: ss), ?_, hst3.put hw1 (by omega) H5.out.1 H5.out.2⟩
                rw [HH.out.2.2 _ rfl, HRS.out]
                have h9 := HNM.out
                rw [ByteArray.toList_eq] at h9
                simp [H6.out, HC.out, h9]
              · have on : (!t'.name.toList.isEmpty) = true := (by simpa using hnm)
                have HNM := Lib.hid hnm
                cases hh with
                | true =>
                  gi_wp2_with (first | ((try refine ⟨hdd _, ?_⟩); gi_at_call 28; refine (CallsIn.inRound l (callsIn_wide.2 hpl2)).mono ?_; clear hpl2; rintro e W2 ⟨rfl, hb2, hst2, hbx2, q0, q5, q6, qr, qrf, qn, qnf, qp, hlook⟩; have hst3 := (hst2.setR hw1 true).setN hw1; obtain ⟨kk, hk1, hk20⟩ := (hst2.setR hw1 true).m; have hk2 := hk20.blk (Below.heap_setCell _ ⟨w2.heap.size + 1, 0, none⟩ (.int .i64 ((sn : Int) + 1)) _ (show w2.heap.size + 1 + 1 ≠ w2.heap.size + 1 by omega)); clear hk20; have H3 := Lib.hid (And.intro hst3 (And.intro hk2 (And.intro hb2 hst2))); clear hst3 hk2 hb2 hst2 hbx2) | (gi_at_mapUpdate; refine wpListIn_names rfl _ _ _ rfl (w2.heap.size + 1 + 1) kk ss rfl H3.out.2.1 (by unfold maxLen; omega) t'.name hnmz rfl rfl ?_; intro w5 hm5 hg5; have H5 := Lib.hid (And.intro hm5 hg5); clear hm5 hg5))
                  obtain ⟨hst3, hk2, hb2, hst2⟩ := H3.out
                  refine ⟨(keepsFrom_below hb2).trans ((((KeepsOthers.setCell _ _ _).trans (KeepsOthers.setCell _ _ _)).trans (KeepsOthers.setCell _ _ _)).from _), rfl, ?_, sn + 1, ss, hst3.setR hw1 false⟩
                  have h9 := HNM.out
                  rw [ByteArray.toList_eq] at h9
                  rw [HH.out.2.2 _ rfl, HRS.out]; simp [H6.out, HC.out, h9]
                | false =>
                  gi_wp2_with (first | ((try refine ⟨hdd _, ?_⟩); gi_at_call 28; refine (CallsIn.inRound l (callsIn_wide.2 hpl2)).mono ?_; clear hpl2; rintro e W2 ⟨rfl, hb2, hst2, hbx2, q0, q5, q6, qr, qrf, qn, qnf, qp, hlook⟩; have hst3 := (hst2.setR hw1 true).setN hw1; obtain ⟨kk, hk1, hk20⟩ := (hst2.setR hw1 true).m; have hk2 := hk20.blk (Below.heap_setCell _ ⟨w2.heap.size + 1, 0, none⟩ (.int .i64 ((sn : Int) + 1)) _ (show w2.heap.size + 1 + 1 ≠ w2.heap.size + 1 by omega)); clear hk20; have H3 := Lib.hid (And.intro hst3 (And.intro hk2 (And.intro hb2 hst2))); clear hst3 hk2 hb2 hst2 hbx2) | (gi_at_mapUpdate; refine wpListIn_names rfl _ _ _ rfl (w2.heap.size + 1 + 1) kk ss rfl H3.out.2.1 (by unfold maxLen; omega) t'.name hnmz rfl rfl ?_; intro w5 hm5 hg5; have H5 := Lib.hid (And.intro hm5 hg5); clear hm5 hg5))
                  obtain ⟨hst3, hk2, hb2, hst2⟩ := H3.out
                  have hKp := ((Keeps.of_below (B0 := w.heap.size) (B1 := W0.heap.size) hb2 HH.out.1.bel.size).setCell (p := ⟨w2.heap.size, 0, none⟩) hw1 (show w2.heap.size < W0.heap.size by omega) (.bool true)).setCell (p := ⟨w2.heap.size + 1, 0, none⟩) (show w.heap.size ≤ w2.heap.size + 1 by omega) (show w2.heap.size + 1 < W0.heap.size by omega) (.int .i64 ((sn + 1 : Nat) : Int))
                  refine ⟨((keepsFrom_below hb2).trans (((KeepsOthers.setCell _ _ _).trans (KeepsOthers.setCell _ _ _)).from _)).trans (keepsFrom_grown H5.out.2 (by omega)), hKp.grown H5.out.2 hst3.bel.size (by omega) (by omega), (sn + 1, t'.name :: ss), ?_, hst3.put hw1 (by omega) H5.out.1 H5.out.2⟩
                  have h9 := HNM.out
                  rw [ByteArray.toList_eq] at h9
                  rw [HH.out.2.2 _ rfl, HRS.out]; simp [H6.out, HC.out, h9]
            · have oc : (t'.cap != (sn : Int) + 1) = true := (by simpa using hc)
              have HC := Lib.hid hc
              clear hc
              gi_wp2_with ((try refine ⟨hdd _, ?_⟩); gi_at_call 28; refine (CallsIn.inRound l (callsIn_wide.2 hpl2)).mono ?_; clear hpl2; rintro e W2 ⟨rfl, hb2, hst2, hbx2, q0, q5, q6, qr, qrf, qn, qnf, qp, hlook⟩)
              refine ⟨(keepsFrom_below hb2).trans ((((KeepsOthers.setCell _ _ _).trans (KeepsOthers.setCell _ _ _)).trans (KeepsOthers.setCell _ _ _)).from _), rfl, ?_, sn + 1, ss, ((hst2.setR hw1 true).setN hw1).setR hw1 false⟩
              rw [HH.out.2.2 _ rfl, HRS.out]; simp [H6.out, HC.out]
          · have o6 : (t'.op == 6) = false := (by simpa using h6)
            have H6 := Lib.hid h6
            clear h6
            gi_wp2_with ((try refine ⟨hdd _, ?_⟩); gi_at_call 28; refine (CallsIn.inRound l (callsIn_wide.2 hpl2)).mono ?_; clear hpl2; rintro e W2 ⟨rfl, hb2, hst2, hbx2, q0, q5, q6, qr, qrf, qn, qnf, qp, hlook⟩)
            refine ⟨(keepsFrom_below hb2).trans ((KeepsOthers.setCell _ _ _).from _), (Keeps.of_below hb2 HH.out.1.bel.size).setCell (p := ⟨w2.heap.size, 0, none⟩) hw1 (show w2.heap.size < W0.heap.size by omega) _, (sn, ss), ?_, hst2.setR hw1 true⟩
            rw [HH.out.2.2 _ rfl, HRS.out]; simp [H6.out]
      case done =>
        rintro Dk ys W hD hys ⟨s, hf, hst⟩ hK
        rw [hys] at hf
        have hcr : W.cell? ⟨w2.heap.size, 0, none⟩ = some (.bool true) := by rw [cell_of_blk hst.r]; rfl
        have hRB := HR.out.1
        rw [hf, decide_eq_true HR.out.2.1, decide_eq_true HR.out.2.2] at hRB
        have HH := Lib.hid (And.intro hRB hst.bel)
        clear hst hys hRB
        go_wp2_with fail
        refine ⟨by simp, .inl ⟨_, _, rfl, run_takeDeferred hK, ?_⟩⟩
        refine ⟨.bool true, by simp [results, Try.f17, go_sem], by rw [HH.out.1]; rfl, HH.out.2.trans (belowK_b (w := w) (Nat.le_refl _) W Dk _ _ (by omega) hK rfl rfl)⟩
      case stop =>
        rintro Dk c9 pre W hD hpre ⟨rfl, hf, n9, s9, hst⟩ hK
        have hcr : W.cell? ⟨w2.heap.size, 0, none⟩ = some (.bool false) := by rw [cell_of_blk hst.r]; rfl
        have hRB := HR.out.1
        have hff : rightFold R (parts t) (0, []) = none := by
          obtain ⟨rest, hr⟩ := hpre
          rw [← hr]; exact rightFold_none R _ _ _ hf
        rw [hff, decide_eq_true HR.out.2.1, decide_eq_true HR.out.2.2] at hRB
        have HH := Lib.hid (And.intro hRB hst.bel)
        clear hst hpre hRB hff hf
        refine wpIn_wide.2 ?_
        go_wp2_with fail
        refine ⟨by simp, .inl ⟨_, _, rfl, run_takeDeferred hK, ?_⟩⟩
        refine ⟨.bool false, by simp [results, Try.f17, go_sem], by rw [HH.out.1]; rfl, HH.out.2.trans (belowK_b (w := w) (Nat.le_refl _) W Dk _ _ (by omega) hK rfl rfl)⟩
    · have s0 : decide (4000 < S) = true := (by simpa using hS)
      have HR := Lib.hid (And.intro hRB hS)
      clear hRB
      go_wp2_with fail
      refine ⟨.bool false, by simp [results, Try.f17, go_sem], ?_, HX2.out.2⟩
      have h9 := HR.out.1
      rw [decide_eq_false (show ¬ S ≤ 4000 by have := HR.out.2; omega), Bool.and_false, Bool.false_and] at h9
      rw [h9]
  · have d0 : decide (50 < D) = true := (by simpa using hD)
    have HR := Lib.hid (And.intro hRB hD)
    clear hRB
    go_wp2_with fail
    refine ⟨.bool false, by simp [results, Try.f17, go_sem], ?_, HX1.out.2⟩
    have h9 := HR.out.1
    rw [decide_eq_false (by have := HR.out.2; omega), Bool.false_and, Bool.false_and] at h9
    rw [h9]
theorem tright_any (R : List Rg → Bool) (ok : Nat → Prop) (w : World) (t : Tr) (cs : List Value) (ht : TrC ok w t cs) (hR : ∀ p ∈ parts t, p.op = 4 → RightOK R p.set) (hsm : ∀ p ∈ parts t, p.kids.length ≤ 140737488351232) (hnm : ∀ p ∈ parts t, p.name.size ≤ maxLen) (hn : (parts t).length ≤ 1000000000) :
    Calls Try.prog 17 #[.agg cs.toArray] w fun e w' => e = .returned (.bool (rightTB R t)) ∧ Below w.heap.size w w' :=
  callsIn_wide.1 (tright_in R w t cs (ht.old.mono (fun b h => h.2)) hR hsm hnm hn)
end Go.Proofs.Ytdnbholiijgedaa
