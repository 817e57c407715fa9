/-
  compile's code: one tree or another. No condition.
-/
import Derived.Test.YtdnbholiijgedaaComp7
import Derived.Test.YtdnbholiijgedaaThose
namespace Go.Proofs.Ytdnbholiijgedaa
open Go.RowKit Go.Shelf
set_option linter.unusedVariables false
attribute [local go_sem] Oper.semAt_some

def i64C (x : Int) : List Value := [.int .i64 x]
def OwnZ (w : World) (base : Nat) (v : Value) (xs : List Int) : Prop := Owns w base 3 1 v (xs.map i64C)
theorem infoInt : (Try.prog.info? 3).map (fun i => (i.zero, i.size, i.bytes)) = some (some (.int .i64 0), 1, 8) := by kernel_rfl
theorem ownZ_touch {W W' : World} {B0 G base : Nat} {v v' u : Value} {st cp gr : Int} {s : St} {xs : List Int} (ho : OwnZ W base u xs) (h : Touch G v.ownBlock v'.ownBlock W W') (hb : BldAt W B0 G v st cp gr s) : OwnZ W' base u xs := by
  rcases ho.1.2 with ⟨rfl, h0⟩ | ⟨g, cap, cur, rfl, h1, hh, h2, h3, h4, h5⟩
  · exact ⟨⟨ho.1.1, .inl ⟨rfl, h0⟩⟩, ho.2⟩
  · exact ⟨⟨ho.1.1, .inr ⟨g, cap, cur, rfl, h1, h.keep hb hh (by decide) (by decide), h2, h3, h4, h5⟩⟩, ho.2⟩
theorem bld_grown {W W' : World} {B0 G base : Nat} {v u : Value} {st cp gr : Int} {s : St} {xs : List Int} (h : BldAt W B0 G v st cp gr s) (ho : OwnZ W base u xs) (hg : W.grownBy W' u.ownBlock) : BldAt W' B0 G v st cp gr s := by
  have hne : ∀ (b : Nat) (T : TypeId), TyB T W b → T ≠ 3 → W'.heap[b]? = W.heap[b]? := fun b T hb hT => hg.block b hb.lt (hb.ne_own ho hT)
  obtain ⟨h0, h1, css, h2, h3⟩ := h
  refine ⟨h0, (hne G _ ⟨_, _, h1⟩ (by decide)).trans h1, css, h2.kept hg ?_, h3.move (fun b hb => hne b _ hb (by decide))⟩
  cases hv : v.ownBlock with
  | none => exact .inl rfl
  | some g =>
    refine .inr fun e => ?_
    obtain ⟨cs, fr, hk⟩ := own_ty h2 hv
    exact (show TyB 39 W g from ⟨_, _, hk⟩).ne_own ho (by decide) e
theorem touch_grownZ {w W W' : World} {G : Nat} {r r' : Option Nat} {u : Value} {base : Nat} {xs : List Int} (h : Touch G r r' w W) (ho : OwnZ W base u xs) (hb : w.heap.size ≤ base) (hg : W.grownBy W' u.ownBlock) : Touch G r r' w W' :=
  touch_own h hg (fun k e => Nat.le_trans hb (ho.lt k e).1)
theorem keepsO_below {A B : World} (h : Below A.heap.size A B) : KeepsOthers A B := ⟨h.size, fun k o hk _ => (h.block k (heap_lt hk)).trans hk⟩
def foldF (l : List Int) (r : Int × St) : Int × St := l.foldl (fun r i => emitS (forkI i r.1 false) r.2) r
theorem foldF_snoc (l : List Int) (i : Int) (r : Int × St) : foldF (l ++ [i]) r = emitS (forkI i (foldF l r).1 false) (foldF l r).2 := by unfold foldF; rw [List.foldl_append]; rfl
theorem foldF_rev : ∀ (xs : List Int) (to : Int) (s : St), foldF xs.reverse (to, s) = forksS xs to s
  | [], to, s => by rw [forksS]; rfl
  | i :: xs, to, s => by rw [List.reverse_cons, foldF_snoc, foldF_rev xs, forksS]
theorem foldF_len (l : List Int) : ∀ (r : Int × St), r.2.1.length ≤ 10000 → (foldF l r).2.1.length ≤ 10000 := by
  induction l with
  | nil => intro r h; exact h
  | cons i l ih => intro r h; exact ih _ (emitS_len _ _ h)
set_option maxRecDepth 100000 in
set_option maxHeartbeats 1000000 in
theorem code_alt (B0 G : Nat) (st cp gr : Int) (t : Tr) (cs : List Value) (to : Int) (w : World) (v : Value) (s : St) (ht : TrC (fun b => b < B0) w t cs) (hb : BldAt w B0 G v st cp gr s) (hl : s.1.length ≤ 10000) (hm : s.2 = false) (ho : t.op = 12) (h1 : 0 < t.kids.length) (hN : t.kids.length ≤ 1000000000) (ih : ∀ k ∈ t.kids, CodeOK B0 G st cp gr k) :
    CallsIn Fence.wide 9 Try.prog 24 #[.pointer (some ⟨G, 0, none⟩), .agg cs.toArray, .int .i64 to] w (EmitPost B0 G st cp gr v w (codeS gr t to s)) := by
  obtain ⟨A, c, B, d, rfl, m1, m2, m3, m4, h5, h6⟩ := trC_iff.1 ht
  obtain ⟨k4, hG, hG1, hG2⟩ := code_open hb
  have o1 : (t.op == 1) = false := by rw [ho]; rfl
  have o3 : (t.op == 3) = false := by rw [ho]; rfl
  have o4 : (t.op == 4) = false := by rw [ho]; rfl
  have o5 : (t.op == 5) = false := by rw [ho]; rfl
  have o6 : (t.op == 6) = false := by rw [ho]; rfl
  have o11 : (t.op == 11) = false := by rw [ho]; rfl
  have o12 : (t.op == 12) = true := by rw [ho]; rfl
  have o9 : (t.op == 9) = false := by rw [ho]; rfl
  have o7 : (t.op == 7) = false := by rw [ho]; rfl
  have o8 : (t.op == 8) = false := by rw [ho]; rfl
  have hS : codeS gr t to s = forksS (codeA gr t.kids to s).1.dropLast ((codeA gr t.kids to s).1.getLastD 0) (codeA gr t.kids to s).2 := by
    rw [codeS_eq, if_neg (by rw [hm]; simp), if_neg (by omega), if_neg (by omega), if_neg (by omega), if_neg (by omega), if_neg (by omega), if_neg (by omega), if_pos ho]
  rw [hm] at k4
  have hF1 : Fence.wide.fn 38 := trivial
  have hF2 : Fence.wide.fn 61 := trivial
  have hF3 : Fence.wide.fn 24 := trivial
  have hF4 : Fence.wide.fn 34 := trivial
  have hF5 : Fence.wide.fn 39 := trivial
  have hdd : ∀ k : Nat, (Fence.wide.depth.isSome = true → 1 ≤ k) := fun k h => by simp [Fence.wide] at h
  have HH := Lib.hid (And.intro hS (And.intro ih (And.intro hb h6)))
  clear hb hS hm ht ho h5 h6 ih
  refine callsIn_of_wp_marks Try.func24 rfl trivial ?_ rfl
  simp only [Try.ntmps24, List.size_toArray, List.length_cons, List.length_nil, Nat.reduceAdd, Nat.reduceSub, Array.replicate_succ, Array.replicate_zero, List.push_toArray, List.append_toArray, List.nil_append, List.cons_append]
  gi_wp2_with fail
  obtain ⟨x0, x1, x2, x3, xb⟩ := box3 w (.cells #[.pointer (some ⟨G, 0, none⟩)] 47) (.cells #[.int .i64 t.op, .slice A t.kids.length c, .int .i32 t.rune, .slice B t.set.length d, .int .i64 t.at_, .int .i64 t.cap, .string t.name, .int .i64 t.mn, .int .i64 t.mx, .bool t.lz] 27) (.cells #[.int .i64 to] 3)
  obtain ⟨X, hX⟩ : ∃ X, (((w.alloc (.cells #[.pointer (some ⟨G, 0, none⟩)] 47)).alloc (.cells #[.int .i64 t.op, .slice A t.kids.length c, .int .i32 t.rune, .slice B t.set.length d, .int .i64 t.at_, .int .i64 t.cap, .string t.name, .int .i64 t.mn, .int .i64 t.mx, .bool t.lz] 27)).alloc (.cells #[.int .i64 to] 3)) = X := ⟨_, rfl⟩
  rw [hX] at x0 x1 x2 x3 xb ⊢
  clear hX
  have b0' : X.cell? ⟨w.heap.size, 0, none⟩ = some (.pointer (some ⟨G, 0, none⟩)) := by rw [cell_of_blk x0]; rfl
  have b2' : X.cell? ⟨w.heap.size + 1 + 1, 0, none⟩ = some (.int .i64 to) := by rw [cell_of_blk x2]; rfl
  have l0 : w.heap.size < X.heap.size := by omega
  have l1 : w.heap.size + 1 < X.heap.size := by omega
  have l2 : w.heap.size + 1 + 1 < X.heap.size := by omega
  have lG : G < X.heap.size := by omega
  have hB0 := HH.out.2.2.1.glt.2
  have hX := HH.out.2.2.1.below xb
  have HX := Lib.hid (And.intro x0 (And.intro x1 (And.intro x2 (And.intro xb hX))))
  clear x0 x1 x2 xb hX b0' b2'
  gi_loopw [82, 9] (fun s82 s9 wr => ∃ (k : Nat) (v' : Value), s82 = .int .i64 k ∧ k ≤ t.kids.length ∧ OwnZ wr X.heap.size s9 (codeA gr (t.kids.take k) to s).1 ∧ BldAt wr B0 G v' st cp gr (codeA gr (t.kids.take k) to s).2 ∧ Touch G v.ownBlock v'.ownBlock w wr ∧
    wr.heap[w.heap.size]? = some (.cells #[.pointer (some ⟨G, 0, none⟩)] 47 (0, 0)) ∧ wr.heap[w.heap.size + 1 + 1]? = some (.cells #[.int .i64 to] 3 (0, 0)) ∧ X.heap.size ≤ wr.heap.size) (fun s82 _ _ => t.kids.length - (intOf s82).toNat)
  case atStart => exact ⟨0, v, rfl, Nat.zero_le _, by rw [List.take_zero, codeA]; exact Owns.nil _ _ _ _, by rw [List.take_zero, codeA]; exact HX.out.2.2.2.2, Touch.of_below HX.out.2.2.2.1, HX.out.1, HX.out.2.2.1, Nat.le_refl _⟩
  case round =>
    obtain ⟨k, v', rfl, hk, hz, hbr, htr, hr0, hr2, hrs⟩ := hrel
    by_cases hlt : k < t.kids.length
    · have hol : Below B0 w wr := htr.old HH.out.2.2.1
      obtain ⟨ad, A1, c1, A3, c3, rfl, hTk, g0, g1, g2, g3, g4, g5, g6, g7, g8, g9⟩ := trArr_at HH.out.2.2.2 wr (fun b hb' _ => hol.block b hb') k hlt
      have hln := codeA_ln gr (t.kids.take k) to s hl
      have hcal := codeA_take (g := gr) (to := to) (s := s) hlt
      have hcl := codeA_len (g := gr) (to := to) (t.kids.take k) s
      rw [List.length_take] at hcl
      have hih := fun W (hW : Below wr.heap.size wr W) => HH.out.2.1 t.kids[k] (List.getElem_mem hlt) _ to W v' (codeA gr (t.kids.take k) to s).2 (hTk.move (fun b hb' _ => ⟨(hW.block b (by omega)).trans (hol.block b hb'), hb'⟩)) (hbr.below hW) hln
      generalize codeA gr (t.kids.take k) to s = R at *
      have b0 : wr.cell? ⟨w.heap.size, 0, none⟩ = some (.pointer (some ⟨G, 0, none⟩)) := by rw [cell_of_blk hr0]; rfl
      have b2 : wr.cell? ⟨w.heap.size + 1 + 1, 0, none⟩ = some (.int .i64 to) := by rw [cell_of_blk hr2]; rfl
      have n0 := heap_lt hr0
      have n2 := heap_lt hr2
      have HR := Lib.hid (And.intro hz (And.intro hbr (And.intro htr (And.intro hr0 (And.intro hr2 hcal)))))
      clear hz hbr htr hr0 hr2 hcal hTk hol
      gi_wp2_with fail
      have hWr : Below wr.heap.size wr (wr.alloc (.cells #[.int .i64 t.kids[k].op, .slice A1 t.kids[k].kids.length c1, .int .i32 t.kids[k].rune, .slice A3 t.kids[k].set.length c3, .int .i64 t.kids[k].at_, .int .i64 t.kids[k].cap, .string t.kids[k].name, .int .i64 t.kids[k].mn, .int .i64 t.kids[k].mx, .bool t.kids[k].lz] 27)) := below_al (Below.refl _ _) _
      refine (callsIn_wide.2 (hih _ hWr)).mono ?_
      clear hih b0 b2 g0 g1 g2 g3 g4 g5 g6 g7 g8 g9
      rintro e w2 ⟨v2, rfl, hb2, ht2⟩
      obtain ⟨hz, hbr, htr, hr0, hr2, hcal⟩ := HR.out
      have hbx := hbr.below hWr
      have z0 := ht2.keep hbx ((hWr.block _ n0).trans hr0) (by decide) (by decide)
      have z2 := ht2.keep hbx ((hWr.block _ n2).trans hr2) (by decide) (by decide)
      have hz2 := ownZ_touch (hz.below hWr) ht2 hbx
      have ht3 := (htr.trans (Touch.of_below hWr)).trans ht2
      have hs2 : wr.heap.size ≤ w2.heap.size := Nat.le_trans hWr.size ht2.size
      have hcl2 : R.1.length ≤ 1000000000 := by omega
      generalize codeS gr t.kids[k] to R.2 = E at *
      have H2 := Lib.hid (And.intro hz2 (And.intro hb2 (And.intro ht3 (And.intro z0 (And.intro z2 hcal)))))
      clear hz hbr htr hr0 hr2 hcal hbx z0 z2 hz2 ht3 hb2 ht2 hWr
      have hIr := infoInt
      obtain ⟨i0, hi0, hxx⟩ := Option.map_eq_some_iff.1 hIr
      simp only [Prod.mk.injEq] at hxx
      obtain ⟨hq0, hq1, hq2⟩ := hxx
      gi_wp2_with (gi_at_builtin; refine wpListIn_app1 rfl _ _ 66 rfl X.heap.size 3 i0 _ 1 8 Try.underlying66 hi0 hq0 hq1 hq2 rfl (by decide) _ (R.1.map i64C) rfl (Owns.alloc H2.out.1 _) _ (i64C E.1) rfl rfl (alloc_at (by simp)) ?c2 ?c3 ?c4 ?c5 ?_)
      case c2 => intro u hu; simp [i64C] at hu; rcases hu with rfl; rfl
      case c3 => simp; unfold maxLen; omega
      case c4 => simp; omega
      case c5 => simp; omega
      intro v5 w4 hown' hgrow
      obtain ⟨hz2, hb2, ht3, z0, z2, hcal⟩ := H2.out
      have hWb : Below w2.heap.size w2 (w2.alloc (.cells (i64C E.1).toArray 3)) := below_al (Below.refl _ _) _
      have hz3 : OwnZ (w2.alloc (.cells (i64C E.1).toArray 3)) X.heap.size u9 R.1 := Owns.alloc hz2 _
      have hb4 := bld_grown (hb2.below hWb) hz3 hgrow
      have ht4 := touch_grownZ (ht3.trans (Touch.of_below hWb)) hz3 (by omega) hgrow
      have hgl : ∀ b, b < X.heap.size → b < w2.heap.size → w4.heap[b]? = w2.heap[b]? := fun b hb hb' => (hgrow.block b (by simp; omega) (fun e => by have := (hz3.lt b e.symm).1; omega)).trans (hWb.block b hb')
      have y0 := (hgl _ l0 (heap_lt z0)).trans z0
      have y2 := (hgl _ l2 (heap_lt z2)).trans z2
      have hsz4 : X.heap.size ≤ w4.heap.size := Nat.le_trans (Nat.le_trans hrs hs2) (Nat.le_trans (by simp) hgrow.size)
      have hown2 : OwnZ w4 X.heap.size v5 (codeA gr (t.kids.take (k + 1)) to s).1 := by
        rw [hcal]
        have h9 := hown'
        try rw [← x3] at h9
        rw [show R.1.map i64C ++ [i64C E.1] = (R.1 ++ [E.1]).map i64C by simp] at h9
        exact h9
      have hb5 : BldAt w4 B0 G v2 st cp gr (codeA gr (t.kids.take (k + 1)) to s).2 := by rw [hcal]; exact hb4
      have H4 := Lib.hid (And.intro hown2 (And.intro hb5 (And.intro ht4 (And.intro y0 y2))))
      clear hz2 hb2 ht3 z0 z2 hcal hWb hz3 hb4 ht4 hgl y0 y2 hown2 hb5 hown' hgrow
      gi_wp2_with fail
      go_roundw
      case rel => exact ⟨k + 1, v2, by go_num, by omega, H4.out.1, H4.out.2.1, H4.out.2.2.1, H4.out.2.2.2.1, H4.out.2.2.2.2, hsz4⟩
      case measure => simp [intOf]; omega
    · obtain rfl : k = t.kids.length := by omega
      rw [List.take_length] at hz hbr
      have hcl := codeA_len (g := gr) (to := to) t.kids s
      have hln := codeA_ln gr t.kids to s hl
      have hSS := HH.out.1
      generalize codeA gr t.kids to s = R at *
      obtain ⟨cs, s1⟩ := R
      simp only at hcl hln hSS hz hbr
      obtain ⟨xs, x, rfl⟩ : ∃ xs x, cs = xs ++ [x] := ⟨_, _, (List.dropLast_concat_getLast (by intro e; subst e; simp at hcl; omega)).symm⟩
      have e1 : (xs ++ [x]).length = xs.length + 1 := by simp
      rw [e1] at hcl
      rw [List.dropLast_concat] at hSS
      have e2 : (xs ++ [x]).getLastD 0 = x := by simp
      rw [e2] at hSS
      obtain ⟨A2, c2, rfl, ho1, ho2⟩ := Owns.shape hz
      rw [List.length_map, e1] at hz ho1 ⊢
      obtain ⟨g, rfl⟩ : ∃ g, A2 = some ⟨g, 0, none⟩ := by
        rcases hz.1.2 with ⟨e, _⟩ | ⟨g, _, _, e, _⟩
        · injection e with e1 e2; omega
        · injection e with e1; exact ⟨g, e1⟩
      have hci : ∀ i (hi : i < (xs ++ [x]).length), wr.cell? ⟨g, i, none⟩ = some (.int .i64 (xs ++ [x])[i]) := fun i hi => by
        have h9 := hz.1.cells (g := g) rfl i (.int .i64 (xs ++ [x])[i]) (by
          rw [show ((xs ++ [x]).map i64C).flatten = (xs ++ [x]).map (Value.int .i64) by
            generalize xs ++ [x] = l
            induction l with
            | nil => rfl
            | cons a l ih => rw [List.map_cons, List.flatten_cons, ih]; rfl]
          rw [List.getElem?_map, List.getElem?_eq_getElem hi]; rfl)
        have : (⟨g, 0, none⟩ : Addr).add i = ⟨g, i, none⟩ := by unfold Addr.add; split <;> simp_all
        rw [this] at h9
        exact h9
      have ekk : t.kids.length - 1 = xs.length := by omega
      have hlast : wr.cell? ⟨g, t.kids.length - 1, none⟩ = some (.int .i64 x) := by rw [ekk, hci xs.length (by simp)]; simp
      clear ekk
      have q1 : wr.cell? ⟨w.heap.size + 1 + 1, 0, none⟩ = some (.int .i64 to) := by rw [cell_of_blk hr2]; rfl
      have q2 : wr.frozen? ⟨w.heap.size + 1 + 1, 0, none⟩ = false := by simp [World.frozen?, hr2]
      have HR := Lib.hid (And.intro hz (And.intro hbr (And.intro htr (And.intro hr0 (And.intro hr2 (And.intro hSS hci))))))
      clear hz hbr htr hr0 hr2 hSS hci e1 e2
      gi_wp2_with ((try refine ⟨hdd _, ?_⟩); gi_at_call 38; refine (callsIn_wide.2 (backI_any _ _ _ _)).mono ?_; rintro e w' ⟨rfl, rfl⟩)
      clear hlast q1 q2
      obtain ⟨hz, hbr, htr, hr0, hr2, hSS, hci⟩ := HR.out
      obtain ⟨hgX, hgl⟩ := hz.lt g rfl
      have hg2 : g ≠ w.heap.size + 1 + 1 := by omega
      have hcurx : ∃ (cur : Array Value) (fr : Nat × Nat), wr.heap[g]? = some (.cells cur 3 fr) := by
        rcases hz.1.2 with ⟨e, _⟩ | ⟨g', cap, cur, e, _, hh, _⟩
        · injection e with e1 e2; cases e1
        · injection e with e1; injection e1 with e1; injection e1 with e1; subst e1; exact ⟨_, _, hh⟩
      obtain ⟨cur, fr, hcur⟩ := hcurx
      have ekk : t.kids.length - 1 = xs.length := by omega
      have hFe : Below wr.heap.size (wr.setCell ⟨w.heap.size + 1 + 1, 0, none⟩ (.int .i64 x)) ((wr.setCell ⟨w.heap.size + 1 + 1, 0, none⟩ (.int .i64 x)).alloc (.cells #[.slice (some ⟨g, 0, none⟩) (t.kids.length - 1) c2] 66)) := (Below.refl _ _).alloc (by rw [size_set]; exact Nat.le_refl _) _
      have hFe' : Below (wr.setCell ⟨w.heap.size + 1 + 1, 0, none⟩ (.int .i64 x)).heap.size (wr.setCell ⟨w.heap.size + 1 + 1, 0, none⟩ (.int .i64 x)) ((wr.setCell ⟨w.heap.size + 1 + 1, 0, none⟩ (.int .i64 x)).alloc (.cells #[.slice (some ⟨g, 0, none⟩) (t.kids.length - 1) c2] 66)) := by rw [size_set]; exact hFe
      have z0 : (wr.setCell ⟨w.heap.size + 1 + 1, 0, none⟩ (.int .i64 x)).heap[w.heap.size]? = _ := (Below.heap_setCell _ _ _ _ (by show w.heap.size ≠ w.heap.size + 1 + 1; omega)).trans hr0
      have z2 : (wr.setCell ⟨w.heap.size + 1 + 1, 0, none⟩ (.int .i64 x)).heap[w.heap.size + 1 + 1]? = some (.cells #[.int .i64 x] 3 (0, 0)) := blk_set hr2 0 _
      have zg : (wr.setCell ⟨w.heap.size + 1 + 1, 0, none⟩ (.int .i64 x)).heap[g]? = some (.cells cur 3 fr) := (Below.heap_setCell _ _ _ _ (by show g ≠ w.heap.size + 1 + 1; omega)).trans hcur
      have zb := bld_far hbr hr2 (by decide) (by decide) (by decide) 0 (.int .i64 x)
      have zt := touch_new htr (by omega : w.heap.size ≤ w.heap.size + 1 + 1) 0 (.int .i64 x)
      have y0 := (hFe.block _ (heap_lt hr0)).trans z0
      have y2 := (hFe.block _ (heap_lt hr2)).trans z2
      have yg := (hFe.block _ hgl).trans zg
      have y3 := World.alloc_heap_new (wr.setCell ⟨w.heap.size + 1 + 1, 0, none⟩ (.int .i64 x)) (.cells #[.slice (some ⟨g, 0, none⟩) (t.kids.length - 1) c2] 66)
      rw [size_set] at y3
      have yb := zb.below hFe'
      have yt := zt.trans (Touch.of_below hFe')
      have ysz : ((wr.setCell ⟨w.heap.size + 1 + 1, 0, none⟩ (.int .i64 x)).alloc (.cells #[.slice (some ⟨g, 0, none⟩) (t.kids.length - 1) c2] 66)).heap.size = wr.heap.size + 1 := by rw [World.size_alloc, size_set]
      have yarr : Arr (fun b => b = g) ((wr.setCell ⟨w.heap.size + 1 + 1, 0, none⟩ (.int .i64 x)).alloc (.cells #[.slice (some ⟨g, 0, none⟩) (t.kids.length - 1) c2] 66)) 1 (IntC .i64) (some ⟨g, 0, none⟩) xs := by
        have h9 : Arr (fun b => b = g) wr 1 (IntC .i64) (some ⟨g, 0, none⟩) xs := by
          intro i y hy
          have hi : i < xs.length := (List.getElem?_eq_some_iff.1 hy).1
          have h8 := hci i (by simp; omega)
          rw [List.getElem_append_left hi] at h8
          refine ⟨_, _, rfl, rfl, rfl, rfl, fun j u hu => ?_⟩
          have hj : j = 0 := by have := (List.getElem?_eq_some_iff.1 hu).1; simp at this; omega
          subst hj
          have : (⟨g, 0, none⟩ : Addr).add (i * 1 + 0) = ⟨g, i, none⟩ := by unfold Addr.add; split <;> simp_all
          rw [this, h8]
          rw [List.getElem?_eq_getElem hi] at hy
          simp at hu hy
          rw [hy, hu]
        exact h9.move (fun b hb _ => by subst hb; exact ⟨yg.trans hcur.symm, rfl⟩) (by omega)
      obtain ⟨W0, hW0⟩ : ∃ W0, (wr.setCell ⟨w.heap.size + 1 + 1, 0, none⟩ (.int .i64 x)).alloc (.cells #[.slice (some ⟨g, 0, none⟩) (t.kids.length - 1) c2] 66) = W0 := ⟨_, rfl⟩
      rw [hW0] at y0 y2 y3 yg yb yt ysz yarr ⊢
      have hk9 : xs.length ≤ 1000000000000 := by omega
      rw [ekk] at y3
      clear hW0 hFe hFe' z0 z2 zg zb zt ekk hz hbr htr hr0 hr2 hci hcur HR
      have HS := Lib.hid hSS
      clear hSS
      have HY := Lib.hid (And.intro y0 (And.intro y2 (And.intro yg (And.intro yb yt))))
      have hB0 := HH.out.2.2.1.glt.2
      refine wpIn_rangeFunc_ownH rfl (by omega) (gf := 61) (lb := #[.pointer (some ⟨wr.heap.size, 0, none⟩)]) rfl trivial (enters_of Try.func61 (by kernel_rfl) rfl)
        (backI_stops _ g wr.heap.size W0 _ c2 xs yarr (by omega) y3 hk9) KeepsF.trans
        (fun W l o o' hl' ho' hc' _ => ?kb) (Below.refl _ _) (fun _ => rfl)
        (fun pre W => ∃ v', W.heap[w.heap.size]? = some (.cells #[.pointer (some ⟨G, 0, none⟩)] 47 (0, 0)) ∧ W.heap[w.heap.size + 1 + 1]? = some (.cells #[.int .i64 (foldF (pre.map (fun x => x.2)) (x, s1)).1] 3 (0, 0)) ∧ W.heap[g]? = some (.cells cur 3 fr) ∧ BldAt W B0 G v' st cp gr (foldF (pre.map (fun x => x.2)) (x, s1)).2 ∧ Touch G v.ownBlock v'.ownBlock w W)
        (fun c pre W => False) ?own (fun _ _ _ _ _ h => h.elim) ⟨v', HY.out⟩
        (fun y a' (W : World) => a' = { tmps := #[.pointer (some ⟨G, 0, none⟩), .agg #[.int .i64 t.op, .slice A t.kids.length c, .int .i32 t.rune, .slice B t.set.length d, .int .i64 t.at_, .int .i64 t.cap, .string t.name, .int .i64 t.mn, .int .i64 t.mx, .bool t.lz], .int .i64 to, .pointer (some ⟨w.heap.size, 0, none⟩), .pointer (some ⟨w.heap.size + 1, 0, none⟩), .pointer (some ⟨w.heap.size + 1 + 1, 0, none⟩), .int .i64 0, undef, undef, .slice (some ⟨g, 0, none⟩) t.kids.length c2, undef, u11, .int .i64 ((t.kids.length : Int) - 1), undef, .int .i64 y.2, undef, undef, undef, undef, undef, .pointer (some ⟨G, 0, none⟩), .pointer (some ⟨G, 0, none⟩), .pointer (some ⟨G, 4, none⟩), .bool false, .pointer (some ⟨w.heap.size + 1, 0, none⟩), .int .i64 t.op, .bool false, .bool false, undef, undef, undef, .bool false, .bool false, undef, undef, undef, undef, undef, undef, undef, undef, undef, undef, .bool false, .bool false, undef, undef, undef, undef, undef, undef, undef, .bool false, .bool false, undef, undef, undef, undef, undef, undef, .bool false, .bool false, undef, undef, undef, undef, .bool false, .bool false, undef, undef, undef, undef, undef, undef, undef, undef, undef, .bool true, .bool true, .pointer (some ⟨w.heap.size + 1, 1, none⟩), .slice A t.kids.length c, .int .i64 (t.kids.length : Int), .int .i64 (t.kids.length : Int), .bool false, u84, u85, u86, u87, u88, u89, u90, u91, u92, u93, .slice (some ⟨g, 0, none⟩) t.kids.length c2, .int .i64 (t.kids.length : Int), .int .i64 ((t.kids.length : Int) - 1), .slice (some ⟨g, 0, none⟩) t.kids.length c2, .int .i64 ((t.kids.length : Int) - 1), .pointer (some ⟨g, t.kids.length - 1, none⟩), .int .i64 x, .slice (some ⟨g, 0, none⟩) t.kids.length c2, .int .i64 ((t.kids.length : Int) - 1), .slice (some ⟨g, 0, none⟩) (t.kids.length - 1) c2, .func (.func 61) #[] #[.pointer (some ⟨wr.heap.size, 0, none⟩)], .int .i64 y.1, .int .i64 y.2, undef, undef, undef, undef, undef, undef, undef, undef, undef, undef, undef, undef, undef, undef, undef, undef, undef, undef, undef, undef, undef, undef, undef, undef, undef, undef, undef, undef, undef, undef, undef, undef, undef, undef, undef, undef, undef, undef, undef, undef, undef, undef], defers := [] })
        ?ownx ?assign ?body ?done ?stop
      case kb => exact ⟨fun b hb => by subst hb; exact World.putObj_heap_other (by omega), fun b cs fr hb => (World.putObj_heap_other (fun e => by subst e; rw [ho'] at hb; cases hb; simp [Obj.isCells] at hc')).trans hb⟩
      case own =>
        rintro pre X Y row ⟨v', h0, h2, h5, h3, h4⟩ hg hr
        exact ⟨v', blk_own _ _ _ () X Y row h0 hg (fun r e => (hr r e).2), blk_own _ _ _ () X Y row h2 hg (fun r e => (hr r e).2), (hg.block g (heap_lt h5) (fun e => by obtain ⟨o, ho, hc⟩ := (hr g e.symm).2; rw [h5] at ho; cases ho; simp [Obj.isCells] at hc)).trans h5, bld_own h3 hg (fun r e => (hr r e).2), touch_own h4 hg (fun k e => by have := (hr k e).1; omega)⟩
      case ownx => exact fun x a' _ X Y row h hg hr => h
      case assign =>
        rintro l pre ⟨xi, xv⟩ W K hI hK
        have hK1 := hK _ _ (keepsFrom_below (Below.refl _ _)) (KeepsF.refl _ _ _) hI rfl
        clear hK hI
        dsimp only [backI]
        gi_wp2
        exact hK1
      case body =>
        rintro l pre ⟨xi, xv⟩ a' W hl' _ ⟨v1, h0, h2, h5, h3, h4⟩ rfl hlen
        have hsn := foldF_snoc (pre.map (fun x => x.2)) xv (x, s1)
        have hlq := foldF_len (pre.map (fun x => x.2)) (x, s1) hln
        generalize foldF (pre.map (fun x => x.2)) (x, s1) = R at *
        gi_wp2_with fail
        refine region_held_round (fun W' => W'.cell? ⟨w.heap.size, 0, none⟩ = some (.pointer (some ⟨G, 0, none⟩))) (by kernel_rfl) (by kernel_rfl) ?_
        have hDr : Below W.heap.size W W.drew := (Below.refl _ _).drew
        generalize W.drew = V at *
        have u0 := (hDr.block _ (heap_lt h0)).trans h0
        have u2 := (hDr.block _ (heap_lt h2)).trans h2
        have u5 := (hDr.block _ (heap_lt h5)).trans h5
        have u3 := h3.below hDr
        have u4 := h4.trans (Touch.of_below hDr)
        have b0 : V.cell? ⟨w.heap.size, 0, none⟩ = some (.pointer (some ⟨G, 0, none⟩)) := by rw [cell_of_blk u0]; rfl
        have b2 : V.cell? ⟨w.heap.size + 1 + 1, 0, none⟩ = some (.int .i64 R.1) := by rw [cell_of_blk u2]; rfl
        have HV := Lib.hid (And.intro u0 (And.intro u2 (And.intro u5 (And.intro u3 (And.intro u4 (And.intro hsn (And.intro h0 (And.intro h2 (And.intro h5 (And.intro h3 hDr))))))))))
        clear u0 u2 u5 u3 u4 hsn h0 h2 h5 h3 h4 hDr
        refine wpAnyH_take (i := 0) (oi := _) (v := .pointer (some ⟨G, 0, none⟩)) rfl (by kernel_rfl) (by kernel_rfl) (by kernel_rfl) (fun _ _ _ h => nomatch h.1) (Or.inl ⟨by rfl, ?_⟩) b0 ?_
        · intro w9 hSw
          try dsimp only at hSw
          go_simp
        simp only [Act.put, List.setIfInBounds_toArray, List.set_cons_zero, List.set_cons_succ]
        refine wpAnyH_take (i := 1) (oi := _) (v := .int .i64 xv) rfl (by kernel_rfl) (by kernel_rfl) (by kernel_rfl) (fun _ _ _ h => nomatch h.1) (Or.inl ⟨by rfl, ?_⟩) b0 ?_
        · intro w9 hSw
          try dsimp only at hSw
          go_simp
        simp only [Act.put, List.setIfInBounds_toArray, List.set_cons_zero, List.set_cons_succ]
        refine wpAnyH_ready (rs := [2]) (by kernel_rfl) (by simp) ?_
        refine AllReadyH.cons (o := _) rfl (fun K hK => ?_) AllReadyH.nil
        go_simp
        refine hK.out _ _ b0 (fun _ => ?_)
        clear hK K b2
        have hem := fun w5 (hb5 : Below V.heap.size V w5) => emit_any w5 B0 G v1 st cp gr R.2 (forkI xv R.1 false) _ (HV.out.2.2.2.1.below hb5) (inC_lit _ _ _ _ _) hlq
        refine wpAnyH_ready (rs := [3]) (by kernel_rfl) (by simp) ?_
        refine AllReadyH.cons (o := _) rfl (fun K hK => ?_) AllReadyH.nil
        go_simp
        go_at_call 39
        refine (fork_any _ _ _ _).mono ?_
        rintro e w5 ⟨rfl, hb5⟩
        dsimp only
        have c0 := (hb5.block _ (heap_lt HV.out.1)).trans HV.out.1
        have c0' : w5.cell? ⟨w.heap.size, 0, none⟩ = some (.pointer (some ⟨G, 0, none⟩)) := by rw [cell_of_blk c0]; rfl
        refine hK.out _ _ c0' (fun _ => ?_)
        clear hK K b0
        have hem := hem w5 hb5
        refine wpAnyH_ready (rs := [4]) (by kernel_rfl) (by simp) ?_
        refine AllReadyH.cons (o := _) rfl (fun K hK => ?_) AllReadyH.nil
        go_simp
        refine Calls.mono hem ?_
        clear hem
        rintro e w6 ⟨v2, rfl, hb2, ht2⟩
        dsimp only
        have hbb := HV.out.2.2.2.1.below hb5
        have d0 := ht2.keep hbb c0 (by decide) (by decide)
        have d2 := ht2.keep hbb ((hb5.block _ (heap_lt HV.out.2.1)).trans HV.out.2.1) (by decide) (by decide)
        have d5 := ht2.keep hbb ((hb5.block _ (heap_lt HV.out.2.2.1)).trans HV.out.2.2.1) (by decide) (by decide)
        have d0' : w6.cell? ⟨w.heap.size, 0, none⟩ = some (.pointer (some ⟨G, 0, none⟩)) := by rw [cell_of_blk d0]; rfl
        refine hK.out _ _ d0' (fun _ => ?_)
        clear hK K c0' hbb
        have q1 : w6.cell? ⟨w.heap.size + 1 + 1, 0, none⟩ = some (.int .i64 R.1) := by rw [cell_of_blk d2]; rfl
        have q2 : w6.frozen? ⟨w.heap.size + 1 + 1, 0, none⟩ = false := by simp [World.frozen?, d2]
        have H6 := Lib.hid (And.intro hb2 (And.intro ht2 (And.intro d0 (And.intro d2 (And.intro d5 hb5)))))
        clear hb2 ht2 d0 d2 d5 c0 hb5
        refine wpAnyH_ready (rs := [5]) (by kernel_rfl) (by simp) ?_
        refine AllReadyH.cons (o := _) rfl (fun K hK => ?_) AllReadyH.nil
        go_simp
        obtain ⟨hb2, ht2, d0, d2, d5, hb5⟩ := H6.out
        refine hK.out _ _ ?_ (fun _ => ?_)
        · show World.cell? _ _ = _
          rw [cell_of_blk ((Below.heap_setCell _ _ _ _ (by show w.heap.size ≠ w.heap.size + 1 + 1; omega)).trans d0)]; rfl
        clear hK K d0' q1 q2
        refine wpAnyH_done (by kernel_rfl) ?_ _
        refine ⟨rfl, ?_⟩
        obtain ⟨u0, u2, u5, u3, u4, hsn, h0, h2, h5, h3, hDr⟩ := HV.out
        gi_wp2_with fail
        have n0 : w.heap.size ≠ w.heap.size + 1 + 1 := by omega
        have hV : Below W.heap.size W w5 := hDr.trans (hb5.mono hDr.size)
        refine ⟨(((keepsO_below hV).trans (touch_others ht2 (u3.below hb5))).trans (KeepsOthers.setCell _ _ _)).from _, ⟨fun k hk => by subst hk; exact ((Below.heap_setCell _ _ _ _ hg2).trans d5).trans h5.symm, fun k cs9 fr9 hk => (Below.heap_setCell _ _ _ _ (fun e => by
          have e' : k = w.heap.size + 1 + 1 := e
          rw [e', h2] at hk
          injection hk with hk
          injection hk with _ hk
          exact absurd hk (by decide))).trans (ht2.keep (u3.below hb5) ((hV.block _ (heap_lt hk)).trans hk) (by decide) (by decide))⟩, v2, (Below.heap_setCell _ _ _ _ n0).trans d0, ?_, (Below.heap_setCell _ _ _ _ hg2).trans d5, ?_, touch_new ((u4.trans (Touch.of_below hb5)).trans ht2) (by omega) _ _⟩
        · rw [List.map_append, List.map_cons, List.map_nil, hsn]
          exact blk_set d2 0 _
        · rw [List.map_append, List.map_cons, List.map_nil, hsn]
          exact bld_far hb2 d2 (by decide) (by decide) (by decide) _ _
      case done =>
        rintro D ys W hD hys ⟨v1, h0, h2, h5, h3, h4⟩ hK
        rw [hys, foldF_rev] at h2 h3
        have b2 : W.cell? ⟨w.heap.size + 1 + 1, 0, none⟩ = some (.int .i64 (forksS xs x s1).1) := by rw [cell_of_blk h2]; rfl
        have HW := Lib.hid (And.intro h3 h4)
        clear h0 h2 h3 h4 h5 hys
        gi_wp2
        obtain ⟨h3, h4⟩ := HW.out
        refine ⟨by simp, .inl ⟨_, _, rfl, run_takeDeferred hK, ?_⟩⟩
        refine ⟨.int .i64 (forksS xs x s1).1, ?_, v1, ?_, ?_, ?_⟩
        · simp [results, Try.f24, go_sem]
        · rw [HS.out]
        · rw [HS.out]
          exact bld_own h3 (grownBy_putObj' W D (.deferred none)) (fun r e => by cases e; exact ⟨_, hK, rfl⟩)
        · exact touch_own h4 (grownBy_putObj' W D (.deferred none)) (fun k e => by cases e; omega)
      case stop => exact fun _ _ _ _ _ _ h => h.elim
end Go.Proofs.Ytdnbholiijgedaa
