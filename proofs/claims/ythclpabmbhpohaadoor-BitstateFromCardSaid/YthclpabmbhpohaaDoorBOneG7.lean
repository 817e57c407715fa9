/-
  onepass.anchored: does one come to nothing but at the beginning? No condition but that the program is right.
  sets.those where just two ranges are right: printed from the text of those. No condition but bounds.
  What the union of two lists has, and when two lists have a rune in common: the plain law of the stretches between edges. No condition.
  sets.Union and sets.Meet of any two lists. No condition but a bound on the lists.
  onepass.simple$1, ways, simple: does one need no choice from an instruction? No condition but that the program is right.
  onepass.ways, onepass.simple: does one need no choice from an instruction? No condition but that the program is right.
-/
import Derived.Test.YthclpabmbhpohaaDoorBOneG6
import Derived.Laws.EntriesVeiled
set_option linter.unusedVariables false
set_option linter.unusedSimpArgs false
namespace Go.Proofs.YthclpabmbhpohaaDoor
open Go.RowKit Go.Maps
set_option linter.unusedVariables false
theorem get_eq (p : Pg) (i : Nat) (hi : i < p.ins.length) : p.get (i : Int) = p.ins[i] := by simp [Pg.get, hi]
def freeB (t : Rw) : Bool := decide (0 < t.mt) || decide (0 < t.l.length)
structure AnAt (W : World) (b : Nat) (ps : List Value) (t : Rw) : Prop where
  blk : W.heap[b]? = some (.cells ps.toArray 28 (0, 0))
  map : IntsAt W (b + 1) t.seen.length t.seen
  seen : W.heap[b + 2]? = some (.cells #[.map (some (b + 1))] 116 (0, 0))
  free : W.heap[b + 3]? = some (.cells #[.bool (freeB t)] 4 (0, 0))
  go1 : W.heap[b + 4]? = some (.cells #[.func (.func 55) #[] #[.pointer (some ⟨b + 2, 0, none⟩), .pointer (some ⟨b, 0, none⟩), .pointer (some ⟨b + 3, 0, none⟩), .pointer (some ⟨b + 4, 0, none⟩)]] 117 (0, 0))
theorem AnAt.below {W W' : World} {b : Nat} {ps : List Value} {t : Rw} (h : AnAt W b ps t) (hb : Below W.heap.size W W') : AnAt W' b ps t :=
  ⟨(hb.block _ (heap_lt h.blk)).trans h.blk, h.map.blk (hb.block _ h.map.lt), (hb.block _ (heap_lt h.seen)).trans h.seen, (hb.block _ (heap_lt h.free)).trans h.free, (hb.block _ (heap_lt h.go1)).trans h.go1⟩
theorem AnAt.tw {W : World} {b : Nat} {ps : List Value} {t : Rw} (h : AnAt W b ps t) : AnAt W b ps ⟨t.seen, t.l, t.mt, true⟩ := ⟨h.blk, h.map, h.seen, h.free, h.go1⟩
theorem AnAt.mark {W W' : World} {b : Nat} {ps : List Value} {t : Rw} {pc : Int} (h : AnAt W b ps t) (hm : IntsAt W' (b + 1) (t.seen.length + 1) (pc :: t.seen)) (hg : W.grownBy W' (some (b + 1))) : AnAt W' b ps ⟨pc :: t.seen, t.l, t.mt, t.tw⟩ :=
  ⟨(grown_ne0 hg (heap_lt h.blk) (by omega)).trans h.blk, hm, (grown_ne0 hg (heap_lt h.seen) (by omega)).trans h.seen, (grown_ne0 hg (heap_lt h.free) (by omega)).trans h.free, (grown_ne0 hg (heap_lt h.go1) (by omega)).trans h.go1⟩
theorem AnAt.set {W : World} {b : Nat} {ps : List Value} {t t' : Rw} (h : AnAt W b ps t) (hs : t'.seen = t.seen) (hf : freeB t' = true) : AnAt (W.setCell ⟨b + 3, 0, none⟩ (.bool true)) b ps t' :=
  ⟨(Below.heap_setCell _ _ _ _ (by show b ≠ b + 3; omega)).trans h.blk, by rw [hs]; exact h.map.blk (Below.heap_setCell _ _ _ _ (by show b + 1 ≠ b + 3; omega)), (Below.heap_setCell _ _ _ _ (by show b + 2 ≠ b + 3; omega)).trans h.seen,
    by rw [hf]; have := heap_set0 h.free 0 (.bool true); simpa using this, (Below.heap_setCell _ _ _ _ (by show b + 4 ≠ b + 3; omega)).trans h.go1⟩
def AnPost (p : Pg) (b : Nat) (ps : List Value) (t' : Rw) (W : World) (e : Ending) (W' : World) : Prop := e = .returned (.tuple #[]) ∧ AnAt W' b ps t' ∧ Kept b 5 3 W W' ∧ t'.seen.length + leftN p.ins.length t'.seen ≤ p.ins.length
theorem in_cases (x : In) : x.op = 1 ∨ x.op = 2 ∨ x.op = 3 ∨ x.op = 4 ∨ x.op = 5 ∨ (x.op ≠ 1 ∧ x.op ≠ 2 ∧ x.op ≠ 3 ∧ x.op ≠ 4 ∧ x.op ≠ 5) := by omega
theorem AnAt.lt {W : World} {b : Nat} {ps : List Value} {t : Rw} (h : AnAt W b ps t) : b + 4 < W.heap.size := heap_lt h.go1
theorem fit_cons {p : Pg} {pc : Int} {s : List Int} (hp : Pc p pc) (hs : s.contains pc = false) (h : s.length + leftN p.ins.length s ≤ p.ins.length) : (pc :: s).length + leftN p.ins.length (pc :: s) ≤ p.ins.length := by
  have := leftN_cons hp hs; simp only [List.length_cons]; omega
/-- What the walk asks of the cells. -/
structure AnCells (W : World) (b : Nat) (v : Value) (N : Nat) (t : Rw) : Prop where
  c0 : W.cell? ⟨b, 0, none⟩ = some v
  c3 : W.cell? ⟨b + 3, 0, none⟩ = some (.bool (freeB t))
  f3 : W.frozen? ⟨b + 3, 0, none⟩ = false
  c4 : W.cell? ⟨b + 4, 0, none⟩ = some (.func (.func 55) #[] #[.pointer (some ⟨b + 2, 0, none⟩), .pointer (some ⟨b, 0, none⟩), .pointer (some ⟨b + 3, 0, none⟩), .pointer (some ⟨b + 4, 0, none⟩)])
  n0 : b < W.heap.size
  n3 : b + 3 < W.heap.size
  n4 : b + 4 < W.heap.size
theorem AnAt.cells {W : World} {b : Nat} {v u z : Value} {t : Rw} (h : AnAt W b [v, u, z] t) (N : Nat) : AnCells W b v N t :=
  ⟨by rw [cell_of_blk h.blk]; rfl, by rw [cell_of_blk h.free]; rfl, by simp [World.frozen?, h.free], by rw [cell_of_blk h.go1]; rfl, heap_lt h.blk, heap_lt h.free, heap_lt h.go1⟩
set_option maxRecDepth 100000 in
set_option maxHeartbeats 4000000 in
theorem anch1_any (p : Pg) (b : Nat) (ps : List Value) (w0 : World) (hpg : PgC (fun k => k < b) w0 p ps) (hb0 : b ≤ w0.heap.size) (hl : Leads p) (hN : p.ins.length ≤ 100000) :
    ∀ (n : Nat) (pc : Int) (t : Rw) (W : World), AnAt W b ps t → Below b w0 W → Pc p pc → leftN p.ins.length t.seen < n → t.seen.length + leftN p.ins.length t.seen ≤ p.ins.length → 0 ≤ t.mt →
      Calls Tryd.prog 55 #[.int .i64 pc, .pointer (some ⟨b + 2, 0, none⟩), .pointer (some ⟨b, 0, none⟩), .pointer (some ⟨b + 3, 0, none⟩), .pointer (some ⟨b + 4, 0, none⟩)] W (AnPost p b ps (comeR p false n pc t) W) := by
  intro n
  induction n with
  | zero => intro pc t W _ _ _ h; omega
  | succ n ih =>
    intro pc t W h hB hp hn hfit hmt
    obtain ⟨i, rfl⟩ := Int.eq_ofNat_of_zero_le hp.1
    have hi : i < p.ins.length := by have := hp.2; omega
    have hwf : (Lit.int .i64 (i : Int)).wf = true := wf_small (by omega) (by omega)
    have hlk := ints_look h.map i hwf
    have hc2 : W.cell? ⟨b + 2, 0, none⟩ = some (.map (some (b + 1))) := by rw [cell_of_blk h.seen]; rfl
    by_cases hs : t.seen.contains (i : Int) = true
    · have e : comeR p false (n + 1) i t = ⟨t.seen, t.l, t.mt, true⟩ := by rw [comeR, if_pos hs]
      rw [e]
      rw [hs] at hlk
      have HA := Lib.hid (And.intro h hfit)
      clear h hpg hB ih e hs hn hfit
      go_enter Tryd.func55, Tryd.ntmps55
      go_wp2_with fail
      go_end0
      exact ⟨rfl, HA.out.1.tw, Kept.refl _ _ _ _, HA.out.2⟩
    · have hs' : t.seen.contains (i : Int) = false := by simpa using hs
      rw [hs'] at hlk
      have hle := leftN_cons hp hs'
      have hfit1 := fit_cons hp hs' hfit
      have hx := hl i hp
      rw [get_eq p i hi] at hx
      obtain ⟨ad, c, B3, d3, rfl, hc1, hcm, _, _, hadb, hins⟩ := ins_at hpg hb0 i hi
      have hcm := comeR_new (bg := false) (n := n) hs' (get_eq p i hi)
      clear hs
      have hmx : t.seen.length < maxLen := by unfold maxLen; omega
      have HA := Lib.hid (And.intro h (And.intro hB (And.intro hins (And.intro hfit1 hx))))
      have HI := Lib.hid ih
      have HM := Lib.hid hmt
      have HN := Lib.hid (And.intro hn (And.intro hle (And.intro hfit hc1)))
      clear h hB hins hfit1 hx ih hn hle hfit hmt hpg hc1 hs'
      generalize p.ins[i] = x at *
      rcases in_cases x with ho | ho | ho | ho | ho | ho
      · have o1 : (x.op == 1) = true := by rw [ho]; rfl
        have o2 : (x.op == 2) = false := by rw [ho]; rfl
        have o3 : (x.op == 3) = false := by rw [ho]; rfl
        have o4 : (x.op == 4) = false := by rw [ho]; rfl
        have o5 : (x.op == 5) = false := by rw [ho]; rfl
        rw [if_pos ho] at hcm
        rw [hcm]
        have HO := Lib.hid ho
        clear ho hcm
        go_enter Tryd.func55, Tryd.ntmps55
        go_wp2_with (at_mapUpdate; refine wpList_ints rfl _ _ _ rfl (b + 1) _ _ rfl HA.out.1.map hmx i hwf rfl rfl ?_; intro w1 hm1 hg1; have h1 := HA.out.1.mark hm1 hg1; have hK1 := (Kept.refl b 5 3 W).grown hg1 (fun k e => by cases e; exact ⟨by omega, .inl (by omega)⟩); have hB1 := HA.out.2.1.trans (hK1.below (by have := HA.out.1.lt; omega)); obtain ⟨ha, g0, g1, g2, g3, g4⟩ := HA.out.2.2.1 w1 hB1; obtain ⟨q0, q3, f3, q4, n0, n3, n4⟩ := h1.cells 0; have H1 := Lib.hid (And.intro h1 (And.intro hK1 hB1)); clear h1 hK1 hB1 ha hm1 hg1)
        go_end0
        obtain ⟨h1, hK1, hB1⟩ := H1.out
        exact ⟨rfl, (h1.set (t' := ⟨(i : Int) :: t.seen, t.l, t.mt + 1, t.tw⟩) rfl (by have := HM.out; simp [freeB]; omega)).below (below_al (Below.refl _ _) _), (hK1.set (a := ⟨b + 3, 0, none⟩) (by show b ≤ b + 3; omega) (by show b + 3 < b + 5; omega) _).alloc _, HA.out.2.2.2.1⟩
      · have o1 : (x.op == 1) = false := by rw [ho]; rfl
        have o2 : (x.op == 2) = true := by rw [ho]; rfl
        have o3 : (x.op == 3) = false := by rw [ho]; rfl
        have o4 : (x.op == 4) = false := by rw [ho]; rfl
        have o5 : (x.op == 5) = false := by rw [ho]; rfl
        rw [if_neg (by omega), if_pos ho] at hcm
        rw [hcm]
        have HO := Lib.hid ho
        clear ho hcm
        go_enter Tryd.func55, Tryd.ntmps55
        go_wp2_with (at_mapUpdate; refine wpList_ints rfl _ _ _ rfl (b + 1) _ _ rfl HA.out.1.map hmx i hwf rfl rfl ?_; intro w1 hm1 hg1; have h1 := HA.out.1.mark hm1 hg1; have hK1 := (Kept.refl b 5 3 W).grown hg1 (fun k e => by cases e; exact ⟨by omega, .inl (by omega)⟩); have hB1 := HA.out.2.1.trans (hK1.below (by have := HA.out.1.lt; omega)); obtain ⟨ha, g0, g1, g2, g3, g4⟩ := HA.out.2.2.1 w1 hB1; obtain ⟨q0, q3, f3, q4, n0, n3, n4⟩ := h1.cells 0; have H1 := Lib.hid (And.intro h1 (And.intro hK1 hB1)); clear h1 hK1 hB1 ha hm1 hg1)
        go_end0
        obtain ⟨h1, hK1, hB1⟩ := H1.out
        exact ⟨rfl, (h1.set (t' := ⟨(i : Int) :: t.seen, t.l ++ [(i : Int)], t.mt, t.tw⟩) rfl (by simp [freeB])).below (below_al (Below.refl _ _) _), (hK1.set (a := ⟨b + 3, 0, none⟩) (by show b ≤ b + 3; omega) (by show b + 3 < b + 5; omega) _).alloc _, HA.out.2.2.2.1⟩
      · have o1 : (x.op == 1) = false := by rw [ho]; rfl
        have o2 : (x.op == 2) = false := by rw [ho]; rfl
        have o3 : (x.op == 3) = true := by rw [ho]; rfl
        have o4 : (x.op == 4) = false := by rw [ho]; rfl
        have o5 : (x.op == 5) = false := by rw [ho]; rfl
        rw [if_neg (by omega), if_neg (by omega), if_pos ho] at hcm
        rw [hcm]
        have HO := Lib.hid ho
        clear ho hcm
        go_enter Tryd.func55, Tryd.ntmps55
        go_wp2_with (at_mapUpdate; refine wpList_ints rfl _ _ _ rfl (b + 1) _ _ rfl HA.out.1.map hmx i hwf rfl rfl ?_; intro w1 hm1 hg1; have h1 := HA.out.1.mark hm1 hg1; have hK1 := (Kept.refl b 5 3 W).grown hg1 (fun k e => by cases e; exact ⟨by omega, .inl (by omega)⟩); have hB1 := HA.out.2.1.trans (hK1.below (by have := HA.out.1.lt; omega)); obtain ⟨ha, g0, g1, g2, g3, g4⟩ := HA.out.2.2.1 w1 hB1; obtain ⟨q0, q3, f3, q4, n0, n3, n4⟩ := h1.cells 0; have H1 := Lib.hid (And.intro h1 (And.intro hK1 hB1)); clear h1 hK1 hB1 ha hm1 hg1)
        refine (HI.out x.out ⟨(i : Int) :: t.seen, t.l, t.mt, t.tw⟩ _ (H1.out.1.below (below_al (Below.refl _ _) _)) (H1.out.2.2.alloc (by have := hb0; have := H1.out.2.2.size; omega) _) (HA.out.2.2.2.2.1 (by have := HO.out; omega)) (by have := HN.out; show leftN p.ins.length ((i : Int) :: t.seen) < n; omega) HA.out.2.2.2.1 HM.out).mono ?_
        rintro e w3 ⟨rfl, h3, hK3, hf3⟩
        dsimp only
        obtain ⟨r0, r3, rf3, r4, m0, m3, m4⟩ := h3.cells 0
        have hbx := (hK3.block w1.heap.size (by simp) (.inr ⟨by have := H1.out.1.lt; omega, fun ht => ht.ne (heap_new1 w1 _) (by decide) rfl⟩)).trans (heap_new1 w1 _)
        obtain ⟨x0, x1, x2, x3, x4⟩ := cells5 hbx
        have nx := heap_lt hbx
        have H3 := Lib.hid (And.intro h3 (And.intro hK3 hf3))
        clear h3 hK3 hf3 hbx
        go_wp2_with fail
        refine (HI.out x.arg _ _ H3.out.1 (H1.out.2.2.trans (((Kept.refl b 5 3 w1).alloc _).trans H3.out.2.1 |>.below (by omega))) (HA.out.2.2.2.2.2 HO.out) (by have := HN.out; have := leftN_sub (N := p.ins.length) (comeR_seen p false hl n x.out ⟨(i : Int) :: t.seen, t.l, t.mt, t.tw⟩ (HA.out.2.2.2.2.1 (by have := HO.out; omega))); show leftN p.ins.length _ < n; simp only at this; omega) H3.out.2.2 (comeR_mt p false hl n x.out ⟨(i : Int) :: t.seen, t.l, t.mt, t.tw⟩ (HA.out.2.2.2.2.1 (by have := HO.out; omega)) HM.out)).mono ?_
        rintro e w4 ⟨rfl, h4, hK4, hf4⟩
        dsimp only
        have H4 := Lib.hid (And.intro h4 (And.intro hK4 hf4))
        clear h4 hK4 hf4
        go_wp2_with fail
        go_end0
        exact ⟨rfl, H4.out.1, (H1.out.2.1.alloc _).trans (H3.out.2.1.trans H4.out.2.1), H4.out.2.2⟩
      · have o1 : (x.op == 1) = false := by rw [ho]; rfl
        have o2 : (x.op == 2) = false := by rw [ho]; rfl
        have o3 : (x.op == 3) = false := by rw [ho]; rfl
        have o4 : (x.op == 4) = true := by rw [ho]; rfl
        have o5 : (x.op == 5) = false := by rw [ho]; rfl
        rw [if_neg (by omega), if_neg (by omega), if_neg (by omega), if_pos (.inl ho)] at hcm
        rw [hcm]
        have HO := Lib.hid ho
        clear ho hcm
        go_enter Tryd.func55, Tryd.ntmps55
        go_wp2_with (at_mapUpdate; refine wpList_ints rfl _ _ _ rfl (b + 1) _ _ rfl HA.out.1.map hmx i hwf rfl rfl ?_; intro w1 hm1 hg1; have h1 := HA.out.1.mark hm1 hg1; have hK1 := (Kept.refl b 5 3 W).grown hg1 (fun k e => by cases e; exact ⟨by omega, .inl (by omega)⟩); have hB1 := HA.out.2.1.trans (hK1.below (by have := HA.out.1.lt; omega)); obtain ⟨ha, g0, g1, g2, g3, g4⟩ := HA.out.2.2.1 w1 hB1; obtain ⟨q0, q3, f3, q4, n0, n3, n4⟩ := h1.cells 0; have H1 := Lib.hid (And.intro h1 (And.intro hK1 hB1)); clear h1 hK1 hB1 ha hm1 hg1)
        refine (HI.out x.out ⟨(i : Int) :: t.seen, t.l, t.mt, t.tw⟩ _ (H1.out.1.below (below_al (Below.refl _ _) _)) (H1.out.2.2.alloc (by have := hb0; have := H1.out.2.2.size; omega) _) (HA.out.2.2.2.2.1 (by have := HO.out; omega)) (by have := HN.out; show leftN p.ins.length ((i : Int) :: t.seen) < n; omega) HA.out.2.2.2.1 HM.out).mono ?_
        rintro e w3 ⟨rfl, h3, hK3, hf3⟩
        dsimp only
        have H3 := Lib.hid (And.intro h3 (And.intro hK3 hf3))
        clear h3 hK3 hf3
        go_wp2_with fail
        go_end0
        exact ⟨rfl, H3.out.1, (H1.out.2.1.alloc _).trans H3.out.2.1, H3.out.2.2⟩
      · by_cases ha : x.at_ = 1
        · have o1 : (x.op == 1) = false := by rw [ho]; rfl
          have o2 : (x.op == 2) = false := by rw [ho]; rfl
          have o3 : (x.op == 3) = false := by rw [ho]; rfl
          have o4 : (x.op == 4) = false := by rw [ho]; rfl
          have o5 : (x.op == 5) = true := by rw [ho]; rfl
          rw [if_neg (by omega), if_neg (by omega), if_neg (by omega), if_neg (fun h => h.elim (fun h => by omega) (fun h => h.2.elim (fun h => by cases h) (fun h => h ha)))] at hcm
          have o6 : (x.at_ == 1) = true := by simpa using ha
          have o7 : (x.at_ != 1) = false := by simpa using ha
          rw [hcm]
          have HO := Lib.hid ho
          clear ho hcm ha
          go_enter Tryd.func55, Tryd.ntmps55
          go_wp2_with (at_mapUpdate; refine wpList_ints rfl _ _ _ rfl (b + 1) _ _ rfl HA.out.1.map hmx i hwf rfl rfl ?_; intro w1 hm1 hg1; have h1 := HA.out.1.mark hm1 hg1; have hK1 := (Kept.refl b 5 3 W).grown hg1 (fun k e => by cases e; exact ⟨by omega, .inl (by omega)⟩); have hB1 := HA.out.2.1.trans (hK1.below (by have := HA.out.1.lt; omega)); obtain ⟨ha, g0, g1, g2, g3, g4⟩ := HA.out.2.2.1 w1 hB1; obtain ⟨q0, q3, f3, q4, n0, n3, n4⟩ := h1.cells 0; have H1 := Lib.hid (And.intro h1 (And.intro hK1 hB1)); clear h1 hK1 hB1 ha hm1 hg1)
          go_end0
          obtain ⟨h1, hK1, hB1⟩ := H1.out
          exact ⟨rfl, h1.below (below_al (Below.refl _ _) _), hK1.alloc _, HA.out.2.2.2.1⟩
        · have o1 : (x.op == 1) = false := by rw [ho]; rfl
          have o2 : (x.op == 2) = false := by rw [ho]; rfl
          have o3 : (x.op == 3) = false := by rw [ho]; rfl
          have o4 : (x.op == 4) = false := by rw [ho]; rfl
          have o5 : (x.op == 5) = true := by rw [ho]; rfl
          rw [if_neg (by omega), if_neg (by omega), if_neg (by omega), if_pos (.inr ⟨ho, .inr ha⟩)] at hcm
          have o6 : (x.at_ == 1) = false := by simpa using ha
          have o7 : (x.at_ != 1) = true := by simpa using ha
          rw [hcm]
          have HO := Lib.hid ho
          clear ho hcm ha
          go_enter Tryd.func55, Tryd.ntmps55
          go_wp2_with (at_mapUpdate; refine wpList_ints rfl _ _ _ rfl (b + 1) _ _ rfl HA.out.1.map hmx i hwf rfl rfl ?_; intro w1 hm1 hg1; have h1 := HA.out.1.mark hm1 hg1; have hK1 := (Kept.refl b 5 3 W).grown hg1 (fun k e => by cases e; exact ⟨by omega, .inl (by omega)⟩); have hB1 := HA.out.2.1.trans (hK1.below (by have := HA.out.1.lt; omega)); obtain ⟨ha, g0, g1, g2, g3, g4⟩ := HA.out.2.2.1 w1 hB1; obtain ⟨q0, q3, f3, q4, n0, n3, n4⟩ := h1.cells 0; have H1 := Lib.hid (And.intro h1 (And.intro hK1 hB1)); clear h1 hK1 hB1 ha hm1 hg1)
          refine (HI.out x.out ⟨(i : Int) :: t.seen, t.l, t.mt, t.tw⟩ _ (H1.out.1.below (below_al (Below.refl _ _) _)) (H1.out.2.2.alloc (by have := hb0; have := H1.out.2.2.size; omega) _) (HA.out.2.2.2.2.1 (by have := HO.out; omega)) (by have := HN.out; show leftN p.ins.length ((i : Int) :: t.seen) < n; omega) HA.out.2.2.2.1 HM.out).mono ?_
          rintro e w3 ⟨rfl, h3, hK3, hf3⟩
          dsimp only
          have H3 := Lib.hid (And.intro h3 (And.intro hK3 hf3))
          clear h3 hK3 hf3
          go_wp2_with fail
          go_end0
          exact ⟨rfl, H3.out.1, (H1.out.2.1.alloc _).trans H3.out.2.1, H3.out.2.2⟩
      · have o1 : (x.op == 1) = false := by simp; omega
        have o2 : (x.op == 2) = false := by simp; omega
        have o3 : (x.op == 3) = false := by simp; omega
        have o4 : (x.op == 4) = false := by simp; omega
        have o5 : (x.op == 5) = false := by simp; omega
        rw [if_neg (by omega), if_neg (by omega), if_neg (by omega), if_neg (by omega)] at hcm
        rw [hcm]
        have HO := Lib.hid ho
        clear ho hcm
        go_enter Tryd.func55, Tryd.ntmps55
        go_wp2_with (at_mapUpdate; refine wpList_ints rfl _ _ _ rfl (b + 1) _ _ rfl HA.out.1.map hmx i hwf rfl rfl ?_; intro w1 hm1 hg1; have h1 := HA.out.1.mark hm1 hg1; have hK1 := (Kept.refl b 5 3 W).grown hg1 (fun k e => by cases e; exact ⟨by omega, .inl (by omega)⟩); have hB1 := HA.out.2.1.trans (hK1.below (by have := HA.out.1.lt; omega)); obtain ⟨ha, g0, g1, g2, g3, g4⟩ := HA.out.2.2.1 w1 hB1; obtain ⟨q0, q3, f3, q4, n0, n3, n4⟩ := h1.cells 0; have H1 := Lib.hid (And.intro h1 (And.intro hK1 hB1)); clear h1 hK1 hB1 ha hm1 hg1)
        go_end0
        obtain ⟨h1, hK1, hB1⟩ := H1.out
        exact ⟨rfl, h1.below (below_al (Below.refl _ _) _), hK1.alloc _, HA.out.2.2.2.1⟩
theorem free_iff (p : Pg) : (!freeB (fromR p false p.start)) = anchR p := by
  unfold freeB anchR
  rw [Bool.eq_iff_iff]
  simp only [Bool.not_eq_true', Bool.or_eq_false_iff, decide_eq_false_iff_not, Bool.and_eq_true, decide_eq_true_eq, ← List.length_eq_zero_iff]
  omega
theorem heap_new5 (w : World) (o1 o2 o3 o4 o5 : Obj) : (((((w.alloc o1).alloc o2).alloc o3).alloc o4).alloc o5).heap[w.heap.size + 1 + 1 + 1 + 1]? = some o5 := by
  have := World.alloc_heap_new ((((w.alloc o1).alloc o2).alloc o3).alloc o4) o5; rwa [World.size_alloc, World.size_alloc, World.size_alloc, World.size_alloc] at this
set_option maxRecDepth 100000 in
set_option maxHeartbeats 1000000 in
theorem anchored_any (ok : Nat → Prop) (w : World) (p : Pg) (ps : List Value) (hp : PgC ok w p ps) (hl : Leads p) (hs : Pc p p.start) (hN : p.ins.length ≤ 100000) :
    Calls Tryd.prog 36 #[.agg ps.toArray] w fun e w' => e = .returned (.bool (anchR p)) ∧ Below w.heap.size w w' := by
  have hpg : PgC (fun k => k < w.heap.size) w p ps := hp.old.move fun b hb hlt => ⟨rfl, hb.2⟩
  have hq := fun W hA hB => anch1_any p w.heap.size ps w hpg (Nat.le_refl _) hl hN (p.ins.length + 1) p.start ⟨[], [], 0, false⟩ W hA hB hs (Nat.lt_succ_of_le (leftN_le _ _)) (by rw [List.length_nil, Nat.zero_add]; exact leftN_le _ _) (Int.le_refl _)
  have hr := free_iff p
  unfold fromR at hr
  have hmm := @run_makeMap Tryd.prog
  obtain ⟨A, c, rfl, p1, p2, _⟩ := hp
  obtain ⟨W5, hW5⟩ : ∃ W5, W5 = (((((w.alloc (.cells #[.slice A p.ins.length c, .int .i64 p.start, .int .i64 p.caps] 28)).alloc (.map #[] 0)).alloc (.cells #[.map (some (w.heap.size + 1))] 116)).alloc (.cells #[.bool false] 4)).alloc (.cells #[.func (.func 55) #[] #[.pointer (some ⟨w.heap.size + 1 + 1, 0, none⟩), .pointer (some ⟨w.heap.size, 0, none⟩), .pointer (some ⟨w.heap.size + 1 + 1 + 1, 0, none⟩), .pointer (some ⟨w.heap.size + 1 + 1 + 1 + 1, 0, none⟩)]] 117)) := ⟨_, rfl⟩
  have hB5 : Below w.heap.size w W5 := by subst hW5; exact below_al (below_al (below_al (below_al (below_al (Below.refl _ _) _) _) _) _) _
  have hA5 : AnAt W5 w.heap.size [.slice A p.ins.length c, .int .i64 p.start, .int .i64 p.caps] ⟨[], [], 0, false⟩ := by
    subst hW5
    refine ⟨?_, ?_, ?_, ?_, ?_⟩
    · rw [Below.heap_alloc _ _ _ (by simp only [World.size_alloc]; omega), Below.heap_alloc _ _ _ (by simp only [World.size_alloc]; omega), Below.heap_alloc _ _ _ (by simp only [World.size_alloc]; omega), Below.heap_alloc _ _ _ (by simp only [World.size_alloc]; omega)]; exact heap_new1 _ _
    · have h := IntsAt.made (w.alloc (.cells #[.slice A p.ins.length c, .int .i64 p.start, .int .i64 p.caps] 28))
      rw [World.size_alloc] at h
      exact h.blk (by rw [Below.heap_alloc _ _ _ (by simp only [World.size_alloc]; omega), Below.heap_alloc _ _ _ (by simp only [World.size_alloc]; omega), Below.heap_alloc _ _ _ (by simp only [World.size_alloc]; omega)])
    · rw [Below.heap_alloc _ _ _ (by simp only [World.size_alloc]; omega), Below.heap_alloc _ _ _ (by simp only [World.size_alloc]; omega)]; exact heap_new3 _ _ _ _
    · rw [Below.heap_alloc _ _ _ (by simp only [World.size_alloc]; omega)]; exact heap_new4 _ _ _ _ _
    · exact heap_new5 _ _ _ _ _ _
  have hq := hq W5 hA5 hB5
  obtain ⟨q0, q3, f3, q4, n0, n3, n4⟩ := hA5.cells 0
  have q1 : W5.cell? ⟨w.heap.size, 1, none⟩ = some (.int .i64 p.start) := by rw [cell_of_blk hA5.blk]; rfl
  subst hW5
  have HQ := Lib.hid (And.intro hr hB5)
  clear hr hpg hB5 hA5 hl hs
  generalize anchR p = r at *
  go_enter Tryd.func36, Tryd.ntmps36
  go_wp2_with fail
  refine hq.mono ?_
  rintro e w1 ⟨rfl, h1, hK1, _⟩
  dsimp only
  clear q0 q3 f3 q4 n0 n3 n4 q1 hq
  obtain ⟨q0, q3, f3, q4, n0, n3, n4⟩ := h1.cells 0
  have HB := Lib.hid (HQ.out.2.trans (hK1.below HQ.out.2.size))
  have HR := Lib.hid HQ.out.1
  clear h1 hK1 HQ
  generalize freeB (comeR p false (p.ins.length + 1) p.start ⟨[], [], 0, false⟩) = fr at *
  go_wp2_with fail
  go_ret
  exact ⟨ret_bool HR.out, HB.out⟩
end Go.Proofs.YthclpabmbhpohaaDoor
namespace Go.Proofs.YthclpabmbhpohaaDoor
open Go.RowKit Go.Shelf Go.Lib Go.Sort
set_option linter.unusedVariables false
attribute [local go_sem] Oper.semAt_some
def GatherM (w W : World) (v : Value) (out : List Rg) : Prop :=
  W.heap[w.heap.size]? = some (Obj.cells #[.func (.func 78) #[] #[]] 106 (0, 0)) ∧ W.heap[w.heap.size + 1]? = some (Obj.cells #[v] 61 (0, 0)) ∧ OwnR W (w.heap.size + 2) v out ∧ Below w.heap.size w W
theorem gather_appM {w W w4 : World} {v v' : Value} {out : List Rg} {x : Rg} {q : Nat} (h : GatherM w W v out) (hown : Owns w4 (w.heap.size + 2) 66 2 v' (out.map rgC ++ [rgC x])) (hg : ((W.drewN q).alloc (.cells (rgC x).toArray 66)).grownBy w4 v.ownBlock) (B : Nat) :
    w4.heap[w.heap.size + 1]? = some (Obj.cells #[v] 61 (0, 0)) ∧ GatherM w (w4.setCell ⟨w.heap.size + 1, 0, none⟩ v') v' (out ++ [x]) ∧ KeepsFrom B W (w4.setCell ⟨w.heap.size + 1, 0, none⟩ v') ∧ KeepsE w.heap.size W (w4.setCell ⟨w.heap.size + 1, 0, none⟩ v') := by
  obtain ⟨h0, h1, h2, hB⟩ := h
  have hX : Owns ((W.drewN q).alloc (.cells (rgC x).toArray 66)) (w.heap.size + 2) 66 2 v (out.map rgC) := Owns.alloc (show Owns (W.drewN q) _ _ _ _ _ from h2) _
  have e0 := (Below.heap_alloc (W.drewN q) (.cells (rgC x).toArray 66) _ (heap_lt h0)).trans h0
  have e1 := (Below.heap_alloc (W.drewN q) (.cells (rgC x).toArray 66) _ (heap_lt h1)).trans h1
  have k0 := (hg.block _ (heap_lt e0) (fun e => owns_other hX e0 (by decide) e.symm)).trans e0
  have k1 := (hg.block _ (heap_lt e1) (fun e => owns_other hX e1 (by decide) e.symm)).trans e1
  have hWX : Below W.heap.size W ((W.drewN q).alloc (.cells (rgC x).toArray 66)) := (below_drewN (Below.refl _ _) q).alloc (Nat.le_refl _) _
  have hXs : w.heap.size ≤ ((W.drewN q).alloc (.cells (rgC x).toArray 66)).heap.size := Nat.le_trans hB.size hWX.size
  have kE := (KeepsE.of_below hWX hB.size).trans (keepsE_grown hX (by omega) hXs hg)
  refine ⟨k1, ⟨?_, set_here k1 0 v', ?_, ?_⟩, ((keepsFrom_below hWX).trans ((others_grown hX hg).from B)).trans ((KeepsOthers.setCell _ _ _).from B), kE.trans (keepsE_set (a := ⟨w.heap.size + 1, 0, none⟩) k1 (by decide) (by show w.heap.size ≤ w.heap.size + 1; omega) v')⟩
  · rw [Below.heap_setCell _ _ _ _ (by show w.heap.size ≠ w.heap.size + 1; omega)]; exact k0
  · show Owns _ _ _ _ _ ((out ++ [x]).map rgC)
    rw [List.map_append]
    exact ⟨ownsRow_setCell_other hown.1 (owns_other hown k1 (by decide)) _, hown.2⟩
  · exact (hB.trans kE.1).setCell (p := ⟨w.heap.size + 1, 0, none⟩) (by show w.heap.size ≤ w.heap.size + 1; omega) _
theorem gather_setM {w W : World} {g c : Nat} {fr : List Rg} {y : Rg} (h : GatherM w W (.slice (some ⟨g, 0, none⟩) (fr.length + 1) c) (fr ++ [y])) (q : Nat) (hi : Int) (B : Nat) :
    GatherM w ((W.drewN q).setCell ⟨g, fr.length * 2 + 1, none⟩ (.int .i32 hi)) (.slice (some ⟨g, 0, none⟩) (fr.length + 1) c) (fr ++ [⟨y.lo, hi⟩]) ∧ KeepsFrom B W ((W.drewN q).setCell ⟨g, fr.length * 2 + 1, none⟩ (.int .i32 hi)) ∧ KeepsE w.heap.size W ((W.drewN q).setCell ⟨g, fr.length * 2 + 1, none⟩ (.int .i32 hi)) := by
  obtain ⟨h0, h1, h2, hB⟩ := h
  have hg := (Owns.lt h2 g rfl).1
  obtain ⟨cs, fz, hc⟩ := Lib.ownsRow_kind h2.1 g rfl
  have hWX : Below W.heap.size W (W.drewN q) := below_drewN (Below.refl _ _) q
  have hst := (World.ownsRow.stored (show World.ownsRow (W.drewN q) _ _ _ _ _ _ from own_last h2) (fr.length * 2 + 1) (.int .i32 hi)).1
  rw [rg_set] at hst
  refine ⟨⟨?_, ?_, ⟨by simpa using hst, fun c hc => ?_⟩, ?_⟩, ?_, ?_⟩
  · rw [Below.heap_setCell _ _ _ _ (by show w.heap.size ≠ g; omega)]; exact h0
  · rw [Below.heap_setCell _ _ _ _ (by show w.heap.size + 1 ≠ g; omega)]; exact h1
  · obtain ⟨r, _, rfl⟩ := List.mem_map.1 hc; rfl
  · exact (below_drewN hB q).setCell (p := ⟨g, fr.length * 2 + 1, none⟩) (by show w.heap.size ≤ g; omega) _
  · exact (keepsFrom_below hWX).trans ((KeepsOthers.setCell _ _ _).from B)
  · exact (KeepsE.of_below hWX hB.size).trans (keepsE_set (W := W.drewN q) (a := ⟨g, fr.length * 2 + 1, none⟩) hc (by decide) (by show w.heap.size ≤ g; omega) _)
theorem isTwo_any (w : World) (n : Int) : Calls Tryd.prog 78 #[.int .i64 n] w fun e w' => e = .returned (.bool (decide (n = 2))) ∧ w = w' := by
  go_enter Tryd.func78, Tryd.ntmps78
  go_wp2
  go_ret
  exact ⟨rfl, rfl⟩
set_option maxRecDepth 100000 in
set_option maxHeartbeats 4000000 in
theorem those_inM (w : World) (A : Option Addr) (c : Nat) (es : List (Int × Int)) (hes : Arr (fun b => b < w.heap.size) w 2 (fun x cs => cs = edgeC x) A es) (hN : es.length ≤ 5000000000) (hv : ∀ x ∈ es, (0 ≤ x.1 ∧ x.1 ≤ 1114112) ∧ (-1 ≤ x.2 ∧ x.2 ≤ 1)) :
    CallsIn Fence.wide 9 Tryd.prog 75 #[.slice A es.length c, .func (.func 78) #[] #[]] w fun e w' => ∃ v, e = .returned v ∧ OwnR w' w.heap.size v (thoseOf (fun n => decide (n = 2)) (spansOf 0 0 es)) ∧ Below w.heap.size w w' := by
  have hF1 : Fence.wide.fn 88 := trivial
  have hF2 : Fence.wide.fn 93 := trivial
  have hF3 : Fence.wide.fn 78 := trivial
  have hdd : ∀ k : Nat, (Fence.wide.depth.isSome = true → 1 ≤ k) := fun k h => by simp [Fence.wide] at h
  have HE := Lib.hid (And.intro hes hv)
  clear hes hv
  refine callsIn_of_wp_marks Tryd.func75 rfl trivial ?_ rfl
  simp only [Tryd.ntmps75, List.size_toArray, List.length_cons, List.length_nil, Nat.reduceAdd, Nat.reduceSub, Array.replicate_succ, Array.replicate_zero, List.push_toArray, List.append_toArray, List.nil_append, List.cons_append]
  gi_wp2_with ((try refine ⟨hdd _, ?_⟩); gi_at_call 88; refine (callsIn_wide.2 (spans_any _ _ _ _)).mono ?_; rintro e w' ⟨rfl, rfl⟩)
  have b0 : (((w.alloc (.cells #[.func (.func 78) #[] #[]] 106)).alloc (.cells #[.slice none 0 0] 61)).alloc (.cells #[.slice A es.length c] 131)).heap[w.heap.size]? = some (.cells #[.func (.func 78) #[] #[]] 106 (0, 0)) := by
    rw [Below.heap_alloc _ _ _ (by simp; omega), Below.heap_alloc _ _ _ (by simp)]; exact heap_new1 _ _
  have b1 : (((w.alloc (.cells #[.func (.func 78) #[] #[]] 106)).alloc (.cells #[.slice none 0 0] 61)).alloc (.cells #[.slice A es.length c] 131)).heap[w.heap.size + 1]? = some (.cells #[.slice none 0 0] 61 (0, 0)) := by
    rw [Below.heap_alloc _ _ _ (by simp)]; exact heap_new2 _ _ _
  have b2 : (((w.alloc (.cells #[.func (.func 78) #[] #[]] 106)).alloc (.cells #[.slice none 0 0] 61)).alloc (.cells #[.slice A es.length c] 131)).heap[w.heap.size + 1 + 1]? = some (.cells #[.slice A es.length c] 131 (0, 0)) := heap_new3 _ _ _ _
  have hB0 : Below w.heap.size w (((w.alloc (.cells #[.func (.func 78) #[] #[]] 106)).alloc (.cells #[.slice none 0 0] 61)).alloc (.cells #[.slice A es.length c] 131)) := below_al (below_al (below_al (Below.refl _ _) _) _) _
  have hsz : (((w.alloc (.cells #[.func (.func 78) #[] #[]] 106)).alloc (.cells #[.slice none 0 0] 61)).alloc (.cells #[.slice A es.length c] 131)).heap.size = w.heap.size + 3 := by simp
  obtain ⟨W0, hW0⟩ : ∃ W0, (((w.alloc (.cells #[.func (.func 78) #[] #[]] 106)).alloc (.cells #[.slice none 0 0] 61)).alloc (.cells #[.slice A es.length c] 131)) = W0 := ⟨_, rfl⟩
  rw [hW0] at b0 b1 b2 hB0 hsz ⊢
  clear hW0
  refine wpIn_rangeFunc_ownH rfl (by omega) (gf := 93) (lb := #[.pointer (some ⟨w.heap.size + 1 + 1, 0, none⟩)]) rfl trivial (enters_of Tryd.func93 (by kernel_rfl) rfl)
    (spans_stops _ w.heap.size (w.heap.size + 1 + 1) W0 A c es (by omega) b2 (HE.out.1.move (fun b hb _ => ⟨hB0.block b hb, hb⟩) (by omega)) (by omega) HE.out.2) KeepsE.trans
    (fun W l o o' hl ho hc _ => ?kb) (Below.refl _ _) (fun _ => rfl)
    (fun pre W => ∃ v, W.heap[w.heap.size]? = some (Obj.cells #[.func (.func 78) #[] #[]] 106 (0, 0)) ∧ W.heap[w.heap.size + 1]? = some (Obj.cells #[v] 61 (0, 0)) ∧ OwnR W (w.heap.size + 2) v (thoseW (fun n => decide (n = 2)) pre) ∧ Below w.heap.size w W)
    (fun c pre W => False) ?own (fun _ _ _ _ _ h => h.elim) ⟨_, b0, b1, Owns.nil _ _ _ _, hB0⟩
    (fun (x : Rg × Int) a' (W : World) => ∃ Bx : Nat, W.heap[Bx]? = some (Obj.cells #[.int .i32 x.1.lo, .int .i32 x.1.hi] 66 (0, 0)) ∧ a' = { tmps := #[.slice A es.length c, .func (.func 78) #[] #[], undef, .pointer (some ⟨w.heap.size, 0, none⟩), .slice none 0 0, .pointer (some ⟨w.heap.size + 1, 0, none⟩), .pointer (some ⟨Bx, 0, none⟩), .int .i64 x.2, undef, .slice A es.length c, .func (.func 93) #[] #[.pointer (some ⟨w.heap.size + 1 + 1, 0, none⟩)], .agg #[.int .i32 x.1.lo, .int .i32 x.1.hi], .int .i64 x.2, undef, undef, undef, undef, undef, undef, undef, undef, undef, undef, undef, undef, undef, undef, undef, undef, undef, undef, undef, undef, undef, undef, undef, undef, undef, undef, undef, undef, undef, undef, undef, undef, undef, undef], defers := [] })
    ?ownx ?assign ?body ?done ?stop
  case kb =>
    have hk := Keeps.putObj (B0 := w.heap.size) (B1 := 0) (w := W0) (by omega) (Nat.zero_le _) W l o o' hl ho hc
    exact ⟨hk.below, fun b cs fr hb => (hk.cells b _ _ _ (Nat.zero_le _) hb).trans hb⟩
  case own =>
    rintro s X Y row ⟨v, h0, h1, h2, hB⟩ hg hr
    refine ⟨v, blk_own _ _ _ () X Y row h0 hg (fun r e => (hr r e).2), blk_own _ _ _ () X Y row h1 hg (fun r e => (hr r e).2), h2.kept hg ?_, (ownFrom_below (Nat.le_refl _) (by omega)) s X Y row hB hg hr⟩
    cases hv : v.ownBlock with
    | none => exact .inl rfl
    | some g =>
      refine .inr fun e => ?_
      obtain ⟨o, ho, hc⟩ := (hr g e.symm).2
      obtain ⟨cs, fz, hk⟩ := Lib.ownsRow_kind h2.1 g hv
      rw [hk] at ho; cases ho; simp [Obj.isCells] at hc
  case ownx =>
    rintro x a' _ X Y row ⟨Bx, h2, h3⟩ hg hr
    exact ⟨Bx, blk_own Bx _ _ () X Y row h2 hg (fun r e => (hr r e).2), h3⟩
  case assign =>
    rintro l pre ⟨⟨lo, hi⟩, n⟩ W K ⟨v, h0, h1, h2, hB⟩ hK
    have hK1 := hK _ _ (keepsFrom_below (below_al (Below.refl _ _) (.cells #[.int .i32 lo, .int .i32 hi] 66))) (KeepsE.of_below (below_al (Below.refl _ _) _) hB.size) ⟨v, (Below.heap_alloc _ _ _ (heap_lt h0)).trans h0, (Below.heap_alloc _ _ _ (heap_lt h1)).trans h1, h2.alloc _, below_al hB _⟩ ⟨W.heap.size, heap_new1 _ _, rfl⟩
    clear hK h0 h1 h2 hB
    dsimp only [spanA]
    gi_wp2
    exact hK1
  case body =>
    rintro l pre ⟨⟨lo, hi⟩, n⟩ a' W hl _ ⟨v, h0, h1, h2, hB⟩ ⟨Bx, hbx, rfl⟩ hlen
    obtain ⟨A1, c1, rfl, hk1, hk2⟩ := Owns.shape h2
    rw [List.length_map] at h1 h2 hk1
    have g0 : W.cell? ⟨w.heap.size, 0, none⟩ = some (.func (.func 78) #[] #[]) := by rw [cell_of_blk h0]; rfl
    have g1 : W.cell? ⟨w.heap.size + 1, 0, none⟩ = some (.slice A1 (thoseW (fun n => decide (n = 2)) pre).length c1) := by rw [cell_of_blk h1]; rfl
    have hnx := thoseW_next (fun n => decide (n = 2)) pre (⟨lo, hi⟩, n)
    have hln : (thoseW (fun n => decide (n = 2)) pre).length ≤ 9223372036854775807 := by unfold maxLen at hk2; omega
    have hob : (thoseW (fun n => decide (n = 2)) pre).length ≤ 5000000001 := by
      have h5 := thoseW_len (fun n => decide (n = 2)) pre []
      have h6 := spans_len es 0 0
      simp only [List.length_nil, Nat.zero_add] at h5
      refine Nat.le_trans (show (thoseW (fun n => decide (n = 2)) pre).length ≤ pre.length from h5) (by omega)
    by_cases hn : n = 2
    · have hd : decide (n = 2) = true := by simpa using hn
      simp only [hd, if_true] at hnx
      have hui : ∀ W', Calls Tryd.prog 78 #[.int .i64 n] W' fun e w' => e = .returned (.bool true) ∧ W' = w' := fun W' => by rw [← hd]; exact isTwo_any W' n
      generalize thoseW (fun n => decide (n = 2)) pre = out at *
      have gx0 : W.cell? ⟨Bx, 0, none⟩ = some (.int .i32 lo) := by rw [cell_of_blk hbx]; rfl
      have gx1 : W.cell? ⟨Bx, 1, none⟩ = some (.int .i32 hi) := by rw [cell_of_blk hbx]; rfl
      have HH := Lib.hid (And.intro h0 (And.intro h1 (And.intro h2 (And.intro hB hnx))))
      clear h0 h1 h2 hB hnx hd hn
      by_cases hout : out = []
      · subst hout
        gi_wp2_with ((try refine ⟨hdd _, ?_⟩); gi_at_call 78; refine (CallsIn.inRound l (callsIn_wide.2 (hui _))).mono ?_; rintro e W2 ⟨rfl, rfl⟩)
        refine region_quiet_lit_round (by kernel_rfl) (by kernel_rfl) (by kernel_rfl) ?_
        repeat (gi_big_quiet_step (fail))
        refine wpQuietIn_nil ?_
        intro _ hw'
        obtain ⟨nq, hw''⟩ := hw'
        subst hw''
        have hIr := infoRg
        obtain ⟨i0, hi0, hxx⟩ := Option.map_eq_some_iff.1 hIr
        simp only [Prod.mk.injEq] at hxx
        obtain ⟨hz0, hz1, hz2⟩ := hxx
        gi_wp2_with (gi_at_builtin; refine wpListIn_app1 rfl _ _ 61 rfl (w.heap.size + 2) 66 i0 _ 2 8 Tryd.underlying61 hi0 hz0 hz1 hz2 rfl (by decide) _ _ rfl (Owns.alloc (show Owns (W.drewN _) _ _ _ _ _ from HH.out.2.2.1) _) _ (rgC ⟨lo, hi⟩) rfl rfl (heap_newE (by simp)) ?c2 ?c3 ?c4 ?c5 ?_)
        case c2 => intro u hu; simp [rgC] at hu; rcases hu with rfl | rfl <;> rfl
        case c3 => simp; unfold maxLen; omega
        case c4 => simp
        case c5 => have := heap_lt HH.out.2.1; simp; omega
        intro v' w4 hown' hgrow
        obtain ⟨h0, h1, h2, hB, hnx⟩ := HH.out
        obtain ⟨k1, hG, kF, kE⟩ := gather_appM (x := ⟨lo, hi⟩) ⟨h0, h1, h2, hB⟩ hown' hgrow W0.heap.size
        obtain ⟨A5, c5, rfl, _, _⟩ := hown'.shape
        have q1 : w4.cell? ⟨w.heap.size + 1, 0, none⟩ = some (.slice A1 0 c1) := by rw [cell_of_blk k1]; rfl
        have q2 : w4.frozen? ⟨w.heap.size + 1, 0, none⟩ = false := by simp [World.frozen?, k1]
        have HG := Lib.hid (And.intro hG (And.intro kF (And.intro kE hnx)))
        clear h0 h1 h2 hB hnx hG kF kE k1 hown' hgrow
        gi_wp2
        obtain ⟨hG, kF, kE, hnx⟩ := HG.out
        exact ⟨kF, kE, _, hG.1, hG.2.1, by rw [hnx]; exact hG.2.2.1, hG.2.2.2⟩
      · obtain ⟨fr, y, rfl⟩ : ∃ fr y, out = fr ++ [y] := ⟨_, _, (List.dropLast_concat_getLast hout).symm⟩
        clear hout
        obtain ⟨h0, h1, h2, hB, hnx⟩ := HH.out
        clear HH
        have e1 : (fr ++ [y]).length = fr.length + 1 := by simp
        rw [e1] at h1 h2 g1 hk1 hln hob
        rw [putW_snoc] at hnx
        obtain ⟨g, rfl⟩ : ∃ g, A1 = some ⟨g, 0, none⟩ := by
          rcases h2.1.2 with ⟨e, _⟩ | ⟨g, _, _, e, _⟩
          · injection e with e1 e2; omega
          · injection e with e1; exact ⟨g, e1⟩
        have hcy : W.cell? ⟨g, fr.length * 2 + 1, none⟩ = some (.int .i32 y.hi) := by
          rw [World.ownsRow.cellAt (own_last h2) _ (by omega), List.map_append, List.flatten_append, List.getElem?_append_right (by rw [rg_flat]; omega), rg_flat]
          simp [rgC]
        have hfy : W.frozen? ⟨g, fr.length * 2 + 1, none⟩ = false := World.ownsRow.frozenAt (own_last h2) _
        have HH := Lib.hid (And.intro (show GatherM w W _ _ from ⟨h0, h1, h2, hB⟩) hnx)
        clear h0 h1 h2 hB hnx e1
        by_cases hm : IntKind.i32.wrap (y.hi + 1) = lo
        · gi_wp2_with ((try refine ⟨hdd _, ?_⟩); gi_at_call 78; refine (CallsIn.inRound l (callsIn_wide.2 (hui _))).mono ?_; rintro e W2 ⟨rfl, rfl⟩)
          refine region_quiet_lit_round (by kernel_rfl) (by kernel_rfl) (by kernel_rfl) ?_
          repeat (gi_big_quiet_step (fail))
          refine wpQuietIn_nil ?_
          intro _ hw'
          obtain ⟨nq, hw''⟩ := hw'
          subst hw''
          have HM := Lib.hid hm
          clear hm
          gi_wp2
          obtain ⟨hG, hnx⟩ := HH.out
          rw [if_pos HM.out] at hnx
          obtain ⟨hG2, kF, kE⟩ := gather_setM hG nq hi W0.heap.size
          exact ⟨kF, kE, _, hG2.1, hG2.2.1, by rw [hnx]; exact hG2.2.2.1, hG2.2.2.2⟩
        · have hmb : (IntKind.i32.wrap (y.hi + 1) == lo) = false := by simpa using hm
          have hmb2 : (wrap32 (y.hi + 1) == lo) = false := by rw [← IntWalk.i32_left]; exact hmb
          have HM := Lib.hid hm
          clear hm
          gi_wp2_with ((try refine ⟨hdd _, ?_⟩); gi_at_call 78; refine (CallsIn.inRound l (callsIn_wide.2 (hui _))).mono ?_; rintro e W2 ⟨rfl, rfl⟩)
          refine region_quiet_lit_round (by kernel_rfl) (by kernel_rfl) (by kernel_rfl) ?_
          repeat (gi_big_quiet_step (fail))
          refine wpQuietIn_nil ?_
          intro _ hw'
          obtain ⟨nq, hw''⟩ := hw'
          subst hw''
          clear hmb hmb2
          have hIr := infoRg
          obtain ⟨i0, hi0, hxx⟩ := Option.map_eq_some_iff.1 hIr
          simp only [Prod.mk.injEq] at hxx
          obtain ⟨hz0, hz1, hz2⟩ := hxx
          gi_wp2_with (gi_at_builtin; refine wpListIn_app1 rfl _ _ 61 rfl (w.heap.size + 2) 66 i0 _ 2 8 Tryd.underlying61 hi0 hz0 hz1 hz2 rfl (by decide) _ _ rfl (Owns.alloc (show Owns (W.drewN _) _ _ _ _ _ from HH.out.1.2.2.1) _) _ (rgC ⟨lo, hi⟩) rfl rfl (heap_newE (by simp)) ?c2 ?c3 ?c4 ?c5 ?_)
          case c2 => intro u hu; simp [rgC] at hu; rcases hu with rfl | rfl <;> rfl
          case c3 => simp; unfold maxLen; omega
          case c4 => simp; omega
          case c5 => have := heap_lt HH.out.1.2.1; simp; omega
          intro v' w4 hown' hgrow
          obtain ⟨hG0, hnx⟩ := HH.out
          obtain ⟨k1, hG, kF, kE⟩ := gather_appM (x := ⟨lo, hi⟩) hG0 (by simpa using hown') hgrow W0.heap.size
          obtain ⟨A5, c5, hv5, _, _⟩ := hown'.shape
          rw [show (List.map rgC fr ++ [rgC y, rgC ⟨lo, hi⟩]).length = fr.length + 2 by simp] at hv5
          subst hv5
          have q1 : w4.cell? ⟨w.heap.size + 1, 0, none⟩ = some (.slice (some ⟨g, 0, none⟩) (fr.length + 1) c1) := by rw [cell_of_blk k1]; rfl
          have q2 : w4.frozen? ⟨w.heap.size + 1, 0, none⟩ = false := by simp [World.frozen?, k1]
          have HG := Lib.hid (And.intro hG (And.intro kF (And.intro kE hnx)))
          clear hG0 hnx hG kF kE k1 hown' hgrow
          gi_wp2
          obtain ⟨hG, kF, kE, hnx⟩ := HG.out
          rw [if_neg HM.out] at hnx
          exact ⟨kF, kE, _, hG.1, hG.2.1, by rw [hnx]; exact hG.2.2.1, hG.2.2.2⟩
    · have hd : decide (n = 2) = false := by simpa using hn
      simp only [hd, Bool.false_eq_true, if_false] at hnx
      have HH := Lib.hid (And.intro h0 (And.intro h1 (And.intro h2 (And.intro hB hnx))))
      have hui : ∀ W', Calls Tryd.prog 78 #[.int .i64 n] W' fun e w' => e = .returned (.bool false) ∧ W' = w' := fun W' => by rw [← hd]; exact isTwo_any W' n
      clear h0 h1 h2 hB hnx hd
      generalize thoseW (fun n => decide (n = 2)) pre = out at *
      gi_wp2_with ((try refine ⟨hdd _, ?_⟩); gi_at_call 78; refine (CallsIn.inRound l (callsIn_wide.2 (hui _))).mono ?_; rintro e W2 ⟨rfl, rfl⟩)
      obtain ⟨h0, h1, h2, hB, hnx⟩ := HH.out
      exact ⟨keepsFrom_below (Below.refl _ _), KeepsE.of_below (Below.refl _ _) hB.size, _, h0, h1, by rw [hnx]; exact h2, hB⟩
  case done =>
    rintro D ys W hD rfl ⟨v, h0, h1, h2, hB⟩ hK
    have hcr : W.cell? ⟨w.heap.size + 1, 0, none⟩ = some v := by rw [cell_of_blk h1]; rfl
    have HH := Lib.hid (And.intro h2 hB)
    clear h0 h1 h2 hB
    gi_wp2
    obtain ⟨h2, hB⟩ := HH.out
    refine ⟨by simp, .inl ⟨_, _, rfl, run_takeDeferred hK, ?_⟩⟩
    have hne : v.ownBlock = none ∨ v.ownBlock ≠ some D := by
      cases hv : v.ownBlock with
      | none => exact .inl rfl
      | some g =>
        refine .inr fun e => ?_
        cases e
        obtain ⟨cs, fz, hk⟩ := Lib.ownsRow_kind h2.1 D hv
        rw [hk] at hK; cases hK
    have h3 : Owns (W.putObj D (.deferred none)) w.heap.size 66 2 v ((thoseOf (fun n => decide (n = 2)) (spansOf 0 0 es)).map rgC) := by
      have h4 := h2.kept (grownBy_putObj' W D (.deferred none)) hne
      rw [thoseW_eq _ _ (fun x hx => (HE.out.2 x hx).1)] at h4
      exact ⟨Joins.ownsRow_le h4.1 (by omega), h4.2⟩
    refine ⟨v, ?_, v, rfl, h3, hB.trans (belowK_b (w := w) (Nat.le_refl _) W D _ _ (by omega) hK rfl rfl)⟩
    simp [results, Tryd.f75, go_sem]
  case stop => exact fun _ _ _ _ _ _ h => h.elim
end Go.Proofs.YthclpabmbhpohaaDoor
namespace Go.Proofs.YthclpabmbhpohaaDoor
open Go.RowKit Go.Shelf
set_option linter.unusedVariables false
def cntE (es : List (Int × Int)) (c : Int) : Int := (es.map fun x => if x.1 ≤ c then x.2 else 0).sum
theorem cntE_cons (x : Int × Int) (es : List (Int × Int)) (c : Int) : cntE (x :: es) c = (if x.1 ≤ c then x.2 else 0) + cntE es c := by simp [cntE]
theorem cntE_app (a b : List (Int × Int)) (c : Int) : cntE (a ++ b) c = cntE a c + cntE b c := by simp [cntE]
theorem cntE_perm {a b : List (Int × Int)} (h : a.Perm b) (c : Int) : cntE a c = cntE b c := by
  induction h with
  | nil => rfl
  | cons x _ ih => rw [cntE_cons, cntE_cons, ih]
  | swap x y l => rw [cntE_cons, cntE_cons, cntE_cons, cntE_cons]; omega
  | trans _ _ i1 i2 => rw [i1, i2]
theorem cntE_zero (es : List (Int × Int)) (c : Int) (h : ∀ x ∈ es, c < x.1) : cntE es c = 0 := by
  induction es with
  | nil => rfl
  | cons x es ih => rw [cntE_cons, if_neg (by have := h x (by simp); omega), ih (fun y hy => h y (by simp [hy]))]; rfl
theorem has_put (out : List Rg) (x : Rg) (h : ∀ y ∈ out, RgOK y) (hx : RgOK x) (c : Int) : (putSpan out x).any (inR c) = (out.any (inR c) || inR c x) := by
  rcases List.eq_nil_or_concat out with rfl | ⟨fr, y, rfl⟩
  · rw [put_nil]; simp
  · rw [List.concat_eq_append] at *
    rw [put_snoc]
    obtain ⟨y0, y1, y2⟩ := h y (by simp)
    obtain ⟨x0, x1, x2⟩ := hx
    split
    · rw [List.any_append, List.any_append, Bool.or_assoc]
      congr 1
      simp only [List.any_cons, List.any_nil, Bool.or_false]
      rw [Bool.eq_iff_iff]
      simp only [inR, Bool.and_eq_true, Bool.or_eq_true, decide_eq_true_eq]
      omega
    · simp [List.any_append, Bool.or_assoc]
theorem has_fold (is : Int → Bool) (c : Int) (hc : c ≤ 1114111) : ∀ (es : List (Int × Int)) (f n : Int) (out : List Rg), 0 ≤ f → (∀ x ∈ es, f ≤ x.1 ∧ x.1 ≤ 1114112) → es.Pairwise (fun x y => x.1 ≤ y.1) → SetOK out → (∀ y ∈ out, y.hi < f) →
    ((spansOf f n es).foldl (fun out s => if is s.2 then putSpan out s.1 else out) out).any (inR c) = (out.any (inR c) || (decide (f ≤ c) && is (n + cntE es c)))
  | [], f, n, out, hf, _, _, ho, hl => by
    rw [spansOf]
    have h0 : n + cntE [] c = n := by simp [cntE]
    rw [h0]
    split
    · rename_i hfm
      rw [List.foldl_cons, List.foldl_nil]
      cases hi : is n with
      | true =>
        rw [if_pos rfl, has_put out _ ho.1 ⟨hf, hfm, by simp⟩]
        congr 1
        simp [inR]; omega
      | false => rw [if_neg (by simp)]; simp
    · rw [List.foldl_nil, decide_eq_false (by omega)]; simp
  | x :: es, f, n, out, hf, h, hp, ho, hl => by
    have hx := h x (by simp)
    obtain ⟨hp1, hp2⟩ := List.pairwise_cons.1 hp
    rw [spansOf]
    by_cases hlt : f < x.1
    · rw [if_pos hlt, List.foldl_cons]
      have hrest : ∀ y ∈ es, x.1 ≤ y.1 ∧ y.1 ≤ 1114112 := fun y hy => ⟨hp1 y hy, (h y (by simp [hy])).2⟩
      have hcz : c < x.1 → cntE (x :: es) c = 0 := fun hcx => cntE_zero _ _ (fun y hy => by
        rcases List.mem_cons.1 hy with rfl | hy
        · exact hcx
        · have := hp1 y hy; omega)
      have hcp : x.1 ≤ c → n + cntE (x :: es) c = n + x.2 + cntE es c := fun hcx => by rw [cntE_cons, if_pos hcx]; omega
      cases hi : is n with
      | true =>
        have hok : RgOK ⟨f, x.1 - 1⟩ := ⟨hf, by simp; omega, by simp; omega⟩
        obtain ⟨k1, k2⟩ := setOK_put out ⟨f, x.1 - 1⟩ ho hok hl
        rw [if_pos rfl, has_fold is c hc es _ _ _ (by omega) hrest hp2 k1 (fun y hy => by have := k2 y hy; simp at this; omega), has_put out _ ho.1 hok, Bool.or_assoc]
        congr 1
        by_cases hcx : x.1 ≤ c
        · rw [hcp hcx, decide_eq_true hcx, decide_eq_true (show f ≤ c by omega)]
          simp only [Bool.true_and]
          have : inR c ⟨f, x.1 - 1⟩ = false := by simp [inR]; omega
          rw [this, Bool.false_or]
        · rw [hcz (by omega), decide_eq_false hcx, Bool.false_and, Bool.or_false, Int.add_zero, hi, Bool.and_true]
          rw [Bool.eq_iff_iff]
          simp only [inR, Bool.and_eq_true, decide_eq_true_eq]
          omega
      | false =>
        rw [if_neg (by simp), has_fold is c hc es _ _ _ (by omega) hrest hp2 ho (fun y hy => by have := hl y hy; omega)]
        congr 1
        by_cases hcx : x.1 ≤ c
        · rw [hcp hcx, decide_eq_true hcx, decide_eq_true (show f ≤ c by omega)]
        · rw [hcz (by omega), decide_eq_false hcx, Bool.false_and, Int.add_zero, hi, Bool.and_false]
    · rw [if_neg hlt]
      obtain rfl : f = x.1 := by omega
      rw [has_fold is c hc es _ _ _ hf (fun y hy => ⟨hp1 y hy, (h y (by simp [hy])).2⟩) hp2 ho hl]
      congr 1
      by_cases hcx : x.1 ≤ c
      · rw [cntE_cons, if_pos hcx, Int.add_assoc]
      · rw [decide_eq_false hcx, Bool.false_and, Bool.false_and]
def cntR (l : List Rg) (c : Int) : Int := ((l.filter (inR c)).length : Int)
theorem cntR_cons (x : Rg) (l : List Rg) (c : Int) : cntR (x :: l) c = (if inR c x = true then 1 else 0) + cntR l c := by
  unfold cntR
  rw [List.filter_cons]
  split <;> simp <;> omega
theorem cnt_edge1 (r : Rg) (c : Int) (h0 : 0 ≤ c) (h1 : c ≤ 1114111) : cntE (edge1 r) c = if inR c r = true then 1 else 0 := by
  unfold edge1
  have hi : inR c r = true ↔ r.lo ≤ c ∧ c ≤ r.hi := by simp [inR]
  by_cases hm : max r.lo 0 ≤ min r.hi 1114111
  · rw [if_pos hm, cntE_cons, cntE_cons]
    have : cntE [] c = 0 := rfl
    rw [this]
    dsimp only
    by_cases hh : inR c r = true
    · rw [if_pos hh]; have := hi.1 hh; rw [if_pos (by omega), if_neg (by omega)]; rfl
    · rw [if_neg hh]
      have hn : ¬ (r.lo ≤ c ∧ c ≤ r.hi) := fun e => hh (hi.2 e)
      by_cases hl : max r.lo 0 ≤ c
      · rw [if_pos hl, if_pos (by omega)]; rfl
      · rw [if_neg hl, if_neg (by omega)]; rfl
  · rw [if_neg hm, if_neg (fun e => by have := hi.1 e; omega)]; rfl
theorem cnt_list (l : List Rg) (c : Int) (h0 : 0 ≤ c) (h1 : c ≤ 1114111) : cntE (l.flatMap edge1) c = cntR l c := by
  induction l with
  | nil => rfl
  | cons x l ih => rw [List.flatMap_cons, cntE_app, ih, cnt_edge1 x c h0 h1, cntR_cons]
def setOf2 (is : Int → Bool) (ls : List (List Rg)) : List Rg := thoseOf is (spansOf 0 0 ((edgesOf ls).mergeSort fun x y => decide (x.1 ≤ y.1)))
theorem setOf2_any (is : Int → Bool) (ls : List (List Rg)) (es : List (Int × Int)) (hp : es.Perm (edgesOf ls)) (hs : es.Pairwise (fun x y => x.1 ≤ y.1)) : thoseOf is (spansOf 0 0 es) = setOf2 is ls := by
  unfold setOf2
  rw [spans_perm es _ 0 0 (hp.trans (List.mergeSort_perm _ _).symm) hs]
  have h := List.pairwise_mergeSort (le := fun x y : Int × Int => decide (x.1 ≤ y.1)) (fun a b c h1 h2 => by simp at *; omega) (fun a b => by simp; omega) (edgesOf ls)
  exact h.imp (fun h => by simpa using h)
theorem edges_vals2 (ls : List (List Rg)) : ∀ x ∈ edgesOf ls, (0 ≤ x.1 ∧ x.1 ≤ 1114112) ∧ (-1 ≤ x.2 ∧ x.2 ≤ 1) := by
  intro x hx
  simp only [edgesOf, List.mem_flatMap] at hx
  obtain ⟨l, _, r, _, hx⟩ := hx
  unfold edge1 at hx
  split at hx
  · simp only [List.mem_cons, List.not_mem_nil, or_false] at hx
    rcases hx with rfl | rfl <;> simp <;> omega
  · simp at hx
theorem setOf2_ok (is : Int → Bool) (ls : List (List Rg)) : SetOK (setOf2 is ls) :=
  setOK_fold is _ 0 0 [] (by omega) (fun x hx => (edges_vals2 ls x ((List.mergeSort_perm _ _).subset hx)).1.2) ⟨by simp, by simp⟩ (by simp)
theorem setOf2_has (is : Int → Bool) (ls : List (List Rg)) (c : Int) (h0 : 0 ≤ c) (h1 : c ≤ 1114111) : (setOf2 is ls).any (inR c) = is (cntE (edgesOf ls) c) := by
  have hs := List.pairwise_mergeSort (le := fun x y : Int × Int => decide (x.1 ≤ y.1)) (fun a b c h1 h2 => by simp at *; omega) (fun a b => by simp; omega) (edgesOf ls)
  unfold setOf2 thoseOf
  rw [has_fold is c h1 _ 0 0 [] (by omega) (fun x hx => ⟨(edges_vals2 ls x ((List.mergeSort_perm _ _).subset hx)).1.1, (edges_vals2 ls x ((List.mergeSort_perm _ _).subset hx)).1.2⟩) (hs.imp (fun h => by simpa using h)) ⟨by simp, by simp⟩ (by simp)]
  rw [decide_eq_true h0, Int.zero_add, cntE_perm (List.mergeSort_perm _ _)]
  simp
theorem cnt_two (a b : List Rg) (c : Int) (h0 : 0 ≤ c) (h1 : c ≤ 1114111) : cntE (edgesOf [a, b]) c = cntR a c + cntR b c := by
  simp only [edgesOf, List.flatMap_cons, List.flatMap_nil, List.append_nil]
  rw [cntE_app, cnt_list a c h0 h1, cnt_list b c h0 h1]
theorem cntR_pos (l : List Rg) (c : Int) : 0 < cntR l c ↔ l.any (inR c) = true := by
  unfold cntR
  rw [List.any_eq_true]
  constructor
  · intro h
    obtain ⟨x, hx⟩ := List.exists_mem_of_length_pos (show 0 < (l.filter (inR c)).length by omega)
    exact ⟨x, List.mem_filter.1 hx⟩
  · rintro ⟨x, hx⟩
    have := List.length_pos_of_mem (List.mem_filter.2 hx)
    omega
theorem cntR_nonneg (l : List Rg) (c : Int) : 0 ≤ cntR l c := by unfold cntR; omega
theorem cntR_one {l : List Rg} (h : SetOK l) (c : Int) : cntR l c ≤ 1 := by
  obtain ⟨h0, h⟩ := h
  clear h0
  induction l with
  | nil => simp [cntR]
  | cons x l ih =>
    obtain ⟨p1, p2⟩ := List.pairwise_cons.1 h
    rw [cntR_cons]
    have := ih p2
    split
    · rename_i hx
      have hz : ¬ 0 < cntR l c := by
        rw [cntR_pos, List.any_eq_true]
        rintro ⟨y, hy, hyc⟩
        have h3 := p1 y hy
        simp only [inR, Bool.and_eq_true, decide_eq_true_eq] at hx hyc
        omega
      omega
    · omega
theorem normOf_eq (ls : List (List Rg)) : normOf ls = setOf2 (fun n => decide (0 < n)) ls := rfl
/-- What the union has. -/
theorem has_union (a b : List Rg) (c : Int) : hasB (normOf [a, b]) c = (hasB a c || hasB b c) := by
  unfold hasB
  by_cases h : 0 ≤ c ∧ c ≤ 1114111
  · rw [normOf_eq, setOf2_has _ _ c h.1 h.2, cnt_two a b c h.1 h.2, decide_eq_true h.1, decide_eq_true h.2]
    simp only [Bool.true_and]
    have := cntR_nonneg a c
    have := cntR_nonneg b c
    rw [Bool.eq_iff_iff, Bool.or_eq_true, ← cntR_pos, ← cntR_pos, decide_eq_true_eq]
    omega
  · have : (decide (0 ≤ c) && decide (c ≤ 1114111)) = false := by
      rw [Bool.and_eq_false_iff, decide_eq_false_iff_not, decide_eq_false_iff_not]; omega
    simp only [this, Bool.false_and, Bool.or_false]
theorem edges_one2 (l : List Rg) : edgesOf [l, []] = edgesOf [l] := by simp [edgesOf]
theorem has_norm (a : List Rg) (c : Int) : hasB (normOf [a]) c = hasB a c := by
  have h := has_union a [] c
  have e : normOf [a, []] = normOf [a] := by unfold normOf; rw [edges_one2]
  rw [e] at h
  rw [h]
  simp [hasB]
/-- What both have. -/
def meetOf (a b : List Rg) : List Rg := setOf2 (fun n => decide (n = 2)) [normOf [a], normOf [b]]
def meetB (a b : List Rg) : Bool := decide (0 < (meetOf a b).length)
theorem any_has {l : List Rg} {c : Int} (h0 : 0 ≤ c) (h1 : c ≤ 1114111) : l.any (inR c) = hasB l c := by
  unfold hasB; rw [decide_eq_true h0, decide_eq_true h1]; rfl
theorem meetB_iff (a b : List Rg) : meetB a b = true ↔ ∃ c, hasB a c = true ∧ hasB b c = true := by
  have key : ∀ c, 0 ≤ c → c ≤ 1114111 → ((meetOf a b).any (inR c) = true ↔ hasB a c = true ∧ hasB b c = true) := by
    intro c h0 h1
    unfold meetOf
    rw [setOf2_has _ _ c h0 h1, cnt_two _ _ c h0 h1, decide_eq_true_eq, ← has_norm a, ← has_norm b, ← any_has h0 h1, ← any_has h0 h1, ← cntR_pos, ← cntR_pos]
    have k1 := cntR_one (l := normOf [a]) (setOf2_ok _ _) c
    have k2 := cntR_one (l := normOf [b]) (setOf2_ok _ _) c
    omega
  unfold meetB
  rw [decide_eq_true_eq]
  constructor
  · intro h
    obtain ⟨x, hx⟩ := List.exists_mem_of_length_pos h
    obtain ⟨o1, o2, o3⟩ := (setOf2_ok (fun n => decide (n = 2)) [normOf [a], normOf [b]]).1 x hx
    have : (meetOf a b).any (inR x.lo) = true := List.any_eq_true.2 ⟨x, hx, by simp [inR]; omega⟩
    exact ⟨x.lo, (key x.lo o1 (by omega)).1 this⟩
  · rintro ⟨c, h1, h2⟩
    have hc : 0 ≤ c ∧ c ≤ 1114111 := by
      unfold hasB at h1
      simp only [Bool.and_eq_true, decide_eq_true_eq] at h1
      exact h1.1
    have := (key c hc.1 hc.2).2 ⟨h1, h2⟩
    obtain ⟨x, hx, _⟩ := List.any_eq_true.1 this
    exact List.length_pos_of_mem hx
end Go.Proofs.YthclpabmbhpohaaDoor
namespace Go.Proofs.YthclpabmbhpohaaDoor
open Go.RowKit Go.Shelf Go.Lib Go.Sort
set_option linter.unusedVariables false
def ListPost (l : List Rg) (w : World) (e : Ending) (w' : World) : Prop := ∃ v, e = .returned v ∧ OwnR w' w.heap.size v l ∧ Below w.heap.size w w'
theorem edges_len2 (a b : List Rg) (ha : a.length ≤ 1000000000) (hb : b.length ≤ 1000000000) (es : List (Int × Int)) (hp : es.Perm (edgesOf [a, b])) : es.length ≤ 5000000000 := by
  have h3 := hp.length_eq
  have h4 := flat_len a
  have h5 := flat_len b
  simp only [edgesOf, List.flatMap_cons, List.flatMap_nil, List.append_nil, List.length_append] at h3
  omega
theorem those_two (w1 : World) (B0 : Nat) (v : Value) (a b : List Rg) (es : List (Int × Int)) (hp : es.Perm (edgesOf [a, b])) (hs : es.Pairwise (fun x y => x.1 ≤ y.1)) (ho : OwnE w1 B0 v es) (ha : a.length ≤ 1000000000) (hb : b.length ≤ 1000000000) :
    Calls Tryd.prog 75 #[v, .func (.func 79) #[] #[]] w1 (ListPost (normOf [a, b]) w1) := by
  obtain ⟨A, c, rfl, h1, h2⟩ := Owns.shape ho
  rw [List.length_map]
  have h := callsIn_wide.1 (those_in w1 A c es (Owns.arr (css := es.map edgeC) (xs := es) (show Owns _ _ _ _ _ _ from (by have h5 := ho; unfold OwnE at h5; simpa using h5)) (by simp) (fun i x cc hi hc => by
    rw [List.getElem?_map, hi] at hc; simpa using hc.symm) (fun a ha => by subst ha; exact (Owns.lt ho a.block rfl).2)) (edges_len2 a b ha hb es hp) (fun x hx => edges_vals2 _ x (hp.subset hx)))
  refine h.mono fun e w' ⟨v, h1, h2, h3⟩ => ⟨v, h1, ?_, h3⟩
  rwa [norm_any [a, b] es hp hs] at h2
theorem those_twoM (w1 : World) (B0 : Nat) (v : Value) (a b : List Rg) (es : List (Int × Int)) (hp : es.Perm (edgesOf [a, b])) (hs : es.Pairwise (fun x y => x.1 ≤ y.1)) (ho : OwnE w1 B0 v es) (ha : a.length ≤ 1000000000) (hb : b.length ≤ 1000000000) :
    Calls Tryd.prog 75 #[v, .func (.func 78) #[] #[]] w1 (ListPost (setOf2 (fun n => decide (n = 2)) [a, b]) w1) := by
  obtain ⟨A, c, rfl, h1, h2⟩ := Owns.shape ho
  rw [List.length_map]
  have h := callsIn_wide.1 (those_inM w1 A c es (Owns.arr (css := es.map edgeC) (xs := es) (show Owns _ _ _ _ _ _ from (by have h5 := ho; unfold OwnE at h5; simpa using h5)) (by simp) (fun i x cc hi hc => by
    rw [List.getElem?_map, hi] at hc; simpa using hc.symm) (fun a ha => by subst ha; exact (Owns.lt ho a.block rfl).2)) (edges_len2 a b ha hb es hp) (fun x hx => edges_vals2 _ x (hp.subset hx)))
  refine h.mono fun e w' ⟨v, h1, h2, h3⟩ => ⟨v, h1, ?_, h3⟩
  rwa [setOf2_any _ [a, b] es hp hs] at h2
theorem arr_two {ok ok2 : Nat → Prop} {w : World} {A B : Option Addr} {c d : Nat} {a b : List Rg} (h : Arr ok w 2 RgC A a) (k : Arr ok2 w 2 RgC B b) :
    Arr (fun b => True) (w.alloc (.cells #[.slice A a.length c, .slice B b.length d] 61)) 1 (RgsC (fun b => True) (w.alloc (.cells #[.slice A a.length c, .slice B b.length d] 61))) (some ⟨w.heap.size, 0, none⟩) [a, b] := by
  have hm := h.move (ok' := fun b => True) (w' := w.alloc (.cells #[.slice A a.length c, .slice B b.length d] 61)) (fun b hb hlt => ⟨Below.heap_alloc _ _ _ hlt, trivial⟩) (by omega)
  have km := k.move (ok' := fun b => True) (w' := w.alloc (.cells #[.slice A a.length c, .slice B b.length d] 61)) (fun b hb hlt => ⟨Below.heap_alloc _ _ _ hlt, trivial⟩) (by omega)
  have hn := heap_new1 w (.cells #[.slice A a.length c, .slice B b.length d] 61)
  intro i x hx
  match i, hx with
  | 0, hx =>
    simp at hx; subst hx
    refine ⟨_, [.slice A a.length c], rfl, trivial, ⟨A, c, rfl, hm⟩, rfl, fun j u hu => ?_⟩
    match j, hu with
    | 0, hu => simp at hu; subst hu; rw [Nat.zero_mul]; exact (cell_of_blk hn 0).trans rfl
  | 1, hx =>
    simp at hx; subst hx
    refine ⟨_, [.slice B b.length d], rfl, trivial, ⟨B, d, rfl, km⟩, rfl, fun j u hu => ?_⟩
    match j, hu with
    | 0, hu => simp at hu; subst hu; exact (cell_of_blk hn 1).trans rfl
theorem two_le2 {a b : List Rg} (ha : a.length ≤ 1000000000) (hb : b.length ≤ 1000000000) : ∀ x ∈ [a, b], x.length ≤ 1000000000 := by
  intro x hx
  rcases List.mem_cons.1 hx with rfl | hx
  · exact ha
  · rw [List.mem_singleton.1 hx]; exact hb
set_option maxHeartbeats 400000 in
theorem union_any (ok ok2 : Nat → Prop) (w : World) (A B : Option Addr) (c d : Nat) (a b : List Rg) (h : Arr ok w 2 RgC A a) (k : Arr ok2 w 2 RgC B b) (ha : a.length ≤ 1000000000) (hb : b.length ≤ 1000000000) :
    Calls Tryd.prog 59 #[.slice A a.length c, .slice B b.length d] w (ListPost (normOf [a, b]) w) := by
  have hed := edges_any _ _ _ 2 [a, b] (arr_two (c := c) (d := d) h k) (by simp) (two_le2 ha hb)
  have HH := Lib.hid (fun w1 B0 v es hp hs ho => those_two w1 B0 v a b es hp hs ho ha hb)
  clear h k
  go_enter Tryd.func59, Tryd.ntmps59
  go_wp2_with (go_at_call 76; refine hed.mono ?_; clear hed; rintro e w1 ⟨v, es, rfl, hp, hs, ho, hb⟩)
  have hth := HH.out w1 _ v es hp hs ho
  have hb1 := below_and hb (below_al (Below.refl _ _) _)
  have HB := Lib.hid hb1
  clear hp hs ho hb hb1
  go_wp2_with (go_at_call 75; refine hth.mono ?_; clear hth; rintro e w2 ⟨v2, rfl, ho2, hb2⟩)
  go_ret
  exact ⟨v2, rfl, ⟨Joins.ownsRow_le ho2.1 HB.out.size, ho2.2⟩, below_and hb2 HB.out⟩
theorem setOK_len : ∀ {l : List Rg}, SetOK l → ∀ (m : Int), (∀ x ∈ l, m ≤ x.lo) → m ≤ 1114112 → (l.length : Int) ≤ 1114112 - m
  | [], _, m, _, hm => by simp; omega
  | x :: l, h, m, hx, _ => by
    obtain ⟨h1, h2⟩ := h
    obtain ⟨p1, p2⟩ := List.pairwise_cons.1 h2
    obtain ⟨o0, o1, o2⟩ := h1 x (by simp)
    have h9 := hx x (by simp)
    have := setOK_len (l := l) ⟨fun y hy => h1 y (by simp [hy]), p2⟩ (x.hi + 1) (fun y hy => by have := p1 y hy; omega) (by omega)
    rw [List.length_cons]; omega
theorem set2_len (is : Int → Bool) (ls : List (List Rg)) : (setOf2 is ls).length ≤ 2000000 := by
  have h := setOf2_ok is ls
  have := setOK_len h 0 (fun x hx => (h.1 x hx).1) (by omega)
  omega
theorem norm_len (ls : List (List Rg)) : (normOf ls).length ≤ 2000000 := set2_len _ ls
theorem ownR_arr {w : World} {base : Nat} {v : Value} {l : List Rg} (h : OwnR w base v l) : ∃ A c, v = .slice A l.length c ∧ l.length ≤ c ∧ c ≤ maxLen ∧ Arr (fun k => base ≤ k ∧ k < w.heap.size ∧ ∃ cs fr, w.heap[k]? = some (.cells cs 66 fr)) w 2 RgC A l := by
  have h5 := h
  obtain ⟨A, c, rfl, h1, h2⟩ := Owns.shape h
  rw [List.length_map] at h1 ⊢
  refine ⟨A, c, rfl, h1, h2, Owns.arr (css := l.map rgC) (xs := l) (show Owns _ _ _ _ _ _ from (by have h6 := h5; unfold OwnR at h6; simpa using h6)) (by simp) (fun i x cc hi hc => by
    rw [List.getElem?_map, hi] at hc; simpa [RgC, rgC] using hc.symm) (fun a ha => ?_)⟩
  subst ha
  obtain ⟨k1, k2⟩ := Owns.lt h5 a.block rfl
  obtain ⟨cs, fz, hc⟩ := Lib.ownsRow_kind h5.1 a.block rfl
  exact ⟨k1, k2, cs, _, hc⟩
set_option maxHeartbeats 1000000 in
theorem meet_any (ok ok2 : Nat → Prop) (w : World) (A B : Option Addr) (c d : Nat) (a b : List Rg) (h : Arr ok w 2 RgC A a) (k : Arr ok2 w 2 RgC B b) (ha : a.length ≤ 1000000000) (hb : b.length ≤ 1000000000) :
    Calls Tryd.prog 58 #[.slice A a.length c, .slice B b.length d] w (ListPost (meetOf a b) w) := by
  have hn1 := norm_of ok w A c a h ha
  have hn2 := fun (W : World) (hW : Below w.heap.size w W) => norm_of (fun _ => True) W B d b (k.move (fun x hx hlt => ⟨hW.block x hlt, trivial⟩) (by omega)) hb
  have HH := Lib.hid (fun w1 B0 v es hp hs ho => those_twoM w1 B0 v (normOf [a]) (normOf [b]) es hp hs ho (by have := norm_len [a]; omega) (by have := norm_len [b]; omega))
  have HM := Lib.hid (show meetOf a b = setOf2 (fun n => decide (n = 2)) [normOf [a], normOf [b]] from rfl)
  have la := norm_len [a]
  have lb := norm_len [b]
  generalize meetOf a b = mm at *
  generalize hna : normOf [a] = na at *
  generalize hnb : normOf [b] = nb at *
  have HN := Lib.hid (And.intro hna hnb)
  clear h k hna hnb ha hb
  go_enter Tryd.func58, Tryd.ntmps58
  go_wp2_with fail
  refine hn1.mono ?_
  clear hn1
  rintro e w1 ⟨v1, rfl, ho1, hb1⟩
  rw [HN.out.1] at ho1
  dsimp only
  obtain ⟨A1, c1, rfl, _, _, r1⟩ := ownR_arr ho1
  have hn2 := hn2 w1 hb1
  have H1 := Lib.hid (And.intro r1 hb1)
  clear ho1 hb1 r1
  go_wp2_with fail
  refine hn2.mono ?_
  clear hn2
  rintro e w2 ⟨v2, rfl, ho2, hb2⟩
  rw [HN.out.2] at ho2
  dsimp only
  obtain ⟨A2, c2, rfl, _, _, r2⟩ := ownR_arr ho2
  have hed := edges_any _ _ _ 2 [na, nb] (arr_two (c := c1) (d := c2) (H1.out.1.move (ok' := fun _ => True) (fun x hx hlt => ⟨hb2.block x hlt, trivial⟩) (by omega)) r2) (by simp) (two_le2 (by omega) (by omega))
  have H2 := Lib.hid (below_and hb2 H1.out.2)
  clear ho2 hb2 r2
  go_wp2_with (go_at_call 76; refine hed.mono ?_; clear hed; rintro e w3 ⟨v, es, rfl, hp, hs, ho, hb⟩)
  have hth := HH.out w3 _ v es hp hs ho
  have hb1 := below_and hb (below_al H2.out _)
  have HB := Lib.hid hb1
  clear hp hs ho hb hb1
  go_wp2_with (go_at_call 75; refine hth.mono ?_; clear hth; rintro e w4 ⟨v4, rfl, ho4, hb4⟩)
  go_ret
  exact ⟨v4, rfl, by rw [HM.out]; exact ⟨Joins.ownsRow_le ho4.1 HB.out.size, ho4.2⟩, below_and hb4 HB.out⟩
end Go.Proofs.YthclpabmbhpohaaDoor
namespace Go.Proofs.YthclpabmbhpohaaDoor
open Go.RowKit Go.Maps
set_option linter.unusedVariables false
def un2 (a b : List Rg) : List Rg := normOf [a, b]
structure OnAt (W : World) (b : Nat) (ps : List Value) (s : Ow) : Prop where
  blk : W.heap[b]? = some (.cells ps.toArray 28 (0, 0))
  l : ∃ v, W.heap[b + 1]? = some (.cells #[v] 35 (0, 0)) ∧ Owns W (b + 6) 3 1 v (s.l.map i64C)
  all : ∃ A c, W.heap[b + 2]? = some (.cells #[.slice A s.all.length c] 61 (0, 0)) ∧ s.all.length ≤ c ∧ c ≤ maxLen ∧ Arr (fun k => b + 6 ≤ k ∧ TyB 66 W k) W 2 RgC A s.all
  map : IntsAt W (b + 3) s.seen.length s.seen
  seen : W.heap[b + 4]? = some (.cells #[.map (some (b + 3))] 116 (0, 0))
  mt : W.heap[b + 5]? = some (.cells #[.int .i64 s.mt] 3 (0, 0))
theorem OnAt.lt {W : World} {b : Nat} {ps : List Value} {s : Ow} (h : OnAt W b ps s) : b + 5 < W.heap.size := heap_lt h.mt
/-- Moves to a world where all of it, but what is told, stands. -/
theorem all_move {W W' : World} {b : Nat} {A : Option Addr} {l : List Rg} (h : Arr (fun k => b + 6 ≤ k ∧ TyB 66 W k) W 2 RgC A l) (hm : ∀ k, b + 6 ≤ k → k < W.heap.size → TyB 66 W k → W'.heap[k]? = W.heap[k]?) :
    Arr (fun k => b + 6 ≤ k ∧ TyB 66 W' k) W' 2 RgC A l := h.move (fun k hk hlt => ⟨hm k hk.1 hlt hk.2, hk.1, hk.2.move (hm k hk.1 hlt hk.2)⟩) (by omega)
theorem OnAt.below {W W' : World} {b : Nat} {ps : List Value} {s : Ow} (h : OnAt W b ps s) (hb : Below W.heap.size W W') : OnAt W' b ps s := by
  obtain ⟨v, l1, l2⟩ := h.l
  obtain ⟨A, c, a1, a2, a3, a4⟩ := h.all
  exact ⟨(hb.block _ (heap_lt h.blk)).trans h.blk, ⟨v, (hb.block _ (heap_lt l1)).trans l1, l2.below hb⟩, ⟨A, c, (hb.block _ (heap_lt a1)).trans a1, a2, a3, all_move a4 (fun k _ hk _ => hb.block k hk)⟩, h.map.blk (hb.block _ h.map.lt), (hb.block _ (heap_lt h.seen)).trans h.seen, (hb.block _ (heap_lt h.mt)).trans h.mt⟩
theorem OnAt.mark {W W' : World} {b : Nat} {ps : List Value} {s : Ow} {pc : Int} (h : OnAt W b ps s) (hm : IntsAt W' (b + 3) (s.seen.length + 1) (pc :: s.seen)) (hg : W.grownBy W' (some (b + 3))) : OnAt W' b ps ⟨pc :: s.seen, s.l, s.all, s.mt⟩ := by
  obtain ⟨v, l1, l2⟩ := h.l
  obtain ⟨A, c, a1, a2, a3, a4⟩ := h.all
  exact ⟨(grown_ne0 hg (heap_lt h.blk) (by omega)).trans h.blk, ⟨v, (grown_ne0 hg (heap_lt l1) (by omega)).trans l1, owns_grown0 l2 hg (by omega)⟩, ⟨A, c, (grown_ne0 hg (heap_lt a1) (by omega)).trans a1, a2, a3, all_move a4 (fun k hk hlt _ => grown_ne0 hg hlt (by omega))⟩,
    hm, (grown_ne0 hg (heap_lt h.seen) (by omega)).trans h.seen, (grown_ne0 hg (heap_lt h.mt) (by omega)).trans h.mt⟩
theorem OnAt.setMt {W : World} {b : Nat} {ps : List Value} {s : Ow} (h : OnAt W b ps s) (m : Int) : OnAt (W.setCell ⟨b + 5, 0, none⟩ (.int .i64 m)) b ps ⟨s.seen, s.l, s.all, m⟩ := by
  obtain ⟨v, l1, l2⟩ := h.l
  obtain ⟨A, c, a1, a2, a3, a4⟩ := h.all
  exact ⟨(set_ne0 W _ (by show b ≠ b + 5; omega)).trans h.blk, ⟨v, (set_ne0 W _ (by show b + 1 ≠ b + 5; omega)).trans l1, owns_grown0 l2 (grown_set0 W (b + 5) 0 _) (by omega)⟩, ⟨A, c, (set_ne0 W _ (by show b + 2 ≠ b + 5; omega)).trans a1, a2, a3, all_move a4 (fun k hk hlt _ => set_ne0 W _ (by show k ≠ b + 5; omega))⟩,
    h.map.blk (set_ne0 W _ (by show b + 3 ≠ b + 5; omega)), (set_ne0 W _ (by show b + 4 ≠ b + 5; omega)).trans h.seen, by have := heap_set0 h.mt 0 (.int .i64 m); simpa using this⟩
theorem OnAt.setAll {W : World} {b B : Nat} {ps : List Value} {s : Ow} {v : Value} {l : List Rg} (h : OnAt W b ps s) (ho : OwnR W B v l) (hB : b + 6 ≤ B) : OnAt (W.setCell ⟨b + 2, 0, none⟩ v) b ps ⟨s.seen, s.l, l, s.mt⟩ := by
  obtain ⟨u, l1, l2⟩ := h.l
  obtain ⟨A, c, a1, _⟩ := h.all
  obtain ⟨A2, c2, rfl, k1, k2, k3⟩ := ownR_arr ho
  refine ⟨(set_ne0 W _ (by show b ≠ b + 2; omega)).trans h.blk, ⟨u, (set_ne0 W _ (by show b + 1 ≠ b + 2; omega)).trans l1, owns_grown0 l2 (grown_set0 W (b + 2) 0 _) (by omega)⟩, ⟨A2, c2, by have := heap_set0 a1 0 (.slice A2 l.length c2); simpa using this, k1, k2, ?_⟩,
    h.map.blk (set_ne0 W _ (by show b + 3 ≠ b + 2; omega)), (set_ne0 W _ (by show b + 4 ≠ b + 2; omega)).trans h.seen, (set_ne0 W _ (by show b + 5 ≠ b + 2; omega)).trans h.mt⟩
  exact k3.move (fun k hk hlt => ⟨set_ne0 W _ (by show k ≠ b + 2; omega), by omega, TyB.move hk.2.2 (set_ne0 W _ (by show k ≠ b + 2; omega))⟩) (by omega)
/-- What an append to the list, and the store back, leave. -/
theorem OnAt.setL {W W' : World} {b : Nat} {ps : List Value} {s : Ow} {v v' : Value} {x : Int} (h : OnAt W b ps s) (hv : W.heap[b + 1]? = some (.cells #[v] 35 (0, 0))) (ho : Owns W (b + 6) 3 1 v (s.l.map i64C)) (hown : Owns W' (b + 6) 3 1 v' (s.l.map i64C ++ [i64C x])) (hg : W.grownBy W' v.ownBlock) :
    OnAt (W'.setCell ⟨b + 1, 0, none⟩ v') b ps ⟨s.seen, s.l ++ [x], s.all, s.mt⟩ ∧ (∀ T cs fr k, W.heap[k]? = some (.cells cs T fr) → (k < b + 6 ∨ T ≠ 3) → W'.heap[k]? = W.heap[k]?) := by
  obtain ⟨A, c, a1, a2, a3, a4⟩ := h.all
  have key : ∀ k, k < W.heap.size → (k < b + 6 ∨ ¬ TyB 3 W k) → W'.heap[k]? = W.heap[k]? := fun k hk hc => hg.block k hk fun e => by
    rcases hc with hc | hc
    · have := (ho.lt k e.symm).1; omega
    · exact hc (own_ty ho e.symm)
  refine ⟨⟨?_, ?_, ?_, ?_, ?_, ?_⟩, fun T cs fr k hk hc => key k (heap_lt hk) (hc.imp id fun hne ht => ht.ne hk (fun e => hne e.symm) rfl)⟩
  · exact (set_ne0 W' _ (by show b ≠ b + 1; omega)).trans ((key b (heap_lt h.blk) (.inl (by omega))).trans h.blk)
  · refine ⟨v', ?_, ?_⟩
    · have := heap_set0 ((key (b + 1) (heap_lt hv) (.inl (by omega))).trans hv) 0 v'; simpa using this
    · rw [List.map_append]; exact owns_grown0 hown (grown_set0 W' (b + 1) 0 v') (by omega)
  · refine ⟨A, c, (set_ne0 W' _ (by show b + 2 ≠ b + 1; omega)).trans ((key (b + 2) (heap_lt a1) (.inl (by omega))).trans a1), a2, a3, all_move a4 (fun k hk hlt ht => (set_ne0 W' _ (by show k ≠ b + 1; omega)).trans (key k hlt (.inr fun ht2 => by
      obtain ⟨cs, fr, hc⟩ := ht2
      exact ht.ne hc (by decide) rfl)))⟩
  · exact h.map.blk ((set_ne0 W' _ (by show b + 3 ≠ b + 1; omega)).trans (key (b + 3) h.map.lt (.inl (by omega))))
  · exact (set_ne0 W' _ (by show b + 4 ≠ b + 1; omega)).trans ((key (b + 4) (heap_lt h.seen) (.inl (by omega))).trans h.seen)
  · exact (set_ne0 W' _ (by show b + 5 ≠ b + 1; omega)).trans ((key (b + 5) (heap_lt h.mt) (.inl (by omega))).trans h.mt)
structure FitO (p : Pg) (s : Ow) : Prop where
  few : s.seen.length + leftN p.ins.length s.seen ≤ p.ins.length
  l : s.l.length ≤ s.seen.length
  m0 : 0 ≤ s.mt
  m1 : s.mt ≤ s.seen.length
  all : s.all.length ≤ 2000000
theorem onW_fit (p : Pg) (pc : Int) (s : Ow) (hp : Pc p pc) (h : FitO p s) : FitO p (onW meetB un2 p pc s).2 := by
  obtain ⟨h1, h2, h3, h4, h5⟩ := h
  unfold onW
  by_cases c0 : s.seen.contains pc = true
  · rw [if_pos c0]; exact ⟨h1, h2, h3, h4, h5⟩
  · rw [if_neg c0]
    have hf := fit_cons hp (by simpa using c0) h1
    have hlc : (pc :: s.seen).length = s.seen.length + 1 := rfl
    split
    · exact ⟨hf, by simp; omega, by simp; omega, by simp; omega, h5⟩
    · split
      · split
        · exact ⟨hf, by simp; omega, h3, by simp; omega, h5⟩
        · exact ⟨hf, by simp; omega, h3, by simp; omega, norm_len _⟩
      · exact ⟨hf, by simp; omega, h3, by simp; omega, h5⟩
structure OnCells (W : World) (b : Nat) (v : Value) (s : Ow) (A2 : Option Addr) (k2 : Nat) : Prop where
  c0 : W.cell? ⟨b, 0, none⟩ = some v
  c2 : W.cell? ⟨b + 2, 0, none⟩ = some (.slice A2 s.all.length k2)
  f2 : W.frozen? ⟨b + 2, 0, none⟩ = false
  c4 : W.cell? ⟨b + 4, 0, none⟩ = some (.map (some (b + 3)))
  c5 : W.cell? ⟨b + 5, 0, none⟩ = some (.int .i64 s.mt)
  f5 : W.frozen? ⟨b + 5, 0, none⟩ = false
  f1 : W.frozen? ⟨b + 1, 0, none⟩ = false
  n0 : b < W.heap.size
  n1 : b + 1 < W.heap.size
  n2 : b + 2 < W.heap.size
  n4 : b + 4 < W.heap.size
  n5 : b + 5 < W.heap.size
  h2 : s.all.length ≤ k2
  m2 : k2 ≤ maxLen
  arr : Hid (Arr (fun k => b + 6 ≤ k ∧ TyB 66 W k) W 2 RgC A2 s.all)
theorem OnAt.cells {W : World} {b : Nat} {v u z : Value} {s : Ow} (h : OnAt W b [v, u, z] s) : ∃ A2 k2, OnCells W b v s A2 k2 := by
  obtain ⟨v1, l1, l2⟩ := h.l
  obtain ⟨A, c, a1, a2, a3, a4⟩ := h.all
  exact ⟨A, c, by rw [cell_of_blk h.blk]; rfl, by rw [cell_of_blk a1]; rfl, by simp [World.frozen?, a1], by rw [cell_of_blk h.seen]; rfl, by rw [cell_of_blk h.mt]; rfl, by simp [World.frozen?, h.mt], by simp [World.frozen?, l1], heap_lt h.blk, heap_lt l1, heap_lt a1, heap_lt h.seen, heap_lt h.mt, a2, a3, Lib.hid a4⟩
def OnPost (p : Pg) (b : Nat) (ps : List Value) (r : Bool × Ow) (W : World) (e : Ending) (W' : World) : Prop := e = .returned (.bool r.1) ∧ OnAt W' b ps r.2 ∧ Kept b 6 3 W W'
set_option maxRecDepth 100000 in
set_option maxHeartbeats 4000000 in
theorem on1_seen (p : Pg) (b : Nat) (ps : List Value) (w0 : World) (hpg : PgC (fun k => k < b) w0 p ps) (hb0 : b ≤ w0.heap.size) (hN : p.ins.length ≤ 100000) (hset : ∀ x ∈ p.ins, x.set.length ≤ 1000000000)
    (i : Nat) (s : Ow) (W : World) (h : OnAt W b ps s) (hB : Below b w0 W) (hi : i < p.ins.length) (hf : FitO p s) (hs : s.seen.contains (i : Int) = true) :
    Calls Tryd.prog 57 #[.int .i64 i, .pointer (some ⟨b + 4, 0, none⟩), .pointer (some ⟨b, 0, none⟩), .pointer (some ⟨b + 5, 0, none⟩), .pointer (some ⟨b + 2, 0, none⟩), .pointer (some ⟨b + 1, 0, none⟩)] W (OnPost p b ps (onW meetB un2 p i s) W) := by
  have hwf : (Lit.int .i64 (i : Int)).wf = true := wf_small (by omega) (by omega)
  have hp : Pc p i := ⟨by omega, by omega⟩
  have hlk := ints_look h.map i hwf
  have hc4 : W.cell? ⟨b + 4, 0, none⟩ = some (.map (some (b + 3))) := by rw [cell_of_blk h.seen]; rfl
  have e : onW meetB un2 p i s = (false, s) := by unfold onW; rw [if_pos hs]
  rw [e]
  rw [hs] at hlk
  have HA := Lib.hid h
  clear h hpg hB e hs hf hset
  go_enter Tryd.func57, Tryd.ntmps57
  go_wp2_with fail
  go_ret
  exact ⟨rfl, HA.out, Kept.refl _ _ _ _⟩
set_option maxRecDepth 100000 in
set_option maxHeartbeats 4000000 in
theorem on1_match (p : Pg) (b : Nat) (ps : List Value) (w0 : World) (hpg : PgC (fun k => k < b) w0 p ps) (hb0 : b ≤ w0.heap.size) (hN : p.ins.length ≤ 100000) (hset : ∀ x ∈ p.ins, x.set.length ≤ 1000000000)
    (i : Nat) (s : Ow) (W : World) (h : OnAt W b ps s) (hB : Below b w0 W) (hi : i < p.ins.length) (hf : FitO p s) (hs : s.seen.contains (i : Int) = false) (ho : (p.get i).op = 1) :
    Calls Tryd.prog 57 #[.int .i64 i, .pointer (some ⟨b + 4, 0, none⟩), .pointer (some ⟨b, 0, none⟩), .pointer (some ⟨b + 5, 0, none⟩), .pointer (some ⟨b + 2, 0, none⟩), .pointer (some ⟨b + 1, 0, none⟩)] W (OnPost p b ps (onW meetB un2 p i s) W) := by
  have hwf : (Lit.int .i64 (i : Int)).wf = true := wf_small (by omega) (by omega)
  have hp : Pc p i := ⟨by omega, by omega⟩
  have hlk := ints_look h.map i hwf
  have hc4 : W.cell? ⟨b + 4, 0, none⟩ = some (.map (some (b + 3))) := by rw [cell_of_blk h.seen]; rfl
  rw [hs] at hlk
  have hfit1 := fit_cons hp hs hf.few
  obtain ⟨ad, c, B3, d3, rfl, hc1, hcm, hd3, hd3m, hadb, hins⟩ := ins_at hpg hb0 i hi
  have hmx : s.seen.length < maxLen := by have := hf.few; unfold maxLen; omega
  have hsx := hset _ (List.getElem_mem hi)
  have hge := get_eq p i hi
  have hlN : s.l.length ≤ 100000 := by have := hf.few; have := hf.l; omega
  have hmN : s.mt ≤ 100000 := by have := hf.few; have := hf.m1; omega
  have hm0 := hf.m0
  have hal := hf.all
  have HA := Lib.hid (And.intro h (And.intro hB (And.intro hins (And.intro hfit1 hf))))
  clear h hB hins hfit1 hpg hset hf
  have e : onW meetB un2 p i s = (decide (s.mt + 1 < 2), ⟨(i : Int) :: s.seen, s.l, s.all, s.mt + 1⟩) := by unfold onW; rw [if_neg (by rw [hs]; simp)]; rw [if_pos ho]
  rw [e]
  clear e hs
  try rw [hge]
  rw [hge] at ho
  clear hge
  generalize p.ins[i] = x at *
  have o1 : (x.op == 1) = true := by rw [ho]; rfl
  have o2 : (x.op == 2) = false := by rw [ho]; rfl
  have HO := Lib.hid ho
  clear ho
  go_enter Tryd.func57, Tryd.ntmps57
  go_wp2_with (at_mapUpdate; refine wpList_ints rfl _ _ _ rfl (b + 3) _ _ rfl HA.out.1.map hmx i hwf rfl rfl ?_; intro w1 hm1 hg1; have h1 := HA.out.1.mark hm1 hg1; have hK1 := (Kept.refl b 6 3 W).grown hg1 (fun k e => by cases e; exact ⟨by omega, .inl (by omega)⟩); have hB1 := HA.out.2.1.trans (hK1.below (by have := HA.out.1.lt; omega)); obtain ⟨ha, g0, g1, g2, g3, g4⟩ := HA.out.2.2.1 w1 hB1; obtain ⟨A2, k2, q0, q2, f2, q4, q5, f5, f1, n0, n1, n2, n4, n5, hk2, mk2, AR⟩ := h1.cells; have H1 := Lib.hid (And.intro h1 (And.intro hK1 (And.intro hB1 ha))); clear h1 hK1 hB1 ha hm1 hg1)
  all_goals
    go_ret
    exact ⟨ret_bool (by simp), (H1.out.1.setMt (s.mt + 1)).below (below_al (Below.refl _ _) _), (H1.out.2.1.set (a := ⟨b + 5, 0, none⟩) (by show b ≤ b + 5; omega) (by show b + 5 < b + 6; omega) _).alloc _⟩
set_option maxRecDepth 100000 in
set_option maxHeartbeats 4000000 in
theorem on1_rest (p : Pg) (b : Nat) (ps : List Value) (w0 : World) (hpg : PgC (fun k => k < b) w0 p ps) (hb0 : b ≤ w0.heap.size) (hN : p.ins.length ≤ 100000) (hset : ∀ x ∈ p.ins, x.set.length ≤ 1000000000)
    (i : Nat) (s : Ow) (W : World) (h : OnAt W b ps s) (hB : Below b w0 W) (hi : i < p.ins.length) (hf : FitO p s) (hs : s.seen.contains (i : Int) = false) (ho : (p.get i).op ≠ 1 ∧ (p.get i).op ≠ 2) :
    Calls Tryd.prog 57 #[.int .i64 i, .pointer (some ⟨b + 4, 0, none⟩), .pointer (some ⟨b, 0, none⟩), .pointer (some ⟨b + 5, 0, none⟩), .pointer (some ⟨b + 2, 0, none⟩), .pointer (some ⟨b + 1, 0, none⟩)] W (OnPost p b ps (onW meetB un2 p i s) W) := by
  have hwf : (Lit.int .i64 (i : Int)).wf = true := wf_small (by omega) (by omega)
  have hp : Pc p i := ⟨by omega, by omega⟩
  have hlk := ints_look h.map i hwf
  have hc4 : W.cell? ⟨b + 4, 0, none⟩ = some (.map (some (b + 3))) := by rw [cell_of_blk h.seen]; rfl
  rw [hs] at hlk
  have hfit1 := fit_cons hp hs hf.few
  obtain ⟨ad, c, B3, d3, rfl, hc1, hcm, hd3, hd3m, hadb, hins⟩ := ins_at hpg hb0 i hi
  have hmx : s.seen.length < maxLen := by have := hf.few; unfold maxLen; omega
  have hsx := hset _ (List.getElem_mem hi)
  have hge := get_eq p i hi
  have hlN : s.l.length ≤ 100000 := by have := hf.few; have := hf.l; omega
  have hmN : s.mt ≤ 100000 := by have := hf.few; have := hf.m1; omega
  have hm0 := hf.m0
  have hal := hf.all
  have HA := Lib.hid (And.intro h (And.intro hB (And.intro hins (And.intro hfit1 hf))))
  clear h hB hins hfit1 hpg hset hf
  have e : onW meetB un2 p i s = (decide (s.mt < 2), ⟨(i : Int) :: s.seen, s.l, s.all, s.mt⟩) := by unfold onW; rw [if_neg (by rw [hs]; simp)]; rw [if_neg ho.1, if_neg ho.2]
  rw [e]
  clear e hs
  try rw [hge]
  rw [hge] at ho
  clear hge
  generalize p.ins[i] = x at *
  have o1 : (x.op == 1) = false := by simp; omega
  have o2 : (x.op == 2) = false := by simp; omega
  have HO := Lib.hid ho
  clear ho
  go_enter Tryd.func57, Tryd.ntmps57
  go_wp2_with (at_mapUpdate; refine wpList_ints rfl _ _ _ rfl (b + 3) _ _ rfl HA.out.1.map hmx i hwf rfl rfl ?_; intro w1 hm1 hg1; have h1 := HA.out.1.mark hm1 hg1; have hK1 := (Kept.refl b 6 3 W).grown hg1 (fun k e => by cases e; exact ⟨by omega, .inl (by omega)⟩); have hB1 := HA.out.2.1.trans (hK1.below (by have := HA.out.1.lt; omega)); obtain ⟨ha, g0, g1, g2, g3, g4⟩ := HA.out.2.2.1 w1 hB1; obtain ⟨A2, k2, q0, q2, f2, q4, q5, f5, f1, n0, n1, n2, n4, n5, hk2, mk2, AR⟩ := h1.cells; have H1 := Lib.hid (And.intro h1 (And.intro hK1 (And.intro hB1 ha))); clear h1 hK1 hB1 ha hm1 hg1)
  all_goals
    go_ret
    exact ⟨ret_bool (by simp), H1.out.1.below (below_al (Below.refl _ _) _), H1.out.2.1.alloc _⟩
set_option maxRecDepth 100000 in
set_option maxHeartbeats 4000000 in
theorem on1_meets (p : Pg) (b : Nat) (ps : List Value) (w0 : World) (hpg : PgC (fun k => k < b) w0 p ps) (hb0 : b ≤ w0.heap.size) (hN : p.ins.length ≤ 100000) (hset : ∀ x ∈ p.ins, x.set.length ≤ 1000000000)
    (i : Nat) (s : Ow) (W : World) (h : OnAt W b ps s) (hB : Below b w0 W) (hi : i < p.ins.length) (hf : FitO p s) (hs : s.seen.contains (i : Int) = false) (ho : (p.get i).op = 2) (hmm : meetB s.all (p.get i).set = true) :
    Calls Tryd.prog 57 #[.int .i64 i, .pointer (some ⟨b + 4, 0, none⟩), .pointer (some ⟨b, 0, none⟩), .pointer (some ⟨b + 5, 0, none⟩), .pointer (some ⟨b + 2, 0, none⟩), .pointer (some ⟨b + 1, 0, none⟩)] W (OnPost p b ps (onW meetB un2 p i s) W) := by
  have hwf : (Lit.int .i64 (i : Int)).wf = true := wf_small (by omega) (by omega)
  have hp : Pc p i := ⟨by omega, by omega⟩
  have hlk := ints_look h.map i hwf
  have hc4 : W.cell? ⟨b + 4, 0, none⟩ = some (.map (some (b + 3))) := by rw [cell_of_blk h.seen]; rfl
  rw [hs] at hlk
  have hfit1 := fit_cons hp hs hf.few
  obtain ⟨ad, c, B3, d3, rfl, hc1, hcm, hd3, hd3m, hadb, hins⟩ := ins_at hpg hb0 i hi
  have hmx : s.seen.length < maxLen := by have := hf.few; unfold maxLen; omega
  have hsx := hset _ (List.getElem_mem hi)
  have hge := get_eq p i hi
  have hlN : s.l.length ≤ 100000 := by have := hf.few; have := hf.l; omega
  have hmN : s.mt ≤ 100000 := by have := hf.few; have := hf.m1; omega
  have hm0 := hf.m0
  have hal := hf.all
  have HA := Lib.hid (And.intro h (And.intro hB (And.intro hins (And.intro hfit1 hf))))
  clear h hB hins hfit1 hpg hset hf
  have e : onW meetB un2 p i s = (false, ⟨(i : Int) :: s.seen, s.l, s.all, s.mt⟩) := by unfold onW; rw [if_neg (by rw [hs]; simp)]; rw [if_neg (by omega), if_pos ho, if_pos hmm]
  rw [e]
  clear e hs
  try rw [hge]
  rw [hge] at ho
  rw [hge] at hmm
  clear hge
  generalize p.ins[i] = x at *
  have o1 : (x.op == 1) = false := by rw [ho]; rfl
  have o2 : (x.op == 2) = true := by rw [ho]; rfl
  have HO := Lib.hid ho
  clear ho
  have hml : decide (0 < (meetOf s.all x.set).length) = true := hmm
  clear hmm
  go_enter Tryd.func57, Tryd.ntmps57
  go_wp2_with (at_mapUpdate; refine wpList_ints rfl _ _ _ rfl (b + 3) _ _ rfl HA.out.1.map hmx i hwf rfl rfl ?_; intro w1 hm1 hg1; have h1 := HA.out.1.mark hm1 hg1; have hK1 := (Kept.refl b 6 3 W).grown hg1 (fun k e => by cases e; exact ⟨by omega, .inl (by omega)⟩); have hB1 := HA.out.2.1.trans (hK1.below (by have := HA.out.1.lt; omega)); obtain ⟨ha, g0, g1, g2, g3, g4⟩ := HA.out.2.2.1 w1 hB1; obtain ⟨A2, k2, q0, q2, f2, q4, q5, f5, f1, n0, n1, n2, n4, n5, hk2, mk2, AR⟩ := h1.cells; have H1 := Lib.hid (And.intro h1 (And.intro hK1 (And.intro hB1 ha))); clear h1 hK1 hB1 ha hm1 hg1)
  have hW2 : Below w1.heap.size w1 (w1.alloc (.cells #[.int .i64 x.op, .int .i64 x.out, .int .i64 x.arg, .slice B3 x.set.length d3, .int .i64 x.at_] 64)) := below_al (Below.refl _ _) _
  have hmt := meet_any _ _ (w1.alloc (.cells #[.int .i64 x.op, .int .i64 x.out, .int .i64 x.arg, .slice B3 x.set.length d3, .int .i64 x.at_] 64)) A2 B3 k2 d3 s.all x.set (AR.out.move (ok' := fun _ => True) (fun k hk hlt => ⟨hW2.block k hlt, trivial⟩) (by omega)) (H1.out.2.2.2.move (ok' := fun _ => True) (fun k hk hlt => ⟨hW2.block k hlt, trivial⟩) (by omega)) (by omega) hsx
  clear hW2
  refine hmt.mono ?_
  clear hmt
  rintro e w2 ⟨v2, rfl, ho2, hb2⟩
  dsimp only
  obtain ⟨A4, c4, rfl, _, _, _⟩ := ownR_arr ho2
  have h2 := (H1.out.1.below (below_al (Below.refl _ _) _)).below hb2
  have hbx := (hb2.block w1.heap.size (by simp)).trans (heap_new1 w1 _)
  have hBB : Below w1.heap.size w1 w2 := (below_al (Below.refl _ _) _).trans (hb2.mono (by simp))
  have H2 := Lib.hid (And.intro h2 hBB)
  clear ho2 h2 hBB hbx hb2 q0 q2 q4 q5 f1 f2 f5 n0 n1 n2 n4 n5 g0 g1 g2 g3 g4
  go_wp2_with fail
  go_ret
  exact ⟨rfl, H2.out.1, H1.out.2.1.trans (.of_below H2.out.2)⟩
set_option maxRecDepth 100000 in
set_option maxHeartbeats 4000000 in
theorem on1_set (p : Pg) (b : Nat) (ps : List Value) (w0 : World) (hpg : PgC (fun k => k < b) w0 p ps) (hb0 : b ≤ w0.heap.size) (hN : p.ins.length ≤ 100000) (hset : ∀ x ∈ p.ins, x.set.length ≤ 1000000000)
    (i : Nat) (s : Ow) (W : World) (h : OnAt W b ps s) (hB : Below b w0 W) (hi : i < p.ins.length) (hf : FitO p s) (hs : s.seen.contains (i : Int) = false) (ho : (p.get i).op = 2) (hmm : meetB s.all (p.get i).set = false) :
    Calls Tryd.prog 57 #[.int .i64 i, .pointer (some ⟨b + 4, 0, none⟩), .pointer (some ⟨b, 0, none⟩), .pointer (some ⟨b + 5, 0, none⟩), .pointer (some ⟨b + 2, 0, none⟩), .pointer (some ⟨b + 1, 0, none⟩)] W (OnPost p b ps (onW meetB un2 p i s) W) := by
  have hwf : (Lit.int .i64 (i : Int)).wf = true := wf_small (by omega) (by omega)
  have hp : Pc p i := ⟨by omega, by omega⟩
  have hlk := ints_look h.map i hwf
  have hc4 : W.cell? ⟨b + 4, 0, none⟩ = some (.map (some (b + 3))) := by rw [cell_of_blk h.seen]; rfl
  rw [hs] at hlk
  have hfit1 := fit_cons hp hs hf.few
  obtain ⟨ad, c, B3, d3, rfl, hc1, hcm, hd3, hd3m, hadb, hins⟩ := ins_at hpg hb0 i hi
  have hmx : s.seen.length < maxLen := by have := hf.few; unfold maxLen; omega
  have hsx := hset _ (List.getElem_mem hi)
  have hge := get_eq p i hi
  have hlN : s.l.length ≤ 100000 := by have := hf.few; have := hf.l; omega
  have hmN : s.mt ≤ 100000 := by have := hf.few; have := hf.m1; omega
  have hm0 := hf.m0
  have hal := hf.all
  have HA := Lib.hid (And.intro h (And.intro hB (And.intro hins (And.intro hfit1 hf))))
  clear h hB hins hfit1 hpg hset hf
  have e : onW meetB un2 p i s = (decide (s.mt < 2), ⟨(i : Int) :: s.seen, s.l ++ [(i : Int)], un2 s.all (p.get i).set, s.mt⟩) := by unfold onW; rw [if_neg (by rw [hs]; simp)]; rw [if_neg (by omega), if_pos ho, if_neg (by rw [hmm]; simp)]
  rw [e]
  clear e hs
  try rw [hge]
  rw [hge] at ho
  rw [hge] at hmm
  clear hge
  generalize p.ins[i] = x at *
  have o1 : (x.op == 1) = false := by rw [ho]; rfl
  have o2 : (x.op == 2) = true := by rw [ho]; rfl
  have HO := Lib.hid ho
  clear ho
  have hml : decide (0 < (meetOf s.all x.set).length) = false := hmm
  clear hmm
  go_enter Tryd.func57, Tryd.ntmps57
  go_wp2_with (at_mapUpdate; refine wpList_ints rfl _ _ _ rfl (b + 3) _ _ rfl HA.out.1.map hmx i hwf rfl rfl ?_; intro w1 hm1 hg1; have h1 := HA.out.1.mark hm1 hg1; have hK1 := (Kept.refl b 6 3 W).grown hg1 (fun k e => by cases e; exact ⟨by omega, .inl (by omega)⟩); have hB1 := HA.out.2.1.trans (hK1.below (by have := HA.out.1.lt; omega)); obtain ⟨ha, g0, g1, g2, g3, g4⟩ := HA.out.2.2.1 w1 hB1; obtain ⟨A2, k2, q0, q2, f2, q4, q5, f5, f1, n0, n1, n2, n4, n5, hk2, mk2, AR⟩ := h1.cells; have H1 := Lib.hid (And.intro h1 (And.intro hK1 (And.intro hB1 ha))); clear h1 hK1 hB1 ha hm1 hg1)
  have hW2 : Below w1.heap.size w1 (w1.alloc (.cells #[.int .i64 x.op, .int .i64 x.out, .int .i64 x.arg, .slice B3 x.set.length d3, .int .i64 x.at_] 64)) := below_al (Below.refl _ _) _
  have hmt := meet_any _ _ (w1.alloc (.cells #[.int .i64 x.op, .int .i64 x.out, .int .i64 x.arg, .slice B3 x.set.length d3, .int .i64 x.at_] 64)) A2 B3 k2 d3 s.all x.set (AR.out.move (ok' := fun _ => True) (fun k hk hlt => ⟨hW2.block k hlt, trivial⟩) (by omega)) (H1.out.2.2.2.move (ok' := fun _ => True) (fun k hk hlt => ⟨hW2.block k hlt, trivial⟩) (by omega)) (by omega) hsx
  clear hW2
  refine hmt.mono ?_
  clear hmt
  rintro e w2 ⟨v2, rfl, ho2, hb2⟩
  dsimp only
  obtain ⟨A4, c4, rfl, _, _, _⟩ := ownR_arr ho2
  have h2 := (H1.out.1.below (below_al (Below.refl _ _) _)).below hb2
  have hbx := (hb2.block w1.heap.size (by simp)).trans (heap_new1 w1 _)
  have hBB : Below w1.heap.size w1 w2 := (below_al (Below.refl _ _) _).trans (hb2.mono (by simp))
  have hun := union_any _ _ w2 A2 B3 k2 d3 s.all x.set (AR.out.move (ok' := fun _ => True) (fun k hk hlt => ⟨hBB.block k hlt, trivial⟩) (by omega)) (H1.out.2.2.2.move (ok' := fun _ => True) (fun k hk hlt => ⟨hBB.block k hlt, trivial⟩) (by omega)) (by omega) hsx
  obtain ⟨x0, x1, x2, x3, x4⟩ := cells5 hbx
  have nx := heap_lt hbx
  have q2' := q2
  have n2' := n2
  clear q0 q2 q4 q5 f1 f2 f5 n0 n1 n2 n4 n5 hk2 mk2 g0 g1 g2 g3 g4
  have q0 : w2.cell? ⟨b, 0, none⟩ = some (.slice (some ad) p.ins.length c) := by rw [cell_of_blk h2.blk]; rfl
  have q2 : w2.cell? ⟨b + 2, 0, none⟩ = some (.slice A2 s.all.length k2) := (World.cell?_of_block (hBB.block _ n2')).trans q2'
  have H2 := Lib.hid (And.intro h2 (And.intro hBB (And.intro q2' n2')))
  clear ho2 h2 hBB hbx hb2 q2' n2'
  go_wp2_with fail
  refine hun.mono ?_
  clear hun
  rintro e w3 ⟨v3, rfl, ho3, hb3⟩
  dsimp only
  have h2n : b + 6 ≤ w2.heap.size := by have := H2.out.1.lt; omega
  have h3 := H2.out.1.below hb3
  have hK3 : Kept b 6 3 W w3 := H1.out.2.1.trans (.of_below (H2.out.2.1.trans (hb3.mono H2.out.2.1.size)))
  clear q0 q2 x0 x1 x2 x3 x4 nx
  have fz2 : w3.frozen? ⟨b + 2, 0, none⟩ = false := by obtain ⟨A7, c7, a1, _⟩ := h3.all; simp [World.frozen?, a1]
  have cz2 : ∃ u, w3.cell? ⟨b + 2, 0, none⟩ = some u := by obtain ⟨A7, c7, a1, _⟩ := h3.all; exact ⟨_, by rw [cell_of_blk a1]; rfl⟩
  obtain ⟨u2, cz2⟩ := cz2
  have h4 := h3.setAll (l := normOf [s.all, x.set]) ho3 (by have := h2n; omega)
  have hK4 := hK3.set (a := ⟨b + 2, 0, none⟩) (by show b ≤ b + 2; omega) (by show b + 2 < b + 6; omega) v3
  obtain ⟨lv, l1, l2⟩ := h4.l
  have cl : (w3.setCell ⟨b + 2, 0, none⟩ v3).cell? ⟨b + 1, 0, none⟩ = some lv := by rw [cell_of_blk l1]; rfl
  have hsh := l2.shape
  obtain ⟨A8, c8, rfl, _, _⟩ := hsh
  rw [List.length_map] at l1 l2 cl
  obtain ⟨i0, hi0, hz0, hz1, hz2⟩ := info_parts infoI
  have K3 := Lib.hid (show (s.l.map i64C).length + 1 ≤ maxLen by rw [List.length_map]; unfold maxLen; omega)
  have K4 := Lib.hid (show ((s.l.map i64C).length + 1) * 8 ≤ 140737488355328 by rw [List.length_map]; omega)
  have nz := h4.lt
  have K5 := Lib.hid (show ∀ o : Obj, b + 6 ≤ ((w3.setCell ⟨b + 2, 0, none⟩ v3).alloc o).heap.size from fun o => by rw [World.size_alloc]; omega)
  have nz3 := h3.lt
  obtain ⟨A9, c9, hv9, _⟩ := ownR_arr ho3
  subst hv9
  have H4 := Lib.hid (And.intro h4 (And.intro hK4 (And.intro l1 l2)))
  clear h3 hK3 ho3 hb3 h4 hK4 l1 l2
  go_wp2_with (at_builtin; refine wpList_app1 rfl _ _ 35 rfl (b + 6) 3 i0 (.int .i64 0) 1 8 Tryd.underlying35 hi0 hz0 hz1 hz2 rfl (by decide) _ _ rfl (H4.out.2.2.2.alloc _) _ [.int .i64 (i : Int)] rfl rfl (heap_newX (by simp [World.setCell])) (one_i64 _) K3.out K4.out (K5.out _) ?_)
  intro v' w4 hown' hgrow
  have h5 := (H4.out.1.below (below_al (Below.refl _ _) (.cells #[.int .i64 (i : Int)] 3))).setL (x := (i : Int)) (v := .slice A8 s.l.length c8) ((Below.heap_alloc _ _ _ (heap_lt H4.out.2.2.1)).trans H4.out.2.2.1) (H4.out.2.2.2.alloc _) hown' hgrow
  have hK5 := Kept.app hgrow (H4.out.2.1.alloc _) (H4.out.2.2.2.alloc _) (by omega)
  have e1 := h5.2 _ _ _ (b + 1) ((Below.heap_alloc _ _ _ (heap_lt H4.out.2.2.1)).trans H4.out.2.2.1) (.inl (by omega))
  have hb4 := e1.trans ((Below.heap_alloc _ _ _ (heap_lt H4.out.2.2.1)).trans H4.out.2.2.1)
  have z1 : w4.cell? ⟨b + 1, 0, none⟩ = some (.slice A8 s.l.length c8) := by rw [cell_of_blk hb4]; rfl
  have zf := frozenOf hb4 0
  have zn := heap_lt hb4
  have z5 : (w4.setCell ⟨b + 1, 0, none⟩ v').cell? ⟨b + 5, 0, none⟩ = some (.int .i64 s.mt) := by rw [cell_of_blk h5.1.mt]; rfl
  have hown9 := hown'
  obtain ⟨A9', c9', rfl, _, _⟩ := Owns.shape hown9
  simp only [List.length_append, List.length_map, List.length_cons, List.length_nil, Nat.zero_add] at h5 z5
  have H5 := Lib.hid (And.intro h5.1 hK5)
  clear e1 h5 hb4 hK5 hown' hown9 hgrow
  go_wp2_with fail
  go_ret
  exact ⟨ret_bool (by simp), H5.out.1, H5.out.2.set (a := ⟨b + 1, 0, none⟩) (by show b ≤ b + 1; omega) (by show b + 1 < b + 6; omega) _⟩
end Go.Proofs.YthclpabmbhpohaaDoor
namespace Go.Proofs.YthclpabmbhpohaaDoor
open Go.RowKit Go.Maps
set_option linter.unusedVariables false
theorem on1_all (p : Pg) (b : Nat) (ps : List Value) (w0 : World) (hpg : PgC (fun k => k < b) w0 p ps) (hb0 : b ≤ w0.heap.size) (hN : p.ins.length ≤ 100000) (hset : ∀ x ∈ p.ins, x.set.length ≤ 1000000000)
    (i : Nat) (s : Ow) (W : World) (h : OnAt W b ps s) (hB : Below b w0 W) (hi : i < p.ins.length) (hf : FitO p s) :
    Calls Tryd.prog 57 #[.int .i64 i, .pointer (some ⟨b + 4, 0, none⟩), .pointer (some ⟨b, 0, none⟩), .pointer (some ⟨b + 5, 0, none⟩), .pointer (some ⟨b + 2, 0, none⟩), .pointer (some ⟨b + 1, 0, none⟩)] W (OnPost p b ps (onW meetB un2 p i s) W) := by
  by_cases hs : s.seen.contains (i : Int) = true
  · exact on1_seen p b ps w0 hpg hb0 hN hset i s W h hB hi hf hs
  have hs' : s.seen.contains (i : Int) = false := by simpa using hs
  by_cases c1 : (p.get i).op = 1
  · exact on1_match p b ps w0 hpg hb0 hN hset i s W h hB hi hf hs' c1
  by_cases c2 : (p.get i).op = 2
  · cases hm : meetB s.all (p.get i).set with
    | true => exact on1_meets p b ps w0 hpg hb0 hN hset i s W h hB hi hf hs' c2 hm
    | false => exact on1_set p b ps w0 hpg hb0 hN hset i s W h hB hi hf hs' c2 hm
  · exact on1_rest p b ps w0 hpg hb0 hN hset i s W h hB hi hf hs' ⟨c1, c2⟩
theorem waysW_fit (p : Pg) (hl : Leads p) : ∀ (n : Nat) (pc : Int) (s : Ow), Pc p pc → FitO p s → FitO p (waysW meetB un2 p n pc s).2
  | 0, _, s, _, h => h
  | n + 1, pc, s, hp, h => by
    have ih := waysW_fit p hl n
    have hx := hl pc hp
    have h1 := onW_fit p pc s hp h
    rw [waysW_new rfl rfl]
    by_cases c0 : (onW meetB un2 p pc s).1 = false
    · rw [if_pos c0]; exact h1
    rw [if_neg c0]
    by_cases c3 : (p.get pc).op = 3
    · rw [if_pos c3]
      have h2 := ih _ _ (hx.1 (by omega)) h1
      split
      · exact h2
      · exact ih _ _ (hx.2 c3) h2
    rw [if_neg c3]
    by_cases c4 : (p.get pc).op = 4 ∨ (p.get pc).op = 5
    · rw [if_pos c4]; exact ih _ _ (hx.1 (by omega)) h1
    rw [if_neg c4]; exact h1
theorem w_cases (x : In) : x.op = 3 ∨ x.op = 4 ∨ x.op = 5 ∨ (x.op ≠ 3 ∧ x.op ≠ 4 ∧ x.op ≠ 5) := by omega
set_option maxRecDepth 100000 in
set_option maxHeartbeats 4000000 in
theorem ways_any (p : Pg) (b : Nat) (ps : List Value) (w0 : World) (hpg : PgC (fun k => k < b) w0 p ps) (hb0 : b ≤ w0.heap.size) (hl : Leads p) (hN : p.ins.length ≤ 100000) (hset : ∀ x ∈ p.ins, x.set.length ≤ 1000000000) :
    ∀ (n : Nat) (pc : Int) (s : Ow) (W : World), OnAt W b ps s → Below b w0 W → Pc p pc → leftN p.ins.length s.seen < n → FitO p s →
      Calls Tryd.prog 56 #[.agg ps.toArray, .int .i64 pc, .bool true, .func (.func 57) #[] #[.pointer (some ⟨b + 4, 0, none⟩), .pointer (some ⟨b, 0, none⟩), .pointer (some ⟨b + 5, 0, none⟩), .pointer (some ⟨b + 2, 0, none⟩), .pointer (some ⟨b + 1, 0, none⟩)]] W (OnPost p b ps (waysW meetB un2 p n pc s) W) := by
  intro n
  induction n with
  | zero => intro pc s W _ _ _ h; omega
  | succ n ih =>
    intro pc s W h hB hp hn hf
    obtain ⟨i, rfl⟩ := Int.eq_ofNat_of_zero_le hp.1
    have hi : i < p.ins.length := by have := hp.2; omega
    obtain ⟨ad, c, B3, d3, rfl, hc1, hcm, hd3, hd3m, hadb, hins⟩ := ins_at hpg hb0 i hi
    have hbW := h.lt
    have h0 := h.below (below_al (Below.refl _ _) (.cells #[.slice (some ad) p.ins.length c, .int .i64 p.start, .int .i64 p.caps] 28))
    have hB0 := hB.alloc (by omega) (.cells #[.slice (some ad) p.ins.length c, .int .i64 p.start, .int .i64 p.caps] 28)
    have hon := on1_all p b _ w0 hpg hb0 hN hset i s _ h0 hB0 hi hf
    have hfit1 := onW_fit p i s hp hf
    have hleft := @onW_left meetB un2 p i s hp
    have hww := waysW_new (me := meetB) (un := un2) (n := n) (s := s) (p := p) (pc := i) rfl (get_eq p i hi)
    have hx := hl i hp
    rw [get_eq p i hi] at hx
    obtain ⟨R, hR⟩ : ∃ R, waysW meetB un2 p (n + 1) i s = R := ⟨_, rfl⟩
    rw [hR]
    rw [hR] at hww
    clear h h0 hR
    generalize onW meetB un2 p i s = r at *
    have HN := Lib.hid (And.intro hleft (And.intro hn (And.intro hfit1 hx)))
    have HI := Lib.hid ih
    have HB := Lib.hid (And.intro hB (And.intro hB0 hins))
    clear hleft hn hfit1 hx ih hB hB0 hins hpg hset hf
    generalize p.ins[i] = x at *
    have HW := Lib.hid hww
    clear hww
    go_enter Tryd.func56, Tryd.ntmps56
    go_wp2_with fail
    refine hon.mono ?_
    clear hon
    rintro e w1 ⟨rfl, h1, hK1⟩
    dsimp only
    have hbk := (hK1.block W.heap.size (by simp) (.inr ⟨by omega, fun ht => ht.ne (heap_new1 _ _) (by decide) rfl⟩)).trans (heap_new1 W _)
    obtain ⟨p0, p1, p2⟩ := cells3 hbk
    have pn := heap_lt hbk
    have hB1 := HB.out.2.1.trans (hK1.below (by simp; omega))
    obtain ⟨ha, g0, g1, g2, g3, g4⟩ := HB.out.2.2 w1 hB1
    have hK0 : Kept b 6 3 W w1 := ((Kept.refl b 6 3 W).alloc _).trans hK1
    have H1 := Lib.hid (And.intro h1 (And.intro hK0 (And.intro hB1 hbk)))
    clear h1 hK1 hB1 hbk ha hK0
    cases hr : r.1 with
    | false =>
      have HR := Lib.hid hr
      clear hr
      go_wp2_with fail
      go_ret
      rw [show R = (false, r.2) by rw [HW.out, if_pos HR.out]]
      exact ⟨rfl, H1.out.1, H1.out.2.1⟩
    | true =>
      have HR := Lib.hid hr
      have HL := Lib.hid (HN.out.1 hr)
      clear hr
      rcases w_cases x with ho | ho | ho | ho
      · have o3 : (x.op == 3) = true := by rw [ho]; rfl
        have o4 : (x.op == 4) = false := by rw [ho]; rfl
        have o5 : (x.op == 5) = false := by rw [ho]; rfl
        have HO := Lib.hid ho
        clear ho
        have hrec := HI.out x.out r.2 (w1.alloc (.cells #[.int .i64 x.op, .int .i64 x.out, .int .i64 x.arg, .slice B3 x.set.length d3, .int .i64 x.at_] 64)) (H1.out.1.below (below_al (Below.refl _ _) _)) (H1.out.2.2.1.alloc (by have := H1.out.1.lt; omega) _) (HN.out.2.2.2.1 (by have := HO.out; omega)) (by have := HL.out; have := HN.out.2.1; omega) HN.out.2.2.1
        have hfit2 := waysW_fit p hl n x.out r.2 (HN.out.2.2.2.1 (by have := HO.out; omega)) HN.out.2.2.1
        have hls2 := leftN_sub (N := p.ins.length) (waysW_seen meetB un2 p hl n x.out r.2 (HN.out.2.2.2.1 (by have := HO.out; omega)))
        generalize hr2 : waysW meetB un2 p n x.out r.2 = r2 at *
        have H9 := Lib.hid hr2
        clear hr2
        have HF := Lib.hid (And.intro hfit2 hls2)
        clear hfit2 hls2
        go_wp2_with fail
        refine hrec.mono ?_
        clear hrec
        rintro e w2 ⟨rfl, h2, hK2⟩
        dsimp only
        have hbx := (hK2.block w1.heap.size (by simp) (.inr ⟨by have := H1.out.1.lt; omega, fun ht => ht.ne (heap_new1 w1 _) (by decide) rfl⟩)).trans (heap_new1 w1 _)
        obtain ⟨x0, x1, x2, x3, x4⟩ := cells5 hbx
        have nx := heap_lt hbx
        have hbp := (hK2.block W.heap.size (by simp; omega) (.inr ⟨by omega, fun ht => ht.ne ((Below.heap_alloc w1 _ _ pn).trans H1.out.2.2.2) (by decide) rfl⟩)).trans ((Below.heap_alloc w1 _ _ pn).trans H1.out.2.2.2)
        have pn2 := heap_lt hbp
        have hbp9 := hbp
        obtain ⟨y0, y1, y2⟩ := cells3 hbp9
        have H2 := Lib.hid (And.intro h2 (And.intro hK2 hbp))
        clear h2 hK2 hbx hbp hbp9
        cases hr2 : r2.1 with
        | false =>
          have HR2 := Lib.hid hr2
          clear hr2
          go_wp2_with fail
          go_ret
          rw [show R = (false, r2.2) by rw [HW.out, if_neg (by rw [HR.out]; simp), if_pos HO.out, if_pos HR2.out]]
          exact ⟨rfl, H2.out.1, (H1.out.2.1.alloc _).trans H2.out.2.1⟩
        | true =>
          have HR2 := Lib.hid hr2
          clear hr2
          go_wp2_with fail
          refine (HI.out x.arg r2.2 w2 H2.out.1 (H1.out.2.2.1.trans (((Kept.refl b 6 3 w1).alloc _).trans H2.out.2.1 |>.below (by have := H1.out.1.lt; omega))) (HN.out.2.2.2.2 HO.out) (by have := HL.out; have := HN.out.2.1; have := HF.out.2; omega) HF.out.1).mono ?_
          rintro e w3 ⟨rfl, h3, hK3⟩
          dsimp only
          have H3 := Lib.hid (And.intro h3 hK3)
          clear h3 hK3
          go_wp2_with fail
          go_ret
          rw [show R = waysW meetB un2 p n x.arg r2.2 by rw [HW.out, if_neg (by rw [HR.out]; simp), if_pos HO.out, if_neg (by rw [HR2.out]; simp)]]
          exact ⟨rfl, H3.out.1, (H1.out.2.1.alloc _).trans (H2.out.2.1.trans H3.out.2)⟩
      · have o3 : (x.op == 3) = false := by rw [ho]; rfl
        have o4 : (x.op == 4) = true := by rw [ho]; rfl
        have o5 : (x.op == 5) = false := by rw [ho]; rfl
        have HO := Lib.hid ho
        clear ho
        have hrec := HI.out x.out r.2 (w1.alloc (.cells #[.int .i64 x.op, .int .i64 x.out, .int .i64 x.arg, .slice B3 x.set.length d3, .int .i64 x.at_] 64)) (H1.out.1.below (below_al (Below.refl _ _) _)) (H1.out.2.2.1.alloc (by have := H1.out.1.lt; omega) _) (HN.out.2.2.2.1 (by have := HO.out; omega)) (by have := HL.out; have := HN.out.2.1; omega) HN.out.2.2.1
        generalize hr2 : waysW meetB un2 p n x.out r.2 = r2 at *
        have H9 := Lib.hid hr2
        clear hr2
        go_wp2_with fail
        refine hrec.mono ?_
        clear hrec
        rintro e w2 ⟨rfl, h2, hK2⟩
        dsimp only
        have H2 := Lib.hid (And.intro h2 hK2)
        clear h2 hK2
        go_wp2_with fail
        go_ret
        rw [show R = r2 by rw [HW.out, if_neg (by rw [HR.out]; simp), if_neg (by have := HO.out; omega), if_pos (by have := HO.out; omega)]]
        exact ⟨rfl, H2.out.1, (H1.out.2.1.alloc _).trans H2.out.2⟩
      · have o3 : (x.op == 3) = false := by rw [ho]; rfl
        have o4 : (x.op == 4) = false := by rw [ho]; rfl
        have o5 : (x.op == 5) = true := by rw [ho]; rfl
        have HO := Lib.hid ho
        clear ho
        have hrec := HI.out x.out r.2 (w1.alloc (.cells #[.int .i64 x.op, .int .i64 x.out, .int .i64 x.arg, .slice B3 x.set.length d3, .int .i64 x.at_] 64)) (H1.out.1.below (below_al (Below.refl _ _) _)) (H1.out.2.2.1.alloc (by have := H1.out.1.lt; omega) _) (HN.out.2.2.2.1 (by have := HO.out; omega)) (by have := HL.out; have := HN.out.2.1; omega) HN.out.2.2.1
        generalize hr2 : waysW meetB un2 p n x.out r.2 = r2 at *
        have H9 := Lib.hid hr2
        clear hr2
        go_wp2_with fail
        refine hrec.mono ?_
        clear hrec
        rintro e w2 ⟨rfl, h2, hK2⟩
        dsimp only
        have H2 := Lib.hid (And.intro h2 hK2)
        clear h2 hK2
        go_wp2_with fail
        go_ret
        rw [show R = r2 by rw [HW.out, if_neg (by rw [HR.out]; simp), if_neg (by have := HO.out; omega), if_pos (by have := HO.out; omega)]]
        exact ⟨rfl, H2.out.1, (H1.out.2.1.alloc _).trans H2.out.2⟩
      · have o3 : (x.op == 3) = false := by simp; omega
        have o4 : (x.op == 4) = false := by simp; omega
        have o5 : (x.op == 5) = false := by simp; omega
        have HO := Lib.hid ho
        clear ho
        go_wp2_with fail
        go_ret
        rw [show R = (true, r.2) by rw [HW.out, if_neg (by rw [HR.out]; simp), if_neg HO.out.1, if_neg (by have := HO.out; omega)]]
        exact ⟨rfl, H1.out.1.below (below_al (Below.refl _ _) _), H1.out.2.1.alloc _⟩
theorem heap_new6 (w : World) (o1 o2 o3 o4 o5 o6 : Obj) : ((((((w.alloc o1).alloc o2).alloc o3).alloc o4).alloc o5).alloc o6).heap[w.heap.size + 1 + 1 + 1 + 1 + 1]? = some o6 := by
  have := World.alloc_heap_new (((((w.alloc o1).alloc o2).alloc o3).alloc o4).alloc o5) o6; rwa [World.size_alloc, World.size_alloc, World.size_alloc, World.size_alloc, World.size_alloc] at this
def SimplePost (p : Pg) (r : List Int × Bool) (w : World) (e : Ending) (w' : World) : Prop := ∃ A c, e = .returned (.tuple #[.slice A r.1.length c, .bool r.2]) ∧ r.1.length ≤ c ∧ c ≤ maxLen ∧ Arr (fun k => w.heap.size ≤ k) w' 1 (IntC .i64) A r.1 ∧ Below w.heap.size w w'
theorem ownI64_arr {w : World} {base : Nat} {A : Option Addr} {n cap : Nat} {xs : List Int} (h : Owns w base 3 1 (.slice A n cap) (xs.map i64C)) : Arr (fun k => base ≤ k) w 1 (IntC .i64) A xs := by
  have hl := h.lt
  refine Owns.arr h (by simp) (fun i x cs hx hc => ?_) (fun a hA => ?_)
  · rw [List.getElem?_map, hx] at hc; simp at hc; subst hc; rfl
  · subst hA; exact (hl a.block rfl).1
set_option maxRecDepth 100000 in
set_option maxHeartbeats 1000000 in
theorem simple_any (ok : Nat → Prop) (w : World) (p : Pg) (ps : List Value) (hp : PgC ok w p ps) (hl : Leads p) (pc : Int) (hs : Pc p pc) (hN : p.ins.length ≤ 100000) (hset : ∀ x ∈ p.ins, x.set.length ≤ 1000000000) :
    Calls Tryd.prog 37 #[.agg ps.toArray, .int .i64 pc] w (SimplePost p (simpleW meetB un2 p pc) w) := by
  have hpg : PgC (fun k => k < w.heap.size) w p ps := hp.old.move fun b hb hlt => ⟨rfl, hb.2⟩
  have hq := fun W hA hB => ways_any p w.heap.size ps w hpg (Nat.le_refl _) hl hN hset (p.ins.length + 1) pc ⟨[], [], [], 0⟩ W hA hB hs (Nat.lt_succ_of_le (leftN_le _ _)) ⟨by simp only [List.length_nil, Nat.zero_add]; exact leftN_le _ _, Nat.le_refl _, Int.le_refl _, by simp, by simp⟩
  have hmm := @run_makeMap Tryd.prog
  have hr : simpleW meetB un2 p pc = ((waysW meetB un2 p (p.ins.length + 1) pc ⟨[], [], [], 0⟩).2.l, (waysW meetB un2 p (p.ins.length + 1) pc ⟨[], [], [], 0⟩).1) := rfl
  obtain ⟨A, c, rfl, p1, p2, _⟩ := hp
  obtain ⟨W5, hW5⟩ : ∃ W5, W5 = ((((((w.alloc (.cells #[.slice A p.ins.length c, .int .i64 p.start, .int .i64 p.caps] 28)).alloc (.cells #[.slice none 0 0] 35)).alloc (.cells #[.slice none 0 0] 61)).alloc (.map #[] 0)).alloc (.cells #[.map (some (w.heap.size + 1 + 1 + 1))] 116)).alloc (.cells #[.int .i64 0] 3)) := ⟨_, rfl⟩
  have hB5 : Below w.heap.size w W5 := by subst hW5; exact below_al (below_al (below_al (below_al (below_al (below_al (Below.refl _ _) _) _) _) _) _) _
  have hA5 : OnAt W5 w.heap.size [.slice A p.ins.length c, .int .i64 p.start, .int .i64 p.caps] ⟨[], [], [], 0⟩ := by
    subst hW5
    refine ⟨?_, ⟨.slice none 0 0, ?_, Owns.nil _ _ _ _⟩, ⟨none, 0, ?_, Nat.le_refl _, Nat.zero_le _, Arr.nil⟩, ?_, ?_, ?_⟩
    · rw [Below.heap_alloc _ _ _ (by simp only [World.size_alloc]; omega), Below.heap_alloc _ _ _ (by simp only [World.size_alloc]; omega), Below.heap_alloc _ _ _ (by simp only [World.size_alloc]; omega), Below.heap_alloc _ _ _ (by simp only [World.size_alloc]; omega), Below.heap_alloc _ _ _ (by simp only [World.size_alloc]; omega)]; exact heap_new1 _ _
    · rw [Below.heap_alloc _ _ _ (by simp only [World.size_alloc]; omega), Below.heap_alloc _ _ _ (by simp only [World.size_alloc]; omega), Below.heap_alloc _ _ _ (by simp only [World.size_alloc]; omega), Below.heap_alloc _ _ _ (by simp only [World.size_alloc]; omega)]; exact heap_new2 _ _ _
    · rw [Below.heap_alloc _ _ _ (by simp only [World.size_alloc]; omega), Below.heap_alloc _ _ _ (by simp only [World.size_alloc]; omega), Below.heap_alloc _ _ _ (by simp only [World.size_alloc]; omega)]; exact heap_new3 _ _ _ _
    · have h := IntsAt.made (((w.alloc (.cells #[.slice A p.ins.length c, .int .i64 p.start, .int .i64 p.caps] 28)).alloc (.cells #[.slice none 0 0] 35)).alloc (.cells #[.slice none 0 0] 61))
      rw [World.size_alloc, World.size_alloc, World.size_alloc] at h
      exact h.blk (by rw [Below.heap_alloc _ _ _ (by simp only [World.size_alloc]; omega), Below.heap_alloc _ _ _ (by simp only [World.size_alloc]; omega)])
    · rw [Below.heap_alloc _ _ _ (by simp only [World.size_alloc]; omega)]; exact heap_new5 _ _ _ _ _ _
    · exact heap_new6 _ _ _ _ _ _ _
  have hq := hq W5 hA5 hB5
  have q0 : W5.cell? ⟨w.heap.size, 0, none⟩ = some (.slice A p.ins.length c) := by rw [cell_of_blk hA5.blk]; rfl
  have q1 : W5.cell? ⟨w.heap.size, 1, none⟩ = some (.int .i64 p.start) := by rw [cell_of_blk hA5.blk]; rfl
  have q2 : W5.cell? ⟨w.heap.size, 2, none⟩ = some (.int .i64 p.caps) := by rw [cell_of_blk hA5.blk]; rfl
  have n0 := heap_lt hA5.blk
  subst hW5
  have HQ := Lib.hid (And.intro hr hB5)
  clear hr hpg hB5 hA5 hl hs
  generalize waysW meetB un2 p (p.ins.length + 1) pc ⟨[], [], [], 0⟩ = r at *
  generalize simpleW meetB un2 p pc = res at *
  go_enter Tryd.func37, Tryd.ntmps37
  go_wp2_with fail
  refine hq.mono ?_
  rintro e w1 ⟨rfl, h1, hK1⟩
  dsimp only
  clear q0 q1 q2 n0 hq
  obtain ⟨v, l1, l2⟩ := h1.l
  have z1 : w1.cell? ⟨w.heap.size + 1, 0, none⟩ = some v := by rw [cell_of_blk l1]; rfl
  have zn := heap_lt l1
  have HB := Lib.hid (And.intro (HQ.out.2.trans (hK1.below HQ.out.2.size)) l2)
  clear h1 hK1 l1 l2
  go_wp2_with fail
  go_ret2
  obtain ⟨hb, l2⟩ := HB.out
  obtain ⟨A3, c3, rfl, g1, g2⟩ := l2.shape
  rw [List.length_map] at g1 ⊢
  rw [HQ.out.1]
  exact ⟨A3, c3, rfl, g1, g2, (ownI64_arr l2).move (fun k hk _ => ⟨rfl, by omega⟩) (by omega), hb⟩
end Go.Proofs.YthclpabmbhpohaaDoor
