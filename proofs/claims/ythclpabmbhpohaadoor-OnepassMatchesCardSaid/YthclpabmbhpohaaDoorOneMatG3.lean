/-
  sets.Union with nil, sets.Norm, slices.Equal over ranges, sets.Right. No condition but a bound on the list.
  sets.those where just two ranges are right: printed from the text of those. No condition but bounds.
  A list of ranges is the union of itself just where its ranges are runes', rise and do not touch. Plain; no condition.
  sets.Has: is a rune in a list? No condition.
  What the union of two lists has, and when two lists have a rune in common: the plain law of the stretches between edges. No condition.
  sets.Union and sets.Meet of any two lists. No condition but a bound on the lists.
  Plain laws for the document's Norm: a range put into its place, and ranges that touch put together.
-/
import Derived.Test.YthclpabmbhpohaaDoorOneMatG2
import Derived.Laws.StructEq
import Derived.Deep.Onto
namespace Go.Proofs.YthclpabmbhpohaaDoor
open Go.RowKit Go.Shelf Go.Lib Go.Sort
set_option linter.unusedVariables false
theorem edges_one (l : List Rg) : edgesOf [l, []] = edgesOf [l] := by simp [edgesOf]
def NormPost (l : List Rg) (w : World) (e : Ending) (w' : World) : Prop := ∃ v, e = .returned v ∧ OwnR w' w.heap.size v (normOf [l]) ∧ Below w.heap.size w w'
theorem edges_vals (l : List Rg) : ∀ x ∈ edgesOf [l], (0 ≤ x.1 ∧ x.1 ≤ 1114112) ∧ (-1 ≤ x.2 ∧ x.2 ≤ 1) := by
  intro x hx
  simp only [edgesOf, List.flatMap_cons, List.flatMap_nil, List.append_nil, List.mem_flatMap] at hx
  obtain ⟨r, _, hx⟩ := hx
  unfold edge1 at hx
  split at hx
  · simp only [List.mem_cons, List.not_mem_nil, or_false] at hx
    rcases hx with rfl | rfl <;> simp <;> omega
  · simp at hx
theorem those_norm (w1 : World) (B0 : Nat) (v : Value) (l : List Rg) (es : List (Int × Int)) (hp : es.Perm (edgesOf [l])) (hs : es.Pairwise (fun x y => x.1 ≤ y.1)) (ho : OwnE w1 B0 v es) (hN : l.length ≤ 1000000000) :
    Calls Tryd.prog 75 #[v, .func (.func 79) #[] #[]] w1 fun e w' => ∃ v, e = .returned v ∧ OwnR w' w1.heap.size v (normOf [l]) ∧ Below w1.heap.size w1 w' := by
  obtain ⟨A, c, rfl, h1, h2⟩ := Owns.shape ho
  rw [List.length_map]
  have hl : es.length ≤ 5000000000 := by
    have h3 := hp.length_eq
    have h4 := flat_len l
    simp only [edgesOf, List.flatMap_cons, List.flatMap_nil, List.append_nil] at h3
    omega
  have h := callsIn_wide.1 (those_in w1 A c es (Owns.arr (css := es.map edgeC) (xs := es) (show Owns _ _ _ _ _ _ from (by have h5 := ho; unfold OwnE at h5; simpa using h5)) (by simp) (fun i x cc hi hc => by
    rw [List.getElem?_map, hi] at hc; simpa using hc.symm) (fun a ha => by subst ha; exact (Owns.lt ho a.block rfl).2)) hl (fun x hx => edges_vals l x (hp.subset hx)))
  refine h.mono fun e w' ⟨v, h1, h2, h3⟩ => ⟨v, h1, ?_, h3⟩
  rwa [norm_any [l] es hp hs] at h2
theorem two_le {l : List Rg} (hN : l.length ≤ 1000000000) : ∀ x ∈ [l, []], x.length ≤ 1000000000 := by
  intro x hx
  rcases List.mem_cons.1 hx with rfl | hx
  · exact hN
  · rw [List.mem_singleton.1 hx]; simp
set_option maxHeartbeats 400000 in
theorem union_nil (ok : Nat → Prop) (w : World) (A : Option Addr) (c : Nat) (l : List Rg) (h : Arr ok w 2 RgC A l) (hN : l.length ≤ 1000000000) :
    Calls Tryd.prog 59 #[.slice A l.length c, .slice none 0 0] w (NormPost l w) := by
  have hb : Arr (fun b => ok b ∨ b = w.heap.size) (w.alloc (.cells #[.slice A l.length c, .slice none 0 0] 61)) 1 (RgsC (fun b => ok b ∨ b = w.heap.size) (w.alloc (.cells #[.slice A l.length c, .slice none 0 0] 61))) (some ⟨w.heap.size, 0, none⟩) [l, []] := by
    have hm := h.move (ok' := fun b => ok b ∨ b = w.heap.size) (w' := w.alloc (.cells #[.slice A l.length c, .slice none 0 0] 61)) (fun b hb hlt => ⟨Below.heap_alloc _ _ _ hlt, .inl hb⟩) (by omega)
    have hn := heap_new1 w (.cells #[.slice A l.length c, .slice none 0 0] 61)
    intro i x hx
    match i, hx with
    | 0, hx =>
      simp at hx; subst hx
      refine ⟨_, [.slice A l.length c], rfl, .inr rfl, ⟨A, c, rfl, hm⟩, rfl, fun j u hu => ?_⟩
      match j, hu with
      | 0, hu => simp at hu; subst hu; rw [Nat.zero_mul]; exact (cell_of_blk hn 0).trans rfl
    | 1, hx =>
      simp at hx; subst hx
      refine ⟨_, [.slice none 0 0], rfl, .inr rfl, ⟨none, 0, rfl, Arr.nil⟩, rfl, fun j u hu => ?_⟩
      match j, hu with
      | 0, hu => simp at hu; subst hu; exact (cell_of_blk hn 1).trans rfl
  have hed := edges_any _ _ _ 2 [l, []] hb (by simp) (two_le hN)
  have hth := those_norm
  have HH := Lib.hid hth
  clear hb h hth
  go_enter Tryd.func59, Tryd.ntmps59
  go_wp2_with (go_at_call 76; refine hed.mono ?_; clear hed; rintro e w1 ⟨v, es, rfl, hp, hs, ho, hb⟩)
  rw [edges_one] at hp
  have hth := HH.out w1 _ v l es hp hs ho hN
  have hb1 := below_and hb (below_al (Below.refl _ _) _)
  have HB := Lib.hid hb1
  clear hp hs ho hb hb1
  go_wp2_with (go_at_call 75; refine hth.mono ?_; clear hth; rintro e w2 ⟨v2, rfl, ho2, hb2⟩)
  go_ret
  exact ⟨v2, rfl, ⟨Joins.ownsRow_le ho2.1 HB.out.size, ho2.2⟩, below_and hb2 HB.out⟩
theorem norm_of (ok : Nat → Prop) (w : World) (A : Option Addr) (c : Nat) (l : List Rg) (h : Arr ok w 2 RgC A l) (hN : l.length ≤ 1000000000) :
    Calls Tryd.prog 77 #[.slice A l.length c] w (NormPost l w) := by
  have hed := union_nil ok w A c l h hN
  clear h
  go_enter Tryd.func77, Tryd.ntmps77
  go_wp2_with (go_at_call 59; refine hed.mono ?_; clear hed; rintro e w1 ⟨v, rfl, ho, hb⟩)
  go_ret
  exact ⟨v, rfl, ho, hb⟩
def eqR : List Rg → List Rg → Bool
  | [], [] => true
  | x :: xs, y :: ys => (x.lo == y.lo && x.hi == y.hi) && eqR xs ys
  | _, _ => false
theorem eqR_iff : ∀ (xs ys : List Rg), eqR xs ys = true ↔ xs.length = ys.length ∧ ∀ j (h1 : j < xs.length) (h2 : j < ys.length), xs[j].lo = ys[j].lo ∧ xs[j].hi = ys[j].hi
  | [], [] => by simp [eqR]
  | [], y :: ys => by simp [eqR]
  | x :: xs, [] => by simp [eqR]
  | x :: xs, y :: ys => by
    simp only [eqR, Bool.and_eq_true, beq_iff_eq, eqR_iff xs ys, List.length_cons]
    constructor
    · rintro ⟨h0, h1, h2⟩
      refine ⟨by omega, fun j ha hb => ?_⟩
      cases j with
      | zero => exact h0
      | succ j => exact h2 j (by simpa using ha) (by simpa using hb)
    · rintro ⟨h1, h2⟩
      exact ⟨h2 0 (by simp) (by simp), by omega, fun j ha hb => h2 (j + 1) (by simp; omega) (by simp; omega)⟩
theorem eqR_eq (xs ys : List Rg) : eqR xs ys = true ↔ xs = ys := by
  rw [eqR_iff]
  constructor
  · rintro ⟨h1, h2⟩
    refine List.ext_getElem h1 fun j ha hb => ?_
    obtain ⟨h3, h4⟩ := h2 j ha hb
    cases hx : xs[j]; cases hy : ys[j]; rw [hx, hy] at h3 h4; simp_all
  · rintro rfl; exact ⟨rfl, fun _ _ _ => ⟨rfl, rfl⟩⟩
theorem eqR_no {xs ys : List Rg} (h : ¬ (xs.length = ys.length)) : eqR xs ys = false := by
  rw [Bool.eq_false_iff]; exact fun e => h ((eqR_iff _ _).1 e).1
theorem eq_rg (w : World) (x1 x2 y1 y2 : Int) : (Op.equalIn 10000 66 (.agg #[.int .i32 x1, .int .i32 x2]) (.agg #[.int .i32 y1, .int .i32 y2])).run Tryd.prog w = .ok (x1 == y1 && x2 == y2) w := by
  have hS : Tryd.prog.underlying 66 = some (.struct (Tryd.prog.fieldsOf 66)) := by kernel_rfl
  have hp : Tryd.prog.stoodInHeld 66 = false := by kernel_rfl
  rw [show (10000 : Nat) = 9999 + 1 from rfl, run_equalIn_struct w 9999 66 _ _ hS hp]
  simp only [Program.fieldsOf, Tryd.underlying66]
  simp only [Op.eqFields]
  go_simp
  by_cases h1 : x1 = y1 <;> by_cases h2 : x2 = y2 <;> simp [h1, h2]
attribute [local go_sem high] eq_rg
theorem rg_cells {ok : Nat → Prop} {w : World} {B : Option Addr} {l : List Rg} (h : Arr ok w 2 RgC B l) (j : Nat) (hj : j < l.length) :
    ∃ ad, B = some ad ∧ w.cell? (ad.add (j * 2)) = some (.int .i32 l[j].lo) ∧ w.cell? ⟨(ad.add (j * 2)).block, (ad.add (j * 2)).off + 1, none⟩ = some (.int .i32 l[j].hi) :=
  rg_at h (Below.refl _ _) j hj
set_option maxHeartbeats 1000000 in
theorem equal_any (ok ok2 : Nat → Prop) (w : World) (A B : Option Addr) (c d : Nat) (xs ys : List Rg) (hx : Arr ok w 2 RgC A xs) (hy : Arr ok2 w 2 RgC B ys) (hN : xs.length ≤ 9223372036854775807) :
    Calls Tryd.prog 86 #[.slice A xs.length c, .slice B ys.length d] w fun e w' => e = .returned (.bool (eqR xs ys)) ∧ ∃ n, w' = w.drewN n := by
  have HX := Lib.hid hx
  have HY := Lib.hid hy
  clear hx hy
  have hu84 := Tryd.underlying66
  by_cases hl : xs.length = ys.length
  · have HL := Lib.hid hl
    have hlb : ((xs.length : Int) != (ys.length : Int)) = false := by rw [hl]; simp
    have hlb2 : ((xs.length : Int) == (ys.length : Int)) = true := by rw [hl]; simp
    clear hl
    go_enter Tryd.func86, Tryd.ntmps86
    go_wp2_with fail
    clear hlb hlb2
    go_loopw [13] (fun i wr => ∃ k : Nat, k ≤ xs.length ∧ i = .int .i64 k ∧ (∃ q, wr = w.drewN q) ∧ Hid (∀ j (h1 : j < xs.length) (h2 : j < ys.length), j < k → xs[j].lo = ys[j].lo ∧ xs[j].hi = ys[j].hi)) (fun i _ => xs.length - (intOf i).toNat)
    case atStart => exact ⟨0, Nat.zero_le _, rfl, ⟨0, rfl⟩, Lib.hid (fun j _ _ h => by omega)⟩
    case round =>
      obtain ⟨k, hk, rfl, ⟨q, rfl⟩, HB⟩ := hrel
      by_cases hlt : k < xs.length
      · have hlt2 : k < ys.length := by have := HL.out; omega
        obtain ⟨ad, rfl, hc1, hc2⟩ := rg_cells HX.out k hlt
        obtain ⟨bd, rfl, hd1, hd2⟩ := rg_cells HY.out k hlt2
        obtain ⟨a1, ha1⟩ : ∃ z, z = xs[k].lo := ⟨_, rfl⟩
        obtain ⟨a2, ha2⟩ : ∃ z, z = xs[k].hi := ⟨_, rfl⟩
        obtain ⟨b1, hb1⟩ : ∃ z, z = ys[k].lo := ⟨_, rfl⟩
        obtain ⟨b2, hb2⟩ : ∃ z, z = ys[k].hi := ⟨_, rfl⟩
        rw [← ha1] at hc1
        rw [← ha2] at hc2
        rw [← hb1] at hd1
        rw [← hb2] at hd2
        have HE := Lib.hid (And.intro ha1 (And.intro ha2 (And.intro hb1 hb2)))
        clear ha1 ha2 hb1 hb2
        by_cases hq : (a1 == b1 && a2 == b2) = true
        rotate_left
        · have hq1 : (a1 == b1 && a2 == b2) = false := by simpa using hq
          have he : (!(a1 == b1) || !(a2 == b2)) = true := by cases h1 : (a1 == b1) <;> cases h2 : (a2 == b2) <;> simp_all
          clear hq
          go_wp2
          go_quiet (fail)
          go_wp2
          go_ret
          refine ⟨ret_bool ?_, _, by first | rfl | (simp; rfl)⟩
          rw [eq_comm, Bool.eq_false_iff]
          intro h
          obtain ⟨h1, h2⟩ := ((eqR_iff _ _).1 h).2 k hlt hlt2
          rw [← HE.out.1, ← HE.out.2.2.1] at h1
          rw [← HE.out.2.1, ← HE.out.2.2.2] at h2
          simp [h1, h2] at he
        · have he2 : (!(a1 == b1) || !(a2 == b2)) = false := by simpa using hq
          go_wp2
          repeat (go_quiet (fail); try go_wp2)
          go_roundw
          case measure => simp [intOf]; omega
          case rel =>
            refine ⟨k + 1, by omega, by go_num, ⟨_, by first | rfl | (simp; rfl)⟩, Lib.hid fun j h1 h2 hj => ?_⟩
            rcases Nat.lt_or_ge j k with h3 | h3
            · exact HB.out j h1 h2 h3
            · obtain rfl : j = k := by omega
              rw [← HE.out.1, ← HE.out.2.1, ← HE.out.2.2.1, ← HE.out.2.2.2]
              simpa using he2
      · go_wp2
        go_ret
        refine ⟨ret_bool ((eqR_iff _ _).2 ⟨HL.out, fun j h1 h2 => HB.out j h1 h2 (by omega)⟩).symm, _, by first | rfl | (simp; rfl)⟩
  · have hlb : ((xs.length : Int) != (ys.length : Int)) = true := by simp; omega
    have hlb2 : ((xs.length : Int) == (ys.length : Int)) = false := by simp; omega
    go_enter Tryd.func86, Tryd.ntmps86
    go_wp2_with fail
    go_ret
    exact ⟨ret_bool (eqR_no hl).symm, 0, rfl⟩
def rightR (l : List Rg) : Bool := eqR l (normOf [l])
theorem right_ok (l : List Rg) (hN : l.length ≤ 1000000000) : RightOK rightR l := by
  intro ok W B d h h1 h2
  have hno := norm_of ok W B d l h hN
  have HA := Lib.hid h
  clear h
  go_enter Tryd.func73, Tryd.ntmps73
  go_wp2_with (go_at_call 77; refine hno.mono ?_; clear hno; rintro e w1 ⟨v, rfl, ho, hb⟩)
  obtain ⟨A2, c2, rfl, h3, h4⟩ := Owns.shape ho
  rw [List.length_map]
  have hx := HA.out.move (ok' := ok) (w' := w1) (fun b hok hlt => ⟨hb.block b hlt, hok⟩) (by omega)
  have hy : Arr (fun _ => True) w1 2 RgC A2 (normOf [l]) := Owns.arr (css := (normOf [l]).map rgC) (xs := normOf [l]) (by have h5 := ho; unfold OwnR at h5; simpa using h5) (by simp) (fun i x cc hi hc => by
    rw [List.getElem?_map, hi] at hc; simpa [RgC, rgC] using hc.symm) (fun _ _ => trivial)
  have heq := equal_any _ _ w1 B A2 d c2 l (normOf [l]) hx hy (by omega)
  have HB := Lib.hid hb
  clear hx hy ho hb h3
  go_wp2_with (go_at_call 86; refine heq.mono ?_; clear heq; rintro e w2 ⟨rfl, q, rfl⟩)
  go_ret
  exact ⟨rfl, below_drewN HB.out _⟩
end Go.Proofs.YthclpabmbhpohaaDoor
namespace Go.Proofs.YthclpabmbhpohaaDoor
open Go.RowKit Go.Shelf Go.Lib Go.Sort
set_option linter.unusedVariables false
attribute [local go_sem] Oper.semAt_some
def GatherM (w W : World) (v : Value) (out : List Rg) : Prop :=
  W.heap[w.heap.size]? = some (Obj.cells #[.func (.func 78) #[] #[]] 106 (0, 0)) ∧ W.heap[w.heap.size + 1]? = some (Obj.cells #[v] 61 (0, 0)) ∧ OwnR W (w.heap.size + 2) v out ∧ Below w.heap.size w W
theorem gather_appM {w W w4 : World} {v v' : Value} {out : List Rg} {x : Rg} {q : Nat} (h : GatherM w W v out) (hown : Owns w4 (w.heap.size + 2) 66 2 v' (out.map rgC ++ [rgC x])) (hg : ((W.drewN q).alloc (.cells (rgC x).toArray 66)).grownBy w4 v.ownBlock) (B : Nat) :
    w4.heap[w.heap.size + 1]? = some (Obj.cells #[v] 61 (0, 0)) ∧ GatherM w (w4.setCell ⟨w.heap.size + 1, 0, none⟩ v') v' (out ++ [x]) ∧ KeepsFrom B W (w4.setCell ⟨w.heap.size + 1, 0, none⟩ v') ∧ KeepsE w.heap.size W (w4.setCell ⟨w.heap.size + 1, 0, none⟩ v') := by
  obtain ⟨h0, h1, h2, hB⟩ := h
  have hX : Owns ((W.drewN q).alloc (.cells (rgC x).toArray 66)) (w.heap.size + 2) 66 2 v (out.map rgC) := Owns.alloc (show Owns (W.drewN q) _ _ _ _ _ from h2) _
  have e0 := (Below.heap_alloc (W.drewN q) (.cells (rgC x).toArray 66) _ (heap_lt h0)).trans h0
  have e1 := (Below.heap_alloc (W.drewN q) (.cells (rgC x).toArray 66) _ (heap_lt h1)).trans h1
  have k0 := (hg.block _ (heap_lt e0) (fun e => owns_other hX e0 (by decide) e.symm)).trans e0
  have k1 := (hg.block _ (heap_lt e1) (fun e => owns_other hX e1 (by decide) e.symm)).trans e1
  have hWX : Below W.heap.size W ((W.drewN q).alloc (.cells (rgC x).toArray 66)) := (below_drewN (Below.refl _ _) q).alloc (Nat.le_refl _) _
  have hXs : w.heap.size ≤ ((W.drewN q).alloc (.cells (rgC x).toArray 66)).heap.size := Nat.le_trans hB.size hWX.size
  have kE := (KeepsE.of_below hWX hB.size).trans (keepsE_grown hX (by omega) hXs hg)
  refine ⟨k1, ⟨?_, set_here k1 0 v', ?_, ?_⟩, ((keepsFrom_below hWX).trans ((others_grown hX hg).from B)).trans ((KeepsOthers.setCell _ _ _).from B), kE.trans (keepsE_set (a := ⟨w.heap.size + 1, 0, none⟩) k1 (by decide) (by show w.heap.size ≤ w.heap.size + 1; omega) v')⟩
  · rw [Below.heap_setCell _ _ _ _ (by show w.heap.size ≠ w.heap.size + 1; omega)]; exact k0
  · show Owns _ _ _ _ _ ((out ++ [x]).map rgC)
    rw [List.map_append]
    exact ⟨ownsRow_setCell_other hown.1 (owns_other hown k1 (by decide)) _, hown.2⟩
  · exact (hB.trans kE.1).setCell (p := ⟨w.heap.size + 1, 0, none⟩) (by show w.heap.size ≤ w.heap.size + 1; omega) _
theorem gather_setM {w W : World} {g c : Nat} {fr : List Rg} {y : Rg} (h : GatherM w W (.slice (some ⟨g, 0, none⟩) (fr.length + 1) c) (fr ++ [y])) (q : Nat) (hi : Int) (B : Nat) :
    GatherM w ((W.drewN q).setCell ⟨g, fr.length * 2 + 1, none⟩ (.int .i32 hi)) (.slice (some ⟨g, 0, none⟩) (fr.length + 1) c) (fr ++ [⟨y.lo, hi⟩]) ∧ KeepsFrom B W ((W.drewN q).setCell ⟨g, fr.length * 2 + 1, none⟩ (.int .i32 hi)) ∧ KeepsE w.heap.size W ((W.drewN q).setCell ⟨g, fr.length * 2 + 1, none⟩ (.int .i32 hi)) := by
  obtain ⟨h0, h1, h2, hB⟩ := h
  have hg := (Owns.lt h2 g rfl).1
  obtain ⟨cs, fz, hc⟩ := Lib.ownsRow_kind h2.1 g rfl
  have hWX : Below W.heap.size W (W.drewN q) := below_drewN (Below.refl _ _) q
  have hst := (World.ownsRow.stored (show World.ownsRow (W.drewN q) _ _ _ _ _ _ from own_last h2) (fr.length * 2 + 1) (.int .i32 hi)).1
  rw [rg_set] at hst
  refine ⟨⟨?_, ?_, ⟨by simpa using hst, fun c hc => ?_⟩, ?_⟩, ?_, ?_⟩
  · rw [Below.heap_setCell _ _ _ _ (by show w.heap.size ≠ g; omega)]; exact h0
  · rw [Below.heap_setCell _ _ _ _ (by show w.heap.size + 1 ≠ g; omega)]; exact h1
  · obtain ⟨r, _, rfl⟩ := List.mem_map.1 hc; rfl
  · exact (below_drewN hB q).setCell (p := ⟨g, fr.length * 2 + 1, none⟩) (by show w.heap.size ≤ g; omega) _
  · exact (keepsFrom_below hWX).trans ((KeepsOthers.setCell _ _ _).from B)
  · exact (KeepsE.of_below hWX hB.size).trans (keepsE_set (W := W.drewN q) (a := ⟨g, fr.length * 2 + 1, none⟩) hc (by decide) (by show w.heap.size ≤ g; omega) _)
theorem isTwo_any (w : World) (n : Int) : Calls Tryd.prog 78 #[.int .i64 n] w fun e w' => e = .returned (.bool (decide (n = 2))) ∧ w = w' := by
  go_enter Tryd.func78, Tryd.ntmps78
  go_wp2
  go_ret
  exact ⟨rfl, rfl⟩
set_option maxRecDepth 100000 in
set_option maxHeartbeats 4000000 in
theorem those_inM (w : World) (A : Option Addr) (c : Nat) (es : List (Int × Int)) (hes : Arr (fun b => b < w.heap.size) w 2 (fun x cs => cs = edgeC x) A es) (hN : es.length ≤ 5000000000) (hv : ∀ x ∈ es, (0 ≤ x.1 ∧ x.1 ≤ 1114112) ∧ (-1 ≤ x.2 ∧ x.2 ≤ 1)) :
    CallsIn Fence.wide 9 Tryd.prog 75 #[.slice A es.length c, .func (.func 78) #[] #[]] w fun e w' => ∃ v, e = .returned v ∧ OwnR w' w.heap.size v (thoseOf (fun n => decide (n = 2)) (spansOf 0 0 es)) ∧ Below w.heap.size w w' := by
  have hF1 : Fence.wide.fn 88 := trivial
  have hF2 : Fence.wide.fn 93 := trivial
  have hF3 : Fence.wide.fn 78 := trivial
  have hdd : ∀ k : Nat, (Fence.wide.depth.isSome = true → 1 ≤ k) := fun k h => by simp [Fence.wide] at h
  have HE := Lib.hid (And.intro hes hv)
  clear hes hv
  refine callsIn_of_wp_marks Tryd.func75 rfl trivial ?_ rfl
  simp only [Tryd.ntmps75, List.size_toArray, List.length_cons, List.length_nil, Nat.reduceAdd, Nat.reduceSub, Array.replicate_succ, Array.replicate_zero, List.push_toArray, List.append_toArray, List.nil_append, List.cons_append]
  gi_wp2_with ((try refine ⟨hdd _, ?_⟩); gi_at_call 88; refine (callsIn_wide.2 (spans_any _ _ _ _)).mono ?_; rintro e w' ⟨rfl, rfl⟩)
  have b0 : (((w.alloc (.cells #[.func (.func 78) #[] #[]] 106)).alloc (.cells #[.slice none 0 0] 61)).alloc (.cells #[.slice A es.length c] 131)).heap[w.heap.size]? = some (.cells #[.func (.func 78) #[] #[]] 106 (0, 0)) := by
    rw [Below.heap_alloc _ _ _ (by simp; omega), Below.heap_alloc _ _ _ (by simp)]; exact heap_new1 _ _
  have b1 : (((w.alloc (.cells #[.func (.func 78) #[] #[]] 106)).alloc (.cells #[.slice none 0 0] 61)).alloc (.cells #[.slice A es.length c] 131)).heap[w.heap.size + 1]? = some (.cells #[.slice none 0 0] 61 (0, 0)) := by
    rw [Below.heap_alloc _ _ _ (by simp)]; exact heap_new2 _ _ _
  have b2 : (((w.alloc (.cells #[.func (.func 78) #[] #[]] 106)).alloc (.cells #[.slice none 0 0] 61)).alloc (.cells #[.slice A es.length c] 131)).heap[w.heap.size + 1 + 1]? = some (.cells #[.slice A es.length c] 131 (0, 0)) := heap_new3 _ _ _ _
  have hB0 : Below w.heap.size w (((w.alloc (.cells #[.func (.func 78) #[] #[]] 106)).alloc (.cells #[.slice none 0 0] 61)).alloc (.cells #[.slice A es.length c] 131)) := below_al (below_al (below_al (Below.refl _ _) _) _) _
  have hsz : (((w.alloc (.cells #[.func (.func 78) #[] #[]] 106)).alloc (.cells #[.slice none 0 0] 61)).alloc (.cells #[.slice A es.length c] 131)).heap.size = w.heap.size + 3 := by simp
  obtain ⟨W0, hW0⟩ : ∃ W0, (((w.alloc (.cells #[.func (.func 78) #[] #[]] 106)).alloc (.cells #[.slice none 0 0] 61)).alloc (.cells #[.slice A es.length c] 131)) = W0 := ⟨_, rfl⟩
  rw [hW0] at b0 b1 b2 hB0 hsz ⊢
  clear hW0
  refine wpIn_rangeFunc_ownH rfl (by omega) (gf := 93) (lb := #[.pointer (some ⟨w.heap.size + 1 + 1, 0, none⟩)]) rfl trivial (enters_of Tryd.func93 (by kernel_rfl) rfl)
    (spans_stops _ w.heap.size (w.heap.size + 1 + 1) W0 A c es (by omega) b2 (HE.out.1.move (fun b hb _ => ⟨hB0.block b hb, hb⟩) (by omega)) (by omega) HE.out.2) KeepsE.trans
    (fun W l o o' hl ho hc _ => ?kb) (Below.refl _ _) (fun _ => rfl)
    (fun pre W => ∃ v, W.heap[w.heap.size]? = some (Obj.cells #[.func (.func 78) #[] #[]] 106 (0, 0)) ∧ W.heap[w.heap.size + 1]? = some (Obj.cells #[v] 61 (0, 0)) ∧ OwnR W (w.heap.size + 2) v (thoseW (fun n => decide (n = 2)) pre) ∧ Below w.heap.size w W)
    (fun c pre W => False) ?own (fun _ _ _ _ _ h => h.elim) ⟨_, b0, b1, Owns.nil _ _ _ _, hB0⟩
    (fun (x : Rg × Int) a' (W : World) => ∃ Bx : Nat, W.heap[Bx]? = some (Obj.cells #[.int .i32 x.1.lo, .int .i32 x.1.hi] 66 (0, 0)) ∧ a' = { tmps := #[.slice A es.length c, .func (.func 78) #[] #[], undef, .pointer (some ⟨w.heap.size, 0, none⟩), .slice none 0 0, .pointer (some ⟨w.heap.size + 1, 0, none⟩), .pointer (some ⟨Bx, 0, none⟩), .int .i64 x.2, undef, .slice A es.length c, .func (.func 93) #[] #[.pointer (some ⟨w.heap.size + 1 + 1, 0, none⟩)], .agg #[.int .i32 x.1.lo, .int .i32 x.1.hi], .int .i64 x.2, undef, undef, undef, undef, undef, undef, undef, undef, undef, undef, undef, undef, undef, undef, undef, undef, undef, undef, undef, undef, undef, undef, undef, undef, undef, undef, undef, undef, undef, undef, undef, undef, undef, undef], defers := [] })
    ?ownx ?assign ?body ?done ?stop
  case kb =>
    have hk := Keeps.putObj (B0 := w.heap.size) (B1 := 0) (w := W0) (by omega) (Nat.zero_le _) W l o o' hl ho hc
    exact ⟨hk.below, fun b cs fr hb => (hk.cells b _ _ _ (Nat.zero_le _) hb).trans hb⟩
  case own =>
    rintro s X Y row ⟨v, h0, h1, h2, hB⟩ hg hr
    refine ⟨v, blk_own _ _ _ () X Y row h0 hg (fun r e => (hr r e).2), blk_own _ _ _ () X Y row h1 hg (fun r e => (hr r e).2), h2.kept hg ?_, (ownFrom_below (Nat.le_refl _) (by omega)) s X Y row hB hg hr⟩
    cases hv : v.ownBlock with
    | none => exact .inl rfl
    | some g =>
      refine .inr fun e => ?_
      obtain ⟨o, ho, hc⟩ := (hr g e.symm).2
      obtain ⟨cs, fz, hk⟩ := Lib.ownsRow_kind h2.1 g hv
      rw [hk] at ho; cases ho; simp [Obj.isCells] at hc
  case ownx =>
    rintro x a' _ X Y row ⟨Bx, h2, h3⟩ hg hr
    exact ⟨Bx, blk_own Bx _ _ () X Y row h2 hg (fun r e => (hr r e).2), h3⟩
  case assign =>
    rintro l pre ⟨⟨lo, hi⟩, n⟩ W K ⟨v, h0, h1, h2, hB⟩ hK
    have hK1 := hK _ _ (keepsFrom_below (below_al (Below.refl _ _) (.cells #[.int .i32 lo, .int .i32 hi] 66))) (KeepsE.of_below (below_al (Below.refl _ _) _) hB.size) ⟨v, (Below.heap_alloc _ _ _ (heap_lt h0)).trans h0, (Below.heap_alloc _ _ _ (heap_lt h1)).trans h1, h2.alloc _, below_al hB _⟩ ⟨W.heap.size, heap_new1 _ _, rfl⟩
    clear hK h0 h1 h2 hB
    dsimp only [spanA]
    gi_wp2
    exact hK1
  case body =>
    rintro l pre ⟨⟨lo, hi⟩, n⟩ a' W hl _ ⟨v, h0, h1, h2, hB⟩ ⟨Bx, hbx, rfl⟩ hlen
    obtain ⟨A1, c1, rfl, hk1, hk2⟩ := Owns.shape h2
    rw [List.length_map] at h1 h2 hk1
    have g0 : W.cell? ⟨w.heap.size, 0, none⟩ = some (.func (.func 78) #[] #[]) := by rw [cell_of_blk h0]; rfl
    have g1 : W.cell? ⟨w.heap.size + 1, 0, none⟩ = some (.slice A1 (thoseW (fun n => decide (n = 2)) pre).length c1) := by rw [cell_of_blk h1]; rfl
    have hnx := thoseW_next (fun n => decide (n = 2)) pre (⟨lo, hi⟩, n)
    have hln : (thoseW (fun n => decide (n = 2)) pre).length ≤ 9223372036854775807 := by unfold maxLen at hk2; omega
    have hob : (thoseW (fun n => decide (n = 2)) pre).length ≤ 5000000001 := by
      have h5 := thoseW_len (fun n => decide (n = 2)) pre []
      have h6 := spans_len es 0 0
      simp only [List.length_nil, Nat.zero_add] at h5
      refine Nat.le_trans (show (thoseW (fun n => decide (n = 2)) pre).length ≤ pre.length from h5) (by omega)
    by_cases hn : n = 2
    · have hd : decide (n = 2) = true := by simpa using hn
      simp only [hd, if_true] at hnx
      have hui : ∀ W', Calls Tryd.prog 78 #[.int .i64 n] W' fun e w' => e = .returned (.bool true) ∧ W' = w' := fun W' => by rw [← hd]; exact isTwo_any W' n
      generalize thoseW (fun n => decide (n = 2)) pre = out at *
      have gx0 : W.cell? ⟨Bx, 0, none⟩ = some (.int .i32 lo) := by rw [cell_of_blk hbx]; rfl
      have gx1 : W.cell? ⟨Bx, 1, none⟩ = some (.int .i32 hi) := by rw [cell_of_blk hbx]; rfl
      have HH := Lib.hid (And.intro h0 (And.intro h1 (And.intro h2 (And.intro hB hnx))))
      clear h0 h1 h2 hB hnx hd hn
      by_cases hout : out = []
      · subst hout
        gi_wp2_with ((try refine ⟨hdd _, ?_⟩); gi_at_call 78; refine (CallsIn.inRound l (callsIn_wide.2 (hui _))).mono ?_; rintro e W2 ⟨rfl, rfl⟩)
        refine region_quiet_lit_round (by kernel_rfl) (by kernel_rfl) (by kernel_rfl) ?_
        repeat (gi_big_quiet_step (fail))
        refine wpQuietIn_nil ?_
        intro _ hw'
        obtain ⟨nq, hw''⟩ := hw'
        subst hw''
        have hIr := infoRg
        obtain ⟨i0, hi0, hxx⟩ := Option.map_eq_some_iff.1 hIr
        simp only [Prod.mk.injEq] at hxx
        obtain ⟨hz0, hz1, hz2⟩ := hxx
        gi_wp2_with (gi_at_builtin; refine wpListIn_app1 rfl _ _ 61 rfl (w.heap.size + 2) 66 i0 _ 2 8 Tryd.underlying61 hi0 hz0 hz1 hz2 rfl (by decide) _ _ rfl (Owns.alloc (show Owns (W.drewN _) _ _ _ _ _ from HH.out.2.2.1) _) _ (rgC ⟨lo, hi⟩) rfl rfl (heap_newE (by simp)) ?c2 ?c3 ?c4 ?c5 ?_)
        case c2 => intro u hu; simp [rgC] at hu; rcases hu with rfl | rfl <;> rfl
        case c3 => simp; unfold maxLen; omega
        case c4 => simp
        case c5 => have := heap_lt HH.out.2.1; simp; omega
        intro v' w4 hown' hgrow
        obtain ⟨h0, h1, h2, hB, hnx⟩ := HH.out
        obtain ⟨k1, hG, kF, kE⟩ := gather_appM (x := ⟨lo, hi⟩) ⟨h0, h1, h2, hB⟩ hown' hgrow W0.heap.size
        obtain ⟨A5, c5, rfl, _, _⟩ := hown'.shape
        have q1 : w4.cell? ⟨w.heap.size + 1, 0, none⟩ = some (.slice A1 0 c1) := by rw [cell_of_blk k1]; rfl
        have q2 : w4.frozen? ⟨w.heap.size + 1, 0, none⟩ = false := by simp [World.frozen?, k1]
        have HG := Lib.hid (And.intro hG (And.intro kF (And.intro kE hnx)))
        clear h0 h1 h2 hB hnx hG kF kE k1 hown' hgrow
        gi_wp2
        obtain ⟨hG, kF, kE, hnx⟩ := HG.out
        exact ⟨kF, kE, _, hG.1, hG.2.1, by rw [hnx]; exact hG.2.2.1, hG.2.2.2⟩
      · obtain ⟨fr, y, rfl⟩ : ∃ fr y, out = fr ++ [y] := ⟨_, _, (List.dropLast_concat_getLast hout).symm⟩
        clear hout
        obtain ⟨h0, h1, h2, hB, hnx⟩ := HH.out
        clear HH
        have e1 : (fr ++ [y]).length = fr.length + 1 := by simp
        rw [e1] at h1 h2 g1 hk1 hln hob
        rw [putW_snoc] at hnx
        obtain ⟨g, rfl⟩ : ∃ g, A1 = some ⟨g, 0, none⟩ := by
          rcases h2.1.2 with ⟨e, _⟩ | ⟨g, _, _, e, _⟩
          · injection e with e1 e2; omega
          · injection e with e1; exact ⟨g, e1⟩
        have hcy : W.cell? ⟨g, fr.length * 2 + 1, none⟩ = some (.int .i32 y.hi) := by
          rw [World.ownsRow.cellAt (own_last h2) _ (by omega), List.map_append, List.flatten_append, List.getElem?_append_right (by rw [rg_flat]; omega), rg_flat]
          simp [rgC]
        have hfy : W.frozen? ⟨g, fr.length * 2 + 1, none⟩ = false := World.ownsRow.frozenAt (own_last h2) _
        have HH := Lib.hid (And.intro (show GatherM w W _ _ from ⟨h0, h1, h2, hB⟩) hnx)
        clear h0 h1 h2 hB hnx e1
        by_cases hm : IntKind.i32.wrap (y.hi + 1) = lo
        · gi_wp2_with ((try refine ⟨hdd _, ?_⟩); gi_at_call 78; refine (CallsIn.inRound l (callsIn_wide.2 (hui _))).mono ?_; rintro e W2 ⟨rfl, rfl⟩)
          refine region_quiet_lit_round (by kernel_rfl) (by kernel_rfl) (by kernel_rfl) ?_
          repeat (gi_big_quiet_step (fail))
          refine wpQuietIn_nil ?_
          intro _ hw'
          obtain ⟨nq, hw''⟩ := hw'
          subst hw''
          have HM := Lib.hid hm
          clear hm
          gi_wp2
          obtain ⟨hG, hnx⟩ := HH.out
          rw [if_pos HM.out] at hnx
          obtain ⟨hG2, kF, kE⟩ := gather_setM hG nq hi W0.heap.size
          exact ⟨kF, kE, _, hG2.1, hG2.2.1, by rw [hnx]; exact hG2.2.2.1, hG2.2.2.2⟩
        · have hmb : (IntKind.i32.wrap (y.hi + 1) == lo) = false := by simpa using hm
          have hmb2 : (wrap32 (y.hi + 1) == lo) = false := by rw [← IntWalk.i32_left]; exact hmb
          have HM := Lib.hid hm
          clear hm
          gi_wp2_with ((try refine ⟨hdd _, ?_⟩); gi_at_call 78; refine (CallsIn.inRound l (callsIn_wide.2 (hui _))).mono ?_; rintro e W2 ⟨rfl, rfl⟩)
          refine region_quiet_lit_round (by kernel_rfl) (by kernel_rfl) (by kernel_rfl) ?_
          repeat (gi_big_quiet_step (fail))
          refine wpQuietIn_nil ?_
          intro _ hw'
          obtain ⟨nq, hw''⟩ := hw'
          subst hw''
          clear hmb hmb2
          have hIr := infoRg
          obtain ⟨i0, hi0, hxx⟩ := Option.map_eq_some_iff.1 hIr
          simp only [Prod.mk.injEq] at hxx
          obtain ⟨hz0, hz1, hz2⟩ := hxx
          gi_wp2_with (gi_at_builtin; refine wpListIn_app1 rfl _ _ 61 rfl (w.heap.size + 2) 66 i0 _ 2 8 Tryd.underlying61 hi0 hz0 hz1 hz2 rfl (by decide) _ _ rfl (Owns.alloc (show Owns (W.drewN _) _ _ _ _ _ from HH.out.1.2.2.1) _) _ (rgC ⟨lo, hi⟩) rfl rfl (heap_newE (by simp)) ?c2 ?c3 ?c4 ?c5 ?_)
          case c2 => intro u hu; simp [rgC] at hu; rcases hu with rfl | rfl <;> rfl
          case c3 => simp; unfold maxLen; omega
          case c4 => simp; omega
          case c5 => have := heap_lt HH.out.1.2.1; simp; omega
          intro v' w4 hown' hgrow
          obtain ⟨hG0, hnx⟩ := HH.out
          obtain ⟨k1, hG, kF, kE⟩ := gather_appM (x := ⟨lo, hi⟩) hG0 (by simpa using hown') hgrow W0.heap.size
          obtain ⟨A5, c5, hv5, _, _⟩ := hown'.shape
          rw [show (List.map rgC fr ++ [rgC y, rgC ⟨lo, hi⟩]).length = fr.length + 2 by simp] at hv5
          subst hv5
          have q1 : w4.cell? ⟨w.heap.size + 1, 0, none⟩ = some (.slice (some ⟨g, 0, none⟩) (fr.length + 1) c1) := by rw [cell_of_blk k1]; rfl
          have q2 : w4.frozen? ⟨w.heap.size + 1, 0, none⟩ = false := by simp [World.frozen?, k1]
          have HG := Lib.hid (And.intro hG (And.intro kF (And.intro kE hnx)))
          clear hG0 hnx hG kF kE k1 hown' hgrow
          gi_wp2
          obtain ⟨hG, kF, kE, hnx⟩ := HG.out
          rw [if_neg HM.out] at hnx
          exact ⟨kF, kE, _, hG.1, hG.2.1, by rw [hnx]; exact hG.2.2.1, hG.2.2.2⟩
    · have hd : decide (n = 2) = false := by simpa using hn
      simp only [hd, Bool.false_eq_true, if_false] at hnx
      have HH := Lib.hid (And.intro h0 (And.intro h1 (And.intro h2 (And.intro hB hnx))))
      have hui : ∀ W', Calls Tryd.prog 78 #[.int .i64 n] W' fun e w' => e = .returned (.bool false) ∧ W' = w' := fun W' => by rw [← hd]; exact isTwo_any W' n
      clear h0 h1 h2 hB hnx hd
      generalize thoseW (fun n => decide (n = 2)) pre = out at *
      gi_wp2_with ((try refine ⟨hdd _, ?_⟩); gi_at_call 78; refine (CallsIn.inRound l (callsIn_wide.2 (hui _))).mono ?_; rintro e W2 ⟨rfl, rfl⟩)
      obtain ⟨h0, h1, h2, hB, hnx⟩ := HH.out
      exact ⟨keepsFrom_below (Below.refl _ _), KeepsE.of_below (Below.refl _ _) hB.size, _, h0, h1, by rw [hnx]; exact h2, hB⟩
  case done =>
    rintro D ys W hD rfl ⟨v, h0, h1, h2, hB⟩ hK
    have hcr : W.cell? ⟨w.heap.size + 1, 0, none⟩ = some v := by rw [cell_of_blk h1]; rfl
    have HH := Lib.hid (And.intro h2 hB)
    clear h0 h1 h2 hB
    gi_wp2
    obtain ⟨h2, hB⟩ := HH.out
    refine ⟨by simp, .inl ⟨_, _, rfl, run_takeDeferred hK, ?_⟩⟩
    have hne : v.ownBlock = none ∨ v.ownBlock ≠ some D := by
      cases hv : v.ownBlock with
      | none => exact .inl rfl
      | some g =>
        refine .inr fun e => ?_
        cases e
        obtain ⟨cs, fz, hk⟩ := Lib.ownsRow_kind h2.1 D hv
        rw [hk] at hK; cases hK
    have h3 : Owns (W.putObj D (.deferred none)) w.heap.size 66 2 v ((thoseOf (fun n => decide (n = 2)) (spansOf 0 0 es)).map rgC) := by
      have h4 := h2.kept (grownBy_putObj' W D (.deferred none)) hne
      rw [thoseW_eq _ _ (fun x hx => (HE.out.2 x hx).1)] at h4
      exact ⟨Joins.ownsRow_le h4.1 (by omega), h4.2⟩
    refine ⟨v, ?_, v, rfl, h3, hB.trans (belowK_b (w := w) (Nat.le_refl _) W D _ _ (by omega) hK rfl rfl)⟩
    simp [results, Tryd.f75, go_sem]
  case stop => exact fun _ _ _ _ _ _ h => h.elim
end Go.Proofs.YthclpabmbhpohaaDoor
namespace Go.Proofs.YthclpabmbhpohaaDoor
set_option linter.unusedVariables false
def RgOK (x : Rg) : Prop := 0 ≤ x.lo ∧ x.lo ≤ x.hi ∧ x.hi ≤ 1114111
/-- A set, as the document has it. -/
def SetOK (l : List Rg) : Prop := (∀ x ∈ l, RgOK x) ∧ l.Pairwise (fun x y => x.hi + 2 ≤ y.lo)
theorem put_snoc (fr : List Rg) (y x : Rg) : putSpan (fr ++ [y]) x = if y.hi + 1 = x.lo then fr ++ [⟨y.lo, x.hi⟩] else fr ++ [y] ++ [x] := by simp [putSpan]
theorem put_nil (x : Rg) : putSpan [] x = [x] := rfl
theorem setOK_put (out : List Rg) (x : Rg) (h : SetOK out) (hx : RgOK x) (hl : ∀ y ∈ out, y.hi < x.lo) : SetOK (putSpan out x) ∧ ∀ y ∈ putSpan out x, y.hi ≤ x.hi := by
  rcases List.eq_nil_or_concat out with rfl | ⟨fr, y, rfl⟩
  · rw [put_nil]; exact ⟨⟨by simpa using hx, by simp⟩, by simp⟩
  · rw [List.concat_eq_append] at *
    rw [put_snoc]
    obtain ⟨h1, h2⟩ := h
    have hy := h1 y (by simp)
    have hyl := hl y (by simp)
    obtain ⟨hx0, hx1, hx2⟩ := hx
    obtain ⟨hy0, hy1, hy2⟩ := hy
    obtain ⟨p1, p2, p3⟩ := List.pairwise_append.1 h2
    split
    · refine ⟨⟨fun z hz => ?_, List.pairwise_append.2 ⟨p1, by simp, fun a ha b hb => ?_⟩⟩, fun z hz => ?_⟩
      · rcases List.mem_append.1 hz with hz | hz
        · exact h1 z (by simp [hz])
        · rw [List.mem_singleton.1 hz]; exact ⟨hy0, by simp; omega, hx2⟩
      · rw [List.mem_singleton.1 hb]; exact p3 a ha y (by simp)
      · rcases List.mem_append.1 hz with hz | hz
        · have := hl z (by simp [hz]); omega
        · rw [List.mem_singleton.1 hz]; simp
    · rename_i hne
      refine ⟨⟨fun z hz => ?_, List.pairwise_append.2 ⟨h2, by simp, fun a ha b hb => ?_⟩⟩, fun z hz => ?_⟩
      · rcases List.mem_append.1 hz with hz | hz
        · exact h1 z hz
        · rw [List.mem_singleton.1 hz]; exact ⟨hx0, hx1, hx2⟩
      · rw [List.mem_singleton.1 hb]
        rcases List.mem_append.1 ha with ha | ha
        · have := p3 a ha y (by simp); omega
        · rw [List.mem_singleton.1 ha]; omega
      · rcases List.mem_append.1 hz with hz | hz
        · have := hl z hz; omega
        · rw [List.mem_singleton.1 hz]; omega
theorem setOK_fold (is : Int → Bool) : ∀ (es : List (Int × Int)) (f n : Int) (out : List Rg), 0 ≤ f → (∀ x ∈ es, x.1 ≤ 1114112) → SetOK out → (∀ y ∈ out, y.hi < f) →
    SetOK ((spansOf f n es).foldl (fun out s => if is s.2 then putSpan out s.1 else out) out)
  | [], f, n, out, hf, _, ho, hl => by
    rw [spansOf]
    split
    · rw [List.foldl_cons, List.foldl_nil]
      split
      · exact (setOK_put out _ ho ⟨hf, by assumption, by simp⟩ hl).1
      · exact ho
    · exact ho
  | x :: es, f, n, out, hf, h, ho, hl => by
    have hx := h x (by simp)
    have hr := fun y hy => h y (List.mem_cons_of_mem _ hy)
    rw [spansOf]
    split
    · rw [List.foldl_cons]
      split
      · obtain ⟨h1, h2⟩ := setOK_put out ⟨f, x.1 - 1⟩ ho ⟨hf, by simp; omega, by simp; omega⟩ hl
        exact setOK_fold is es _ _ _ (by omega) hr h1 (fun y hy => by have := h2 y hy; simp at this; omega)
      · exact setOK_fold is es _ _ _ (by omega) hr ho (fun y hy => by have := hl y hy; omega)
    · exact setOK_fold is es _ _ _ hf hr ho hl
theorem edge1_ok {x : Rg} (h : RgOK x) : edge1 x = [(x.lo, 1), (x.hi + 1, -1)] := by
  obtain ⟨h0, h1, h2⟩ := h
  have e1 : max x.lo 0 = x.lo := by omega
  have e2 : min x.hi 1114111 = x.hi := by omega
  unfold edge1
  rw [e1, e2, if_pos h1]
theorem edges_sorted : ∀ {l : List Rg}, SetOK l → (l.flatMap edge1).Pairwise (fun x y => x.1 ≤ y.1)
  | [], _ => by simp
  | x :: l, ⟨h1, h2⟩ => by
    have hx := h1 x (by simp)
    have h3 : SetOK l := ⟨fun y hy => h1 y (by simp [hy]), (List.pairwise_cons.1 h2).2⟩
    rw [List.flatMap_cons, edge1_ok hx]
    refine List.pairwise_append.2 ⟨by have := hx.2.1; simp; omega, edges_sorted h3, fun a ha b hb => ?_⟩
    obtain ⟨y, hy, hb⟩ := List.mem_flatMap.1 hb
    rw [edge1_ok (h3.1 y hy)] at hb
    have h4 := (List.pairwise_cons.1 h2).1 y hy
    have h5 := hx.2.1
    have h6 := (h3.1 y hy).2.1
    simp only [List.mem_cons, List.not_mem_nil, or_false] at ha hb
    rcases ha with rfl | rfl <;> rcases hb with rfl | rfl <;> simp <;> omega
theorem fold_self : ∀ (l out : List Rg) (f : Int), SetOK l → 0 ≤ f → (∀ x ∈ l, f ≤ x.lo) → (∀ y ∈ out, ∀ x ∈ l, y.hi + 1 < x.lo) →
    (spansOf f 0 (l.flatMap edge1)).foldl (fun out s => if decide (0 < s.2) then putSpan out s.1 else out) out = out ++ l
  | [], out, f, _, hf, _, _ => by
    rw [List.flatMap_nil, spansOf]
    split <;> simp
  | x :: l, out, f, ⟨h1, h2⟩, hf, hlo, hg => by
    have hx := h1 x (by simp)
    have h3 : SetOK l := ⟨fun y hy => h1 y (by simp [hy]), (List.pairwise_cons.1 h2).2⟩
    have hfx := hlo x (by simp)
    have hp : putSpan out x = out ++ [x] := by
      rcases List.eq_nil_or_concat out with rfl | ⟨fr, y, rfl⟩
      · rfl
      · rw [List.concat_eq_append] at *
        rw [put_snoc, if_neg (by have := hg y (by simp) x (by simp); omega)]
    have ih := fold_self l (out ++ [x]) (x.hi + 1) h3 (by have := hx.1; have := hx.2.1; omega) (fun y hy => by have := (List.pairwise_cons.1 h2).1 y hy; omega)
      (fun y hy z hz => by
        rcases List.mem_append.1 hy with hy | hy
        · have h5 := hg y hy x (by simp)
          have h6 := (List.pairwise_cons.1 h2).1 z hz
          have h7 := hx.2.1
          omega
        · rw [List.mem_singleton.1 hy]; have h6 := (List.pairwise_cons.1 h2).1 z hz; omega)
    rw [List.append_assoc, List.singleton_append] at ih
    have h8 := hx.2.1
    have hbody : ∀ g : Int, g = x.lo → (spansOf g 1 ((x.hi + 1, -1) :: l.flatMap edge1)).foldl (fun out s => if decide (0 < s.2) then putSpan out s.1 else out) out = out ++ x :: l := by
      rintro g rfl
      rw [spansOf, if_pos (by show x.lo < x.hi + 1; omega), List.foldl_cons]
      simp only [show (1 : Int) + -1 = 0 by omega, Int.add_sub_cancel]
      rw [if_pos (by simp)]
      show List.foldl _ (putSpan out x) _ = _
      rw [hp]; exact ih
    rw [List.flatMap_cons, edge1_ok hx, List.cons_append, List.cons_append, List.nil_append, spansOf]
    by_cases hc : f < x.lo
    · rw [if_pos hc, List.foldl_cons, if_neg (by simp)]
      exact hbody x.lo rfl
    · rw [if_neg hc]
      exact hbody f (by omega)
theorem right_iff (l : List Rg) : rightR l = true ↔ SetOK l := by
  unfold rightR
  rw [eqR_eq]
  constructor
  · intro h
    rw [h]
    unfold normOf thoseOf
    refine setOK_fold (fun n => decide (0 < n)) _ 0 0 [] (by omega) (fun x hx => ?_) ⟨by simp, by simp⟩ (by simp)
    have hm : x ∈ edgesOf [l] := (List.mergeSort_perm _ _).subset hx
    exact (edges_vals l x hm).1.2
  · intro h
    have h1 := norm_any [l] (edgesOf [l]) (List.Perm.refl _) (by simpa [edgesOf] using edges_sorted h)
    rw [← h1]
    have h2 := fold_self l [] 0 h (by omega) (fun x hx => (h.1 x hx).1) (by simp)
    simp only [edgesOf, List.flatMap_cons, List.flatMap_nil, List.append_nil]
    unfold thoseOf
    rw [h2]; rfl
end Go.Proofs.YthclpabmbhpohaaDoor
namespace Go.Proofs.YthclpabmbhpohaaDoor
open Go.RowKit
set_option linter.unusedVariables false
def inR (c : Int) (x : Rg) : Bool := decide (x.lo ≤ c) && decide (c ≤ x.hi)
def hasB (l : List Rg) (c : Int) : Bool := decide (0 ≤ c) && decide (c ≤ 1114111) && l.any (inR c)
theorem rg_at2 {ok : Nat → Prop} {w : World} {A : Option Addr} {xs : List Rg} (h : Arr ok w 2 RgC A xs) (wr : World) (hmv : Below w.heap.size w wr) (i : Nat) (hi : i < xs.length) :
    ∃ ad, A = some ad ∧ wr.cell? (ad.add (i * 2)) = some (.int .i32 xs[i].lo) ∧ wr.cell? ⟨(ad.add (i * 2)).block, (ad.add (i * 2)).off + 1, none⟩ = some (.int .i32 xs[i].hi) := by
  obtain ⟨ad, cs, rfl, hok, hE, hl, hc0⟩ := h i _ (List.getElem?_eq_getElem hi)
  have hb : ad.block < w.heap.size := by
    have := World.block_lt_of_cell? w _ (hc0 0 _ (List.getElem?_eq_getElem (by omega)))
    rwa [add_block] at this
  obtain rfl : cs = [.int .i32 xs[i].lo, .int .i32 xs[i].hi] := hE
  have hc : ∀ j u, [Value.int .i32 xs[i].lo, .int .i32 xs[i].hi][j]? = some u → wr.cell? (ad.add (i * 2 + j)) = some u := fun j u hu => by
    rw [← hc0 j u hu]; exact World.cell?_of_block (by rw [add_block]; exact hmv.block _ hb)
  exact ⟨ad, rfl, hc 0 _ rfl, by rw [← add_field _ _ 1 (by omega)]; exact hc 1 _ rfl⟩
set_option maxRecDepth 100000 in
theorem has1_any (w : World) (b0 : Nat) (c : Int) (x : Rg) (hb : w.cell? ⟨b0, 0, none⟩ = some (.int .i32 c)) :
    Calls Tryd.prog 69 #[.agg #[.int .i32 x.lo, .int .i32 x.hi], .pointer (some ⟨b0, 0, none⟩)] w fun e w' => e = .returned (.bool (inR c x)) ∧ Below w.heap.size w w' := by
  go_enter Tryd.func69, Tryd.ntmps69
  have h1 := heap_new1 w (.cells #[.int .i32 x.lo, .int .i32 x.hi] 66)
  have h2 := below_al (Below.refl w.heap.size w) (.cells #[.int .i32 x.lo, .int .i32 x.hi] 66)
  have h3 := (h2.block b0 (World.block_lt_of_cell? w _ hb))
  have h4 : (w.alloc (.cells #[.int .i32 x.lo, .int .i32 x.hi] 66)).cell? ⟨b0, 0, none⟩ = some (.int .i32 c) := by rw [← hb]; exact World.cell?_of_block h3
  go_wp2_with fail
  all_goals
    go_ret
    refine ⟨ret_bool ?_, h2⟩
    unfold inR
    simp_all <;> omega
set_option maxRecDepth 100000 in
set_option maxHeartbeats 1000000 in
theorem index_has (ok : Nat → Prop) (w : World) (b0 : Nat) (c : Int) (l : List Rg) (A : Option Addr) (d : Nat) (hb : w.cell? ⟨b0, 0, none⟩ = some (.int .i32 c)) (h6 : Arr ok w 2 RgC A l) (hN : l.length ≤ 140737488351232) :
    Calls Tryd.prog 85 #[.slice A l.length d, .func (.func 69) #[] #[.pointer (some ⟨b0, 0, none⟩)]] w fun e w' => (∃ r : Int, e = .returned (.int .i64 r) ∧ decide (0 ≤ r) = l.any (inR c)) ∧ Below w.heap.size w w' := by
  have HE := Lib.hid (And.intro h6 hb)
  have hb0 := World.block_lt_of_cell? w _ hb
  clear h6 hb
  go_enter Tryd.func85, Tryd.ntmps85
  go_wp2_with fail
  go_loopw [8] (fun s8 wr => ∃ j : Nat, s8 = .int .i64 j ∧ j ≤ l.length ∧ Hid ((l.take j).any (inR c) = false) ∧ Below w.heap.size w wr) (fun s8 _ => l.length - (intOf s8).toNat)
  case atStart => exact ⟨0, rfl, Nat.zero_le _, Lib.hid (by simp), by repeat (first | exact Below.refl _ _ | apply below_al)⟩
  case round =>
    obtain ⟨j, rfl, hj, HJ, hB⟩ := hrel
    by_cases hlt : j < l.length
    · obtain ⟨ad, rfl, k0, k1⟩ := rg_at2 HE.out.1 wr hB j hlt
      have hcall := has1_any wr b0 c l[j] ((World.cell?_of_block (hB.block _ hb0)).trans HE.out.2)
      have hnx : (l.take (j + 1)).any (inR c) = inR c l[j] := by
        rw [List.take_succ_eq_append_getElem hlt, List.any_append, HJ.out]; simp
      have hmem := List.getElem_mem hlt
      generalize l[j] = x at *
      cases hq : inR c x with
      | true =>
        rw [hq] at hcall
        have HQ := Lib.hid (And.intro hq (And.intro hB hmem))
        clear hq hB hnx
        go_wp2_with (go_at_call 69; refine hcall.mono ?_; clear hcall; rintro e w1 ⟨rfl, hb1⟩)
        go_ret
        refine ⟨⟨j, rfl, ?_⟩, below_and hb1 HQ.out.2.1⟩
        rw [List.any_eq_true.2 ⟨x, HQ.out.2.2, HQ.out.1⟩]
        simp
      | false =>
        rw [hq] at hcall hnx
        have HQ := Lib.hid (And.intro hnx hB)
        clear hq hB hnx
        go_wp2_with (go_at_call 69; refine hcall.mono ?_; clear hcall; rintro e w1 ⟨rfl, hb1⟩)
        go_roundw
        case rel => exact ⟨j + 1, by go_num, by omega, Lib.hid HQ.out.1, below_and hb1 HQ.out.2⟩
        case measure => simp [intOf]; omega
    · obtain rfl : j = l.length := by omega
      go_wp2_with fail
      go_ret
      refine ⟨⟨-1, rfl, ?_⟩, hB⟩
      have := HJ.out
      rw [List.take_length] at this
      rw [this]; rfl
set_option maxRecDepth 100000 in
set_option maxHeartbeats 1000000 in
theorem contains_has (ok : Nat → Prop) (w : World) (b0 : Nat) (c : Int) (l : List Rg) (A : Option Addr) (d : Nat) (hb : w.cell? ⟨b0, 0, none⟩ = some (.int .i32 c)) (h6 : Arr ok w 2 RgC A l) (hN : l.length ≤ 140737488351232) :
    Calls Tryd.prog 68 #[.slice A l.length d, .func (.func 69) #[] #[.pointer (some ⟨b0, 0, none⟩)]] w fun e w' => e = .returned (.bool (l.any (inR c))) ∧ Below w.heap.size w w' := by
  have hi := index_has ok w b0 c l A d hb h6 hN
  clear h6 hb
  generalize l.any (inR c) = rr at *
  go_enter Tryd.func68, Tryd.ntmps68
  go_wp2_with (go_at_call 85; refine hi.mono ?_; clear hi; rintro e w1 ⟨⟨r, rfl, hr⟩, hb1⟩)
  go_ret
  exact ⟨by rw [← hr]; rfl, hb1⟩
set_option maxRecDepth 100000 in
set_option maxHeartbeats 1000000 in
theorem has_any (ok : Nat → Prop) (w : World) (c : Int) (l : List Rg) (A : Option Addr) (d : Nat) (h6 : Arr ok w 2 RgC A l) (hN : l.length ≤ 140737488351232) :
    Calls Tryd.prog 48 #[.slice A l.length d, .int .i32 c] w fun e w' => e = .returned (.bool (hasB l c)) ∧ Below w.heap.size w w' := by
  have h1 := heap_new1 w (.cells #[.int .i32 c] 21)
  have h2 := below_al (Below.refl w.heap.size w) (.cells #[.int .i32 c] 21)
  have h4 : (w.alloc (.cells #[.int .i32 c] 21)).cell? ⟨w.heap.size, 0, none⟩ = some (.int .i32 c) := by rw [cell_of_blk h1]; rfl
  have hc := contains_has ok _ w.heap.size c l A d h4 ((h6.move (fun b hb hlt => ⟨h2.block b hlt, hb⟩) (by omega))) hN
  have HS := Lib.hid (show hasB l c = (decide (0 ≤ c) && decide (c ≤ 1114111) && l.any (inR c)) from rfl)
  generalize hasB l c = res at *
  generalize l.any (inR c) = rr at *
  have H2 := Lib.hid h2
  clear h1 h2 h6
  by_cases hr : 0 ≤ c ∧ c ≤ 1114111
  · obtain ⟨ha, hb⟩ := hr
    go_enter Tryd.func48, Tryd.ntmps48
    go_wp2_with (go_at_call 68; refine hc.mono ?_; clear hc; rintro e w1 ⟨rfl, hb1⟩; have HB := Lib.hid (below_and hb1 H2.out); clear hb1)
    all_goals
      go_ret
      refine ⟨ret_bool ?_, HB.out⟩
      rw [HS.out]
      simp_all
  · go_enter Tryd.func48, Tryd.ntmps48
    go_wp2_with fail
    all_goals
      go_ret
      refine ⟨ret_bool ?_, H2.out⟩
      rw [HS.out]
      simp_all <;> omega
end Go.Proofs.YthclpabmbhpohaaDoor
namespace Go.Proofs.YthclpabmbhpohaaDoor
open Go.RowKit Go.Shelf
set_option linter.unusedVariables false
def cntE (es : List (Int × Int)) (c : Int) : Int := (es.map fun x => if x.1 ≤ c then x.2 else 0).sum
theorem cntE_cons (x : Int × Int) (es : List (Int × Int)) (c : Int) : cntE (x :: es) c = (if x.1 ≤ c then x.2 else 0) + cntE es c := by simp [cntE]
theorem cntE_app (a b : List (Int × Int)) (c : Int) : cntE (a ++ b) c = cntE a c + cntE b c := by simp [cntE]
theorem cntE_perm {a b : List (Int × Int)} (h : a.Perm b) (c : Int) : cntE a c = cntE b c := by
  induction h with
  | nil => rfl
  | cons x _ ih => rw [cntE_cons, cntE_cons, ih]
  | swap x y l => rw [cntE_cons, cntE_cons, cntE_cons, cntE_cons]; omega
  | trans _ _ i1 i2 => rw [i1, i2]
theorem cntE_zero (es : List (Int × Int)) (c : Int) (h : ∀ x ∈ es, c < x.1) : cntE es c = 0 := by
  induction es with
  | nil => rfl
  | cons x es ih => rw [cntE_cons, if_neg (by have := h x (by simp); omega), ih (fun y hy => h y (by simp [hy]))]; rfl
theorem has_put (out : List Rg) (x : Rg) (h : ∀ y ∈ out, RgOK y) (hx : RgOK x) (c : Int) : (putSpan out x).any (inR c) = (out.any (inR c) || inR c x) := by
  rcases List.eq_nil_or_concat out with rfl | ⟨fr, y, rfl⟩
  · rw [put_nil]; simp
  · rw [List.concat_eq_append] at *
    rw [put_snoc]
    obtain ⟨y0, y1, y2⟩ := h y (by simp)
    obtain ⟨x0, x1, x2⟩ := hx
    split
    · rw [List.any_append, List.any_append, Bool.or_assoc]
      congr 1
      simp only [List.any_cons, List.any_nil, Bool.or_false]
      rw [Bool.eq_iff_iff]
      simp only [inR, Bool.and_eq_true, Bool.or_eq_true, decide_eq_true_eq]
      omega
    · simp [List.any_append, Bool.or_assoc]
theorem has_fold (is : Int → Bool) (c : Int) (hc : c ≤ 1114111) : ∀ (es : List (Int × Int)) (f n : Int) (out : List Rg), 0 ≤ f → (∀ x ∈ es, f ≤ x.1 ∧ x.1 ≤ 1114112) → es.Pairwise (fun x y => x.1 ≤ y.1) → SetOK out → (∀ y ∈ out, y.hi < f) →
    ((spansOf f n es).foldl (fun out s => if is s.2 then putSpan out s.1 else out) out).any (inR c) = (out.any (inR c) || (decide (f ≤ c) && is (n + cntE es c)))
  | [], f, n, out, hf, _, _, ho, hl => by
    rw [spansOf]
    have h0 : n + cntE [] c = n := by simp [cntE]
    rw [h0]
    split
    · rename_i hfm
      rw [List.foldl_cons, List.foldl_nil]
      cases hi : is n with
      | true =>
        rw [if_pos rfl, has_put out _ ho.1 ⟨hf, hfm, by simp⟩]
        congr 1
        simp [inR]; omega
      | false => rw [if_neg (by simp)]; simp
    · rw [List.foldl_nil, decide_eq_false (by omega)]; simp
  | x :: es, f, n, out, hf, h, hp, ho, hl => by
    have hx := h x (by simp)
    obtain ⟨hp1, hp2⟩ := List.pairwise_cons.1 hp
    rw [spansOf]
    by_cases hlt : f < x.1
    · rw [if_pos hlt, List.foldl_cons]
      have hrest : ∀ y ∈ es, x.1 ≤ y.1 ∧ y.1 ≤ 1114112 := fun y hy => ⟨hp1 y hy, (h y (by simp [hy])).2⟩
      have hcz : c < x.1 → cntE (x :: es) c = 0 := fun hcx => cntE_zero _ _ (fun y hy => by
        rcases List.mem_cons.1 hy with rfl | hy
        · exact hcx
        · have := hp1 y hy; omega)
      have hcp : x.1 ≤ c → n + cntE (x :: es) c = n + x.2 + cntE es c := fun hcx => by rw [cntE_cons, if_pos hcx]; omega
      cases hi : is n with
      | true =>
        have hok : RgOK ⟨f, x.1 - 1⟩ := ⟨hf, by simp; omega, by simp; omega⟩
        obtain ⟨k1, k2⟩ := setOK_put out ⟨f, x.1 - 1⟩ ho hok hl
        rw [if_pos rfl, has_fold is c hc es _ _ _ (by omega) hrest hp2 k1 (fun y hy => by have := k2 y hy; simp at this; omega), has_put out _ ho.1 hok, Bool.or_assoc]
        congr 1
        by_cases hcx : x.1 ≤ c
        · rw [hcp hcx, decide_eq_true hcx, decide_eq_true (show f ≤ c by omega)]
          simp only [Bool.true_and]
          have : inR c ⟨f, x.1 - 1⟩ = false := by simp [inR]; omega
          rw [this, Bool.false_or]
        · rw [hcz (by omega), decide_eq_false hcx, Bool.false_and, Bool.or_false, Int.add_zero, hi, Bool.and_true]
          rw [Bool.eq_iff_iff]
          simp only [inR, Bool.and_eq_true, decide_eq_true_eq]
          omega
      | false =>
        rw [if_neg (by simp), has_fold is c hc es _ _ _ (by omega) hrest hp2 ho (fun y hy => by have := hl y hy; omega)]
        congr 1
        by_cases hcx : x.1 ≤ c
        · rw [hcp hcx, decide_eq_true hcx, decide_eq_true (show f ≤ c by omega)]
        · rw [hcz (by omega), decide_eq_false hcx, Bool.false_and, Int.add_zero, hi, Bool.and_false]
    · rw [if_neg hlt]
      obtain rfl : f = x.1 := by omega
      rw [has_fold is c hc es _ _ _ hf (fun y hy => ⟨hp1 y hy, (h y (by simp [hy])).2⟩) hp2 ho hl]
      congr 1
      by_cases hcx : x.1 ≤ c
      · rw [cntE_cons, if_pos hcx, Int.add_assoc]
      · rw [decide_eq_false hcx, Bool.false_and, Bool.false_and]
def cntR (l : List Rg) (c : Int) : Int := ((l.filter (inR c)).length : Int)
theorem cntR_cons (x : Rg) (l : List Rg) (c : Int) : cntR (x :: l) c = (if inR c x = true then 1 else 0) + cntR l c := by
  unfold cntR
  rw [List.filter_cons]
  split <;> simp <;> omega
theorem cnt_edge1 (r : Rg) (c : Int) (h0 : 0 ≤ c) (h1 : c ≤ 1114111) : cntE (edge1 r) c = if inR c r = true then 1 else 0 := by
  unfold edge1
  have hi : inR c r = true ↔ r.lo ≤ c ∧ c ≤ r.hi := by simp [inR]
  by_cases hm : max r.lo 0 ≤ min r.hi 1114111
  · rw [if_pos hm, cntE_cons, cntE_cons]
    have : cntE [] c = 0 := rfl
    rw [this]
    dsimp only
    by_cases hh : inR c r = true
    · rw [if_pos hh]; have := hi.1 hh; rw [if_pos (by omega), if_neg (by omega)]; rfl
    · rw [if_neg hh]
      have hn : ¬ (r.lo ≤ c ∧ c ≤ r.hi) := fun e => hh (hi.2 e)
      by_cases hl : max r.lo 0 ≤ c
      · rw [if_pos hl, if_pos (by omega)]; rfl
      · rw [if_neg hl, if_neg (by omega)]; rfl
  · rw [if_neg hm, if_neg (fun e => by have := hi.1 e; omega)]; rfl
theorem cnt_list (l : List Rg) (c : Int) (h0 : 0 ≤ c) (h1 : c ≤ 1114111) : cntE (l.flatMap edge1) c = cntR l c := by
  induction l with
  | nil => rfl
  | cons x l ih => rw [List.flatMap_cons, cntE_app, ih, cnt_edge1 x c h0 h1, cntR_cons]
def setOf2 (is : Int → Bool) (ls : List (List Rg)) : List Rg := thoseOf is (spansOf 0 0 ((edgesOf ls).mergeSort fun x y => decide (x.1 ≤ y.1)))
theorem setOf2_any (is : Int → Bool) (ls : List (List Rg)) (es : List (Int × Int)) (hp : es.Perm (edgesOf ls)) (hs : es.Pairwise (fun x y => x.1 ≤ y.1)) : thoseOf is (spansOf 0 0 es) = setOf2 is ls := by
  unfold setOf2
  rw [spans_perm es _ 0 0 (hp.trans (List.mergeSort_perm _ _).symm) hs]
  have h := List.pairwise_mergeSort (le := fun x y : Int × Int => decide (x.1 ≤ y.1)) (fun a b c h1 h2 => by simp at *; omega) (fun a b => by simp; omega) (edgesOf ls)
  exact h.imp (fun h => by simpa using h)
theorem edges_vals2 (ls : List (List Rg)) : ∀ x ∈ edgesOf ls, (0 ≤ x.1 ∧ x.1 ≤ 1114112) ∧ (-1 ≤ x.2 ∧ x.2 ≤ 1) := by
  intro x hx
  simp only [edgesOf, List.mem_flatMap] at hx
  obtain ⟨l, _, r, _, hx⟩ := hx
  unfold edge1 at hx
  split at hx
  · simp only [List.mem_cons, List.not_mem_nil, or_false] at hx
    rcases hx with rfl | rfl <;> simp <;> omega
  · simp at hx
theorem setOf2_ok (is : Int → Bool) (ls : List (List Rg)) : SetOK (setOf2 is ls) :=
  setOK_fold is _ 0 0 [] (by omega) (fun x hx => (edges_vals2 ls x ((List.mergeSort_perm _ _).subset hx)).1.2) ⟨by simp, by simp⟩ (by simp)
theorem setOf2_has (is : Int → Bool) (ls : List (List Rg)) (c : Int) (h0 : 0 ≤ c) (h1 : c ≤ 1114111) : (setOf2 is ls).any (inR c) = is (cntE (edgesOf ls) c) := by
  have hs := List.pairwise_mergeSort (le := fun x y : Int × Int => decide (x.1 ≤ y.1)) (fun a b c h1 h2 => by simp at *; omega) (fun a b => by simp; omega) (edgesOf ls)
  unfold setOf2 thoseOf
  rw [has_fold is c h1 _ 0 0 [] (by omega) (fun x hx => ⟨(edges_vals2 ls x ((List.mergeSort_perm _ _).subset hx)).1.1, (edges_vals2 ls x ((List.mergeSort_perm _ _).subset hx)).1.2⟩) (hs.imp (fun h => by simpa using h)) ⟨by simp, by simp⟩ (by simp)]
  rw [decide_eq_true h0, Int.zero_add, cntE_perm (List.mergeSort_perm _ _)]
  simp
theorem cnt_two (a b : List Rg) (c : Int) (h0 : 0 ≤ c) (h1 : c ≤ 1114111) : cntE (edgesOf [a, b]) c = cntR a c + cntR b c := by
  simp only [edgesOf, List.flatMap_cons, List.flatMap_nil, List.append_nil]
  rw [cntE_app, cnt_list a c h0 h1, cnt_list b c h0 h1]
theorem cntR_pos (l : List Rg) (c : Int) : 0 < cntR l c ↔ l.any (inR c) = true := by
  unfold cntR
  rw [List.any_eq_true]
  constructor
  · intro h
    obtain ⟨x, hx⟩ := List.exists_mem_of_length_pos (show 0 < (l.filter (inR c)).length by omega)
    exact ⟨x, List.mem_filter.1 hx⟩
  · rintro ⟨x, hx⟩
    have := List.length_pos_of_mem (List.mem_filter.2 hx)
    omega
theorem cntR_nonneg (l : List Rg) (c : Int) : 0 ≤ cntR l c := by unfold cntR; omega
theorem cntR_one {l : List Rg} (h : SetOK l) (c : Int) : cntR l c ≤ 1 := by
  obtain ⟨h0, h⟩ := h
  clear h0
  induction l with
  | nil => simp [cntR]
  | cons x l ih =>
    obtain ⟨p1, p2⟩ := List.pairwise_cons.1 h
    rw [cntR_cons]
    have := ih p2
    split
    · rename_i hx
      have hz : ¬ 0 < cntR l c := by
        rw [cntR_pos, List.any_eq_true]
        rintro ⟨y, hy, hyc⟩
        have h3 := p1 y hy
        simp only [inR, Bool.and_eq_true, decide_eq_true_eq] at hx hyc
        omega
      omega
    · omega
theorem normOf_eq (ls : List (List Rg)) : normOf ls = setOf2 (fun n => decide (0 < n)) ls := rfl
/-- What the union has. -/
theorem has_union (a b : List Rg) (c : Int) : hasB (normOf [a, b]) c = (hasB a c || hasB b c) := by
  unfold hasB
  by_cases h : 0 ≤ c ∧ c ≤ 1114111
  · rw [normOf_eq, setOf2_has _ _ c h.1 h.2, cnt_two a b c h.1 h.2, decide_eq_true h.1, decide_eq_true h.2]
    simp only [Bool.true_and]
    have := cntR_nonneg a c
    have := cntR_nonneg b c
    rw [Bool.eq_iff_iff, Bool.or_eq_true, ← cntR_pos, ← cntR_pos, decide_eq_true_eq]
    omega
  · have : (decide (0 ≤ c) && decide (c ≤ 1114111)) = false := by
      rw [Bool.and_eq_false_iff, decide_eq_false_iff_not, decide_eq_false_iff_not]; omega
    simp only [this, Bool.false_and, Bool.or_false]
theorem edges_one2 (l : List Rg) : edgesOf [l, []] = edgesOf [l] := by simp [edgesOf]
theorem has_norm (a : List Rg) (c : Int) : hasB (normOf [a]) c = hasB a c := by
  have h := has_union a [] c
  have e : normOf [a, []] = normOf [a] := by unfold normOf; rw [edges_one2]
  rw [e] at h
  rw [h]
  simp [hasB]
/-- What both have. -/
def meetOf (a b : List Rg) : List Rg := setOf2 (fun n => decide (n = 2)) [normOf [a], normOf [b]]
def meetB (a b : List Rg) : Bool := decide (0 < (meetOf a b).length)
theorem any_has {l : List Rg} {c : Int} (h0 : 0 ≤ c) (h1 : c ≤ 1114111) : l.any (inR c) = hasB l c := by
  unfold hasB; rw [decide_eq_true h0, decide_eq_true h1]; rfl
theorem meetB_iff (a b : List Rg) : meetB a b = true ↔ ∃ c, hasB a c = true ∧ hasB b c = true := by
  have key : ∀ c, 0 ≤ c → c ≤ 1114111 → ((meetOf a b).any (inR c) = true ↔ hasB a c = true ∧ hasB b c = true) := by
    intro c h0 h1
    unfold meetOf
    rw [setOf2_has _ _ c h0 h1, cnt_two _ _ c h0 h1, decide_eq_true_eq, ← has_norm a, ← has_norm b, ← any_has h0 h1, ← any_has h0 h1, ← cntR_pos, ← cntR_pos]
    have k1 := cntR_one (l := normOf [a]) (setOf2_ok _ _) c
    have k2 := cntR_one (l := normOf [b]) (setOf2_ok _ _) c
    omega
  unfold meetB
  rw [decide_eq_true_eq]
  constructor
  · intro h
    obtain ⟨x, hx⟩ := List.exists_mem_of_length_pos h
    obtain ⟨o1, o2, o3⟩ := (setOf2_ok (fun n => decide (n = 2)) [normOf [a], normOf [b]]).1 x hx
    have : (meetOf a b).any (inR x.lo) = true := List.any_eq_true.2 ⟨x, hx, by simp [inR]; omega⟩
    exact ⟨x.lo, (key x.lo o1 (by omega)).1 this⟩
  · rintro ⟨c, h1, h2⟩
    have hc : 0 ≤ c ∧ c ≤ 1114111 := by
      unfold hasB at h1
      simp only [Bool.and_eq_true, decide_eq_true_eq] at h1
      exact h1.1
    have := (key c hc.1 hc.2).2 ⟨h1, h2⟩
    obtain ⟨x, hx, _⟩ := List.any_eq_true.1 this
    exact List.length_pos_of_mem hx
theorem has_nil (c : Int) : hasB [] c = false := by simp [hasB]
end Go.Proofs.YthclpabmbhpohaaDoor
namespace Go.Proofs.YthclpabmbhpohaaDoor
open Go.RowKit Go.Shelf Go.Lib Go.Sort
set_option linter.unusedVariables false
def ListPost (l : List Rg) (w : World) (e : Ending) (w' : World) : Prop := ∃ v, e = .returned v ∧ OwnR w' w.heap.size v l ∧ Below w.heap.size w w'
theorem edges_len2 (a b : List Rg) (ha : a.length ≤ 1000000000) (hb : b.length ≤ 1000000000) (es : List (Int × Int)) (hp : es.Perm (edgesOf [a, b])) : es.length ≤ 5000000000 := by
  have h3 := hp.length_eq
  have h4 := flat_len a
  have h5 := flat_len b
  simp only [edgesOf, List.flatMap_cons, List.flatMap_nil, List.append_nil, List.length_append] at h3
  omega
theorem those_two (w1 : World) (B0 : Nat) (v : Value) (a b : List Rg) (es : List (Int × Int)) (hp : es.Perm (edgesOf [a, b])) (hs : es.Pairwise (fun x y => x.1 ≤ y.1)) (ho : OwnE w1 B0 v es) (ha : a.length ≤ 1000000000) (hb : b.length ≤ 1000000000) :
    Calls Tryd.prog 75 #[v, .func (.func 79) #[] #[]] w1 (ListPost (normOf [a, b]) w1) := by
  obtain ⟨A, c, rfl, h1, h2⟩ := Owns.shape ho
  rw [List.length_map]
  have h := callsIn_wide.1 (those_in w1 A c es (Owns.arr (css := es.map edgeC) (xs := es) (show Owns _ _ _ _ _ _ from (by have h5 := ho; unfold OwnE at h5; simpa using h5)) (by simp) (fun i x cc hi hc => by
    rw [List.getElem?_map, hi] at hc; simpa using hc.symm) (fun a ha => by subst ha; exact (Owns.lt ho a.block rfl).2)) (edges_len2 a b ha hb es hp) (fun x hx => edges_vals2 _ x (hp.subset hx)))
  refine h.mono fun e w' ⟨v, h1, h2, h3⟩ => ⟨v, h1, ?_, h3⟩
  rwa [norm_any [a, b] es hp hs] at h2
theorem those_twoM (w1 : World) (B0 : Nat) (v : Value) (a b : List Rg) (es : List (Int × Int)) (hp : es.Perm (edgesOf [a, b])) (hs : es.Pairwise (fun x y => x.1 ≤ y.1)) (ho : OwnE w1 B0 v es) (ha : a.length ≤ 1000000000) (hb : b.length ≤ 1000000000) :
    Calls Tryd.prog 75 #[v, .func (.func 78) #[] #[]] w1 (ListPost (setOf2 (fun n => decide (n = 2)) [a, b]) w1) := by
  obtain ⟨A, c, rfl, h1, h2⟩ := Owns.shape ho
  rw [List.length_map]
  have h := callsIn_wide.1 (those_inM w1 A c es (Owns.arr (css := es.map edgeC) (xs := es) (show Owns _ _ _ _ _ _ from (by have h5 := ho; unfold OwnE at h5; simpa using h5)) (by simp) (fun i x cc hi hc => by
    rw [List.getElem?_map, hi] at hc; simpa using hc.symm) (fun a ha => by subst ha; exact (Owns.lt ho a.block rfl).2)) (edges_len2 a b ha hb es hp) (fun x hx => edges_vals2 _ x (hp.subset hx)))
  refine h.mono fun e w' ⟨v, h1, h2, h3⟩ => ⟨v, h1, ?_, h3⟩
  rwa [setOf2_any _ [a, b] es hp hs] at h2
theorem arr_two {ok ok2 : Nat → Prop} {w : World} {A B : Option Addr} {c d : Nat} {a b : List Rg} (h : Arr ok w 2 RgC A a) (k : Arr ok2 w 2 RgC B b) :
    Arr (fun b => True) (w.alloc (.cells #[.slice A a.length c, .slice B b.length d] 61)) 1 (RgsC (fun b => True) (w.alloc (.cells #[.slice A a.length c, .slice B b.length d] 61))) (some ⟨w.heap.size, 0, none⟩) [a, b] := by
  have hm := h.move (ok' := fun b => True) (w' := w.alloc (.cells #[.slice A a.length c, .slice B b.length d] 61)) (fun b hb hlt => ⟨Below.heap_alloc _ _ _ hlt, trivial⟩) (by omega)
  have km := k.move (ok' := fun b => True) (w' := w.alloc (.cells #[.slice A a.length c, .slice B b.length d] 61)) (fun b hb hlt => ⟨Below.heap_alloc _ _ _ hlt, trivial⟩) (by omega)
  have hn := heap_new1 w (.cells #[.slice A a.length c, .slice B b.length d] 61)
  intro i x hx
  match i, hx with
  | 0, hx =>
    simp at hx; subst hx
    refine ⟨_, [.slice A a.length c], rfl, trivial, ⟨A, c, rfl, hm⟩, rfl, fun j u hu => ?_⟩
    match j, hu with
    | 0, hu => simp at hu; subst hu; rw [Nat.zero_mul]; exact (cell_of_blk hn 0).trans rfl
  | 1, hx =>
    simp at hx; subst hx
    refine ⟨_, [.slice B b.length d], rfl, trivial, ⟨B, d, rfl, km⟩, rfl, fun j u hu => ?_⟩
    match j, hu with
    | 0, hu => simp at hu; subst hu; exact (cell_of_blk hn 1).trans rfl
theorem two_le2 {a b : List Rg} (ha : a.length ≤ 1000000000) (hb : b.length ≤ 1000000000) : ∀ x ∈ [a, b], x.length ≤ 1000000000 := by
  intro x hx
  rcases List.mem_cons.1 hx with rfl | hx
  · exact ha
  · rw [List.mem_singleton.1 hx]; exact hb
set_option maxHeartbeats 400000 in
theorem union_any (ok ok2 : Nat → Prop) (w : World) (A B : Option Addr) (c d : Nat) (a b : List Rg) (h : Arr ok w 2 RgC A a) (k : Arr ok2 w 2 RgC B b) (ha : a.length ≤ 1000000000) (hb : b.length ≤ 1000000000) :
    Calls Tryd.prog 59 #[.slice A a.length c, .slice B b.length d] w (ListPost (normOf [a, b]) w) := by
  have hed := edges_any _ _ _ 2 [a, b] (arr_two (c := c) (d := d) h k) (by simp) (two_le2 ha hb)
  have HH := Lib.hid (fun w1 B0 v es hp hs ho => those_two w1 B0 v a b es hp hs ho ha hb)
  clear h k
  go_enter Tryd.func59, Tryd.ntmps59
  go_wp2_with (go_at_call 76; refine hed.mono ?_; clear hed; rintro e w1 ⟨v, es, rfl, hp, hs, ho, hb⟩)
  have hth := HH.out w1 _ v es hp hs ho
  have hb1 := below_and hb (below_al (Below.refl _ _) _)
  have HB := Lib.hid hb1
  clear hp hs ho hb hb1
  go_wp2_with (go_at_call 75; refine hth.mono ?_; clear hth; rintro e w2 ⟨v2, rfl, ho2, hb2⟩)
  go_ret
  exact ⟨v2, rfl, ⟨Joins.ownsRow_le ho2.1 HB.out.size, ho2.2⟩, below_and hb2 HB.out⟩
theorem setOK_len : ∀ {l : List Rg}, SetOK l → ∀ (m : Int), (∀ x ∈ l, m ≤ x.lo) → m ≤ 1114112 → (l.length : Int) ≤ 1114112 - m
  | [], _, m, _, hm => by simp; omega
  | x :: l, h, m, hx, _ => by
    obtain ⟨h1, h2⟩ := h
    obtain ⟨p1, p2⟩ := List.pairwise_cons.1 h2
    obtain ⟨o0, o1, o2⟩ := h1 x (by simp)
    have h9 := hx x (by simp)
    have := setOK_len (l := l) ⟨fun y hy => h1 y (by simp [hy]), p2⟩ (x.hi + 1) (fun y hy => by have := p1 y hy; omega) (by omega)
    rw [List.length_cons]; omega
theorem set2_len (is : Int → Bool) (ls : List (List Rg)) : (setOf2 is ls).length ≤ 2000000 := by
  have h := setOf2_ok is ls
  have := setOK_len h 0 (fun x hx => (h.1 x hx).1) (by omega)
  omega
theorem norm_len (ls : List (List Rg)) : (normOf ls).length ≤ 2000000 := set2_len _ ls
theorem ownR_arr {w : World} {base : Nat} {v : Value} {l : List Rg} (h : OwnR w base v l) : ∃ A c, v = .slice A l.length c ∧ l.length ≤ c ∧ c ≤ maxLen ∧ Arr (fun k => base ≤ k ∧ k < w.heap.size ∧ ∃ cs fr, w.heap[k]? = some (.cells cs 66 fr)) w 2 RgC A l := by
  have h5 := h
  obtain ⟨A, c, rfl, h1, h2⟩ := Owns.shape h
  rw [List.length_map] at h1 ⊢
  refine ⟨A, c, rfl, h1, h2, Owns.arr (css := l.map rgC) (xs := l) (show Owns _ _ _ _ _ _ from (by have h6 := h5; unfold OwnR at h6; simpa using h6)) (by simp) (fun i x cc hi hc => by
    rw [List.getElem?_map, hi] at hc; simpa [RgC, rgC] using hc.symm) (fun a ha => ?_)⟩
  subst ha
  obtain ⟨k1, k2⟩ := Owns.lt h5 a.block rfl
  obtain ⟨cs, fz, hc⟩ := Lib.ownsRow_kind h5.1 a.block rfl
  exact ⟨k1, k2, cs, _, hc⟩
set_option maxHeartbeats 1000000 in
theorem meet_any (ok ok2 : Nat → Prop) (w : World) (A B : Option Addr) (c d : Nat) (a b : List Rg) (h : Arr ok w 2 RgC A a) (k : Arr ok2 w 2 RgC B b) (ha : a.length ≤ 1000000000) (hb : b.length ≤ 1000000000) :
    Calls Tryd.prog 58 #[.slice A a.length c, .slice B b.length d] w (ListPost (meetOf a b) w) := by
  have hn1 := norm_of ok w A c a h ha
  have hn2 := fun (W : World) (hW : Below w.heap.size w W) => norm_of (fun _ => True) W B d b (k.move (fun x hx hlt => ⟨hW.block x hlt, trivial⟩) (by omega)) hb
  have HH := Lib.hid (fun w1 B0 v es hp hs ho => those_twoM w1 B0 v (normOf [a]) (normOf [b]) es hp hs ho (by have := norm_len [a]; omega) (by have := norm_len [b]; omega))
  have HM := Lib.hid (show meetOf a b = setOf2 (fun n => decide (n = 2)) [normOf [a], normOf [b]] from rfl)
  have la := norm_len [a]
  have lb := norm_len [b]
  generalize meetOf a b = mm at *
  generalize hna : normOf [a] = na at *
  generalize hnb : normOf [b] = nb at *
  have HN := Lib.hid (And.intro hna hnb)
  clear h k hna hnb ha hb
  go_enter Tryd.func58, Tryd.ntmps58
  go_wp2_with fail
  refine hn1.mono ?_
  clear hn1
  rintro e w1 ⟨v1, rfl, ho1, hb1⟩
  rw [HN.out.1] at ho1
  dsimp only
  obtain ⟨A1, c1, rfl, _, _, r1⟩ := ownR_arr ho1
  have hn2 := hn2 w1 hb1
  have H1 := Lib.hid (And.intro r1 hb1)
  clear ho1 hb1 r1
  go_wp2_with fail
  refine hn2.mono ?_
  clear hn2
  rintro e w2 ⟨v2, rfl, ho2, hb2⟩
  rw [HN.out.2] at ho2
  dsimp only
  obtain ⟨A2, c2, rfl, _, _, r2⟩ := ownR_arr ho2
  have hed := edges_any _ _ _ 2 [na, nb] (arr_two (c := c1) (d := c2) (H1.out.1.move (ok' := fun _ => True) (fun x hx hlt => ⟨hb2.block x hlt, trivial⟩) (by omega)) r2) (by simp) (two_le2 (by omega) (by omega))
  have H2 := Lib.hid (below_and hb2 H1.out.2)
  clear ho2 hb2 r2
  go_wp2_with (go_at_call 76; refine hed.mono ?_; clear hed; rintro e w3 ⟨v, es, rfl, hp, hs, ho, hb⟩)
  have hth := HH.out w3 _ v es hp hs ho
  have hb1 := below_and hb (below_al H2.out _)
  have HB := Lib.hid hb1
  clear hp hs ho hb hb1
  go_wp2_with (go_at_call 75; refine hth.mono ?_; clear hth; rintro e w4 ⟨v4, rfl, ho4, hb4⟩)
  go_ret
  exact ⟨v4, rfl, by rw [HM.out]; exact ⟨Joins.ownsRow_le ho4.1 HB.out.size, ho4.2⟩, below_and hb4 HB.out⟩
end Go.Proofs.YthclpabmbhpohaaDoor
namespace Go.Proofs.YthclpabmbhpohaaDoor
open Go.RowKit
set_option linter.unusedVariables false
theorem Owns.lower {w : World} {base b' : Nat} {e : TypeId} {sz : Nat} {v : Value} {css : List (List Value)} (h : Owns w base e sz v css) (hb : b' ≤ base) : Owns w b' e sz v css := ⟨h.1.mono hb, h.2⟩
def LoR (s : List Rg) : Prop := s.Pairwise (fun x y => x.lo ≤ y.lo)
def anyIn (s t : List Rg) : Prop := ∀ c, 0 ≤ c → c ≤ 1114111 → s.any (inR c) = t.any (inR c)
theorem ins_ok {s : List Rg} (a : Nat) {r : Rg} (hs : ∀ x ∈ s, RgOK x) (hr : RgOK r) : ∀ x ∈ s.take a ++ [r] ++ s.drop a, RgOK x := by
  intro x hx
  rcases List.mem_append.1 hx with hx | hx
  · rcases List.mem_append.1 hx with hx | hx
    · exact hs x (List.mem_of_mem_take hx)
    · rw [List.mem_singleton.1 hx]; exact hr
  · exact hs x (List.mem_of_mem_drop hx)
theorem ins_lo {s : List Rg} (a : Nat) {r : Rg} (hs : LoR s) (h : (∀ x ∈ s.take a, x.lo ≤ r.lo) ∧ ∀ x ∈ s.drop a, r.lo ≤ x.lo) : LoR (s.take a ++ [r] ++ s.drop a) := by
  have h3 : LoR (s.take a ++ s.drop a) := by rw [List.take_append_drop]; exact hs
  obtain ⟨p1, p2, p3⟩ := List.pairwise_append.1 h3
  refine List.pairwise_append.2 ⟨List.pairwise_append.2 ⟨p1, by simp, fun x hx y hy => ?_⟩, p2, fun x hx y hy => ?_⟩
  · rw [List.mem_singleton.1 hy]; exact h.1 x hx
  · rcases List.mem_append.1 hx with hx | hx
    · exact p3 x hx y hy
    · rw [List.mem_singleton.1 hx]; exact h.2 y hy
theorem ins_any (s : List Rg) (a : Nat) (r : Rg) (c : Int) : (s.take a ++ [r] ++ s.drop a).any (inR c) = (s.any (inR c) || inR c r) := by
  have : s.any (inR c) = ((s.take a).any (inR c) || (s.drop a).any (inR c)) := by rw [← List.any_append, List.take_append_drop]
  rw [List.any_append, List.any_append, this]
  simp only [List.any_cons, List.any_nil, Bool.or_false]
  cases (s.take a).any (inR c) <;> cases inR c r <;> cases (s.drop a).any (inR c) <;> rfl
theorem ins_len (s : List Rg) (a : Nat) (r : Rg) : (s.take a ++ [r] ++ s.drop a).length = s.length + 1 := by
  rw [List.length_append, List.length_append, List.length_take, List.length_drop]; simp; omega
theorem setOK_nil : SetOK [] := ⟨by simp, List.Pairwise.nil⟩
theorem glue_new {out : List Rg} {x : Rg} (ho : SetOK out) (hx : RgOK x) (hl : ∀ y ∈ out, y.hi + 2 ≤ x.lo) : SetOK (out ++ [x]) := by
  refine ⟨fun z hz => ?_, List.pairwise_append.2 ⟨ho.2, by simp, fun a ha b hb => ?_⟩⟩
  · rcases List.mem_append.1 hz with hz | hz
    · exact ho.1 z hz
    · rw [List.mem_singleton.1 hz]; exact hx
  · rw [List.mem_singleton.1 hb]; exact hl a ha
theorem glue_last {fr : List Rg} {y x : Rg} (ho : SetOK (fr ++ [y])) (hyx : y.lo ≤ x.lo) (ht : y.hi + 1 < x.lo) : ∀ z ∈ fr ++ [y], z.hi + 2 ≤ x.lo := by
  intro z hz
  obtain ⟨p1, p2, p3⟩ := List.pairwise_append.1 ho.2
  rcases List.mem_append.1 hz with hz | hz
  · have := p3 z hz y (by simp); omega
  · rw [List.mem_singleton.1 hz]; omega
theorem glue_touch {fr : List Rg} {y x : Rg} (ho : SetOK (fr ++ [y])) (hx : RgOK x) (hyx : y.lo ≤ x.lo) (ht : x.lo ≤ y.hi + 1) :
    SetOK (fr ++ [(⟨y.lo, max y.hi x.hi⟩ : Rg)]) ∧ ∀ c, (fr ++ [(⟨y.lo, max y.hi x.hi⟩ : Rg)]).any (inR c) = ((fr ++ [y]).any (inR c) || inR c x) := by
  obtain ⟨k0, k1, k2⟩ := ho.1 y (by simp)
  obtain ⟨x0, x1, x2⟩ := hx
  obtain ⟨p1, p2, p3⟩ := List.pairwise_append.1 ho.2
  refine ⟨⟨fun z hz => ?_, List.pairwise_append.2 ⟨p1, by simp, fun a ha b hb => ?_⟩⟩, fun c => ?_⟩
  · rcases List.mem_append.1 hz with hz | hz
    · exact ho.1 z (by simp [hz])
    · rw [List.mem_singleton.1 hz]; exact ⟨k0, by show y.lo ≤ max y.hi x.hi; omega, by show max y.hi x.hi ≤ 1114111; omega⟩
  · rw [List.mem_singleton.1 hb]; exact p3 a ha y (by simp)
  · rw [List.any_append, List.any_append, Bool.or_assoc]
    congr 1
    simp only [List.any_cons, List.any_nil, Bool.or_false]
    rw [Bool.eq_iff_iff]
    simp only [inR, Bool.and_eq_true, Bool.or_eq_true, decide_eq_true_eq]
    omega
theorem lo_take {s : List Rg} {a : Nat} (ha : a < s.length) (hlo : LoR s) {m : Int} (hp : s[a].lo ≤ m) : ∀ x ∈ s.take (a + 1), x.lo ≤ m := by
  intro x hx
  obtain ⟨j, hj, rfl⟩ := List.getElem_of_mem hx
  rw [List.getElem_take]
  rw [List.length_take] at hj
  rcases Nat.lt_or_ge j a with h | h
  · have := List.pairwise_iff_getElem.1 hlo j a (by omega) ha h; omega
  · have : j = a := by omega
    subst this; exact hp
theorem lo_drop {s : List Rg} {a : Nat} {m : Int} (h : ∀ j (hj : j < s.length), a ≤ j → m < s[j].lo) : ∀ x ∈ s.drop a, m ≤ x.lo := by
  intro x hx
  obtain ⟨j, hj, rfl⟩ := List.getElem_of_mem hx
  rw [List.getElem_drop]
  have := h (a + j) (by rw [List.length_drop] at hj; omega) (by omega)
  omega
theorem own_lastOf {W : World} {b : Nat} {A : Option Addr} {c : Nat} {out fr : List Rg} {y : Rg} (h : OwnR W b (.slice A out.length c) out) (hc : out = fr ++ [y]) :
    ∃ g, A = some ⟨g, 0, none⟩ ∧ b ≤ g ∧ g < W.heap.size ∧ W.cell? ⟨g, fr.length * 2 + 1, none⟩ = some (.int .i32 y.hi) ∧ W.frozen? ⟨g, fr.length * 2 + 1, none⟩ = false ∧
      ∀ hi, OwnR (W.setCell ⟨g, fr.length * 2 + 1, none⟩ (.int .i32 hi)) b (.slice (some ⟨g, 0, none⟩) out.length c) (fr ++ [⟨y.lo, hi⟩]) := by
  subst hc
  have h0 : OwnR W b (.slice A (fr.length + 1) c) (fr ++ [y]) := by simpa using h
  rcases h0.1.2 with ⟨_, h1⟩ | ⟨g, cap, cur, hv, _⟩
  · simp at h1
  · simp only [Value.slice.injEq] at hv
    obtain ⟨rfl, _, rfl⟩ := hv
    have hlt := Owns.lt h0 g rfl
    have hol := own_last h0
    refine ⟨g, rfl, hlt.1, hlt.2, ?_, World.ownsRow.frozenAt hol _, fun hi => ?_⟩
    · rw [World.ownsRow.cellAt hol _ (by omega), List.map_append, List.flatten_append, List.getElem?_append_right (by rw [rg_flat]; omega), rg_flat]
      simp [rgC]
    · have hst := (World.ownsRow.stored hol (fr.length * 2 + 1) (.int .i32 hi)).1
      rw [rg_set] at hst
      rw [show (fr ++ [y]).length = fr.length + 1 by simp]
      refine ⟨by simpa using hst, fun c hc => ?_⟩
      obtain ⟨r, _, rfl⟩ := List.mem_map.1 hc; rfl
theorem any_snoc (out : List Rg) (x : Rg) (c : Int) : (out ++ [x]).any (inR c) = (out.any (inR c) || inR c x) := by simp
theorem lo_after {s : List Rg} (hlo : LoR s) {j : Nat} (hj : j < s.length) : ∀ z ∈ s.drop (j + 1), s[j].lo ≤ z.lo := by
  intro z hz
  obtain ⟨k, hk, rfl⟩ := List.getElem_of_mem hz
  rw [List.getElem_drop]
  exact List.pairwise_iff_getElem.1 hlo j (j + 1 + k) hj (by rw [List.length_drop] at hk; omega) (by omega)
end Go.Proofs.YthclpabmbhpohaaDoor
