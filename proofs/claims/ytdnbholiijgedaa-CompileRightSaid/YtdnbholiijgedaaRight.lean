/-
  sets.Union with nil, sets.Norm, slices.Equal over ranges, sets.Right. No condition but a bound on the list.
-/
import Derived.Test.YtdnbholiijgedaaThose
import Derived.Test.YtdnbholiijgedaaPlain2
import Derived.Laws.StructEq
namespace Go.Proofs.Ytdnbholiijgedaa
open Go.RowKit Go.Shelf Go.Lib Go.Sort
set_option linter.unusedVariables false

theorem edges_one (l : List Rg) : edgesOf [l, []] = edgesOf [l] := by simp [edgesOf]
def NormPost (l : List Rg) (w : World) (e : Ending) (w' : World) : Prop := ∃ v, e = .returned v ∧ OwnR w' w.heap.size v (normOf [l]) ∧ Below w.heap.size w w'
theorem edges_vals (l : List Rg) : ∀ x ∈ edgesOf [l], (0 ≤ x.1 ∧ x.1 ≤ 1114112) ∧ (-1 ≤ x.2 ∧ x.2 ≤ 1) := by
  intro x hx
  simp only [edgesOf, List.flatMap_cons, List.flatMap_nil, List.append_nil, List.mem_flatMap] at hx
  obtain ⟨r, _, hx⟩ := hx
  unfold edge1 at hx
  split at hx
  · simp only [List.mem_cons, List.not_mem_nil, or_false] at hx
    rcases hx with rfl | rfl <;> simp <;> omega
  · simp at hx
theorem those_norm (w1 : World) (B0 : Nat) (v : Value) (l : List Rg) (es : List (Int × Int)) (hp : es.Perm (edgesOf [l])) (hs : es.Pairwise (fun x y => x.1 ≤ y.1)) (ho : OwnE w1 B0 v es) (hN : l.length ≤ 1000000000) :
    Calls Try.prog 74 #[v, .func (.func 76) #[] #[]] w1 fun e w' => ∃ v, e = .returned v ∧ OwnR w' w1.heap.size v (normOf [l]) ∧ Below w1.heap.size w1 w' := by
  obtain ⟨A, c, rfl, h1, h2⟩ := Owns.shape ho
  rw [List.length_map]
  have hl : es.length ≤ 5000000000 := by
    have h3 := hp.length_eq
    have h4 := flat_len l
    simp only [edgesOf, List.flatMap_cons, List.flatMap_nil, List.append_nil] at h3
    omega
  have h := callsIn_wide.1 (those_in w1 A c es (Owns.arr (css := es.map edgeC) (xs := es) (show Owns _ _ _ _ _ _ from (by have h5 := ho; unfold OwnE at h5; simpa using h5)) (by simp) (fun i x cc hi hc => by
    rw [List.getElem?_map, hi] at hc; simpa using hc.symm) (fun a ha => by subst ha; exact (Owns.lt ho a.block rfl).2)) hl (fun x hx => edges_vals l x (hp.subset hx)))
  refine h.mono fun e w' ⟨v, h1, h2, h3⟩ => ⟨v, h1, ?_, h3⟩
  rwa [norm_any [l] es hp hs] at h2
theorem two_le {l : List Rg} (hN : l.length ≤ 1000000000) : ∀ x ∈ [l, []], x.length ≤ 1000000000 := by
  intro x hx
  rcases List.mem_cons.1 hx with rfl | hx
  · exact hN
  · rw [List.mem_singleton.1 hx]; simp
set_option maxHeartbeats 400000 in
theorem union_nil (ok : Nat → Prop) (w : World) (A : Option Addr) (c : Nat) (l : List Rg) (h : Arr ok w 2 RgC A l) (hN : l.length ≤ 1000000000) :
    Calls Try.prog 73 #[.slice A l.length c, .slice none 0 0] w (NormPost l w) := by
  have hb : Arr (fun b => ok b ∨ b = w.heap.size) (w.alloc (.cells #[.slice A l.length c, .slice none 0 0] 24)) 1 (RgsC (fun b => ok b ∨ b = w.heap.size) (w.alloc (.cells #[.slice A l.length c, .slice none 0 0] 24))) (some ⟨w.heap.size, 0, none⟩) [l, []] := by
    have hm := h.move (ok' := fun b => ok b ∨ b = w.heap.size) (w' := w.alloc (.cells #[.slice A l.length c, .slice none 0 0] 24)) (fun b hb hlt => ⟨Below.heap_alloc _ _ _ hlt, .inl hb⟩) (by omega)
    have hn := heap_new1 w (.cells #[.slice A l.length c, .slice none 0 0] 24)
    intro i x hx
    match i, hx with
    | 0, hx =>
      simp at hx; subst hx
      refine ⟨_, [.slice A l.length c], rfl, .inr rfl, ⟨A, c, rfl, hm⟩, rfl, fun j u hu => ?_⟩
      match j, hu with
      | 0, hu => simp at hu; subst hu; rw [Nat.zero_mul]; exact (cell_of_blk hn 0).trans rfl
    | 1, hx =>
      simp at hx; subst hx
      refine ⟨_, [.slice none 0 0], rfl, .inr rfl, ⟨none, 0, rfl, Arr.nil⟩, rfl, fun j u hu => ?_⟩
      match j, hu with
      | 0, hu => simp at hu; subst hu; exact (cell_of_blk hn 1).trans rfl
  have hed := edges_any _ _ _ 2 [l, []] hb (by simp) (two_le hN)
  have hth := those_norm
  have HH := Lib.hid hth
  clear hb h hth
  go_enter Try.func73, Try.ntmps73
  go_wp2_with (go_at_call 75; refine hed.mono ?_; clear hed; rintro e w1 ⟨v, es, rfl, hp, hs, ho, hb⟩)
  rw [edges_one] at hp
  have hth := HH.out w1 _ v l es hp hs ho hN
  have hb1 := below_and hb (below_al (Below.refl _ _) _)
  have HB := Lib.hid hb1
  clear hp hs ho hb hb1
  go_wp2_with (go_at_call 74; refine hth.mono ?_; clear hth; rintro e w2 ⟨v2, rfl, ho2, hb2⟩)
  go_ret
  exact ⟨v2, rfl, ⟨Joins.ownsRow_le ho2.1 HB.out.size, ho2.2⟩, below_and hb2 HB.out⟩
theorem norm_of (ok : Nat → Prop) (w : World) (A : Option Addr) (c : Nat) (l : List Rg) (h : Arr ok w 2 RgC A l) (hN : l.length ≤ 1000000000) :
    Calls Try.prog 68 #[.slice A l.length c] w (NormPost l w) := by
  have hed := union_nil ok w A c l h hN
  clear h
  go_enter Try.func68, Try.ntmps68
  go_wp2_with (go_at_call 73; refine hed.mono ?_; clear hed; rintro e w1 ⟨v, rfl, ho, hb⟩)
  go_ret
  exact ⟨v, rfl, ho, hb⟩

/-! ### slices.Equal -/
def eqR : List Rg → List Rg → Bool
  | [], [] => true
  | x :: xs, y :: ys => (x.lo == y.lo && x.hi == y.hi) && eqR xs ys
  | _, _ => false
theorem eqR_iff : ∀ (xs ys : List Rg), eqR xs ys = true ↔ xs.length = ys.length ∧ ∀ j (h1 : j < xs.length) (h2 : j < ys.length), xs[j].lo = ys[j].lo ∧ xs[j].hi = ys[j].hi
  | [], [] => by simp [eqR]
  | [], y :: ys => by simp [eqR]
  | x :: xs, [] => by simp [eqR]
  | x :: xs, y :: ys => by
    simp only [eqR, Bool.and_eq_true, beq_iff_eq, eqR_iff xs ys, List.length_cons]
    constructor
    · rintro ⟨h0, h1, h2⟩
      refine ⟨by omega, fun j ha hb => ?_⟩
      cases j with
      | zero => exact h0
      | succ j => exact h2 j (by simpa using ha) (by simpa using hb)
    · rintro ⟨h1, h2⟩
      exact ⟨h2 0 (by simp) (by simp), by omega, fun j ha hb => h2 (j + 1) (by simp; omega) (by simp; omega)⟩
theorem eqR_eq (xs ys : List Rg) : eqR xs ys = true ↔ xs = ys := by
  rw [eqR_iff]
  constructor
  · rintro ⟨h1, h2⟩
    refine List.ext_getElem h1 fun j ha hb => ?_
    obtain ⟨h3, h4⟩ := h2 j ha hb
    cases hx : xs[j]; cases hy : ys[j]; rw [hx, hy] at h3 h4; simp_all
  · rintro rfl; exact ⟨rfl, fun _ _ _ => ⟨rfl, rfl⟩⟩
theorem eqR_no {xs ys : List Rg} (h : ¬ (xs.length = ys.length)) : eqR xs ys = false := by
  rw [Bool.eq_false_iff]; exact fun e => h ((eqR_iff _ _).1 e).1
theorem eq_rg (w : World) (x1 x2 y1 y2 : Int) : (Op.equalIn 10000 61 (.agg #[.int .i32 x1, .int .i32 x2]) (.agg #[.int .i32 y1, .int .i32 y2])).run Try.prog w = .ok (x1 == y1 && x2 == y2) w := by
  have hS : Try.prog.underlying 61 = some (.struct (Try.prog.fieldsOf 61)) := by kernel_rfl
  have hp : Try.prog.stoodInHeld 61 = false := by kernel_rfl
  rw [show (10000 : Nat) = 9999 + 1 from rfl, run_equalIn_struct w 9999 61 _ _ hS hp]
  simp only [Program.fieldsOf, Try.underlying61]
  simp only [Op.eqFields]
  go_simp
  by_cases h1 : x1 = y1 <;> by_cases h2 : x2 = y2 <;> simp [h1, h2]
attribute [local go_sem high] eq_rg
theorem rg_cells {ok : Nat → Prop} {w : World} {B : Option Addr} {l : List Rg} (h : Arr ok w 2 RgC B l) (j : Nat) (hj : j < l.length) :
    ∃ ad, B = some ad ∧ w.cell? (ad.add (j * 2)) = some (.int .i32 l[j].lo) ∧ w.cell? ⟨(ad.add (j * 2)).block, (ad.add (j * 2)).off + 1, none⟩ = some (.int .i32 l[j].hi) :=
  rg_at h (Below.refl _ _) j hj
set_option maxHeartbeats 1000000 in
theorem equal_any (ok ok2 : Nat → Prop) (w : World) (A B : Option Addr) (c d : Nat) (xs ys : List Rg) (hx : Arr ok w 2 RgC A xs) (hy : Arr ok2 w 2 RgC B ys) (hN : xs.length ≤ 9223372036854775807) :
    Calls Try.prog 67 #[.slice A xs.length c, .slice B ys.length d] w fun e w' => e = .returned (.bool (eqR xs ys)) ∧ ∃ n, w' = w.drewN n := by
  have HX := Lib.hid hx
  have HY := Lib.hid hy
  clear hx hy
  have hu84 := Try.underlying61
  by_cases hl : xs.length = ys.length
  · have HL := Lib.hid hl
    have hlb : ((xs.length : Int) != (ys.length : Int)) = false := by rw [hl]; simp
    have hlb2 : ((xs.length : Int) == (ys.length : Int)) = true := by rw [hl]; simp
    clear hl
    go_enter Try.func67, Try.ntmps67
    go_wp2_with fail
    clear hlb hlb2
    go_loopw [13] (fun i wr => ∃ k : Nat, k ≤ xs.length ∧ i = .int .i64 k ∧ (∃ q, wr = w.drewN q) ∧ Hid (∀ j (h1 : j < xs.length) (h2 : j < ys.length), j < k → xs[j].lo = ys[j].lo ∧ xs[j].hi = ys[j].hi)) (fun i _ => xs.length - (intOf i).toNat)
    case atStart => exact ⟨0, Nat.zero_le _, rfl, ⟨0, rfl⟩, Lib.hid (fun j _ _ h => by omega)⟩
    case round =>
      obtain ⟨k, hk, rfl, ⟨q, rfl⟩, HB⟩ := hrel
      by_cases hlt : k < xs.length
      · have hlt2 : k < ys.length := by have := HL.out; omega
        obtain ⟨ad, rfl, hc1, hc2⟩ := rg_cells HX.out k hlt
        obtain ⟨bd, rfl, hd1, hd2⟩ := rg_cells HY.out k hlt2
        obtain ⟨a1, ha1⟩ : ∃ z, z = xs[k].lo := ⟨_, rfl⟩
        obtain ⟨a2, ha2⟩ : ∃ z, z = xs[k].hi := ⟨_, rfl⟩
        obtain ⟨b1, hb1⟩ : ∃ z, z = ys[k].lo := ⟨_, rfl⟩
        obtain ⟨b2, hb2⟩ : ∃ z, z = ys[k].hi := ⟨_, rfl⟩
        rw [← ha1] at hc1
        rw [← ha2] at hc2
        rw [← hb1] at hd1
        rw [← hb2] at hd2
        have HE := Lib.hid (And.intro ha1 (And.intro ha2 (And.intro hb1 hb2)))
        clear ha1 ha2 hb1 hb2
        by_cases hq : (a1 == b1 && a2 == b2) = true
        rotate_left
        · have hq1 : (a1 == b1 && a2 == b2) = false := by simpa using hq
          have he : (!(a1 == b1) || !(a2 == b2)) = true := by cases h1 : (a1 == b1) <;> cases h2 : (a2 == b2) <;> simp_all
          clear hq
          go_wp2
          go_quiet (fail)
          go_wp2
          go_ret
          refine ⟨ret_bool ?_, _, by first | rfl | (simp; rfl)⟩
          rw [eq_comm, Bool.eq_false_iff]
          intro h
          obtain ⟨h1, h2⟩ := ((eqR_iff _ _).1 h).2 k hlt hlt2
          rw [← HE.out.1, ← HE.out.2.2.1] at h1
          rw [← HE.out.2.1, ← HE.out.2.2.2] at h2
          simp [h1, h2] at he
        · have he2 : (!(a1 == b1) || !(a2 == b2)) = false := by simpa using hq
          go_wp2
          repeat (go_quiet (fail); try go_wp2)
          go_roundw
          case measure => simp [intOf]; omega
          case rel =>
            refine ⟨k + 1, by omega, by go_num, ⟨_, by first | rfl | (simp; rfl)⟩, Lib.hid fun j h1 h2 hj => ?_⟩
            rcases Nat.lt_or_ge j k with h3 | h3
            · exact HB.out j h1 h2 h3
            · obtain rfl : j = k := by omega
              rw [← HE.out.1, ← HE.out.2.1, ← HE.out.2.2.1, ← HE.out.2.2.2]
              simpa using he2
      · go_wp2
        go_ret
        refine ⟨ret_bool ((eqR_iff _ _).2 ⟨HL.out, fun j h1 h2 => HB.out j h1 h2 (by omega)⟩).symm, _, by first | rfl | (simp; rfl)⟩
  · have hlb : ((xs.length : Int) != (ys.length : Int)) = true := by simp; omega
    have hlb2 : ((xs.length : Int) == (ys.length : Int)) = false := by simp; omega
    go_enter Try.func67, Try.ntmps67
    go_wp2_with fail
    go_ret
    exact ⟨ret_bool (eqR_no hl).symm, 0, rfl⟩

/-! ### sets.Right -/
def rightR (l : List Rg) : Bool := eqR l (normOf [l])
theorem right_ok (l : List Rg) (hN : l.length ≤ 1000000000) : RightOK rightR l := by
  intro ok W B d h h1 h2
  have hno := norm_of ok W B d l h hN
  have HA := Lib.hid h
  clear h
  go_enter Try.func54, Try.ntmps54
  go_wp2_with (go_at_call 68; refine hno.mono ?_; clear hno; rintro e w1 ⟨v, rfl, ho, hb⟩)
  obtain ⟨A2, c2, rfl, h3, h4⟩ := Owns.shape ho
  rw [List.length_map]
  have hx := HA.out.move (ok' := ok) (w' := w1) (fun b hok hlt => ⟨hb.block b hlt, hok⟩) (by omega)
  have hy : Arr (fun _ => True) w1 2 RgC A2 (normOf [l]) := Owns.arr (css := (normOf [l]).map rgC) (xs := normOf [l]) (by have h5 := ho; unfold OwnR at h5; simpa using h5) (by simp) (fun i x cc hi hc => by
    rw [List.getElem?_map, hi] at hc; simpa [RgC, rgC] using hc.symm) (fun _ _ => trivial)
  have heq := equal_any _ _ w1 B A2 d c2 l (normOf [l]) hx hy (by omega)
  have HB := Lib.hid hb
  clear hx hy ho hb h3
  go_wp2_with (go_at_call 67; refine heq.mono ?_; clear heq; rintro e w2 ⟨rfl, q, rfl⟩)
  go_ret
  exact ⟨rfl, below_drewN HB.out _⟩
end Go.Proofs.Ytdnbholiijgedaa
