/-
  A tree that came in as an argument: what the row's reading of it gives of memory. No condition.
-/
import Derived.Test.YtdnbholiijgedaaCore
import Derived.Test.YtdnbholiijgedaaRow
import Derived.SizedLaws
namespace Go.Proofs.Ytdnbholiijgedaa
open Go.ChangeShapes Go.WideShapes Go.ChangeAt Go.RowKit
set_option linter.unusedVariables false

/-- The fields of a part are values of their types. -/
def FieldsW (p : Tr) : Prop :=
  ((Lit.int .i64 p.op).wf = true ∧ (Lit.int .i32 p.rune).wf = true ∧ (Lit.int .i64 p.at_).wf = true ∧ (Lit.int .i64 p.cap).wf = true ∧ (Lit.int .i64 p.mn).wf = true ∧ (Lit.int .i64 p.mx).wf = true) ∧ p.name.size ≤ maxLen ∧
    ∀ r ∈ p.set, (Lit.int .i32 r.lo).wf = true ∧ (Lit.int .i32 r.hi).wf = true

/-- A part's lists are no longer than the row's reach lets them be. -/
def SmallP (p : Tr) : Prop := p.set.length ≤ 140737488351232 ∧ p.kids.length ≤ 140737488351232
def SizedD {H : Type} (d : DataW H) (t : TypeId) : Prop := ∀ n ∈ d.weights Try.prog t, n ≤ 140737488351232
theorem ten_of {cs : List Value} (h : cs.length = 10) : ∃ a0 a1 a2 a3 a4 a5 a6 a7 a8 a9, cs = [a0, a1, a2, a3, a4, a5, a6, a7, a8, a9] := by
  match cs, h with
  | [a0, a1, a2, a3, a4, a5, a6, a7, a8, a9], _ => exact ⟨a0, a1, a2, a3, a4, a5, a6, a7, a8, a9, rfl⟩
theorem list_of {α : Type} {Q : Nat → α → Prop} : ∀ n : Nat, (∀ i, i < n → ∃ x, Q i x) → ∃ l : List α, l.length = n ∧ ∀ (i : Nat) (x : α), l[i]? = some x → Q i x
  | 0, _ => ⟨[], rfl, fun i x h => by simp at h⟩
  | n + 1, h => by
    obtain ⟨l, hl, hq⟩ := list_of n (fun i hi => h i (by omega))
    obtain ⟨y, hy⟩ := h n (by omega)
    refine ⟨l ++ [y], by simp [hl], fun i x hi => ?_⟩
    rcases Nat.lt_or_ge i n with h1 | h1
    · rw [List.getElem?_append_left (by omega)] at hi
      exact hq i x hi
    · rw [List.getElem?_append_right (by omega)] at hi
      rcases Nat.eq_or_lt_of_le h1 with rfl | h2
      · rw [hl, Nat.sub_self] at hi; cases hi; exact hy
      · rw [List.getElem?_eq_none (by simp; omega)] at hi; cases hi

section
variable {H : Type} {enc : TypeId × Value → H} {w : World} {sp : Nat → Bool} {hd : Bool}
theorem rangeCells : Try.prog.cellsOf 61 = 2 := by kernel_rfl
theorem treeCells : Try.prog.cellsOf 27 = 10 := by kernel_rfl
theorem oneCells : Try.prog.cellsOf 21 = 1 ∧ Try.prog.cellsOf 3 = 1 ∧ Try.prog.cellsOf 4 = 1 ∧ Try.prog.cellsOf 9 = 1 ∧ Try.prog.cellsOf 22 = 1 ∧ Try.prog.cellsOf 25 = 1 ∧ Try.prog.cellsOf 23 = 1 ∧ Try.prog.cellsOf 24 = 1 := by
  refine ⟨?_, ?_, ?_, ?_, ?_, ?_, ?_, ?_⟩ <;> kernel_rfl

set_option maxRecDepth 100000 in
theorem range_of {fuel : Nat} {cs : List Value} {x : DataW H × List MemPlace} (h : DataW.trod enc Try.prog w 0 sp hd fuel 61 cs = some x) :
    ∃ r : Rg, RgC r cs ∧ (Lit.int .i32 r.lo).wf = true ∧ (Lit.int .i32 r.hi).wf = true := by
  obtain ⟨xs, n, rfl, _, hl, hxs, hf⟩ := DataW.trod_struct Try.underlying61 h
  rw [rangeCells] at hl
  have hn : xs.length = 2 := hxs
  have f0 : DataW.trod enc Try.prog w 0 sp hd n 21 ((cs.drop 0).take (Try.prog.cellsOf 21)) = xs[0]? := hf 0 _ rfl
  have f1 : DataW.trod enc Try.prog w 0 sp hd n 21 ((cs.drop 1).take (Try.prog.cellsOf 21)) = xs[1]? := hf 1 _ rfl
  rw [List.getElem?_eq_getElem (by omega), oneCells.1] at f0 f1
  obtain ⟨lo, e0, _, w0⟩ := DataW.trod_int Try.underlying21 f0
  obtain ⟨hi, e1, _, w1⟩ := DataW.trod_int Try.underlying21 f1
  match cs, hl with
  | [a, b], _ =>
    simp at e0 e1
    exact ⟨⟨lo, hi⟩, by simp [RgC, e0, e1], w0, w1⟩

theorem cells_arr {A : Addr} {n sz : Nat} {α : Type} {E : α → List Value → Prop} {xs : List α} (hx : xs.length = n) (hsz : 0 < sz) (h : ∀ (i : Nat) (x : α), xs[i]? = some x → ∃ cs, w.cells? 0 (A.add (i * sz)) sz = some cs ∧ E x cs) :
    Arr (fun b => b < w.heap.size) w sz E (some A) xs := by
  intro i x hi
  obtain ⟨cs, hc, hE⟩ := h i x hi
  obtain ⟨_, h2, h3⟩ := World.cells?_some hc
  refine ⟨A, cs, rfl, ?_, hE, h2, fun j u hj => ?_⟩
  · have h0 := h3 0 hsz
    rw [List.getElem?_eq_getElem (by omega)] at h0
    have := World.block_lt_of_cell? w _ h0
    rwa [add_block, add_block] at this
  · have hj' : j < cs.length := (List.getElem?_eq_some_iff.1 hj).1
    have := h3 j (by omega)
    rw [add_add] at this
    rw [this, hj]

theorem ranges_of {fuel : Nat} {cs : List Value} {x : DataW H × List MemPlace} (h : DataW.trod enc Try.prog w 0 sp hd fuel 24 cs = some x) :
    ∃ (B : Option Addr) (d : Nat) (set : List Rg), cs = [.slice B set.length d] ∧ set.length ≤ d ∧ d ≤ maxLen ∧ Arr (fun b => b < w.heap.size) w 2 RgC B set ∧ (∀ r ∈ set, (Lit.int .i32 r.lo).wf = true ∧ (Lit.int .i32 r.hi).wf = true) ∧ (SizedD x.1 24 → set.length ≤ 140737488351232) := by
  rcases DataW.trod_slice Try.underlying24 h with ⟨rfl, _⟩ | ⟨a, len, cap, elems, rest, n, rfl, rfl, hx, _, hlc, hcm, hel, hE, _, _⟩
  · exact ⟨none, 0, [], rfl, Nat.le_refl _, Nat.zero_le _, Arr.nil, by simp, fun _ => by simp⟩
  · rw [rangeCells] at hE
    obtain ⟨set, hl, hq⟩ := list_of (α := Rg) (Q := fun i r => ∃ cs, w.cells? 0 (a.add (i * 2)) 2 = some cs ∧ RgC r cs ∧ (Lit.int .i32 r.lo).wf = true ∧ (Lit.int .i32 r.hi).wf = true) len (fun i hi => by
      have h1 := hE i hi
      rw [List.getElem?_eq_getElem (by omega), Option.bind_eq_some_iff] at h1
      obtain ⟨cs', hc, hy⟩ := h1
      obtain ⟨r, hr, h2, h3⟩ := range_of hy
      exact ⟨r, cs', hc, hr, h2, h3⟩)
    refine ⟨some a, cap, set, by rw [hl], by omega, hcm, cells_arr hl (by omega) (fun i r hi => ?_), fun r hr => ?_, fun hz => ?_⟩
    · obtain ⟨cs, h1, h2, _⟩ := hq i r hi
      exact ⟨cs, h1, h2⟩
    · obtain ⟨i, hi, rfl⟩ := List.mem_iff_getElem.1 hr
      obtain ⟨cs, _, _, h3⟩ := hq i _ (List.getElem?_eq_getElem hi)
      exact h3
    · have h5 := hz ((elems.length + rest.length) * Try.prog.bytesOf 61) (by rw [hx]; simp [DataW.weights, Try.underlying24])
      rw [show Try.prog.bytesOf 61 = 8 by kernel_rfl] at h5
      omega
theorem weights_kid {e : TypeId} {d : DataW H} : ∀ {l : List (DataW H)}, d ∈ l → ∀ n ∈ d.weights Try.prog e, n ∈ DataW.weightsAll Try.prog e l
  | y :: l, hd, n, hn => by
    rw [DataW.weightsAll]
    rcases List.mem_cons.1 hd with rfl | hd
    · exact List.mem_append.2 (.inl hn)
    · exact List.mem_append.2 (.inr (weights_kid hd n hn))

set_option maxRecDepth 100000 in
theorem tree_of : ∀ (fuel : Nat) {cs : List Value} {x : DataW H × List MemPlace}, DataW.trod enc Try.prog w 0 sp hd fuel 27 cs = some x →
    ∃ t : Tr, TrC (fun b => b < w.heap.size) w t cs ∧ (∀ p ∈ parts t, FieldsW p) ∧ (SizedD x.1 27 → ∀ p ∈ parts t, SmallP p) := by
  intro fuel
  induction fuel using Nat.strongRecOn with
  | _ fuel ih =>
    intro cs x h
    obtain ⟨xs, n, rfl, hxd, hl, hxs, hf⟩ := DataW.trod_struct Try.underlying27 h
    rw [treeCells] at hl
    have hn : xs.length = 10 := hxs
    obtain ⟨c1, c2, c3, c4, c5, c6, c7, c8⟩ := oneCells
    have f0 : DataW.trod enc Try.prog w 0 sp hd n 22 ((cs.drop 0).take (Try.prog.cellsOf 22)) = xs[0]? := hf 0 _ rfl
    have f1 : DataW.trod enc Try.prog w 0 sp hd n 23 ((cs.drop 1).take (Try.prog.cellsOf 23)) = xs[1]? := hf 1 _ rfl
    have f2 : DataW.trod enc Try.prog w 0 sp hd n 21 ((cs.drop 2).take (Try.prog.cellsOf 21)) = xs[2]? := hf 2 _ rfl
    have f3 : DataW.trod enc Try.prog w 0 sp hd n 24 ((cs.drop 3).take (Try.prog.cellsOf 24)) = xs[3]? := hf 3 _ rfl
    have f4 : DataW.trod enc Try.prog w 0 sp hd n 25 ((cs.drop 4).take (Try.prog.cellsOf 25)) = xs[4]? := hf 4 _ rfl
    have f5 : DataW.trod enc Try.prog w 0 sp hd n 3 ((cs.drop 5).take (Try.prog.cellsOf 3)) = xs[5]? := hf 5 _ rfl
    have f6 : DataW.trod enc Try.prog w 0 sp hd n 9 ((cs.drop 6).take (Try.prog.cellsOf 9)) = xs[6]? := hf 6 _ rfl
    have f7 : DataW.trod enc Try.prog w 0 sp hd n 3 ((cs.drop 7).take (Try.prog.cellsOf 3)) = xs[7]? := hf 7 _ rfl
    have f8 : DataW.trod enc Try.prog w 0 sp hd n 3 ((cs.drop 8).take (Try.prog.cellsOf 3)) = xs[8]? := hf 8 _ rfl
    have f9 : DataW.trod enc Try.prog w 0 sp hd n 4 ((cs.drop 9).take (Try.prog.cellsOf 4)) = xs[9]? := hf 9 _ rfl
    rw [List.getElem?_eq_getElem (by omega)] at f0 f1 f2 f3 f4 f5 f6 f7 f8 f9
    have hz : ∀ (j : Nat) (hj : j < xs.length) (ty : TypeId), (([22, 23, 21, 24, 25, 3, 9, 3, 3, 4] : List TypeId)[j]? = some ty) → SizedD x.1 27 → SizedD xs[j].1 ty := by
      intro j hj ty hty hs m hm
      refine hs m ?_
      rw [hxd]
      simp only [DataW.weights, Try.underlying27]
      exact DataW.weights_mem_each (j := j) (t := ty) (by simpa using hty) (by rw [List.getElem?_map, List.getElem?_eq_getElem hj]; rfl) m hm
    simp only [c1, c2, c3, c4, c5, c6, c7, c8] at f0 f1 f2 f3 f4 f5 f6 f7 f8 f9
    obtain ⟨op, e0, _, w0⟩ := DataW.trod_int Try.underlying22 f0
    obtain ⟨rune, e2, _, w2⟩ := DataW.trod_int Try.underlying21 f2
    obtain ⟨B, d, set, e3, s1, s2, s3, s4, s5⟩ := ranges_of f3
    obtain ⟨at_, e4, _, w4⟩ := DataW.trod_int Try.underlying25 f4
    obtain ⟨cap, e5, _, w5⟩ := DataW.trod_int Try.underlying3 f5
    obtain ⟨name, e6, _, w6⟩ := DataW.trod_string Try.underlying9 f6
    obtain ⟨mn, e7, _, w7⟩ := DataW.trod_int Try.underlying3 f7
    obtain ⟨mx, e8, _, w8⟩ := DataW.trod_int Try.underlying3 f8
    obtain ⟨lz, e9, _⟩ := DataW.trod_bool Try.underlying4 f9
    have hk : ∃ (A : Option Addr) (c : Nat) (kids : List Tr), ((cs.drop 1).take 1) = [.slice A kids.length c] ∧ kids.length ≤ c ∧ c ≤ maxLen ∧ Arr (fun b => b < w.heap.size) w 10 (TrC (fun b => b < w.heap.size) w) A kids ∧ (∀ k ∈ kids, ∀ p ∈ parts k, FieldsW p) ∧ (SizedD (xs[1]'(by omega)).1 23 → kids.length ≤ 140737488351232 ∧ ∀ k ∈ kids, ∀ p ∈ parts k, SmallP p) := by
      rcases DataW.trod_slice Try.underlying23 f1 with ⟨e1, _⟩ | ⟨a, len, cap, elems, rest, m, hnm, e1, hx1, _, hlc, hcm, hel, hE, _, _⟩
      · exact ⟨none, 0, [], e1, Nat.le_refl _, Nat.zero_le _, Arr.nil, by simp, fun _ => ⟨by simp, by simp⟩⟩
      · rw [treeCells] at hE
        obtain ⟨kids, hkl, hq⟩ := list_of (α := Tr) (Q := fun i k => ∃ cs, w.cells? 0 (a.add (i * 10)) 10 = some cs ∧ TrC (fun b => b < w.heap.size) w k cs ∧ (∀ p ∈ parts k, FieldsW p) ∧ ∀ d, (elems.map (·.1))[i]? = some d → SizedD d 27 → ∀ p ∈ parts k, SmallP p) len (fun i hi => by
          have h1 := hE i hi
          rw [List.getElem?_eq_getElem (by omega), Option.bind_eq_some_iff] at h1
          obtain ⟨cs', hc, hy⟩ := h1
          obtain ⟨k, hk1, hk2, hk3⟩ := ih m (by omega) hy
          exact ⟨k, cs', hc, hk1, hk2, fun d hd => by
            rw [List.getElem?_map, List.getElem?_eq_getElem (by omega)] at hd
            simp only [Option.map_some, Option.some.injEq] at hd
            rw [← hd]; exact hk3⟩)
        refine ⟨some a, cap, kids, by rw [hkl]; exact e1, by omega, hcm, cells_arr hkl (by omega) (fun i r hi => ?_), fun k hk => ?_, fun hsd => ⟨?_, fun k hk => ?_⟩⟩
        · obtain ⟨cs, h1, h2, _⟩ := hq i r hi
          exact ⟨cs, h1, h2⟩
        · obtain ⟨i, hi, rfl⟩ := List.mem_iff_getElem.1 hk
          obtain ⟨cs, _, _, h3, _⟩ := hq i _ (List.getElem?_eq_getElem hi)
          exact h3
        · have h5 := hsd ((elems.length + rest.length) * Try.prog.bytesOf 27) (by rw [hx1]; simp [DataW.weights, Try.underlying23])
          rw [show Try.prog.bytesOf 27 = 120 by kernel_rfl] at h5
          omega
        · obtain ⟨i, hi, rfl⟩ := List.mem_iff_getElem.1 hk
          obtain ⟨cs, _, _, _, h4⟩ := hq i _ (List.getElem?_eq_getElem hi)
          have hie : i < (elems.map (·.1)).length := by simp; omega
          refine h4 _ (List.getElem?_eq_getElem hie) (fun m hm => hsd m ?_)
          rw [hx1]
          simp only [DataW.weights, Try.underlying23]
          exact List.mem_cons_of_mem _ (List.mem_append.2 (.inl (weights_kid (List.getElem_mem hie) m hm)))
    obtain ⟨A, c, kids, e1, k1, k2, k3, k4, k5⟩ := hk
    refine ⟨⟨op, kids, rune, set, at_, cap, name, mn, mx, lz⟩, trC_iff.2 ⟨A, c, B, d, ?_, k1, k2, s1, s2, s3, k3⟩, fun p hp => ?_, fun hsd p hp => ?_⟩
    · obtain ⟨a0, a1, a2, a3, a4, a5, a6, a7, a8, a9, hcs⟩ := ten_of hl
      subst hcs
      simp at e0 e1 e2 e3 e4 e5 e6 e7 e8 e9
      simp [e0, e1, e2, e3, e4, e5, e6, e7, e8, e9]
    · rw [parts_eq] at hp
      rcases List.mem_cons.1 hp with rfl | hp
      · exact ⟨⟨w0, w2, w4, w5, w7, w8⟩, w6, s4⟩
      · rw [partsL_flat] at hp
        obtain ⟨k, hk, hp⟩ := List.mem_flatMap.1 hp
        exact k4 k hk p hp
    · have hk5 := k5 (hz 1 (by omega) _ rfl hsd)
      rw [parts_eq] at hp
      rcases List.mem_cons.1 hp with rfl | hp
      · exact ⟨s5 (hz 3 (by omega) _ rfl hsd), hk5.1⟩
      · rw [partsL_flat] at hp
        obtain ⟨k, hk, hp⟩ := List.mem_flatMap.1 hp
        exact hk5.2 k hk p hp
end
end Go.Proofs.Ytdnbholiijgedaa
