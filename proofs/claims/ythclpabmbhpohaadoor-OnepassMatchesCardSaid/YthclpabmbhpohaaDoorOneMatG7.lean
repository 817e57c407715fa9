/-
  onepass.simple$1, ways, simple: does one need no choice from an instruction? No condition but that the program is right.
  onepass.ways, onepass.simple: does one need no choice from an instruction? No condition but that the program is right.
  slices.Contains over whole numbers. No condition.
  onepass.Admits. No condition but bounds.
-/
import Derived.Test.YthclpabmbhpohaaDoorOneMatG6
import Derived.Deep.LoopGhost
import Derived.WalkMore
namespace Go.Proofs.YthclpabmbhpohaaDoor
open Go.RowKit Go.Maps
set_option linter.unusedVariables false
def un2 (a b : List Rg) : List Rg := normOf [a, b]
structure OnAt (W : World) (b : Nat) (ps : List Value) (s : Ow) : Prop where
  blk : W.heap[b]? = some (.cells ps.toArray 28 (0, 0))
  l : ∃ v, W.heap[b + 1]? = some (.cells #[v] 35 (0, 0)) ∧ Owns W (b + 6) 3 1 v (s.l.map i64C)
  all : ∃ A c, W.heap[b + 2]? = some (.cells #[.slice A s.all.length c] 61 (0, 0)) ∧ s.all.length ≤ c ∧ c ≤ maxLen ∧ Arr (fun k => b + 6 ≤ k ∧ TyB 66 W k) W 2 RgC A s.all
  map : IntsAt W (b + 3) s.seen.length s.seen
  seen : W.heap[b + 4]? = some (.cells #[.map (some (b + 3))] 116 (0, 0))
  mt : W.heap[b + 5]? = some (.cells #[.int .i64 s.mt] 3 (0, 0))
theorem OnAt.lt {W : World} {b : Nat} {ps : List Value} {s : Ow} (h : OnAt W b ps s) : b + 5 < W.heap.size := heap_lt h.mt
/-- Moves to a world where all of it, but what is told, stands. -/
theorem all_move {W W' : World} {b : Nat} {A : Option Addr} {l : List Rg} (h : Arr (fun k => b + 6 ≤ k ∧ TyB 66 W k) W 2 RgC A l) (hm : ∀ k, b + 6 ≤ k → k < W.heap.size → TyB 66 W k → W'.heap[k]? = W.heap[k]?) :
    Arr (fun k => b + 6 ≤ k ∧ TyB 66 W' k) W' 2 RgC A l := h.move (fun k hk hlt => ⟨hm k hk.1 hlt hk.2, hk.1, hk.2.move (hm k hk.1 hlt hk.2)⟩) (by omega)
theorem OnAt.below {W W' : World} {b : Nat} {ps : List Value} {s : Ow} (h : OnAt W b ps s) (hb : Below W.heap.size W W') : OnAt W' b ps s := by
  obtain ⟨v, l1, l2⟩ := h.l
  obtain ⟨A, c, a1, a2, a3, a4⟩ := h.all
  exact ⟨(hb.block _ (heap_lt h.blk)).trans h.blk, ⟨v, (hb.block _ (heap_lt l1)).trans l1, l2.below hb⟩, ⟨A, c, (hb.block _ (heap_lt a1)).trans a1, a2, a3, all_move a4 (fun k _ hk _ => hb.block k hk)⟩, h.map.blk (hb.block _ h.map.lt), (hb.block _ (heap_lt h.seen)).trans h.seen, (hb.block _ (heap_lt h.mt)).trans h.mt⟩
theorem OnAt.mark {W W' : World} {b : Nat} {ps : List Value} {s : Ow} {pc : Int} (h : OnAt W b ps s) (hm : IntsAt W' (b + 3) (s.seen.length + 1) (pc :: s.seen)) (hg : W.grownBy W' (some (b + 3))) : OnAt W' b ps ⟨pc :: s.seen, s.l, s.all, s.mt⟩ := by
  obtain ⟨v, l1, l2⟩ := h.l
  obtain ⟨A, c, a1, a2, a3, a4⟩ := h.all
  exact ⟨(grown_ne0 hg (heap_lt h.blk) (by omega)).trans h.blk, ⟨v, (grown_ne0 hg (heap_lt l1) (by omega)).trans l1, owns_grown0 l2 hg (by omega)⟩, ⟨A, c, (grown_ne0 hg (heap_lt a1) (by omega)).trans a1, a2, a3, all_move a4 (fun k hk hlt _ => grown_ne0 hg hlt (by omega))⟩,
    hm, (grown_ne0 hg (heap_lt h.seen) (by omega)).trans h.seen, (grown_ne0 hg (heap_lt h.mt) (by omega)).trans h.mt⟩
theorem OnAt.setMt {W : World} {b : Nat} {ps : List Value} {s : Ow} (h : OnAt W b ps s) (m : Int) : OnAt (W.setCell ⟨b + 5, 0, none⟩ (.int .i64 m)) b ps ⟨s.seen, s.l, s.all, m⟩ := by
  obtain ⟨v, l1, l2⟩ := h.l
  obtain ⟨A, c, a1, a2, a3, a4⟩ := h.all
  exact ⟨(set_ne0 W _ (by show b ≠ b + 5; omega)).trans h.blk, ⟨v, (set_ne0 W _ (by show b + 1 ≠ b + 5; omega)).trans l1, owns_grown0 l2 (grown_set0 W (b + 5) 0 _) (by omega)⟩, ⟨A, c, (set_ne0 W _ (by show b + 2 ≠ b + 5; omega)).trans a1, a2, a3, all_move a4 (fun k hk hlt _ => set_ne0 W _ (by show k ≠ b + 5; omega))⟩,
    h.map.blk (set_ne0 W _ (by show b + 3 ≠ b + 5; omega)), (set_ne0 W _ (by show b + 4 ≠ b + 5; omega)).trans h.seen, by have := heap_set0 h.mt 0 (.int .i64 m); simpa using this⟩
theorem OnAt.setAll {W : World} {b B : Nat} {ps : List Value} {s : Ow} {v : Value} {l : List Rg} (h : OnAt W b ps s) (ho : OwnR W B v l) (hB : b + 6 ≤ B) : OnAt (W.setCell ⟨b + 2, 0, none⟩ v) b ps ⟨s.seen, s.l, l, s.mt⟩ := by
  obtain ⟨u, l1, l2⟩ := h.l
  obtain ⟨A, c, a1, _⟩ := h.all
  obtain ⟨A2, c2, rfl, k1, k2, k3⟩ := ownR_arr ho
  refine ⟨(set_ne0 W _ (by show b ≠ b + 2; omega)).trans h.blk, ⟨u, (set_ne0 W _ (by show b + 1 ≠ b + 2; omega)).trans l1, owns_grown0 l2 (grown_set0 W (b + 2) 0 _) (by omega)⟩, ⟨A2, c2, by have := heap_set0 a1 0 (.slice A2 l.length c2); simpa using this, k1, k2, ?_⟩,
    h.map.blk (set_ne0 W _ (by show b + 3 ≠ b + 2; omega)), (set_ne0 W _ (by show b + 4 ≠ b + 2; omega)).trans h.seen, (set_ne0 W _ (by show b + 5 ≠ b + 2; omega)).trans h.mt⟩
  exact k3.move (fun k hk hlt => ⟨set_ne0 W _ (by show k ≠ b + 2; omega), by omega, TyB.move hk.2.2 (set_ne0 W _ (by show k ≠ b + 2; omega))⟩) (by omega)
/-- What an append to the list, and the store back, leave. -/
theorem OnAt.setL {W W' : World} {b : Nat} {ps : List Value} {s : Ow} {v v' : Value} {x : Int} (h : OnAt W b ps s) (hv : W.heap[b + 1]? = some (.cells #[v] 35 (0, 0))) (ho : Owns W (b + 6) 3 1 v (s.l.map i64C)) (hown : Owns W' (b + 6) 3 1 v' (s.l.map i64C ++ [i64C x])) (hg : W.grownBy W' v.ownBlock) :
    OnAt (W'.setCell ⟨b + 1, 0, none⟩ v') b ps ⟨s.seen, s.l ++ [x], s.all, s.mt⟩ ∧ (∀ T cs fr k, W.heap[k]? = some (.cells cs T fr) → (k < b + 6 ∨ T ≠ 3) → W'.heap[k]? = W.heap[k]?) := by
  obtain ⟨A, c, a1, a2, a3, a4⟩ := h.all
  have key : ∀ k, k < W.heap.size → (k < b + 6 ∨ ¬ TyB 3 W k) → W'.heap[k]? = W.heap[k]? := fun k hk hc => hg.block k hk fun e => by
    rcases hc with hc | hc
    · have := (ho.lt k e.symm).1; omega
    · exact hc (own_ty ho e.symm)
  refine ⟨⟨?_, ?_, ?_, ?_, ?_, ?_⟩, fun T cs fr k hk hc => key k (heap_lt hk) (hc.imp id fun hne ht => ht.ne hk (fun e => hne e.symm) rfl)⟩
  · exact (set_ne0 W' _ (by show b ≠ b + 1; omega)).trans ((key b (heap_lt h.blk) (.inl (by omega))).trans h.blk)
  · refine ⟨v', ?_, ?_⟩
    · have := heap_set0 ((key (b + 1) (heap_lt hv) (.inl (by omega))).trans hv) 0 v'; simpa using this
    · rw [List.map_append]; exact owns_grown0 hown (grown_set0 W' (b + 1) 0 v') (by omega)
  · refine ⟨A, c, (set_ne0 W' _ (by show b + 2 ≠ b + 1; omega)).trans ((key (b + 2) (heap_lt a1) (.inl (by omega))).trans a1), a2, a3, all_move a4 (fun k hk hlt ht => (set_ne0 W' _ (by show k ≠ b + 1; omega)).trans (key k hlt (.inr fun ht2 => by
      obtain ⟨cs, fr, hc⟩ := ht2
      exact ht.ne hc (by decide) rfl)))⟩
  · exact h.map.blk ((set_ne0 W' _ (by show b + 3 ≠ b + 1; omega)).trans (key (b + 3) h.map.lt (.inl (by omega))))
  · exact (set_ne0 W' _ (by show b + 4 ≠ b + 1; omega)).trans ((key (b + 4) (heap_lt h.seen) (.inl (by omega))).trans h.seen)
  · exact (set_ne0 W' _ (by show b + 5 ≠ b + 1; omega)).trans ((key (b + 5) (heap_lt h.mt) (.inl (by omega))).trans h.mt)
structure FitO (p : Pg) (s : Ow) : Prop where
  few : s.seen.length + leftN p.ins.length s.seen ≤ p.ins.length
  l : s.l.length ≤ s.seen.length
  m0 : 0 ≤ s.mt
  m1 : s.mt ≤ s.seen.length
  all : s.all.length ≤ 2000000
theorem onW_fit (p : Pg) (pc : Int) (s : Ow) (hp : Pc p pc) (h : FitO p s) : FitO p (onW meetB un2 p pc s).2 := by
  obtain ⟨h1, h2, h3, h4, h5⟩ := h
  unfold onW
  by_cases c0 : s.seen.contains pc = true
  · rw [if_pos c0]; exact ⟨h1, h2, h3, h4, h5⟩
  · rw [if_neg c0]
    have hf := fit_cons hp (by simpa using c0) h1
    have hlc : (pc :: s.seen).length = s.seen.length + 1 := rfl
    split
    · exact ⟨hf, by simp; omega, by simp; omega, by simp; omega, h5⟩
    · split
      · split
        · exact ⟨hf, by simp; omega, h3, by simp; omega, h5⟩
        · exact ⟨hf, by simp; omega, h3, by simp; omega, norm_len _⟩
      · exact ⟨hf, by simp; omega, h3, by simp; omega, h5⟩
structure OnCells (W : World) (b : Nat) (v : Value) (s : Ow) (A2 : Option Addr) (k2 : Nat) : Prop where
  c0 : W.cell? ⟨b, 0, none⟩ = some v
  c2 : W.cell? ⟨b + 2, 0, none⟩ = some (.slice A2 s.all.length k2)
  f2 : W.frozen? ⟨b + 2, 0, none⟩ = false
  c4 : W.cell? ⟨b + 4, 0, none⟩ = some (.map (some (b + 3)))
  c5 : W.cell? ⟨b + 5, 0, none⟩ = some (.int .i64 s.mt)
  f5 : W.frozen? ⟨b + 5, 0, none⟩ = false
  f1 : W.frozen? ⟨b + 1, 0, none⟩ = false
  n0 : b < W.heap.size
  n1 : b + 1 < W.heap.size
  n2 : b + 2 < W.heap.size
  n4 : b + 4 < W.heap.size
  n5 : b + 5 < W.heap.size
  h2 : s.all.length ≤ k2
  m2 : k2 ≤ maxLen
  arr : Hid (Arr (fun k => b + 6 ≤ k ∧ TyB 66 W k) W 2 RgC A2 s.all)
theorem OnAt.cells {W : World} {b : Nat} {v u z : Value} {s : Ow} (h : OnAt W b [v, u, z] s) : ∃ A2 k2, OnCells W b v s A2 k2 := by
  obtain ⟨v1, l1, l2⟩ := h.l
  obtain ⟨A, c, a1, a2, a3, a4⟩ := h.all
  exact ⟨A, c, by rw [cell_of_blk h.blk]; rfl, by rw [cell_of_blk a1]; rfl, by simp [World.frozen?, a1], by rw [cell_of_blk h.seen]; rfl, by rw [cell_of_blk h.mt]; rfl, by simp [World.frozen?, h.mt], by simp [World.frozen?, l1], heap_lt h.blk, heap_lt l1, heap_lt a1, heap_lt h.seen, heap_lt h.mt, a2, a3, Lib.hid a4⟩
def OnPost (p : Pg) (b : Nat) (ps : List Value) (r : Bool × Ow) (W : World) (e : Ending) (W' : World) : Prop := e = .returned (.bool r.1) ∧ OnAt W' b ps r.2 ∧ Kept b 6 3 W W'
set_option maxRecDepth 100000 in
set_option maxHeartbeats 4000000 in
theorem on1_seen (p : Pg) (b : Nat) (ps : List Value) (w0 : World) (hpg : PgC (fun k => k < b) w0 p ps) (hb0 : b ≤ w0.heap.size) (hN : p.ins.length ≤ 100000) (hset : ∀ x ∈ p.ins, x.set.length ≤ 1000000000)
    (i : Nat) (s : Ow) (W : World) (h : OnAt W b ps s) (hB : Below b w0 W) (hi : i < p.ins.length) (hf : FitO p s) (hs : s.seen.contains (i : Int) = true) :
    Calls Tryd.prog 57 #[.int .i64 i, .pointer (some ⟨b + 4, 0, none⟩), .pointer (some ⟨b, 0, none⟩), .pointer (some ⟨b + 5, 0, none⟩), .pointer (some ⟨b + 2, 0, none⟩), .pointer (some ⟨b + 1, 0, none⟩)] W (OnPost p b ps (onW meetB un2 p i s) W) := by
  have hwf : (Lit.int .i64 (i : Int)).wf = true := wf_small (by omega) (by omega)
  have hp : Pc p i := ⟨by omega, by omega⟩
  have hlk := ints_look h.map i hwf
  have hc4 : W.cell? ⟨b + 4, 0, none⟩ = some (.map (some (b + 3))) := by rw [cell_of_blk h.seen]; rfl
  have e : onW meetB un2 p i s = (false, s) := by unfold onW; rw [if_pos hs]
  rw [e]
  rw [hs] at hlk
  have HA := Lib.hid h
  clear h hpg hB e hs hf hset
  go_enter Tryd.func57, Tryd.ntmps57
  go_wp2_with fail
  go_ret
  exact ⟨rfl, HA.out, Kept.refl _ _ _ _⟩
set_option maxRecDepth 100000 in
set_option maxHeartbeats 4000000 in
theorem on1_match (p : Pg) (b : Nat) (ps : List Value) (w0 : World) (hpg : PgC (fun k => k < b) w0 p ps) (hb0 : b ≤ w0.heap.size) (hN : p.ins.length ≤ 100000) (hset : ∀ x ∈ p.ins, x.set.length ≤ 1000000000)
    (i : Nat) (s : Ow) (W : World) (h : OnAt W b ps s) (hB : Below b w0 W) (hi : i < p.ins.length) (hf : FitO p s) (hs : s.seen.contains (i : Int) = false) (ho : (p.get i).op = 1) :
    Calls Tryd.prog 57 #[.int .i64 i, .pointer (some ⟨b + 4, 0, none⟩), .pointer (some ⟨b, 0, none⟩), .pointer (some ⟨b + 5, 0, none⟩), .pointer (some ⟨b + 2, 0, none⟩), .pointer (some ⟨b + 1, 0, none⟩)] W (OnPost p b ps (onW meetB un2 p i s) W) := by
  have hwf : (Lit.int .i64 (i : Int)).wf = true := wf_small (by omega) (by omega)
  have hp : Pc p i := ⟨by omega, by omega⟩
  have hlk := ints_look h.map i hwf
  have hc4 : W.cell? ⟨b + 4, 0, none⟩ = some (.map (some (b + 3))) := by rw [cell_of_blk h.seen]; rfl
  rw [hs] at hlk
  have hfit1 := fit_cons hp hs hf.few
  obtain ⟨ad, c, B3, d3, rfl, hc1, hcm, hd3, hd3m, hadb, hins⟩ := ins_at hpg hb0 i hi
  have hmx : s.seen.length < maxLen := by have := hf.few; unfold maxLen; omega
  have hsx := hset _ (List.getElem_mem hi)
  have hge := get_eq p i hi
  have hlN : s.l.length ≤ 100000 := by have := hf.few; have := hf.l; omega
  have hmN : s.mt ≤ 100000 := by have := hf.few; have := hf.m1; omega
  have hm0 := hf.m0
  have hal := hf.all
  have HA := Lib.hid (And.intro h (And.intro hB (And.intro hins (And.intro hfit1 hf))))
  clear h hB hins hfit1 hpg hset hf
  have e : onW meetB un2 p i s = (decide (s.mt + 1 < 2), ⟨(i : Int) :: s.seen, s.l, s.all, s.mt + 1⟩) := by unfold onW; rw [if_neg (by rw [hs]; simp)]; rw [if_pos ho]
  rw [e]
  clear e hs
  try rw [hge]
  rw [hge] at ho
  clear hge
  generalize p.ins[i] = x at *
  have o1 : (x.op == 1) = true := by rw [ho]; rfl
  have o2 : (x.op == 2) = false := by rw [ho]; rfl
  have HO := Lib.hid ho
  clear ho
  go_enter Tryd.func57, Tryd.ntmps57
  go_wp2_with (at_mapUpdate; refine wpList_ints rfl _ _ _ rfl (b + 3) _ _ rfl HA.out.1.map hmx i hwf rfl rfl ?_; intro w1 hm1 hg1; have h1 := HA.out.1.mark hm1 hg1; have hK1 := (Kept.refl b 6 3 W).grown hg1 (fun k e => by cases e; exact ⟨by omega, .inl (by omega)⟩); have hB1 := HA.out.2.1.trans (hK1.below (by have := HA.out.1.lt; omega)); obtain ⟨ha, g0, g1, g2, g3, g4⟩ := HA.out.2.2.1 w1 hB1; obtain ⟨A2, k2, q0, q2, f2, q4, q5, f5, f1, n0, n1, n2, n4, n5, hk2, mk2, AR⟩ := h1.cells; have H1 := Lib.hid (And.intro h1 (And.intro hK1 (And.intro hB1 ha))); clear h1 hK1 hB1 ha hm1 hg1)
  all_goals
    go_ret
    exact ⟨ret_bool (by simp), (H1.out.1.setMt (s.mt + 1)).below (below_al (Below.refl _ _) _), (H1.out.2.1.set (a := ⟨b + 5, 0, none⟩) (by show b ≤ b + 5; omega) (by show b + 5 < b + 6; omega) _).alloc _⟩
set_option maxRecDepth 100000 in
set_option maxHeartbeats 4000000 in
theorem on1_rest (p : Pg) (b : Nat) (ps : List Value) (w0 : World) (hpg : PgC (fun k => k < b) w0 p ps) (hb0 : b ≤ w0.heap.size) (hN : p.ins.length ≤ 100000) (hset : ∀ x ∈ p.ins, x.set.length ≤ 1000000000)
    (i : Nat) (s : Ow) (W : World) (h : OnAt W b ps s) (hB : Below b w0 W) (hi : i < p.ins.length) (hf : FitO p s) (hs : s.seen.contains (i : Int) = false) (ho : (p.get i).op ≠ 1 ∧ (p.get i).op ≠ 2) :
    Calls Tryd.prog 57 #[.int .i64 i, .pointer (some ⟨b + 4, 0, none⟩), .pointer (some ⟨b, 0, none⟩), .pointer (some ⟨b + 5, 0, none⟩), .pointer (some ⟨b + 2, 0, none⟩), .pointer (some ⟨b + 1, 0, none⟩)] W (OnPost p b ps (onW meetB un2 p i s) W) := by
  have hwf : (Lit.int .i64 (i : Int)).wf = true := wf_small (by omega) (by omega)
  have hp : Pc p i := ⟨by omega, by omega⟩
  have hlk := ints_look h.map i hwf
  have hc4 : W.cell? ⟨b + 4, 0, none⟩ = some (.map (some (b + 3))) := by rw [cell_of_blk h.seen]; rfl
  rw [hs] at hlk
  have hfit1 := fit_cons hp hs hf.few
  obtain ⟨ad, c, B3, d3, rfl, hc1, hcm, hd3, hd3m, hadb, hins⟩ := ins_at hpg hb0 i hi
  have hmx : s.seen.length < maxLen := by have := hf.few; unfold maxLen; omega
  have hsx := hset _ (List.getElem_mem hi)
  have hge := get_eq p i hi
  have hlN : s.l.length ≤ 100000 := by have := hf.few; have := hf.l; omega
  have hmN : s.mt ≤ 100000 := by have := hf.few; have := hf.m1; omega
  have hm0 := hf.m0
  have hal := hf.all
  have HA := Lib.hid (And.intro h (And.intro hB (And.intro hins (And.intro hfit1 hf))))
  clear h hB hins hfit1 hpg hset hf
  have e : onW meetB un2 p i s = (decide (s.mt < 2), ⟨(i : Int) :: s.seen, s.l, s.all, s.mt⟩) := by unfold onW; rw [if_neg (by rw [hs]; simp)]; rw [if_neg ho.1, if_neg ho.2]
  rw [e]
  clear e hs
  try rw [hge]
  rw [hge] at ho
  clear hge
  generalize p.ins[i] = x at *
  have o1 : (x.op == 1) = false := by simp; omega
  have o2 : (x.op == 2) = false := by simp; omega
  have HO := Lib.hid ho
  clear ho
  go_enter Tryd.func57, Tryd.ntmps57
  go_wp2_with (at_mapUpdate; refine wpList_ints rfl _ _ _ rfl (b + 3) _ _ rfl HA.out.1.map hmx i hwf rfl rfl ?_; intro w1 hm1 hg1; have h1 := HA.out.1.mark hm1 hg1; have hK1 := (Kept.refl b 6 3 W).grown hg1 (fun k e => by cases e; exact ⟨by omega, .inl (by omega)⟩); have hB1 := HA.out.2.1.trans (hK1.below (by have := HA.out.1.lt; omega)); obtain ⟨ha, g0, g1, g2, g3, g4⟩ := HA.out.2.2.1 w1 hB1; obtain ⟨A2, k2, q0, q2, f2, q4, q5, f5, f1, n0, n1, n2, n4, n5, hk2, mk2, AR⟩ := h1.cells; have H1 := Lib.hid (And.intro h1 (And.intro hK1 (And.intro hB1 ha))); clear h1 hK1 hB1 ha hm1 hg1)
  all_goals
    go_ret
    exact ⟨ret_bool (by simp), H1.out.1.below (below_al (Below.refl _ _) _), H1.out.2.1.alloc _⟩
set_option maxRecDepth 100000 in
set_option maxHeartbeats 4000000 in
theorem on1_meets (p : Pg) (b : Nat) (ps : List Value) (w0 : World) (hpg : PgC (fun k => k < b) w0 p ps) (hb0 : b ≤ w0.heap.size) (hN : p.ins.length ≤ 100000) (hset : ∀ x ∈ p.ins, x.set.length ≤ 1000000000)
    (i : Nat) (s : Ow) (W : World) (h : OnAt W b ps s) (hB : Below b w0 W) (hi : i < p.ins.length) (hf : FitO p s) (hs : s.seen.contains (i : Int) = false) (ho : (p.get i).op = 2) (hmm : meetB s.all (p.get i).set = true) :
    Calls Tryd.prog 57 #[.int .i64 i, .pointer (some ⟨b + 4, 0, none⟩), .pointer (some ⟨b, 0, none⟩), .pointer (some ⟨b + 5, 0, none⟩), .pointer (some ⟨b + 2, 0, none⟩), .pointer (some ⟨b + 1, 0, none⟩)] W (OnPost p b ps (onW meetB un2 p i s) W) := by
  have hwf : (Lit.int .i64 (i : Int)).wf = true := wf_small (by omega) (by omega)
  have hp : Pc p i := ⟨by omega, by omega⟩
  have hlk := ints_look h.map i hwf
  have hc4 : W.cell? ⟨b + 4, 0, none⟩ = some (.map (some (b + 3))) := by rw [cell_of_blk h.seen]; rfl
  rw [hs] at hlk
  have hfit1 := fit_cons hp hs hf.few
  obtain ⟨ad, c, B3, d3, rfl, hc1, hcm, hd3, hd3m, hadb, hins⟩ := ins_at hpg hb0 i hi
  have hmx : s.seen.length < maxLen := by have := hf.few; unfold maxLen; omega
  have hsx := hset _ (List.getElem_mem hi)
  have hge := get_eq p i hi
  have hlN : s.l.length ≤ 100000 := by have := hf.few; have := hf.l; omega
  have hmN : s.mt ≤ 100000 := by have := hf.few; have := hf.m1; omega
  have hm0 := hf.m0
  have hal := hf.all
  have HA := Lib.hid (And.intro h (And.intro hB (And.intro hins (And.intro hfit1 hf))))
  clear h hB hins hfit1 hpg hset hf
  have e : onW meetB un2 p i s = (false, ⟨(i : Int) :: s.seen, s.l, s.all, s.mt⟩) := by unfold onW; rw [if_neg (by rw [hs]; simp)]; rw [if_neg (by omega), if_pos ho, if_pos hmm]
  rw [e]
  clear e hs
  try rw [hge]
  rw [hge] at ho
  rw [hge] at hmm
  clear hge
  generalize p.ins[i] = x at *
  have o1 : (x.op == 1) = false := by rw [ho]; rfl
  have o2 : (x.op == 2) = true := by rw [ho]; rfl
  have HO := Lib.hid ho
  clear ho
  have hml : decide (0 < (meetOf s.all x.set).length) = true := hmm
  clear hmm
  go_enter Tryd.func57, Tryd.ntmps57
  go_wp2_with (at_mapUpdate; refine wpList_ints rfl _ _ _ rfl (b + 3) _ _ rfl HA.out.1.map hmx i hwf rfl rfl ?_; intro w1 hm1 hg1; have h1 := HA.out.1.mark hm1 hg1; have hK1 := (Kept.refl b 6 3 W).grown hg1 (fun k e => by cases e; exact ⟨by omega, .inl (by omega)⟩); have hB1 := HA.out.2.1.trans (hK1.below (by have := HA.out.1.lt; omega)); obtain ⟨ha, g0, g1, g2, g3, g4⟩ := HA.out.2.2.1 w1 hB1; obtain ⟨A2, k2, q0, q2, f2, q4, q5, f5, f1, n0, n1, n2, n4, n5, hk2, mk2, AR⟩ := h1.cells; have H1 := Lib.hid (And.intro h1 (And.intro hK1 (And.intro hB1 ha))); clear h1 hK1 hB1 ha hm1 hg1)
  have hW2 : Below w1.heap.size w1 (w1.alloc (.cells #[.int .i64 x.op, .int .i64 x.out, .int .i64 x.arg, .slice B3 x.set.length d3, .int .i64 x.at_] 64)) := below_al (Below.refl _ _) _
  have hmt := meet_any _ _ (w1.alloc (.cells #[.int .i64 x.op, .int .i64 x.out, .int .i64 x.arg, .slice B3 x.set.length d3, .int .i64 x.at_] 64)) A2 B3 k2 d3 s.all x.set (AR.out.move (ok' := fun _ => True) (fun k hk hlt => ⟨hW2.block k hlt, trivial⟩) (by omega)) (H1.out.2.2.2.move (ok' := fun _ => True) (fun k hk hlt => ⟨hW2.block k hlt, trivial⟩) (by omega)) (by omega) hsx
  clear hW2
  refine hmt.mono ?_
  clear hmt
  rintro e w2 ⟨v2, rfl, ho2, hb2⟩
  dsimp only
  obtain ⟨A4, c4, rfl, _, _, _⟩ := ownR_arr ho2
  have h2 := (H1.out.1.below (below_al (Below.refl _ _) _)).below hb2
  have hbx := (hb2.block w1.heap.size (by simp)).trans (heap_new1 w1 _)
  have hBB : Below w1.heap.size w1 w2 := (below_al (Below.refl _ _) _).trans (hb2.mono (by simp))
  have H2 := Lib.hid (And.intro h2 hBB)
  clear ho2 h2 hBB hbx hb2 q0 q2 q4 q5 f1 f2 f5 n0 n1 n2 n4 n5 g0 g1 g2 g3 g4
  go_wp2_with fail
  go_ret
  exact ⟨rfl, H2.out.1, H1.out.2.1.trans (.of_below H2.out.2)⟩
set_option maxRecDepth 100000 in
set_option maxHeartbeats 4000000 in
theorem on1_set (p : Pg) (b : Nat) (ps : List Value) (w0 : World) (hpg : PgC (fun k => k < b) w0 p ps) (hb0 : b ≤ w0.heap.size) (hN : p.ins.length ≤ 100000) (hset : ∀ x ∈ p.ins, x.set.length ≤ 1000000000)
    (i : Nat) (s : Ow) (W : World) (h : OnAt W b ps s) (hB : Below b w0 W) (hi : i < p.ins.length) (hf : FitO p s) (hs : s.seen.contains (i : Int) = false) (ho : (p.get i).op = 2) (hmm : meetB s.all (p.get i).set = false) :
    Calls Tryd.prog 57 #[.int .i64 i, .pointer (some ⟨b + 4, 0, none⟩), .pointer (some ⟨b, 0, none⟩), .pointer (some ⟨b + 5, 0, none⟩), .pointer (some ⟨b + 2, 0, none⟩), .pointer (some ⟨b + 1, 0, none⟩)] W (OnPost p b ps (onW meetB un2 p i s) W) := by
  have hwf : (Lit.int .i64 (i : Int)).wf = true := wf_small (by omega) (by omega)
  have hp : Pc p i := ⟨by omega, by omega⟩
  have hlk := ints_look h.map i hwf
  have hc4 : W.cell? ⟨b + 4, 0, none⟩ = some (.map (some (b + 3))) := by rw [cell_of_blk h.seen]; rfl
  rw [hs] at hlk
  have hfit1 := fit_cons hp hs hf.few
  obtain ⟨ad, c, B3, d3, rfl, hc1, hcm, hd3, hd3m, hadb, hins⟩ := ins_at hpg hb0 i hi
  have hmx : s.seen.length < maxLen := by have := hf.few; unfold maxLen; omega
  have hsx := hset _ (List.getElem_mem hi)
  have hge := get_eq p i hi
  have hlN : s.l.length ≤ 100000 := by have := hf.few; have := hf.l; omega
  have hmN : s.mt ≤ 100000 := by have := hf.few; have := hf.m1; omega
  have hm0 := hf.m0
  have hal := hf.all
  have HA := Lib.hid (And.intro h (And.intro hB (And.intro hins (And.intro hfit1 hf))))
  clear h hB hins hfit1 hpg hset hf
  have e : onW meetB un2 p i s = (decide (s.mt < 2), ⟨(i : Int) :: s.seen, s.l ++ [(i : Int)], un2 s.all (p.get i).set, s.mt⟩) := by unfold onW; rw [if_neg (by rw [hs]; simp)]; rw [if_neg (by omega), if_pos ho, if_neg (by rw [hmm]; simp)]
  rw [e]
  clear e hs
  try rw [hge]
  rw [hge] at ho
  rw [hge] at hmm
  clear hge
  generalize p.ins[i] = x at *
  have o1 : (x.op == 1) = false := by rw [ho]; rfl
  have o2 : (x.op == 2) = true := by rw [ho]; rfl
  have HO := Lib.hid ho
  clear ho
  have hml : decide (0 < (meetOf s.all x.set).length) = false := hmm
  clear hmm
  go_enter Tryd.func57, Tryd.ntmps57
  go_wp2_with (at_mapUpdate; refine wpList_ints rfl _ _ _ rfl (b + 3) _ _ rfl HA.out.1.map hmx i hwf rfl rfl ?_; intro w1 hm1 hg1; have h1 := HA.out.1.mark hm1 hg1; have hK1 := (Kept.refl b 6 3 W).grown hg1 (fun k e => by cases e; exact ⟨by omega, .inl (by omega)⟩); have hB1 := HA.out.2.1.trans (hK1.below (by have := HA.out.1.lt; omega)); obtain ⟨ha, g0, g1, g2, g3, g4⟩ := HA.out.2.2.1 w1 hB1; obtain ⟨A2, k2, q0, q2, f2, q4, q5, f5, f1, n0, n1, n2, n4, n5, hk2, mk2, AR⟩ := h1.cells; have H1 := Lib.hid (And.intro h1 (And.intro hK1 (And.intro hB1 ha))); clear h1 hK1 hB1 ha hm1 hg1)
  have hW2 : Below w1.heap.size w1 (w1.alloc (.cells #[.int .i64 x.op, .int .i64 x.out, .int .i64 x.arg, .slice B3 x.set.length d3, .int .i64 x.at_] 64)) := below_al (Below.refl _ _) _
  have hmt := meet_any _ _ (w1.alloc (.cells #[.int .i64 x.op, .int .i64 x.out, .int .i64 x.arg, .slice B3 x.set.length d3, .int .i64 x.at_] 64)) A2 B3 k2 d3 s.all x.set (AR.out.move (ok' := fun _ => True) (fun k hk hlt => ⟨hW2.block k hlt, trivial⟩) (by omega)) (H1.out.2.2.2.move (ok' := fun _ => True) (fun k hk hlt => ⟨hW2.block k hlt, trivial⟩) (by omega)) (by omega) hsx
  clear hW2
  refine hmt.mono ?_
  clear hmt
  rintro e w2 ⟨v2, rfl, ho2, hb2⟩
  dsimp only
  obtain ⟨A4, c4, rfl, _, _, _⟩ := ownR_arr ho2
  have h2 := (H1.out.1.below (below_al (Below.refl _ _) _)).below hb2
  have hbx := (hb2.block w1.heap.size (by simp)).trans (heap_new1 w1 _)
  have hBB : Below w1.heap.size w1 w2 := (below_al (Below.refl _ _) _).trans (hb2.mono (by simp))
  have hun := union_any _ _ w2 A2 B3 k2 d3 s.all x.set (AR.out.move (ok' := fun _ => True) (fun k hk hlt => ⟨hBB.block k hlt, trivial⟩) (by omega)) (H1.out.2.2.2.move (ok' := fun _ => True) (fun k hk hlt => ⟨hBB.block k hlt, trivial⟩) (by omega)) (by omega) hsx
  obtain ⟨x0, x1, x2, x3, x4⟩ := cells5 hbx
  have nx := heap_lt hbx
  have q2' := q2
  have n2' := n2
  clear q0 q2 q4 q5 f1 f2 f5 n0 n1 n2 n4 n5 hk2 mk2 g0 g1 g2 g3 g4
  have q0 : w2.cell? ⟨b, 0, none⟩ = some (.slice (some ad) p.ins.length c) := by rw [cell_of_blk h2.blk]; rfl
  have q2 : w2.cell? ⟨b + 2, 0, none⟩ = some (.slice A2 s.all.length k2) := (World.cell?_of_block (hBB.block _ n2')).trans q2'
  have H2 := Lib.hid (And.intro h2 (And.intro hBB (And.intro q2' n2')))
  clear ho2 h2 hBB hbx hb2 q2' n2'
  go_wp2_with fail
  refine hun.mono ?_
  clear hun
  rintro e w3 ⟨v3, rfl, ho3, hb3⟩
  dsimp only
  have h2n : b + 6 ≤ w2.heap.size := by have := H2.out.1.lt; omega
  have h3 := H2.out.1.below hb3
  have hK3 : Kept b 6 3 W w3 := H1.out.2.1.trans (.of_below (H2.out.2.1.trans (hb3.mono H2.out.2.1.size)))
  clear q0 q2 x0 x1 x2 x3 x4 nx
  have fz2 : w3.frozen? ⟨b + 2, 0, none⟩ = false := by obtain ⟨A7, c7, a1, _⟩ := h3.all; simp [World.frozen?, a1]
  have cz2 : ∃ u, w3.cell? ⟨b + 2, 0, none⟩ = some u := by obtain ⟨A7, c7, a1, _⟩ := h3.all; exact ⟨_, by rw [cell_of_blk a1]; rfl⟩
  obtain ⟨u2, cz2⟩ := cz2
  have h4 := h3.setAll (l := normOf [s.all, x.set]) ho3 (by have := h2n; omega)
  have hK4 := hK3.set (a := ⟨b + 2, 0, none⟩) (by show b ≤ b + 2; omega) (by show b + 2 < b + 6; omega) v3
  obtain ⟨lv, l1, l2⟩ := h4.l
  have cl : (w3.setCell ⟨b + 2, 0, none⟩ v3).cell? ⟨b + 1, 0, none⟩ = some lv := by rw [cell_of_blk l1]; rfl
  have hsh := l2.shape
  obtain ⟨A8, c8, rfl, _, _⟩ := hsh
  rw [List.length_map] at l1 l2 cl
  obtain ⟨i0, hi0, hz0, hz1, hz2⟩ := info_parts infoI
  have K3 := Lib.hid (show (s.l.map i64C).length + 1 ≤ maxLen by rw [List.length_map]; unfold maxLen; omega)
  have K4 := Lib.hid (show ((s.l.map i64C).length + 1) * 8 ≤ 140737488355328 by rw [List.length_map]; omega)
  have nz := h4.lt
  have K5 := Lib.hid (show ∀ o : Obj, b + 6 ≤ ((w3.setCell ⟨b + 2, 0, none⟩ v3).alloc o).heap.size from fun o => by rw [World.size_alloc]; omega)
  have nz3 := h3.lt
  obtain ⟨A9, c9, hv9, _⟩ := ownR_arr ho3
  subst hv9
  have H4 := Lib.hid (And.intro h4 (And.intro hK4 (And.intro l1 l2)))
  clear h3 hK3 ho3 hb3 h4 hK4 l1 l2
  go_wp2_with (at_builtin; refine wpList_app1 rfl _ _ 35 rfl (b + 6) 3 i0 (.int .i64 0) 1 8 Tryd.underlying35 hi0 hz0 hz1 hz2 rfl (by decide) _ _ rfl (H4.out.2.2.2.alloc _) _ [.int .i64 (i : Int)] rfl rfl (heap_newX (by simp [World.setCell])) (one_i64 _) K3.out K4.out (K5.out _) ?_)
  intro v' w4 hown' hgrow
  have h5 := (H4.out.1.below (below_al (Below.refl _ _) (.cells #[.int .i64 (i : Int)] 3))).setL (x := (i : Int)) (v := .slice A8 s.l.length c8) ((Below.heap_alloc _ _ _ (heap_lt H4.out.2.2.1)).trans H4.out.2.2.1) (H4.out.2.2.2.alloc _) hown' hgrow
  have hK5 := Kept.app hgrow (H4.out.2.1.alloc _) (H4.out.2.2.2.alloc _) (by omega)
  have e1 := h5.2 _ _ _ (b + 1) ((Below.heap_alloc _ _ _ (heap_lt H4.out.2.2.1)).trans H4.out.2.2.1) (.inl (by omega))
  have hb4 := e1.trans ((Below.heap_alloc _ _ _ (heap_lt H4.out.2.2.1)).trans H4.out.2.2.1)
  have z1 : w4.cell? ⟨b + 1, 0, none⟩ = some (.slice A8 s.l.length c8) := by rw [cell_of_blk hb4]; rfl
  have zf := frozenOf hb4 0
  have zn := heap_lt hb4
  have z5 : (w4.setCell ⟨b + 1, 0, none⟩ v').cell? ⟨b + 5, 0, none⟩ = some (.int .i64 s.mt) := by rw [cell_of_blk h5.1.mt]; rfl
  have hown9 := hown'
  obtain ⟨A9', c9', rfl, _, _⟩ := Owns.shape hown9
  simp only [List.length_append, List.length_map, List.length_cons, List.length_nil, Nat.zero_add] at h5 z5
  have H5 := Lib.hid (And.intro h5.1 hK5)
  clear e1 h5 hb4 hK5 hown' hown9 hgrow
  go_wp2_with fail
  go_ret
  exact ⟨ret_bool (by simp), H5.out.1, H5.out.2.set (a := ⟨b + 1, 0, none⟩) (by show b ≤ b + 1; omega) (by show b + 1 < b + 6; omega) _⟩
end Go.Proofs.YthclpabmbhpohaaDoor
namespace Go.Proofs.YthclpabmbhpohaaDoor
open Go.RowKit Go.Maps
set_option linter.unusedVariables false
theorem on1_all (p : Pg) (b : Nat) (ps : List Value) (w0 : World) (hpg : PgC (fun k => k < b) w0 p ps) (hb0 : b ≤ w0.heap.size) (hN : p.ins.length ≤ 100000) (hset : ∀ x ∈ p.ins, x.set.length ≤ 1000000000)
    (i : Nat) (s : Ow) (W : World) (h : OnAt W b ps s) (hB : Below b w0 W) (hi : i < p.ins.length) (hf : FitO p s) :
    Calls Tryd.prog 57 #[.int .i64 i, .pointer (some ⟨b + 4, 0, none⟩), .pointer (some ⟨b, 0, none⟩), .pointer (some ⟨b + 5, 0, none⟩), .pointer (some ⟨b + 2, 0, none⟩), .pointer (some ⟨b + 1, 0, none⟩)] W (OnPost p b ps (onW meetB un2 p i s) W) := by
  by_cases hs : s.seen.contains (i : Int) = true
  · exact on1_seen p b ps w0 hpg hb0 hN hset i s W h hB hi hf hs
  have hs' : s.seen.contains (i : Int) = false := by simpa using hs
  by_cases c1 : (p.get i).op = 1
  · exact on1_match p b ps w0 hpg hb0 hN hset i s W h hB hi hf hs' c1
  by_cases c2 : (p.get i).op = 2
  · cases hm : meetB s.all (p.get i).set with
    | true => exact on1_meets p b ps w0 hpg hb0 hN hset i s W h hB hi hf hs' c2 hm
    | false => exact on1_set p b ps w0 hpg hb0 hN hset i s W h hB hi hf hs' c2 hm
  · exact on1_rest p b ps w0 hpg hb0 hN hset i s W h hB hi hf hs' ⟨c1, c2⟩
theorem waysW_fit (p : Pg) (hl : Leads p) : ∀ (n : Nat) (pc : Int) (s : Ow), Pc p pc → FitO p s → FitO p (waysW meetB un2 p n pc s).2
  | 0, _, s, _, h => h
  | n + 1, pc, s, hp, h => by
    have ih := waysW_fit p hl n
    have hx := hl pc hp
    have h1 := onW_fit p pc s hp h
    rw [waysW_new rfl rfl]
    by_cases c0 : (onW meetB un2 p pc s).1 = false
    · rw [if_pos c0]; exact h1
    rw [if_neg c0]
    by_cases c3 : (p.get pc).op = 3
    · rw [if_pos c3]
      have h2 := ih _ _ (hx.1 (by omega)) h1
      split
      · exact h2
      · exact ih _ _ (hx.2 c3) h2
    rw [if_neg c3]
    by_cases c4 : (p.get pc).op = 4 ∨ (p.get pc).op = 5
    · rw [if_pos c4]; exact ih _ _ (hx.1 (by omega)) h1
    rw [if_neg c4]; exact h1
theorem w_cases (x : In) : x.op = 3 ∨ x.op = 4 ∨ x.op = 5 ∨ (x.op ≠ 3 ∧ x.op ≠ 4 ∧ x.op ≠ 5) := by omega
set_option maxRecDepth 100000 in
set_option maxHeartbeats 4000000 in
theorem ways_any (p : Pg) (b : Nat) (ps : List Value) (w0 : World) (hpg : PgC (fun k => k < b) w0 p ps) (hb0 : b ≤ w0.heap.size) (hl : Leads p) (hN : p.ins.length ≤ 100000) (hset : ∀ x ∈ p.ins, x.set.length ≤ 1000000000) :
    ∀ (n : Nat) (pc : Int) (s : Ow) (W : World), OnAt W b ps s → Below b w0 W → Pc p pc → leftN p.ins.length s.seen < n → FitO p s →
      Calls Tryd.prog 56 #[.agg ps.toArray, .int .i64 pc, .bool true, .func (.func 57) #[] #[.pointer (some ⟨b + 4, 0, none⟩), .pointer (some ⟨b, 0, none⟩), .pointer (some ⟨b + 5, 0, none⟩), .pointer (some ⟨b + 2, 0, none⟩), .pointer (some ⟨b + 1, 0, none⟩)]] W (OnPost p b ps (waysW meetB un2 p n pc s) W) := by
  intro n
  induction n with
  | zero => intro pc s W _ _ _ h; omega
  | succ n ih =>
    intro pc s W h hB hp hn hf
    obtain ⟨i, rfl⟩ := Int.eq_ofNat_of_zero_le hp.1
    have hi : i < p.ins.length := by have := hp.2; omega
    obtain ⟨ad, c, B3, d3, rfl, hc1, hcm, hd3, hd3m, hadb, hins⟩ := ins_at hpg hb0 i hi
    have hbW := h.lt
    have h0 := h.below (below_al (Below.refl _ _) (.cells #[.slice (some ad) p.ins.length c, .int .i64 p.start, .int .i64 p.caps] 28))
    have hB0 := hB.alloc (by omega) (.cells #[.slice (some ad) p.ins.length c, .int .i64 p.start, .int .i64 p.caps] 28)
    have hon := on1_all p b _ w0 hpg hb0 hN hset i s _ h0 hB0 hi hf
    have hfit1 := onW_fit p i s hp hf
    have hleft := @onW_left meetB un2 p i s hp
    have hww := waysW_new (me := meetB) (un := un2) (n := n) (s := s) (p := p) (pc := i) rfl (get_eq p i hi)
    have hx := hl i hp
    rw [get_eq p i hi] at hx
    obtain ⟨R, hR⟩ : ∃ R, waysW meetB un2 p (n + 1) i s = R := ⟨_, rfl⟩
    rw [hR]
    rw [hR] at hww
    clear h h0 hR
    generalize onW meetB un2 p i s = r at *
    have HN := Lib.hid (And.intro hleft (And.intro hn (And.intro hfit1 hx)))
    have HI := Lib.hid ih
    have HB := Lib.hid (And.intro hB (And.intro hB0 hins))
    clear hleft hn hfit1 hx ih hB hB0 hins hpg hset hf
    generalize p.ins[i] = x at *
    have HW := Lib.hid hww
    clear hww
    go_enter Tryd.func56, Tryd.ntmps56
    go_wp2_with fail
    refine hon.mono ?_
    clear hon
    rintro e w1 ⟨rfl, h1, hK1⟩
    dsimp only
    have hbk := (hK1.block W.heap.size (by simp) (.inr ⟨by omega, fun ht => ht.ne (heap_new1 _ _) (by decide) rfl⟩)).trans (heap_new1 W _)
    obtain ⟨p0, p1, p2⟩ := cells3 hbk
    have pn := heap_lt hbk
    have hB1 := HB.out.2.1.trans (hK1.below (by simp; omega))
    obtain ⟨ha, g0, g1, g2, g3, g4⟩ := HB.out.2.2 w1 hB1
    have hK0 : Kept b 6 3 W w1 := ((Kept.refl b 6 3 W).alloc _).trans hK1
    have H1 := Lib.hid (And.intro h1 (And.intro hK0 (And.intro hB1 hbk)))
    clear h1 hK1 hB1 hbk ha hK0
    cases hr : r.1 with
    | false =>
      have HR := Lib.hid hr
      clear hr
      go_wp2_with fail
      go_ret
      rw [show R = (false, r.2) by rw [HW.out, if_pos HR.out]]
      exact ⟨rfl, H1.out.1, H1.out.2.1⟩
    | true =>
      have HR := Lib.hid hr
      have HL := Lib.hid (HN.out.1 hr)
      clear hr
      rcases w_cases x with ho | ho | ho | ho
      · have o3 : (x.op == 3) = true := by rw [ho]; rfl
        have o4 : (x.op == 4) = false := by rw [ho]; rfl
        have o5 : (x.op == 5) = false := by rw [ho]; rfl
        have HO := Lib.hid ho
        clear ho
        have hrec := HI.out x.out r.2 (w1.alloc (.cells #[.int .i64 x.op, .int .i64 x.out, .int .i64 x.arg, .slice B3 x.set.length d3, .int .i64 x.at_] 64)) (H1.out.1.below (below_al (Below.refl _ _) _)) (H1.out.2.2.1.alloc (by have := H1.out.1.lt; omega) _) (HN.out.2.2.2.1 (by have := HO.out; omega)) (by have := HL.out; have := HN.out.2.1; omega) HN.out.2.2.1
        have hfit2 := waysW_fit p hl n x.out r.2 (HN.out.2.2.2.1 (by have := HO.out; omega)) HN.out.2.2.1
        have hls2 := leftN_sub (N := p.ins.length) (waysW_seen meetB un2 p hl n x.out r.2 (HN.out.2.2.2.1 (by have := HO.out; omega)))
        generalize hr2 : waysW meetB un2 p n x.out r.2 = r2 at *
        have H9 := Lib.hid hr2
        clear hr2
        have HF := Lib.hid (And.intro hfit2 hls2)
        clear hfit2 hls2
        go_wp2_with fail
        refine hrec.mono ?_
        clear hrec
        rintro e w2 ⟨rfl, h2, hK2⟩
        dsimp only
        have hbx := (hK2.block w1.heap.size (by simp) (.inr ⟨by have := H1.out.1.lt; omega, fun ht => ht.ne (heap_new1 w1 _) (by decide) rfl⟩)).trans (heap_new1 w1 _)
        obtain ⟨x0, x1, x2, x3, x4⟩ := cells5 hbx
        have nx := heap_lt hbx
        have hbp := (hK2.block W.heap.size (by simp; omega) (.inr ⟨by omega, fun ht => ht.ne ((Below.heap_alloc w1 _ _ pn).trans H1.out.2.2.2) (by decide) rfl⟩)).trans ((Below.heap_alloc w1 _ _ pn).trans H1.out.2.2.2)
        have pn2 := heap_lt hbp
        have hbp9 := hbp
        obtain ⟨y0, y1, y2⟩ := cells3 hbp9
        have H2 := Lib.hid (And.intro h2 (And.intro hK2 hbp))
        clear h2 hK2 hbx hbp hbp9
        cases hr2 : r2.1 with
        | false =>
          have HR2 := Lib.hid hr2
          clear hr2
          go_wp2_with fail
          go_ret
          rw [show R = (false, r2.2) by rw [HW.out, if_neg (by rw [HR.out]; simp), if_pos HO.out, if_pos HR2.out]]
          exact ⟨rfl, H2.out.1, (H1.out.2.1.alloc _).trans H2.out.2.1⟩
        | true =>
          have HR2 := Lib.hid hr2
          clear hr2
          go_wp2_with fail
          refine (HI.out x.arg r2.2 w2 H2.out.1 (H1.out.2.2.1.trans (((Kept.refl b 6 3 w1).alloc _).trans H2.out.2.1 |>.below (by have := H1.out.1.lt; omega))) (HN.out.2.2.2.2 HO.out) (by have := HL.out; have := HN.out.2.1; have := HF.out.2; omega) HF.out.1).mono ?_
          rintro e w3 ⟨rfl, h3, hK3⟩
          dsimp only
          have H3 := Lib.hid (And.intro h3 hK3)
          clear h3 hK3
          go_wp2_with fail
          go_ret
          rw [show R = waysW meetB un2 p n x.arg r2.2 by rw [HW.out, if_neg (by rw [HR.out]; simp), if_pos HO.out, if_neg (by rw [HR2.out]; simp)]]
          exact ⟨rfl, H3.out.1, (H1.out.2.1.alloc _).trans (H2.out.2.1.trans H3.out.2)⟩
      · have o3 : (x.op == 3) = false := by rw [ho]; rfl
        have o4 : (x.op == 4) = true := by rw [ho]; rfl
        have o5 : (x.op == 5) = false := by rw [ho]; rfl
        have HO := Lib.hid ho
        clear ho
        have hrec := HI.out x.out r.2 (w1.alloc (.cells #[.int .i64 x.op, .int .i64 x.out, .int .i64 x.arg, .slice B3 x.set.length d3, .int .i64 x.at_] 64)) (H1.out.1.below (below_al (Below.refl _ _) _)) (H1.out.2.2.1.alloc (by have := H1.out.1.lt; omega) _) (HN.out.2.2.2.1 (by have := HO.out; omega)) (by have := HL.out; have := HN.out.2.1; omega) HN.out.2.2.1
        generalize hr2 : waysW meetB un2 p n x.out r.2 = r2 at *
        have H9 := Lib.hid hr2
        clear hr2
        go_wp2_with fail
        refine hrec.mono ?_
        clear hrec
        rintro e w2 ⟨rfl, h2, hK2⟩
        dsimp only
        have H2 := Lib.hid (And.intro h2 hK2)
        clear h2 hK2
        go_wp2_with fail
        go_ret
        rw [show R = r2 by rw [HW.out, if_neg (by rw [HR.out]; simp), if_neg (by have := HO.out; omega), if_pos (by have := HO.out; omega)]]
        exact ⟨rfl, H2.out.1, (H1.out.2.1.alloc _).trans H2.out.2⟩
      · have o3 : (x.op == 3) = false := by rw [ho]; rfl
        have o4 : (x.op == 4) = false := by rw [ho]; rfl
        have o5 : (x.op == 5) = true := by rw [ho]; rfl
        have HO := Lib.hid ho
        clear ho
        have hrec := HI.out x.out r.2 (w1.alloc (.cells #[.int .i64 x.op, .int .i64 x.out, .int .i64 x.arg, .slice B3 x.set.length d3, .int .i64 x.at_] 64)) (H1.out.1.below (below_al (Below.refl _ _) _)) (H1.out.2.2.1.alloc (by have := H1.out.1.lt; omega) _) (HN.out.2.2.2.1 (by have := HO.out; omega)) (by have := HL.out; have := HN.out.2.1; omega) HN.out.2.2.1
        generalize hr2 : waysW meetB un2 p n x.out r.2 = r2 at *
        have H9 := Lib.hid hr2
        clear hr2
        go_wp2_with fail
        refine hrec.mono ?_
        clear hrec
        rintro e w2 ⟨rfl, h2, hK2⟩
        dsimp only
        have H2 := Lib.hid (And.intro h2 hK2)
        clear h2 hK2
        go_wp2_with fail
        go_ret
        rw [show R = r2 by rw [HW.out, if_neg (by rw [HR.out]; simp), if_neg (by have := HO.out; omega), if_pos (by have := HO.out; omega)]]
        exact ⟨rfl, H2.out.1, (H1.out.2.1.alloc _).trans H2.out.2⟩
      · have o3 : (x.op == 3) = false := by simp; omega
        have o4 : (x.op == 4) = false := by simp; omega
        have o5 : (x.op == 5) = false := by simp; omega
        have HO := Lib.hid ho
        clear ho
        go_wp2_with fail
        go_ret
        rw [show R = (true, r.2) by rw [HW.out, if_neg (by rw [HR.out]; simp), if_neg HO.out.1, if_neg (by have := HO.out; omega)]]
        exact ⟨rfl, H1.out.1.below (below_al (Below.refl _ _) _), H1.out.2.1.alloc _⟩
theorem heap_new6 (w : World) (o1 o2 o3 o4 o5 o6 : Obj) : ((((((w.alloc o1).alloc o2).alloc o3).alloc o4).alloc o5).alloc o6).heap[w.heap.size + 1 + 1 + 1 + 1 + 1]? = some o6 := by
  have := World.alloc_heap_new (((((w.alloc o1).alloc o2).alloc o3).alloc o4).alloc o5) o6; rwa [World.size_alloc, World.size_alloc, World.size_alloc, World.size_alloc, World.size_alloc] at this
def SimplePost (p : Pg) (r : List Int × Bool) (w : World) (e : Ending) (w' : World) : Prop := ∃ A c, e = .returned (.tuple #[.slice A r.1.length c, .bool r.2]) ∧ r.1.length ≤ c ∧ c ≤ maxLen ∧ Arr (fun k => w.heap.size ≤ k) w' 1 (IntC .i64) A r.1 ∧ Below w.heap.size w w'
theorem ownI64_arr {w : World} {base : Nat} {A : Option Addr} {n cap : Nat} {xs : List Int} (h : Owns w base 3 1 (.slice A n cap) (xs.map i64C)) : Arr (fun k => base ≤ k) w 1 (IntC .i64) A xs := by
  have hl := h.lt
  refine Owns.arr h (by simp) (fun i x cs hx hc => ?_) (fun a hA => ?_)
  · rw [List.getElem?_map, hx] at hc; simp at hc; subst hc; rfl
  · subst hA; exact (hl a.block rfl).1
set_option maxRecDepth 100000 in
set_option maxHeartbeats 1000000 in
theorem simple_any (ok : Nat → Prop) (w : World) (p : Pg) (ps : List Value) (hp : PgC ok w p ps) (hl : Leads p) (pc : Int) (hs : Pc p pc) (hN : p.ins.length ≤ 100000) (hset : ∀ x ∈ p.ins, x.set.length ≤ 1000000000) :
    Calls Tryd.prog 37 #[.agg ps.toArray, .int .i64 pc] w (SimplePost p (simpleW meetB un2 p pc) w) := by
  have hpg : PgC (fun k => k < w.heap.size) w p ps := hp.old.move fun b hb hlt => ⟨rfl, hb.2⟩
  have hq := fun W hA hB => ways_any p w.heap.size ps w hpg (Nat.le_refl _) hl hN hset (p.ins.length + 1) pc ⟨[], [], [], 0⟩ W hA hB hs (Nat.lt_succ_of_le (leftN_le _ _)) ⟨by simp only [List.length_nil, Nat.zero_add]; exact leftN_le _ _, Nat.le_refl _, Int.le_refl _, by simp, by simp⟩
  have hmm := @run_makeMap Tryd.prog
  have hr : simpleW meetB un2 p pc = ((waysW meetB un2 p (p.ins.length + 1) pc ⟨[], [], [], 0⟩).2.l, (waysW meetB un2 p (p.ins.length + 1) pc ⟨[], [], [], 0⟩).1) := rfl
  obtain ⟨A, c, rfl, p1, p2, _⟩ := hp
  obtain ⟨W5, hW5⟩ : ∃ W5, W5 = ((((((w.alloc (.cells #[.slice A p.ins.length c, .int .i64 p.start, .int .i64 p.caps] 28)).alloc (.cells #[.slice none 0 0] 35)).alloc (.cells #[.slice none 0 0] 61)).alloc (.map #[] 0)).alloc (.cells #[.map (some (w.heap.size + 1 + 1 + 1))] 116)).alloc (.cells #[.int .i64 0] 3)) := ⟨_, rfl⟩
  have hB5 : Below w.heap.size w W5 := by subst hW5; exact below_al (below_al (below_al (below_al (below_al (below_al (Below.refl _ _) _) _) _) _) _) _
  have hA5 : OnAt W5 w.heap.size [.slice A p.ins.length c, .int .i64 p.start, .int .i64 p.caps] ⟨[], [], [], 0⟩ := by
    subst hW5
    refine ⟨?_, ⟨.slice none 0 0, ?_, Owns.nil _ _ _ _⟩, ⟨none, 0, ?_, Nat.le_refl _, Nat.zero_le _, Arr.nil⟩, ?_, ?_, ?_⟩
    · rw [Below.heap_alloc _ _ _ (by simp only [World.size_alloc]; omega), Below.heap_alloc _ _ _ (by simp only [World.size_alloc]; omega), Below.heap_alloc _ _ _ (by simp only [World.size_alloc]; omega), Below.heap_alloc _ _ _ (by simp only [World.size_alloc]; omega), Below.heap_alloc _ _ _ (by simp only [World.size_alloc]; omega)]; exact heap_new1 _ _
    · rw [Below.heap_alloc _ _ _ (by simp only [World.size_alloc]; omega), Below.heap_alloc _ _ _ (by simp only [World.size_alloc]; omega), Below.heap_alloc _ _ _ (by simp only [World.size_alloc]; omega), Below.heap_alloc _ _ _ (by simp only [World.size_alloc]; omega)]; exact heap_new2 _ _ _
    · rw [Below.heap_alloc _ _ _ (by simp only [World.size_alloc]; omega), Below.heap_alloc _ _ _ (by simp only [World.size_alloc]; omega), Below.heap_alloc _ _ _ (by simp only [World.size_alloc]; omega)]; exact heap_new3 _ _ _ _
    · have h := IntsAt.made (((w.alloc (.cells #[.slice A p.ins.length c, .int .i64 p.start, .int .i64 p.caps] 28)).alloc (.cells #[.slice none 0 0] 35)).alloc (.cells #[.slice none 0 0] 61))
      rw [World.size_alloc, World.size_alloc, World.size_alloc] at h
      exact h.blk (by rw [Below.heap_alloc _ _ _ (by simp only [World.size_alloc]; omega), Below.heap_alloc _ _ _ (by simp only [World.size_alloc]; omega)])
    · rw [Below.heap_alloc _ _ _ (by simp only [World.size_alloc]; omega)]; exact heap_new5 _ _ _ _ _ _
    · exact heap_new6 _ _ _ _ _ _ _
  have hq := hq W5 hA5 hB5
  have q0 : W5.cell? ⟨w.heap.size, 0, none⟩ = some (.slice A p.ins.length c) := by rw [cell_of_blk hA5.blk]; rfl
  have q1 : W5.cell? ⟨w.heap.size, 1, none⟩ = some (.int .i64 p.start) := by rw [cell_of_blk hA5.blk]; rfl
  have q2 : W5.cell? ⟨w.heap.size, 2, none⟩ = some (.int .i64 p.caps) := by rw [cell_of_blk hA5.blk]; rfl
  have n0 := heap_lt hA5.blk
  subst hW5
  have HQ := Lib.hid (And.intro hr hB5)
  clear hr hpg hB5 hA5 hl hs
  generalize waysW meetB un2 p (p.ins.length + 1) pc ⟨[], [], [], 0⟩ = r at *
  generalize simpleW meetB un2 p pc = res at *
  go_enter Tryd.func37, Tryd.ntmps37
  go_wp2_with fail
  refine hq.mono ?_
  rintro e w1 ⟨rfl, h1, hK1⟩
  dsimp only
  clear q0 q1 q2 n0 hq
  obtain ⟨v, l1, l2⟩ := h1.l
  have z1 : w1.cell? ⟨w.heap.size + 1, 0, none⟩ = some v := by rw [cell_of_blk l1]; rfl
  have zn := heap_lt l1
  have HB := Lib.hid (And.intro (HQ.out.2.trans (hK1.below HQ.out.2.size)) l2)
  clear h1 hK1 l1 l2
  go_wp2_with fail
  go_ret2
  obtain ⟨hb, l2⟩ := HB.out
  obtain ⟨A3, c3, rfl, g1, g2⟩ := l2.shape
  rw [List.length_map] at g1 ⊢
  rw [HQ.out.1]
  exact ⟨A3, c3, rfl, g1, g2, (ownI64_arr l2).move (fun k hk _ => ⟨rfl, by omega⟩) (by omega), hb⟩
end Go.Proofs.YthclpabmbhpohaaDoor
namespace Go.Proofs.YthclpabmbhpohaaDoor
open Go.RowKit
set_option linter.unusedVariables false
set_option maxHeartbeats 400000 in
theorem indexI_any (w : World) (ok : Nat → Prop) (A : Option Addr) (c : Nat) (xs : List Int) (v : Int) (h : Arr ok w 1 (IntC .i64) A xs) (hl : xs.length ≤ 9223372036854775807) :
    Calls Tryd.prog 60 #[.slice A xs.length c, .int .i64 v] w fun e w' => e = .returned (.int .i64 (idxI xs v)) ∧ w = w' := by
  go_enter Tryd.func60, Tryd.ntmps60
  go_wp2
  go_loop [8] (fun i => ∃ k : Nat, k ≤ xs.length ∧ i = .int .i64 k ∧ ∀ j (hj : j < xs.length), j < k → ¬ v = xs[j]) (fun i => xs.length - (intOf i).toNat)
  case atStart => exact ⟨0, Nat.zero_le _, rfl, fun j _ h => by omega⟩
  case round =>
    obtain ⟨k, hk, rfl, hb⟩ := hrel
    have HB := Lib.hid hb
    clear hb
    by_cases hlt : k < xs.length
    · obtain ⟨ad, rfl, hc⟩ := ints_at h k hlt
      by_cases he : (v == xs[k]) = true
      · go_wp2
        go_ret
        exact ⟨ret_int (idxI_some hlt he HB.out).symm, rfl⟩
      · have he' : (v == xs[k]) = false := by simpa using he
        clear he
        have HE := Lib.hid he'
        go_wp2
        go_round
        case rel =>
          exact ⟨k + 1, by omega, by go_num, fun j hj hjk => by
            rcases Nat.lt_or_ge j k with h1 | h1
            · exact HB.out j hj h1
            · obtain rfl : j = k := by omega
              simpa using HE.out⟩
        case measure => simp [intOf]; omega
    · obtain rfl : k = xs.length := by omega
      go_wp2
      go_ret
      exact ⟨ret_int (idxI_none (fun j hj => HB.out j hj hj)).symm, rfl⟩
set_option maxHeartbeats 400000 in
theorem containsI_any (w : World) (ok : Nat → Prop) (A : Option Addr) (c : Nat) (xs : List Int) (v : Int) (h : Arr ok w 1 (IntC .i64) A xs) (hl : xs.length ≤ 9223372036854775807) :
    Calls Tryd.prog 38 #[.slice A xs.length c, .int .i64 v] w fun e w' => e = .returned (.bool (xs.contains v)) ∧ w = w' := by
  have hg := @idxI_ge xs v
  have HG := Lib.hid hg
  clear hg
  go_enter Tryd.func38, Tryd.ntmps38
  go_wp2_with (go_at_call 60; refine (indexI_any w ok A c xs v h hl).mono ?_; rintro e w' ⟨rfl, rfl⟩)
  go_ret
  exact ⟨ret_bool HG.out, rfl⟩
end Go.Proofs.YthclpabmbhpohaaDoor
namespace Go.Proofs.YthclpabmbhpohaaDoor
open Go.RowKit Go.Maps
set_option linter.unusedVariables false
theorem right_prem {p : Pg} (hset : ∀ x ∈ p.ins, x.set.length ≤ 1000000000) : ∀ x ∈ p.ins, x.op = 2 → RightOK rightR x.set := fun x hx _ => right_ok x.set (hset x hx)
theorem check_vals (p : Pg) : checkS rightR p = 0 ∨ checkS rightR p = 121 := by
  unfold checkS
  split
  · exact .inr rfl
  · split
    · exact .inr rfl
    · exact .inl rfl
def admitsB (p : Pg) : Bool := (checkS rightR p == 0) && admW meetB un2 p
set_option maxRecDepth 100000 in
set_option maxHeartbeats 1000000 in
theorem admits_no (ok : Nat → Prop) (w : World) (p : Pg) (ps : List Value) (hp : PgC ok w p ps) (hN : p.ins.length ≤ 140737488351232) (hset : ∀ x ∈ p.ins, x.set.length ≤ 1000000000) (hc : checkS rightR p = 121 ∨ anchR p = false) :
    Calls Tryd.prog 23 #[.agg ps.toArray] w fun e w' => e = .returned (.bool false) ∧ Below w.heap.size w w' := by
  have hB := below_al (Below.refl w.heap.size w) (.cells ps.toArray 28)
  have hck := check_any rightR ok _ p ps (hp.below hB) hN (right_prem hset)
  have han := fun (W : World) (hW : Below w.heap.size w W) hl hs hN => anchored_any ok W p ps (hp.below hW) hl hs hN
  obtain ⟨A, c, rfl, p1, p2, _⟩ := hp
  have hx := heap_new1 w (.cells #[.slice A p.ins.length c, .int .i64 p.start, .int .i64 p.caps] 28)
  rcases check_vals p with h0 | h0
  · have ha : anchR p = false := hc.elim (fun h => by rw [h0] at h; cases h) id
    have hl := check_leads h0
    have hk := check_ok h0
    rw [h0] at hck
    have HH := Lib.hid (And.intro hl (And.intro hk (And.intro hB (And.intro hx ha))))
    clear hl hk hB hx ha hc h0
    go_enter Tryd.func23, Tryd.ntmps23
    go_wp2_with fail
    go_step3
    go_wp2_with fail
    refine hck.mono ?_
    clear hck
    rintro e w1 ⟨rfl, hb1⟩
    dsimp only
    have h1 := (hb1.block w.heap.size (by simp)).trans HH.out.2.2.2.1
    obtain ⟨q0, q1, q2⟩ := cells3 h1
    have hn := heap_lt h1
    have hB1 := below_and hb1 HH.out.2.2.1
    have ha := han w1 hB1 HH.out.1 HH.out.2.1.2.2.1 (by have := HH.out.2.1; omega)
    rw [HH.out.2.2.2.2] at ha
    have H1 := Lib.hid hB1
    clear h1 hb1 hB1
    go_wp2_with fail
    refine ha.mono ?_
    clear ha
    rintro e w2 ⟨rfl, hb2⟩
    dsimp only
    have H2 := Lib.hid (below_and hb2 H1.out)
    clear hb2
    go_wp2_with fail
    try rw [Exit.noGoto_ret]
    go_ret
    exact ⟨rfl, H2.out⟩
  · rw [h0] at hck
    have HH := Lib.hid hB
    clear hB hx hc h0 han
    go_enter Tryd.func23, Tryd.ntmps23
    go_wp2_with fail
    go_step3
    go_wp2_with fail
    refine hck.mono ?_
    clear hck
    rintro e w1 ⟨rfl, hb1⟩
    dsimp only
    have H1 := Lib.hid (below_and hb1 HH.out)
    clear hb1
    go_wp2_with fail
    try rw [Exit.noGoto_ret]
    go_ret
    exact ⟨rfl, H1.out⟩
set_option maxRecDepth 100000 in
set_option maxHeartbeats 4000000 in
theorem admits_yes (ok : Nat → Prop) (w : World) (p : Pg) (ps : List Value) (hp : PgC ok w p ps) (hset : ∀ x ∈ p.ins, x.set.length ≤ 1000000000) (h0 : checkS rightR p = 0) (hA : anchR p = true) :
    Calls Tryd.prog 23 #[.agg ps.toArray] w fun e w' => e = .returned (.bool (admG p (simpleW meetB un2 p) (p.ins.length + 1) 0 [p.start])) ∧ Below w.heap.size w w' := by
  have hk := check_ok h0
  have hl := check_leads h0
  have hB := below_al (Below.refl w.heap.size w) (.cells ps.toArray 28)
  have hck := check_any rightR ok _ p ps (hp.below hB) (by omega) (right_prem hset)
  have han := fun (W : World) (hW : Below w.heap.size w W) => anchored_any ok W p ps (hp.below hW) hl hk.2.2.1 (by omega)
  have hpg : PgC (fun k => k < w.heap.size) w p ps := hp.old.move fun b hb hlt => ⟨rfl, hb.2⟩
  have hsi := fun (W : World) (hW : Below w.heap.size w W) (pc : Int) (hpc : Pc p pc) => simple_any ok W p ps (hp.below hW) hl pc hpc (by omega) hset
  obtain ⟨A, c, rfl, p1, p2, _⟩ := hp
  have hx := heap_new1 w (.cells #[.slice A p.ins.length c, .int .i64 p.start, .int .i64 p.caps] 28)
  rw [h0] at hck
  have HH := Lib.hid (And.intro hl (And.intro hk (And.intro hB (And.intro hx (And.intro hA (And.intro hsi hpg))))))
  have hNn : p.ins.length ≤ 10000 := hk.2.1
  clear hl hk hB hx h0 hsi hpg
  obtain ⟨R, hR⟩ : ∃ R, admG p (simpleW meetB un2 p) (p.ins.length + 1) 0 [p.start] = R := ⟨_, rfl⟩
  rw [hR]
  have HR := Lib.hid hR
  clear hR
  go_enter Tryd.func23, Tryd.ntmps23
  go_wp2_with fail
  go_step3
  go_wp2_with fail
  refine hck.mono ?_
  clear hck
  rintro e w1 ⟨rfl, hb1⟩
  dsimp only
  have h1 := (hb1.block w.heap.size (by simp)).trans HH.out.2.2.2.1
  obtain ⟨q0, q1, q2⟩ := cells3 h1
  have hn := heap_lt h1
  have hB1 := below_and hb1 HH.out.2.2.1
  have ha := han w1 hB1
  rw [hA] at ha
  have H1 := Lib.hid (And.intro hB1 h1)
  clear h1 hb1 hB1 hA han
  go_wp2_with fail
  refine ha.mono ?_
  clear ha
  rintro e w2 ⟨rfl, hb2⟩
  dsimp only
  have h2 := (hb2.block w.heap.size hn).trans H1.out.2
  clear q0 q1 q2 hn
  obtain ⟨q0, q1, q2⟩ := cells3 h2
  have hn := heap_lt h2
  have H2 := Lib.hid (And.intro (below_and hb2 H1.out.1) h2)
  clear hb2 h2
  go_wp2_with fail
  go_step3
  go_wp2_with fail
  clear q0 q1 q2
  go_loopg [3, 4, 5] (p.ins.length + 1) (fun g s3 s4 s5 wr => ∃ (k : Nat) (td : List Int), s5 = .int .i64 k ∧ s4 = .bool true ∧ td.Nodup ∧ Hid (∀ x ∈ td, Pc p x) ∧ k ≤ td.length ∧ p.ins.length + 1 - k ≤ g ∧ Hid (admG p (simpleW meetB un2 p) (p.ins.length + 1 - k) k td = R) ∧ Owns wr w2.heap.size 3 1 s3 (td.map i64C) ∧ Below w.heap.size w wr ∧ w2.heap.size < wr.heap.size ∧ wr.heap[w.heap.size]? = some (.cells #[.slice A p.ins.length c, .int .i64 p.start, .int .i64 p.caps] 28 (0, 0)))
  case atStart =>
    refine ⟨0, [p.start], rfl, rfl, by simp, Lib.hid (fun x hx => by rw [List.mem_singleton.1 hx]; exact HH.out.2.1.2.2.1), by simp, Nat.le_refl _, Lib.hid HR.out, owns_lit w2 _ (Nat.le_refl _) _, below_al H2.out.1 _, by simp, (Below.heap_alloc _ _ _ hn).trans H2.out.2⟩
  case round =>
    obtain ⟨k, td, rfl, rfl, hnd, HP, hk, hg, HG, hown, hBr, hsz, hbk⟩ := hrel
    obtain ⟨wo, rfl⟩ : ∃ wo : World, wo = wr := ⟨_, rfl⟩
    obtain ⟨G, hGk⟩ : ∃ G, G = gk := ⟨_, rfl⟩
    rw [← hGk] at hg
    have htl := nodup_len hnd HP.out
    have hsh := hown.shape
    obtain ⟨A3, c3, rfl, _, _⟩ := hsh
    rw [List.length_map] at hown ⊢
    have HK := Lib.hid (And.intro hnd (And.intro hg (And.intro hown (And.intro hBr hbk))))
    clear hnd hg hown hBr hbk
    by_cases hlt : k < td.length
    · have hkp : k < td.length := hlt
      have hpc := HP.out td[k] (List.getElem_mem hkp)
      have harr := ownI64_arr HK.out.2.2.1
      obtain ⟨ad, hA3, hcell⟩ := ints_at harr k hkp
      subst hA3
      have hS := HH.out.2.2.2.2.2.1 wo.drew (HK.out.2.2.2.1.drew) td[k] hpc
      have hlist := simpleW_list meetB un2 p HH.out.1 td[k] hpc
      have hG1 := HG.out
      rw [show p.ins.length + 1 - k = (p.ins.length - k) + 1 by omega, admG, List.getElem?_eq_getElem hkp] at hG1
      dsimp only at hG1
      generalize td[k] = z at *
      generalize hr : simpleW meetB un2 p z = r at *
      go_wp2_with fail
      refine wp_region_scr (fun W' => W'.heap[w.heap.size]? = some (.cells ([.slice A p.ins.length c, .int .i64 p.start, .int .i64 p.caps] : List Value).toArray 28 (0, 0)) ∧ W'.cell? (ad.add k) = some (.int .i64 z)) [(true, 0, 29), (true, 1, 30), (true, 2, 31), (true, 3, 32), (true, 4, 33), (false, 5, 34), (true, 6, 28), (true, 7, 35), (true, 8, 36), (true, 9, 6), (true, 10, 7)] (by kernel_rfl) (by kernel_rfl) (fun _ _ _ _ _ h => h) rfl (by kernel_rfl) ?_
      have HV := Lib.hid (show (fun W' => W'.heap[w.heap.size]? = some (.cells ([.slice A p.ins.length c, .int .i64 p.start, .int .i64 p.caps] : List Value).toArray 28 (0, 0)) ∧ W'.cell? (ad.add k) = some (.int .i64 z)) wo.drew from ⟨HK.out.2.2.2.2, hcell⟩)
      refine Scr.take (v := .agg ([.slice A p.ins.length c, .int .i64 p.start, .int .i64 p.caps] : List Value).toArray) rfl rfl (yw_row 28 _ rfl w.heap.size [.slice A p.ins.length c, .int .i64 p.start, .int .i64 p.caps] 28 rfl (by rfl) _ Tryd.underlying28 rfl (by kernel_rfl) (fun W hS => hS.1)) HV.out ?_
      simp only [Act.put, List.setIfInBounds_toArray, List.set_cons_zero, List.set_cons_succ]
      refine Scr.take (v := .slice (some ad) td.length c3) rfl rfl (yw_pure (by rfl) (fun _ => by go_simp)) HV.out ?_
      simp only [Act.put, List.setIfInBounds_toArray, List.set_cons_zero, List.set_cons_succ]
      refine Scr.take (v := .int .i64 k) rfl rfl (yw_pure (by rfl) (fun _ => by go_simp)) HV.out ?_
      simp only [Act.put, List.setIfInBounds_toArray, List.set_cons_zero, List.set_cons_succ]
      refine Scr.take (v := .pointer (some (ad.add k))) rfl rfl (yw_pure (by rfl) (fun _ => by go_simp)) HV.out ?_
      simp only [Act.put, List.setIfInBounds_toArray, List.set_cons_zero, List.set_cons_succ]
      refine Scr.take (v := .int .i64 z) rfl rfl (yw_cell 3 _ rfl (ad.add k) (.int .i64 z) rfl (by rfl) _ Tryd.underlying3 rfl (fun W hS => hS.2)) HV.out ?_
      simp only [Act.put, List.setIfInBounds_toArray, List.set_cons_zero, List.set_cons_succ]
      refine Scr.run rfl (by rfl) (fun K hK => ?_)
      go_simp
      refine hS.mono ?_
      clear hS
      rintro e w3 ⟨B3, d3, rfl, hd1, hd2, harr3, hb3⟩
      dsimp only
      have hBw : Below wo.heap.size wo w3 := below_and (w1 := wo.drew) hb3 (Below.refl _ _).drew
      have hV3 : (fun W' => W'.heap[w.heap.size]? = some (.cells ([.slice A p.ins.length c, .int .i64 p.start, .int .i64 p.caps] : List Value).toArray 28 (0, 0)) ∧ W'.cell? (ad.add k) = some (.int .i64 z)) w3 := ⟨(hBw.block _ (heap_lt HK.out.2.2.2.2)).trans HK.out.2.2.2.2, (World.cell?_of_block (hBw.block _ (World.block_lt_of_cell? wo _ hcell))).trans hcell⟩
      refine hK _ _ hV3 ?_
      clear hK K HV
      have HV := Lib.hid hV3
      have H3 := Lib.hid (And.intro hBw (And.intro harr3 hlist))
      have HG1 := Lib.hid hG1
      clear hV3 hb3 hBw harr3 hlist hG1
      refine Scr.take (v := .tuple #[.slice B3 r.1.length d3, .bool r.2]) rfl rfl (yw_pure (by rfl) (fun _ => by go_simp)) HV.out ?_
      simp only [Act.put, List.setIfInBounds_toArray, List.set_cons_zero, List.set_cons_succ]
      refine Scr.take (v := .slice B3 r.1.length d3) rfl rfl (yw_pure (by rfl) (fun _ => by go_simp)) HV.out ?_
      simp only [Act.put, List.setIfInBounds_toArray, List.set_cons_zero, List.set_cons_succ]
      refine Scr.take (v := .bool r.2) rfl rfl (yw_pure (by rfl) (fun _ => by go_simp)) HV.out ?_
      simp only [Act.put, List.setIfInBounds_toArray, List.set_cons_zero, List.set_cons_succ]
      refine Scr.take (v := .slice B3 r.1.length d3) rfl rfl (yw_pure (by rfl) (fun _ => by go_simp)) HV.out ?_
      simp only [Act.put, List.setIfInBounds_toArray, List.set_cons_zero, List.set_cons_succ]
      refine Scr.take (v := .bool r.2) rfl rfl (yw_pure (by rfl) (fun _ => by go_simp)) HV.out ?_
      simp only [Act.put, List.setIfInBounds_toArray, List.set_cons_zero, List.set_cons_succ]
      simp only [Scr]
      cases hb : r.2 with
      | false =>
        have HF := Lib.hid hb
        go_wp2_with fail
        try rw [Exit.noGoto_ret]
        go_ret
        refine ⟨ret_bool ?_, HK.out.2.2.2.1.trans (H3.out.1.mono HK.out.2.2.2.1.size)⟩
        have h9 := HG1.out
        rw [if_pos HF.out] at h9
        exact h9
      | true =>
        have HF := Lib.hid hb
        have hg1 := HG1.out
        rw [if_neg (by rw [hb]; simp)] at hg1
        have HG2 := Lib.hid hg1
        clear hb hg1 HG HG1
        have hrl : r.1.length ≤ 140737488351232 ∨ True := .inr trivial
        have hd2' : r.1.length ≤ 9223372036854775807 := by unfold maxLen at hd2; omega
        go_wp2_with fail
        have hz3 : wo.heap.size ≤ w3.heap.size := H3.out.1.size
        go_loopg [3, 42] r.1.length (fun g2 s3 s42 wy => ∃ j : Nat, j + g2 = r.1.length ∧ s42 = .int .i64 j ∧ Owns wy w2.heap.size 3 1 s3 ((putOuts p (r.1.take j) td).map i64C) ∧ (∀ g, s3.ownBlock = some g → g < wo.heap.size ∨ w3.heap.size ≤ g) ∧ Arr (fun k => wo.heap.size ≤ k ∧ k < w3.heap.size) wy 1 (IntC .i64) B3 r.1 ∧ Below w.heap.size w wy ∧ wy.heap[w.heap.size]? = some (.cells #[.slice A p.ins.length c, .int .i64 p.start, .int .i64 p.caps] 28 (0, 0)) ∧ w3.heap.size ≤ wy.heap.size)
        case atStart =>
          refine ⟨0, by omega, rfl, ?_, fun g hg => .inl ?_, H3.out.2.1.move (fun k hk hlt => ⟨rfl, hk, hlt⟩) (by omega), HK.out.2.2.2.1.trans (H3.out.1.mono HK.out.2.2.2.1.size), (H3.out.1.block _ (heap_lt HK.out.2.2.2.2)).trans HK.out.2.2.2.2, Nat.le_refl _⟩
          · rw [List.take_zero]; exact HK.out.2.2.1.below H3.out.1
          · exact (HK.out.2.2.1.lt g hg).2
        case round =>
          obtain ⟨j, hj, rfl, hown, hob, harr, hBy, hby, hsy⟩ := hrel
          obtain ⟨qa0, qa1, qa2⟩ := cells3 hby
          have hny := heap_lt hby
          have htd : ∀ x ∈ putOuts p (r.1.take j) td, Pc p x := putOuts_mem p (Pc p) _ _ HP.out (fun x hx => (HH.out.1 x (H3.out.2.2 x (List.mem_of_mem_take hx)).1).1 (.inl (H3.out.2.2 x (List.mem_of_mem_take hx)).2))
          have htn := putOuts_nodup p (r.1.take j) td HK.out.1
          have htl2 := nodup_len htn htd
          by_cases hlj : j < r.1.length
          · obtain ⟨bd, hB3, hcl⟩ := ints_at harr j hlj
            have hxp := H3.out.2.2 _ (List.getElem_mem hlj)
            have hsn := putOuts_snoc p (r.1.take j) r.1[j] td
            have hta : r.1.take (j + 1) = r.1.take j ++ [r.1[j]] := List.take_succ_eq_append_getElem hlj
            generalize r.1[j] = y at *
            obtain ⟨m, rfl⟩ := Int.eq_ofNat_of_zero_le hxp.1.1
            have hm : m < p.ins.length := by have := hxp.1.2; omega
            obtain ⟨ad4, c4, B4, d4, hps4, hc4, _, _, _, _, hins⟩ := ins_at HH.out.2.2.2.2.2.2 (Nat.le_refl _) m hm
            simp only [List.cons.injEq, Value.slice.injEq, and_true, true_and] at hps4
            obtain ⟨rfl, rfl⟩ := hps4
            obtain ⟨_, g0, g1, g2, g3, g4⟩ := hins wr hBy
            rw [get_eq p m hm] at hsn
            have hsh := hown.shape
            obtain ⟨A6, c6, rfl, _, _⟩ := hsh
            rw [List.length_map] at hown hob
            have hci := containsI_any wr _ A6 c6 (putOuts p (r.1.take j) td) p.ins[m].out (ownI64_arr hown) (by omega)
            generalize p.ins[m].out = ou at *
            rw [← hta] at hsn
            generalize hT : putOuts p (r.1.take j) td = T at *
            have HJ := Lib.hid (And.intro hown (And.intro hob (And.intro harr (And.intro hBy (And.intro hby (And.intro hsy (And.intro hsn hj)))))))
            clear hown hob harr hBy hby hsy hsn hj hta hins htd htn hT
            subst hB3
            cases hct : T.contains ou with
            | true =>
              rw [hct] at hci
              have HC := Lib.hid hct
              clear hct
              go_wp2_with (go_at_call 38; refine hci.mono ?_; clear hci; rintro e w5 ⟨rfl, rfl⟩)
              go_roundg (gk - 1)
              case measure => have := HJ.out.2.2.2.2.2.2.2; omega
              case rel =>
                obtain ⟨hown, hob, harr, hBy, hby, hsy, hsn, hj⟩ := HJ.out
                exact ⟨j + 1, by omega, by go_num, by rw [hsn, if_pos HC.out]; exact hown, hob, harr, hBy, hby, hsy⟩
            | false =>
              rw [hct] at hci
              have HC := Lib.hid hct
              clear hct
              have K3 := Lib.hid (show (T.map i64C).length + 1 ≤ maxLen by rw [List.length_map]; unfold maxLen; omega)
              have K4 := Lib.hid (show ((T.map i64C).length + 1) * 8 ≤ 140737488355328 by rw [List.length_map]; omega)
              have K5 := Lib.hid (show ∀ o : Obj, w2.heap.size ≤ (wr.alloc o).heap.size from fun o => by rw [World.size_alloc]; have := HJ.out.2.2.2.2.2.1; omega)
              go_wp2_with (first
                | (go_at_call 38; refine hci.mono ?_; clear hci; rintro e w5 ⟨rfl, rfl⟩)
                | (at_builtin; refine wpList_app1At rfl _ _ 35 rfl w2.heap.size 3 (.int .i64 0) 1 8 Tryd.underlying35 infoI rfl (by decide) _ _ rfl (HJ.out.1.alloc _) _ [.int .i64 ou] rfl rfl (heap_new1 _ _) (one_i64 _) K3.out K4.out (K5.out _) ?_))
              intro v' w6 hown' hgrow hat
              obtain ⟨hown, hob, harr, hBy, hby, hsy, hsn, hj⟩ := HJ.out
              have hown9 := hown'
              obtain ⟨A9, c9, rfl, _, _⟩ := Owns.shape hown9
              simp only [List.length_append, List.length_map, List.length_cons, List.length_nil, Nat.zero_add] at hown' hat
              have hgz := hgrow.size
              have hkeep : ∀ k, k < wr.heap.size → Value.ownBlock (.slice A6 T.length c6) ≠ some k → w6.heap[k]? = wr.heap[k]? := fun k hk hne => (hgrow.block k (by rw [World.size_alloc]; omega) (fun e => hne e.symm)).trans (Below.heap_alloc _ _ _ hk)
              have hnp : Value.ownBlock (.slice A6 T.length c6) ≠ some w.heap.size := fun e => by
                have := (hown.lt _ e).1; omega
              have HL := Lib.hid (show Owns w6 w2.heap.size 3 1 (.slice A9 (T.length + 1) c9) ((putOuts p (r.1.take (j + 1)) td).map i64C) ∧ (∀ g, Value.ownBlock (.slice A9 (T.length + 1) c9) = some g → g < wo.heap.size ∨ w3.heap.size ≤ g) ∧ Arr (fun k => wo.heap.size ≤ k ∧ k < w3.heap.size) w6 1 (IntC .i64) (some bd) r.1 ∧ Below w.heap.size w w6 ∧ w6.heap[w.heap.size]? = some (.cells #[.slice (some ad4) p.ins.length c, .int .i64 p.start, .int .i64 p.caps] 28 (0, 0)) ∧ w3.heap.size ≤ w6.heap.size from by
                refine ⟨by rw [hsn, if_neg (by rw [HC.out]; simp), List.map_append]; exact hown', fun g hg => ?_, harr.move (fun k hk hlt => ⟨hkeep k hlt (fun e => by have := hob k e; omega), hk⟩) (by omega), ?_, (hkeep _ (heap_lt hby) hnp).trans hby, by rw [World.size_alloc] at hgz; omega⟩
                · rcases hat with h | h
                  · rw [h] at hg; exact hob g hg
                  · rw [h] at hg
                    simp only [Option.some.injEq] at hg
                    exact .inr (by have := hsy; omega)
                · exact (hBy.alloc (by omega) _).grown hgrow (by rw [World.size_alloc]; omega) (fun k e => by have := (hown.lt k e).1; omega))
              clear hown hob harr hBy hby hsy hsn hown' hown9 hgrow hat hkeep hnp
              go_wp2_with fail
              go_roundg (gk - 1)
              case measure => have := HJ.out.2.2.2.2.2.2.2; omega
              case rel =>
                obtain ⟨k1, k2, k3, k4, k5, k6⟩ := HL.out
                rw [show T.length + 1 = (List.map i64C T ++ [[Value.int .i64 ou]]).length by simp] at k1 k2
                exact ⟨j + 1, by omega, by go_num, k1, k2, k3, k4, k5, k6⟩
          · obtain rfl : j = r.1.length := by omega
            rw [List.take_length] at hown htd htn htl2
            have hsh := hown.shape
            obtain ⟨A6, c6, rfl, _, _⟩ := hsh
            have hown9 := hown
            rw [List.length_map] at hown
            have HJ := Lib.hid (And.intro hown (And.intro hBy (And.intro hby (And.intro hsy (And.intro htd (And.intro htn hown9))))))
            clear hown hob harr hBy hby hsy htd htn hown9
            go_wp2_with fail
            go_roundg (G - 1)
            case measure => have := HK.out.2.1; omega
            case rel =>
              obtain ⟨hown, hBy, hby, hsy, htd, htn, hown9⟩ := HJ.out
              refine ⟨k + 1, putOuts p r.1 td, by go_num, rfl, htn, Lib.hid htd, ?_, by have := HK.out.2.1; omega, Lib.hid ?_, hown9, hBy, by have := hBy.size; omega, hby⟩
              · have := putOuts_le p r.1 td; omega
              · rw [show p.ins.length + 1 - (k + 1) = p.ins.length - k by omega]; exact HG2.out
    · obtain rfl : k = td.length := by omega
      go_wp2_with fail
      try rw [Exit.noGoto_ret]
      go_ret
      refine ⟨ret_bool ?_, HK.out.2.2.2.1⟩
      have h9 := HG.out
      rw [show p.ins.length + 1 - td.length = (p.ins.length - td.length) + 1 by omega, admG] at h9
      rw [← h9]
      simp
theorem admits_any (ok : Nat → Prop) (w : World) (p : Pg) (ps : List Value) (hp : PgC ok w p ps) (hN : p.ins.length ≤ 140737488351232) (hset : ∀ x ∈ p.ins, x.set.length ≤ 1000000000) :
    Calls Tryd.prog 23 #[.agg ps.toArray] w fun e w' => e = .returned (.bool (admitsB p)) ∧ Below w.heap.size w w' := by
  rcases check_vals p with h0 | h0
  · cases hA : anchR p with
    | true =>
      have e : admitsB p = admG p (simpleW meetB un2 p) (p.ins.length + 1) 0 [p.start] := by unfold admitsB admW; rw [h0, hA]; rfl
      rw [e]; exact admits_yes ok w p ps hp hset h0 hA
    | false =>
      have e : admitsB p = false := by unfold admitsB admW; rw [hA]; simp
      rw [e]; exact admits_no ok w p ps hp hN hset (.inr hA)
  · have e : admitsB p = false := by unfold admitsB; rw [h0]; rfl
    rw [e]; exact admits_no ok w p ps hp hN hset (.inl h0)
end Go.Proofs.YthclpabmbhpohaaDoor
