/-
  Words of this seat's own: a struct stored, loaded, copied as a whole; math/bits.Mul. No condition.
-/
import Derived.Test.YtdnbholiijgedaaClone
import Derived.Deep.MidRow
import Derived.Laws.CopyOwn
import Derived.Deep.RegionLaw
import Derived.Shelf.Bits.Mul64
namespace Go.Proofs.Ytdnbholiijgedaa
open Go.RowKit
set_option linter.unusedVariables false

/-- A struct that lies alone in a block is stored whole. -/
theorem wp_storeB {P : Program} {o : Oper} {a : Act} {Q : Exit → Act → World → Prop} {K : Act → World → Prop} {w : World} (ty : TypeId) (x y : Operand) (ho : o.op = .store ty x y)
    (b : Nat) (cells old : List Value) (T : TypeId) (hx : a.eval x = .pointer (some ⟨b, 0, none⟩)) (hy : a.eval y = .agg cells.toArray) (hb : w.heap[b]? = some (.cells old.toArray T (0, 0))) (hsz : old.length = cells.length)
    (hi : (P.info? ty).map (·.size) = some cells.length) (h1 : ∀ u ∈ cells, u.oneCell' = true)
    (h : ∀ w', w'.heap[b]? = some (.cells cells.toArray T (0, 0)) → w.grownBy w' (some b) → w'.heap.size = w.heap.size → K (a.put o.dst undef) w') : o.wp P a w K Q := by
  have hc : ∀ j, j < cells.length → (w.cell? ⟨b, 0 + j, none⟩).isSome = true := fun j hj => by
    rw [Nat.zero_add, cell_of_blk hb]
    simp [hsz, hj]
  refine wp_store_mid ty x y ho b 0 cells.toArray hx hy (fun j hj => ⟨hc j (by simpa using hj), by simp [World.frozen?, hb]⟩) (by simpa using hi) (by simpa using h1) ?_
  have hcell : ∀ j (hj : j < cells.length), (w.setCells b 0 cells.toArray.toList).cell? ⟨b, 0 + j, none⟩ = some cells[j] := fun j hj => World.cell?_setCells_in b cells 0 w hc j hj
  have hmod : ∀ (vs : List Value) (o : Nat) (w : World), (w.setCells b o vs).heap.size = w.heap.size ∧ (∀ k, k ≠ b → (w.setCells b o vs).heap[k]? = w.heap[k]?) ∧ (w.setCells b o vs).os = w.os ∧ (w.setCells b o vs).tape = w.tape ∧ (w.setCells b o vs).output = w.output ∧
      (∀ cs T, w.heap[b]? = some (.cells cs T (0, 0)) → ∃ cs', (w.setCells b o vs).heap[b]? = some (.cells cs' T (0, 0)) ∧ cs'.size = cs.size) := by
    intro vs
    induction vs with
    | nil => exact fun o w => ⟨rfl, fun _ _ => rfl, rfl, rfl, rfl, fun cs T h => ⟨cs, h, rfl⟩⟩
    | cons v vs ih =>
      intro o w
      obtain ⟨i1, i2, i3, i4, i5, i6⟩ := ih (o + 1) (w.setCell ⟨b, o, none⟩ v)
      have hs : (w.setCell ⟨b, o, none⟩ v).heap.size = w.heap.size := by simp [World.setCell]
      refine ⟨i1.trans hs, fun k hk => (i2 k hk).trans (Below.heap_setCell w _ v k hk), i3, i4, i5, fun cs T hh => ?_⟩
      have h9 := heap_setCell_same w b o cs T v hh
      obtain ⟨cs', k1, k2⟩ := i6 _ _ h9
      exact ⟨cs', k1, by rw [k2]; simp⟩
  obtain ⟨m1, m2, m3, m4, m5, m6⟩ := hmod cells 0 w
  obtain ⟨cs', k1, k2⟩ := m6 _ _ hb
  have e : cs' = cells.toArray := by
    apply Array.ext
    · rw [k2]; simpa using hsz
    · intro j h1 h2
      have hj : j < cells.length := by simpa using h2
      have h3 := hcell j hj
      rw [Nat.zero_add, cell_of_blk (by simpa using k1)] at h3
      simpa [h1] using h3
  rw [e] at k1
  exact h _ k1 ⟨m3, m4, m5, Nat.le_of_eq m1.symm, fun k hk hne => m2 k (fun e => hne (by rw [e]))⟩ m1
theorem wpList_storeB {P : Program} {ops : Array Oper} {rest : List Oper} {o : Oper} {a : Act} {Q : Exit → Act → World → Prop} {w : World} (hgd : o.guard = none) (ty : TypeId) (x y : Operand) (ho : o.op = .store ty x y)
    (b : Nat) (cells old : List Value) (T : TypeId) (hx : a.eval x = .pointer (some ⟨b, 0, none⟩)) (hy : a.eval y = .agg cells.toArray) (hb : w.heap[b]? = some (.cells old.toArray T (0, 0))) (hsz : old.length = cells.length)
    (hi : (P.info? ty).map (·.size) = some cells.length) (h1 : ∀ u ∈ cells, u.oneCell' = true)
    (h : ∀ w', w'.heap[b]? = some (.cells cells.toArray T (0, 0)) → w.grownBy w' (some b) → w'.heap.size = w.heap.size → wpList P ops Q rest (a.put o.dst undef) w') : wpList P ops Q (o :: rest) a w :=
  wpList_plain hgd fun _ hK => wp_storeB ty x y ho b cells old T hx hy hb hsz hi h1 fun w' k1 k2 k3 => hK _ _ (h w' k1 k2 k3)
theorem wpList_loadB {P : Program} {ops : Array Oper} {rest : List Oper} {o : Oper} {a : Act} {Q : Exit → Act → World → Prop} {w : World} (hgd : o.guard = none) (ty : TypeId) (x : Operand) (ho : o.op = .load ty x)
    (b : Nat) (cs : List Value) (T : TypeId) (fs : TypeDesc) (hx : a.eval x = .pointer (some ⟨b, 0, none⟩)) (hb : w.heap[b]? = some (.cells cs.toArray T (0, 0))) (hu : P.underlying ty = some fs) (hd : fs.isRow = true)
    (hi : (P.info? ty).map (·.size) = some cs.length) (h : wpList P ops Q rest (a.put o.dst (.agg cs.toArray)) w) : wpList P ops Q (o :: rest) a w :=
  wpList_load_mid hgd ty x ho b 0 hx cs fs (fun j v hv => by rw [Nat.zero_add, cell_of_blk hb]; simpa using hv) hu hd hi h

theorem below_grown {B : Nat} {w0 w w' : World} {b : Nat} (h : Below B w0 w) (hB : B ≤ w.heap.size) (hb : B ≤ b) (hg : w.grownBy w' (some b)) : Below B w0 w' :=
  h.grown hg hB (fun k e => by cases e; exact hb)
theorem grown_ne {w w' : World} {b k : Nat} (hg : w.grownBy w' (some b)) (hk : k < w.heap.size) (hne : k ≠ b) : w'.heap[k]? = w.heap[k]? :=
  hg.block k hk (fun e => by cases e; exact hne rfl)

/-- copy, of elements of sz cells. -/
theorem run_copy_rowS {P : Program} (w : World) (dT sT ty elem : TypeId) (sz g o dLen dCap : Nat) (a : Addr) (sLen sCap : Nat) (cur : Array Value) (t : TypeId) (cs : List Value)
    (hu : P.underlying dT = some (.slice elem)) (hs : (P.info? elem).map (·.size) = some sz)
    (hg : w.heap[g]? = some (.cells cur t (0, 0))) (hn : cs.length = Nat.min sLen dLen * sz)
    (hsrc : ∀ j v, cs[j]? = some v → w.cell? (a.add j) = some v) (hfit : o + cs.length ≤ cur.size) (h1 : ∀ v ∈ cs, v.oneCell' = true) :
    (Builtin.copy_ #[dT, sT] ty #[.slice (some ⟨g, o, none⟩) dLen dCap, .slice (some a) sLen sCap]).run P w =
      .ok (goInt (Nat.min sLen dLen)) (w.setRow g (cur.toList.take o ++ cs ++ cur.toList.drop (o + cs.length)).toArray) := by
  have hl := run_loadCells_list (P := P) w a cs hsrc
  have hst := run_storeCells_at P g o t cs 0 cur w hg (by simpa using hfit) h1
  cases hq : P.info? elem with
  | none => simp [hq] at hs
  | some i =>
    have hi : i.size = sz := by simpa [hq] using hs
    simp [Builtin.copy_, run_underlying hu, Builtin.lenOf, Builtin.firstCells, sizeOf, typeInfo, hq, hi, ← hn, hl, hst]
theorem run_copy_noneS {P : Program} (w : World) (dT sT ty elem : TypeId) (sz : Nat) (d a : Option Addr) (dLen dCap sLen sCap : Nat) (hu : P.underlying dT = some (.slice elem)) (hs : (P.info? elem).map (·.size) = some sz) (hn : Nat.min sLen dLen = 0) :
    (Builtin.copy_ #[dT, sT] ty #[.slice d dLen dCap, .slice a sLen sCap]).run P w = .ok (goInt 0) w := by
  cases hq : P.info? elem with
  | none => simp [hq] at hs
  | some i =>
    have hl : ∀ (x : Addr), (loadCells x 0).run P w = .ok #[] w := fun x => by simpa using run_loadCells_list (P := P) w x [] (by simp)
    cases d <;> cases a <;> simp [Builtin.copy_, run_underlying hu, Builtin.lenOf, Builtin.firstCells, sizeOf, typeInfo, hq, hn, storeCells, hl]
/-- Into a block that is known whole; the world behind it is a letter. -/
theorem run_copy_any {P : Program} (w : World) (dT sT ty elem : TypeId) (sz : Nat) (hu : P.underlying dT = some (.slice elem)) (hs : (P.info? elem).map (·.size) = some sz) (dp sp : Option Addr) (dLen dCap sLen sCap : Nat)
    (g off : Nat) (cur : List Value) (t : TypeId) (hg : w.heap[g]? = some (.cells cur.toArray t (0, 0))) (cs : List Value) (hn : cs.length = Nat.min sLen dLen * sz)
    (hpos : 0 < cs.length → dp = some ⟨g, off, none⟩ ∧ ∃ ad, sp = some ad ∧ ∀ j v, cs[j]? = some v → w.cell? (ad.add j) = some v) (hsz : 0 < sz)
    (hfit : off + cs.length ≤ cur.length) (h1 : ∀ v ∈ cs, v.oneCell' = true) :
    ∃ w', (Builtin.copy_ #[dT, sT] ty #[.slice dp dLen dCap, .slice sp sLen sCap]).run P w = .ok (goInt (Nat.min sLen dLen)) w' ∧ w'.heap[g]? = some (.cells (splice cur off cs).toArray t (0, 0)) ∧ w.grownBy w' (some g) ∧ w'.heap.size = w.heap.size := by
  by_cases h0 : cs.length = 0
  · have hm : Nat.min sLen dLen = 0 := by
      rw [h0] at hn
      rcases Nat.mul_eq_zero.1 hn.symm with h | h
      · exact h
      · omega
    obtain rfl : cs = [] := List.eq_nil_of_length_eq_zero h0
    refine ⟨w, by rw [hm]; exact run_copy_noneS w dT sT ty elem sz dp sp dLen dCap sLen sCap hu hs hm, by simpa [splice] using hg, ⟨rfl, rfl, rfl, Nat.le_refl _, fun _ _ _ => rfl⟩, rfl⟩
  · obtain ⟨rfl, ad, rfl, hsrc⟩ := hpos (by omega)
    refine ⟨_, run_copy_rowS w dT sT ty elem sz g off dLen dCap ad sLen sCap cur.toArray t cs hu hs hg hn hsrc (by simpa using hfit) h1, ?_, ?_, by simp [World.setRow]⟩
    · have := setRow_heap w g cur.toArray (cur.toArray.toList.take off ++ cs ++ cur.toArray.toList.drop (off + cs.length)).toArray t (0, 0) hg
      simpa [splice] using this
    · exact ⟨rfl, rfl, rfl, by simp [World.setRow], fun k hk hne => setRow_other w g k _ (fun e => hne (by rw [e]))⟩
theorem wpList_copyS {P : Program} {ops : Array Oper} {rest : List Oper} {o : Oper} {a : Act} {Q : Exit → Act → World → Prop} {w : World} (hgd : o.guard = none) (d s : Operand) (dT sT : TypeId)
    (ho : o.op = .call { callee := .builtin .copy, args := #[d, s], argTypes := #[dT, sT] }) (elem : TypeId) (sz : Nat) (hu : P.underlying dT = some (.slice elem)) (hsi : (P.info? elem).map (·.size) = some sz)
    (dp sp : Option Addr) (dLen dCap sLen sCap : Nat) (hd : a.eval d = .slice dp dLen dCap) (hs : a.eval s = .slice sp sLen sCap)
    (g off : Nat) (cur : List Value) (t : TypeId) (hg : w.heap[g]? = some (.cells cur.toArray t (0, 0))) (cs : List Value) (hn : cs.length = Nat.min sLen dLen * sz)
    (hpos : 0 < cs.length → dp = some ⟨g, off, none⟩ ∧ ∃ ad, sp = some ad ∧ ∀ j v, cs[j]? = some v → w.cell? (ad.add j) = some v) (hsz : 0 < sz)
    (hfit : off + cs.length ≤ cur.length) (h1 : ∀ v ∈ cs, v.oneCell' = true) (m : Nat) (hm : Nat.min sLen dLen = m)
    (h : ∀ w', Hid (w'.heap[g]? = some (.cells (splice cur off cs).toArray t (0, 0))) → w.grownBy w' (some g) → w'.heap.size = w.heap.size → wpList P ops Q rest (a.put o.dst (.int .i64 m)) w') : wpList P ops Q (o :: rest) a w := by
  subst hm
  refine wpList_plain hgd fun K hK => ?_
  obtain ⟨w', hr, k1, k2, k3⟩ := run_copy_any (P := P) w dT sT o.type elem sz hu hsi dp sp dLen dCap sLen sCap g off cur t hg cs hn hpos hsz hfit h1
  unfold Oper.wp execOp
  simp only [ho, resolve, invoke, builtin, Sem.run_bind, Sem.run_pure, Result.andThen_ok, List.map_toArray, List.map_cons, List.map_nil, hs, hd, hr]
  exact hK _ _ (h w' (Lib.hid k1) k2 k3)
theorem step_copyS {P : Program} {ops : Array Oper} {o : Oper} {a : Act} {w : World} {K : Act → World → Prop} {Q : Exit → Act → World → Prop} {E : Prop} (hgd : o.guard = none) (d s : Operand) (dT sT : TypeId)
    (ho : o.op = .call { callee := .builtin .copy, args := #[d, s], argTypes := #[dT, sT] }) (elem : TypeId) (sz : Nat) (hu : P.underlying dT = some (.slice elem)) (hsi : (P.info? elem).map (·.size) = some sz)
    (dp sp : Option Addr) (dLen dCap sLen sCap : Nat) (hd : a.eval d = .slice dp dLen dCap) (hs : a.eval s = .slice sp sLen sCap)
    (g off : Nat) (cur : List Value) (t : TypeId) (hg : w.heap[g]? = some (.cells cur.toArray t (0, 0))) (cs : List Value) (hn : cs.length = Nat.min sLen dLen * sz)
    (hpos : 0 < cs.length → dp = some ⟨g, off, none⟩ ∧ ∃ ad, sp = some ad ∧ ∀ j v, cs[j]? = some v → w.cell? (ad.add j) = some v) (hsz : 0 < sz)
    (hfit : off + cs.length ≤ cur.length) (h1 : ∀ v ∈ cs, v.oneCell' = true) (m : Nat) (hm : Nat.min sLen dLen = m)
    (h : ∀ w', Hid (w'.heap[g]? = some (.cells (splice cur off cs).toArray t (0, 0))) → w.grownBy w' (some g) → w'.heap.size = w.heap.size → K (a.put o.dst (.int .i64 m)) w') :
    if Region.wanted o (yielded ops a.tmps) = true then Oper.wp P o a w K Q else E := by
  subst hm
  have hw : Region.wanted o (yielded ops a.tmps) = true := by simp [Region.wanted, hgd]
  rw [if_pos hw]
  obtain ⟨w', hr, k1, k2, k3⟩ := run_copy_any (P := P) w dT sT o.type elem sz hu hsi dp sp dLen dCap sLen sCap g off cur t hg cs hn hpos hsz hfit h1
  unfold Oper.wp execOp
  simp only [ho, resolve, invoke, builtin, Sem.run_bind, Sem.run_pure, Result.andThen_ok, List.map_toArray, List.map_cons, List.map_nil, hs, hd, hr]
  exact h w' (Lib.hid k1) k2 k3

set_option maxHeartbeats 1000000 in
theorem mul64_any (x y : Nat) (hx : x < 18446744073709551616) (hy : y < 18446744073709551616) (w : World) :
    Calls Try.prog 72 #[.int .u64 x, .int .u64 y] w fun e w' => e = .returned (.tuple #[.int .u64 ((x * y / 18446744073709551616 : Nat) : Int), .int .u64 ((x * y % 18446744073709551616 : Nat) : Int)]) ∧ w' = w := by
  obtain ⟨bd, bt, bw, hhi⟩ := Go.Lib.mul64_hi x y hx hy
  have ba := Go.Lib.half_mul_le (a := x / 4294967296) (b := y / 4294967296) (by omega) (by omega)
  have bb := Go.Lib.half_mul_le (a := x / 4294967296) (b := y % 4294967296) (by omega) (by omega)
  have bc := Go.Lib.half_mul_le (a := x % 4294967296) (b := y / 4294967296) (by omega) (by omega)
  have ba' : x / 4294967296 * (y / 4294967296) < 18446744073709551616 := by omega
  have bb' : x / 4294967296 * (y % 4294967296) < 18446744073709551616 := by omega
  have bc' : x % 4294967296 * (y / 4294967296) < 18446744073709551616 := by omega
  have bh1 : x / 4294967296 * (y / 4294967296) + (x / 4294967296 * (y % 4294967296) + x % 4294967296 * (y % 4294967296) / 4294967296) / 4294967296 < 18446744073709551616 := by omega
  have bh : x / 4294967296 * (y / 4294967296) + (x / 4294967296 * (y % 4294967296) + x % 4294967296 * (y % 4294967296) / 4294967296) / 4294967296 + ((x / 4294967296 * (y % 4294967296) + x % 4294967296 * (y % 4294967296) / 4294967296) % 4294967296 + x % 4294967296 * (y / 4294967296)) / 4294967296 < 18446744073709551616 := by omega
  go_enter Try.func72, Try.ntmps72
  go_wp2
  simp only [Mul64.maskN x hx, Mul64.maskN y hy, Mul64.divN, Mul64.mulN, Mul64.addN, Mul64.wrapN _ bd, Mul64.wrapN _ bb', Mul64.wrapN _ bt, Mul64.maskN _ bt, Mul64.wrapN _ bc', Mul64.wrapN _ bw, Mul64.wrapN _ ba', Mul64.wrapN _ bh1, Mul64.wrapN _ bh, Mul64.wrapM (x * y)]
  rw [hhi]
  go_ret2
  exact ⟨rfl, rfl⟩
set_option maxHeartbeats 1000000 in
theorem mul_one (n : Nat) (hn : n ≤ 1000000000) (w : World) :
    Calls Try.prog 66 #[.int .u64 1, .int .u64 n] w fun e w' => e = .returned (.tuple #[.int .u64 0, .int .u64 n]) ∧ w = w' := by
  have c64 := mul64_any 1 n (by omega) (by omega) w
  rw [show ((1 * n / 18446744073709551616 : Nat) : Int) = 0 by omega, show ((1 * n % 18446744073709551616 : Nat) : Int) = n by omega] at c64
  go_enter Try.func66, Try.ntmps66
  go_wp2_with (go_at_call 72; refine c64.mono ?_; clear c64; rintro e w' ⟨rfl, rfl⟩)
  go_ret2
  exact ⟨rfl, rfl⟩
end Go.Proofs.Ytdnbholiijgedaa
