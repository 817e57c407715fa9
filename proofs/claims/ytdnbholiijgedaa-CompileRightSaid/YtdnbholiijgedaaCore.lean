/-
  Words of this seat's own: lists in memory, trees in memory. No condition.
-/
import Derived.WalkKit
import Derived.WalkLawsBesides
import Derived.WalkSpells
import Derived.Deep.QuietTactic
import Derived.BigQuiet
import Derived.Lib.Hide
import Derived.RangeFuncNested
namespace Go.Proofs.Ytdnbholiijgedaa
open Go.RowKit
set_option linter.unusedVariables false

/-! ### lists in memory -/
/-- From address A on lie the elements of xs, each sz cells, as E says, in blocks that are ok. -/
def Arr {α : Type} (ok : Nat → Prop) (w : World) (sz : Nat) (E : α → List Value → Prop) (A : Option Addr) (xs : List α) : Prop :=
  ∀ i x, xs[i]? = some x → ∃ ad cs, A = some ad ∧ ok ad.block ∧ E x cs ∧ cs.length = sz ∧ ∀ j u, cs[j]? = some u → w.cell? (ad.add (i * sz + j)) = some u

theorem add_block (a : Addr) (n : Nat) : (a.add n).block = a.block := by unfold Addr.add; split <;> rfl
theorem add_add (a : Addr) (i j : Nat) : (a.add i).add j = a.add (i + j) := by
  unfold Addr.add
  by_cases hi : i = 0 <;> by_cases hj : j = 0 <;> simp [hi, hj, Nat.add_assoc]

theorem Arr.move {α : Type} {ok ok' : Nat → Prop} {w w' : World} {sz : Nat} {E : α → List Value → Prop} {A : Option Addr} {xs : List α}
    (h : Arr ok w sz E A xs) (hm : ∀ b, ok b → b < w.heap.size → w'.heap[b]? = w.heap[b]? ∧ ok' b) (hsz : 0 < sz) : Arr ok' w' sz E A xs := by
  intro i x hx
  obtain ⟨ad, cs, rfl, hok, hE, hl, hc⟩ := h i x hx
  have hb : ad.block < w.heap.size := by
    have h0 : 0 < cs.length := by omega
    have := World.block_lt_of_cell? w _ (hc 0 _ (List.getElem?_eq_getElem h0))
    rwa [add_block] at this
  obtain ⟨h1, h2⟩ := hm ad.block hok hb
  refine ⟨ad, cs, rfl, h2, hE, hl, fun j u hu => ?_⟩
  rw [← hc j u hu]
  exact World.cell?_of_block (by rw [add_block]; exact h1)
theorem Arr.nil {α : Type} {ok : Nat → Prop} {w : World} {sz : Nat} {E : α → List Value → Prop} {A : Option Addr} : Arr ok w sz E A [] := fun i x h => by simp at h
theorem Arr.weak {α : Type} {ok : Nat → Prop} {w : World} {sz : Nat} {E E' : α → List Value → Prop} {A : Option Addr} {xs : List α} (h : Arr ok w sz E A xs) (hE : ∀ x ∈ xs, ∀ cs, E x cs → E' x cs) : Arr ok w sz E' A xs := by
  intro i x hx
  obtain ⟨ad, cs, hA, hok, hc, hr⟩ := h i x hx
  exact ⟨ad, cs, hA, hok, hE x (List.mem_of_getElem? hx) _ hc, hr⟩

/-- Only draws, new blocks, stores into blocks from B on. -/
theorem below_w {w : World} {B : Nat} : Below B w w := Below.refl _ _
theorem below_drewN {B : Nat} {w w' : World} (h : Below B w w') (n : Nat) : Below B w (w'.drewN n) := ⟨h.os, h.tape, h.output, h.size, h.block⟩
theorem below_then {B : Nat} {w w1 w2 : World} (h : Below B w w1) (hB : B ≤ w1.heap.size) (k : Below w1.heap.size w1 w2) : Below B w w2 := h.trans (k.mono hB)

theorem below_and {w w1 w2 : World} (k : Below w1.heap.size w1 w2) (h : Below w.heap.size w w1) : Below w.heap.size w w2 := below_then h h.size k
theorem below_al {w w1 : World} (h : Below w.heap.size w w1) (o : Obj) : Below w.heap.size w (w1.alloc o) := h.alloc h.size o
theorem ret_int {k : IntKind} {a b : Int} (h : a = b) : Ending.returned (.int k a) = .returned (.int k b) := by rw [h]
theorem ret_bool {a b : Bool} (h : a = b) : Ending.returned (.bool a) = .returned (.bool b) := by rw [h]

/-! ### ranges of runes -/
structure Rg where
  lo : Int
  hi : Int
def RgC (r : Rg) (cs : List Value) : Prop := cs = [.int .i32 r.lo, .int .i32 r.hi]

/-! ### trees -/
structure Tr where
  op : Int
  kids : List Tr
  rune : Int
  set : List Rg
  at_ : Int
  cap : Int
  name : ByteArray
  mn : Int
  mx : Int
  lz : Bool

mutual
def TrC (ok : Nat → Prop) (w : World) : Tr → List Value → Prop
  | ⟨op, kids, rune, set, at_, cap, name, mn, mx, lz⟩, cs => ∃ A c B d, cs = [.int .i64 op, .slice A kids.length c, .int .i32 rune, .slice B set.length d, .int .i64 at_, .int .i64 cap, .string name, .int .i64 mn, .int .i64 mx, .bool lz] ∧
      kids.length ≤ c ∧ c ≤ maxLen ∧ set.length ≤ d ∧ d ≤ maxLen ∧ Arr ok w 2 RgC B set ∧ TrsC ok w A 0 kids
def TrsC (ok : Nat → Prop) (w : World) (A : Option Addr) : Nat → List Tr → Prop
  | _, [] => True
  | i, x :: xs => (∃ ad cs, A = some ad ∧ ok ad.block ∧ TrC ok w x cs ∧ cs.length = 10 ∧ ∀ j u, cs[j]? = some u → w.cell? (ad.add (i * 10 + j)) = some u) ∧ TrsC ok w A (i + 1) xs
end

theorem trsC_arr {ok : Nat → Prop} {w : World} {A : Option Addr} : ∀ (xs : List Tr) (k : Nat), TrsC ok w A k xs ↔
    ∀ i x, xs[i]? = some x → ∃ ad cs, A = some ad ∧ ok ad.block ∧ TrC ok w x cs ∧ cs.length = 10 ∧ ∀ j u, cs[j]? = some u → w.cell? (ad.add ((k + i) * 10 + j)) = some u
  | [], k => by simp [TrsC]
  | x :: xs, k => by
    rw [TrsC, trsC_arr xs (k + 1)]
    constructor
    · rintro ⟨h0, hr⟩ i y hy
      cases i with
      | zero => simp at hy; subst hy; exact h0
      | succ i => have := hr i y (by simpa using hy); rwa [show k + 1 + i = k + (i + 1) by omega] at this
    · intro h
      refine ⟨by simpa using h 0 x (by simp), fun i y hy => ?_⟩
      have := h (i + 1) y (by simpa using hy)
      rwa [show k + (i + 1) = k + 1 + i by omega] at this

theorem trC_iff {ok : Nat → Prop} {w : World} {t : Tr} {cs : List Value} : TrC ok w t cs ↔
    ∃ A c B d, cs = [.int .i64 t.op, .slice A t.kids.length c, .int .i32 t.rune, .slice B t.set.length d, .int .i64 t.at_, .int .i64 t.cap, .string t.name, .int .i64 t.mn, .int .i64 t.mx, .bool t.lz] ∧
      t.kids.length ≤ c ∧ c ≤ maxLen ∧ t.set.length ≤ d ∧ d ≤ maxLen ∧ Arr ok w 2 RgC B t.set ∧ Arr ok w 10 (TrC ok w) A t.kids := by
  cases t with
  | mk op kids rune set at_ cap name mn mx lz =>
    simp only [TrC, trsC_arr, Arr, Nat.zero_add]

mutual
theorem TrC.move {ok ok' : Nat → Prop} {w w' : World} (hm : ∀ b, ok b → b < w.heap.size → w'.heap[b]? = w.heap[b]? ∧ ok' b) : ∀ {t : Tr} {cs : List Value}, TrC ok w t cs → TrC ok' w' t cs
  | ⟨op, kids, rune, set, at_, cap, name, mn, mx, lz⟩, cs, h => by
    rw [TrC] at h ⊢
    obtain ⟨A, c, B, d, hcs, h1, h2, h3, h4, h5, h6⟩ := h
    exact ⟨A, c, B, d, hcs, h1, h2, h3, h4, h5.move hm (by omega), TrsC.move hm h6⟩
theorem TrsC.move {ok ok' : Nat → Prop} {w w' : World} (hm : ∀ b, ok b → b < w.heap.size → w'.heap[b]? = w.heap[b]? ∧ ok' b) {A : Option Addr} : ∀ {k : Nat} {xs : List Tr}, TrsC ok w A k xs → TrsC ok' w' A k xs
  | _, [], _ => by rw [TrsC]; trivial
  | k, x :: xs, h => by
    rw [TrsC] at h ⊢
    obtain ⟨⟨ad, cs, rfl, hok, hE, hl, hc⟩, hr⟩ := h
    have hb : ad.block < w.heap.size := by
      have h0 : 0 < cs.length := by omega
      have := World.block_lt_of_cell? w _ (hc 0 _ (List.getElem?_eq_getElem h0))
      rwa [add_block] at this
    obtain ⟨h1, h2⟩ := hm ad.block hok hb
    refine ⟨⟨ad, cs, rfl, h2, TrC.move hm hE, hl, fun j u hu => ?_⟩, TrsC.move hm hr⟩
    rw [← hc j u hu]
    exact World.cell?_of_block (by rw [add_block]; exact h1)
end

theorem TrC.below {ok : Nat → Prop} {w w' : World} {t : Tr} {cs : List Value} (h : TrC ok w t cs) (hb : Below w.heap.size w w') : TrC ok w' t cs := h.move fun b hok hlt => ⟨hb.block b hlt, hok⟩
theorem TrC.old {ok : Nat → Prop} {w : World} {t : Tr} {cs : List Value} (h : TrC ok w t cs) : TrC (fun b => ok b ∧ b < w.heap.size) w t cs := h.move fun b hok hlt => ⟨rfl, hok, hlt⟩
theorem TrC.mono {ok ok' : Nat → Prop} {w : World} {t : Tr} {cs : List Value} (h : TrC ok w t cs) (hk : ∀ b, ok b → ok' b) : TrC ok' w t cs := h.move fun b hok hlt => ⟨rfl, hk b hok⟩
theorem TrC.len {ok : Nat → Prop} {w : World} {t : Tr} {cs : List Value} (h : TrC ok w t cs) : cs.length = 10 := by
  obtain ⟨A, c, B, d, rfl, _⟩ := trC_iff.1 h
  rfl


mutual
def parts : Tr → List Tr
  | ⟨op, kids, rune, set, at_, cap, name, mn, mx, lz⟩ => ⟨op, kids, rune, set, at_, cap, name, mn, mx, lz⟩ :: partsL kids
def partsL : List Tr → List Tr
  | [] => []
  | x :: xs => parts x ++ partsL xs
end
theorem parts_eq (t : Tr) : parts t = t :: partsL t.kids := by cases t; rw [parts]
theorem partsL_flat : ∀ l : List Tr, partsL l = l.flatMap parts
  | [] => by rw [partsL]; rfl
  | x :: xs => by rw [partsL, partsL_flat xs]; rfl

/-! ### what a round of a range over a function keeps: all that lies below B0, all cells from B1 on -/
structure Keeps (B0 B1 : Nat) (W W' : World) : Prop where
  below : Below B0 W W'
  cells : ∀ (b : Nat) (cs : Array Value) (ty : TypeId) (fr : Nat × Nat), B1 ≤ b → W.heap[b]? = some (.cells cs ty fr) → W'.heap[b]? = W.heap[b]?
theorem Keeps.refl (B0 B1 : Nat) (W : World) : Keeps B0 B1 W W := ⟨Below.refl _ _, fun _ _ _ _ _ _ => rfl⟩
theorem Keeps.trans {B0 B1 : Nat} {A B C : World} (h : Keeps B0 B1 A B) (k : Keeps B0 B1 B C) : Keeps B0 B1 A C :=
  ⟨h.below.trans k.below, fun b cs ty fr hb hc => by
    have h1 := h.cells b cs ty fr hb hc
    rw [k.cells b cs ty fr hb (h1.trans hc), h1]⟩
theorem heap_lt {W : World} {b : Nat} {o : Obj} (h : W.heap[b]? = some o) : b < W.heap.size := (Array.getElem?_eq_some_iff.1 h).1
theorem Keeps.alloc {B0 B1 : Nat} {A B : World} (h : Keeps B0 B1 A B) (hB : B0 ≤ B.heap.size) (o : Obj) : Keeps B0 B1 A (B.alloc o) :=
  h.trans ⟨(Below.refl _ _).alloc hB _, fun b cs ty fr hb hc => Below.heap_alloc _ _ _ (heap_lt hc)⟩
theorem Keeps.drew {B0 B1 : Nat} {A B : World} (h : Keeps B0 B1 A B) : Keeps B0 B1 A B.drew := ⟨h.below.drew, h.cells⟩
theorem Keeps.drewN {B0 B1 : Nat} {A B : World} (h : Keeps B0 B1 A B) (n : Nat) : Keeps B0 B1 A (B.drewN n) := ⟨below_drewN h.below n, h.cells⟩
theorem Keeps.setCell {B0 B1 : Nat} {A B : World} (h : Keeps B0 B1 A B) {p : Addr} (h0 : B0 ≤ p.block) (h1 : p.block < B1) (u : Value) : Keeps B0 B1 A (B.setCell p u) :=
  h.trans ⟨(Below.refl _ _).setCell h0 _, fun b cs ty fr hb hc => Below.heap_setCell _ _ _ _ (by omega)⟩
theorem Keeps.of_below {B0 B1 : Nat} {A B : World} (h : Below A.heap.size A B) (hB : B0 ≤ A.heap.size) : Keeps B0 B1 A B := ⟨h.mono hB, fun b cs ty fr _ hc => h.block b (heap_lt hc)⟩
theorem Keeps.putObj {B0 B1 : Nat} {w : World} (h0 : B0 ≤ w.heap.size) (h1 : B1 ≤ w.heap.size) (W : World) (l : Nat) (o o' : Obj) (hl : w.heap.size ≤ l) (h : W.heap[l]? = some o) (hc : o.isCells = false) : Keeps B0 B1 W (W.putObj l o') :=
  ⟨(Below.refl _ W).grown (row := some l) (grownBy_putObj' W l o') (by have := heap_lt h; omega) (fun k e => by cases e; omega), fun b cs ty fr hb hcc => by
    refine World.putObj_heap_other ?_
    rintro rfl
    rw [h] at hcc
    cases hcc
    simp [Obj.isCells] at hc⟩

/-! ### an element of a list of trees, cell by cell, as the walk asks for it -/
theorem add_field (a : Addr) (k j : Nat) (hj : 0 < j) : a.add (k + j) = ⟨(a.add k).block, (a.add k).off + j, none⟩ := by
  rw [← add_add]
  unfold Addr.add
  rw [if_neg (show j ≠ 0 by omega)]
theorem trArr_at {ok : Nat → Prop} {w : World} {A : Option Addr} {xs : List Tr} (h : Arr ok w 10 (TrC ok w) A xs) (wr : World) (hmv : ∀ b, ok b → b < w.heap.size → wr.heap[b]? = w.heap[b]?) (i : Nat) (hi : i < xs.length) :
    ∃ ad A1 c1 A3 c3, A = some ad ∧ TrC ok w xs[i] [.int .i64 xs[i].op, .slice A1 xs[i].kids.length c1, .int .i32 xs[i].rune, .slice A3 xs[i].set.length c3, .int .i64 xs[i].at_, .int .i64 xs[i].cap, .string xs[i].name, .int .i64 xs[i].mn, .int .i64 xs[i].mx, .bool xs[i].lz] ∧
      wr.cell? (ad.add (i * 10)) = some (.int .i64 xs[i].op) ∧ wr.cell? ⟨(ad.add (i * 10)).block, (ad.add (i * 10)).off + 1, none⟩ = some (.slice A1 xs[i].kids.length c1) ∧
      wr.cell? ⟨(ad.add (i * 10)).block, (ad.add (i * 10)).off + 2, none⟩ = some (.int .i32 xs[i].rune) ∧ wr.cell? ⟨(ad.add (i * 10)).block, (ad.add (i * 10)).off + 3, none⟩ = some (.slice A3 xs[i].set.length c3) ∧
      wr.cell? ⟨(ad.add (i * 10)).block, (ad.add (i * 10)).off + 4, none⟩ = some (.int .i64 xs[i].at_) ∧ wr.cell? ⟨(ad.add (i * 10)).block, (ad.add (i * 10)).off + 5, none⟩ = some (.int .i64 xs[i].cap) ∧
      wr.cell? ⟨(ad.add (i * 10)).block, (ad.add (i * 10)).off + 6, none⟩ = some (.string xs[i].name) ∧ wr.cell? ⟨(ad.add (i * 10)).block, (ad.add (i * 10)).off + 7, none⟩ = some (.int .i64 xs[i].mn) ∧
      wr.cell? ⟨(ad.add (i * 10)).block, (ad.add (i * 10)).off + 8, none⟩ = some (.int .i64 xs[i].mx) ∧ wr.cell? ⟨(ad.add (i * 10)).block, (ad.add (i * 10)).off + 9, none⟩ = some (.bool xs[i].lz) := by
  obtain ⟨ad, cs, rfl, hok, hE, hl, hc0⟩ := h i _ (List.getElem?_eq_getElem hi)
  have hb : ad.block < w.heap.size := by
    have := World.block_lt_of_cell? w _ (hc0 0 _ (List.getElem?_eq_getElem (by omega)))
    rwa [add_block] at this
  have hc : ∀ j u, cs[j]? = some u → wr.cell? (ad.add (i * 10 + j)) = some u := fun j u hu => by
    rw [← hc0 j u hu]; exact World.cell?_of_block (by rw [add_block]; exact hmv _ hok hb)
  have hE0 := hE
  obtain ⟨A1, c1, A3, c3, rfl, _⟩ := trC_iff.1 hE
  refine ⟨ad, A1, c1, A3, c3, rfl, hE0, hc 0 _ rfl, ?_, ?_, ?_, ?_, ?_, ?_, ?_, ?_, ?_⟩
  · rw [← add_field _ _ 1 (by omega)]; exact hc 1 _ rfl
  · rw [← add_field _ _ 2 (by omega)]; exact hc 2 _ rfl
  · rw [← add_field _ _ 3 (by omega)]; exact hc 3 _ rfl
  · rw [← add_field _ _ 4 (by omega)]; exact hc 4 _ rfl
  · rw [← add_field _ _ 5 (by omega)]; exact hc 5 _ rfl
  · rw [← add_field _ _ 6 (by omega)]; exact hc 6 _ rfl
  · rw [← add_field _ _ 7 (by omega)]; exact hc 7 _ rfl
  · rw [← add_field _ _ 8 (by omega)]; exact hc 8 _ rfl
  · rw [← add_field _ _ 9 (by omega)]; exact hc 9 _ rfl

theorem cell_of_blk {W : World} {b : Nat} {cs : Array Value} {ty : TypeId} {fr : Nat × Nat} (h : W.heap[b]? = some (.cells cs ty fr)) (j : Nat) : W.cell? ⟨b, j, none⟩ = cs[j]? := by simp [World.cell?, h]
theorem cells10 {W : World} {b : Nat} {ty : TypeId} {fr : Nat × Nat} {a0 a1 a2 a3 a4 a5 a6 a7 a8 a9 : Value} (h : W.heap[b]? = some (.cells #[a0, a1, a2, a3, a4, a5, a6, a7, a8, a9] ty fr)) :
    W.cell? ⟨b, 0, none⟩ = some a0 ∧ W.cell? ⟨b, 1, none⟩ = some a1 ∧ W.cell? ⟨b, 2, none⟩ = some a2 ∧ W.cell? ⟨b, 3, none⟩ = some a3 ∧ W.cell? ⟨b, 4, none⟩ = some a4 ∧ W.cell? ⟨b, 5, none⟩ = some a5 ∧
    W.cell? ⟨b, 6, none⟩ = some a6 ∧ W.cell? ⟨b, 7, none⟩ = some a7 ∧ W.cell? ⟨b, 8, none⟩ = some a8 ∧ W.cell? ⟨b, 9, none⟩ = some a9 := by
  refine ⟨?_, ?_, ?_, ?_, ?_, ?_, ?_, ?_, ?_, ?_⟩ <;> (rw [cell_of_blk h]; rfl)

theorem heap_new1 (w : World) (o1 : Obj) : (w.alloc o1).heap[w.heap.size]? = some o1 := World.alloc_heap_new _ _
theorem heap_new2 (w : World) (o1 o2 : Obj) : ((w.alloc o1).alloc o2).heap[w.heap.size + 1]? = some o2 := by
  have := World.alloc_heap_new (w.alloc o1) o2; rwa [World.size_alloc] at this
theorem heap_new3 (w : World) (o1 o2 o3 : Obj) : (((w.alloc o1).alloc o2).alloc o3).heap[w.heap.size + 1 + 1]? = some o3 := by
  have := World.alloc_heap_new ((w.alloc o1).alloc o2) o3; rwa [World.size_alloc, World.size_alloc] at this

/-! ### a list of one's own: each element sz cells -/
def Owns (w : World) (base : Nat) (e : TypeId) (sz : Nat) (v : Value) (css : List (List Value)) : Prop := w.ownsRow base e sz v css.length css.flatten ∧ ∀ c ∈ css, c.length = sz
theorem Owns.nil (w : World) (base : Nat) (e : TypeId) (sz : Nat) : Owns w base e sz (.slice none 0 0) [] := ⟨World.ownsRow_nil _ _ _ _, fun c h => by simp at h⟩
theorem Owns.kept {w w' : World} {base : Nat} {e : TypeId} {sz : Nat} {v : Value} {css : List (List Value)} {row : Option Nat} (h : Owns w base e sz v css) (hg : w.grownBy w' row) (hne : v.ownBlock = none ∨ v.ownBlock ≠ row) : Owns w' base e sz v css := ⟨h.1.kept hg hne, h.2⟩
theorem Owns.alloc {w : World} {base : Nat} {e : TypeId} {sz : Nat} {v : Value} {css : List (List Value)} (h : Owns w base e sz v css) (o : Obj) : Owns (w.alloc o) base e sz v css := ⟨h.1.alloc o, h.2⟩
theorem Owns.drew {w : World} {base : Nat} {e : TypeId} {sz : Nat} {v : Value} {css : List (List Value)} (h : Owns w base e sz v css) : Owns w.drew base e sz v css := ⟨h.1.drew, h.2⟩
theorem Owns.lt {w : World} {base : Nat} {e : TypeId} {sz : Nat} {v : Value} {css : List (List Value)} (h : Owns w base e sz v css) : ∀ k, v.ownBlock = some k → base ≤ k ∧ k < w.heap.size := h.1.lt
theorem Owns.below {w w' : World} {base : Nat} {e : TypeId} {sz : Nat} {v : Value} {css : List (List Value)} (h : Owns w base e sz v css) (hb : Below w.heap.size w w') : Owns w' base e sz v css :=
  h.kept (row := none) ⟨hb.os, hb.tape, hb.output, hb.size, fun k hk _ => hb.block k hk⟩ (by cases v.ownBlock <;> simp)
theorem Owns.shape {w : World} {base : Nat} {e : TypeId} {sz : Nat} {v : Value} {css : List (List Value)} (h : Owns w base e sz v css) : ∃ A c, v = .slice A css.length c ∧ css.length ≤ c ∧ c ≤ maxLen := by
  rcases h.1.2 with ⟨rfl, h0⟩ | ⟨g, cap, cur, rfl, _, _, h1, h2, _⟩
  · exact ⟨none, 0, by rw [h0], by omega, by unfold maxLen; omega⟩
  · exact ⟨_, cap, rfl, h1, h2⟩
theorem flatten_at {sz : Nat} : ∀ {css : List (List Value)} (h : ∀ c ∈ css, c.length = sz) {i : Nat} {c : List Value}, css[i]? = some c → ∀ {j : Nat} {u : Value}, c[j]? = some u → css.flatten[i * sz + j]? = some u
  | [], _, i, c, hi, _, _, _ => by simp at hi
  | x :: css, h, 0, c, hi, j, u, hj => by
    simp at hi; subst hi
    rw [List.flatten_cons, Nat.zero_mul, Nat.zero_add, List.getElem?_append_left (List.getElem?_eq_some_iff.1 hj).1]; exact hj
  | x :: css, h, i + 1, c, hi, j, u, hj => by
    have h0 := h x (by simp)
    rw [List.flatten_cons, List.getElem?_append_right (by rw [h0, Nat.add_mul]; omega), h0, show (i + 1) * sz + j - sz = i * sz + j by rw [Nat.add_mul]; omega]
    exact flatten_at (fun c hc => h c (by simp [hc])) (by simpa using hi) hj
theorem Owns.arr {α : Type} {w : World} {base : Nat} {e : TypeId} {sz : Nat} {A : Option Addr} {n cap : Nat} {css : List (List Value)} (h : Owns w base e sz (.slice A n cap) css) {E : α → List Value → Prop} {xs : List α} (hx : xs.length = css.length)
    (hE : ∀ (i : Nat) (x : α) (c : List Value), xs[i]? = some x → css[i]? = some c → E x c) {ok : Nat → Prop} (hok : ∀ a, A = some a → ok a.block) : Arr ok w sz E A xs := by
  intro i x hi
  have hil : i < css.length := by rw [← hx]; exact (List.getElem?_eq_some_iff.1 hi).1
  obtain ⟨c, hc⟩ : ∃ c, css[i]? = some c := ⟨_, List.getElem?_eq_getElem hil⟩
  rcases h.1.2 with ⟨_, h0⟩ | ⟨g, cap', cur, hv, _, _⟩
  · omega
  · cases hv
    exact ⟨_, c, rfl, hok _ rfl, hE i x c hi hc, h.2 c (List.mem_of_getElem? hc), fun j u hu => h.1.cells rfl _ _ (flatten_at h.2 hc hu)⟩

theorem wpList_app1 {P : Program} {ops : Array Oper} {rest : List Oper} {o : Oper} {a : Act} {Q : Exit → Act → World → Prop} {w : World} (hgd : o.guard = none) (s x : Operand) (t : TypeId)
    (ho : o.op = .call { callee := .builtin .append, args := #[s, x], argTypes := #[t, t] }) (base : Nat) (e : TypeId) (i : TypeInfo) (z : Value) (sz bytes : Nat) (ht : P.underlying t = some (.slice e)) (hi : P.info? e = some i) (hz : i.zero = some z)
    (hsize : i.size = sz) (hby : i.bytes = bytes) (hzs : z.cells.size = sz) (hsz : 0 < sz) (v : Value) (css : List (List Value)) (hs : a.eval s = v) (hown : Owns w base e sz v css)
    (g : Nat) (c : List Value) (hx : a.eval x = .slice (some ⟨g, 0, none⟩) 1 1) (hc : c.length = sz) (hg : w.heap[g]? = some (.cells c.toArray e (0, 0))) (h1 : ∀ u ∈ c, u.oneCell' = true)
    (hmax : css.length + 1 ≤ maxLen) (hbytes : (css.length + 1) * bytes ≤ 140737488355328) (hbase : base ≤ w.heap.size)
    (h : ∀ v' w', Owns w' base e sz v' (css ++ [c]) → w.grownBy w' v.ownBlock → wpList P ops Q rest (a.put o.dst v') w') : wpList P ops Q (o :: rest) a w :=
  wpList_append_own w hgd s x t ho base e i z sz bytes ht hi hz hsize hby hzs hsz v css.length css.flatten hs hown.1 ⟨g, 0, none⟩ 1 1 c hx (by rw [hc, Nat.one_mul])
    (fun j u hj => by
      have : (⟨g, 0, none⟩ : Addr).add j = ⟨g, j, none⟩ := by unfold Addr.add; split <;> simp_all
      rw [this, cell_of_blk hg]; simpa using hj) h1 hmax hbytes hbase
    (fun v' w' h2 h3 _ => h v' w' ⟨by rw [List.length_append, List.flatten_append]; simpa using h2, fun c' hc' => (List.mem_append.1 hc').elim (hown.2 c') (fun e => by rw [List.mem_singleton.1 e]; exact hc)⟩ h3)

theorem below_app {base : Nat} {w0 w w' : World} {e : TypeId} {sz : Nat} {v : Value} {css : List (List Value)} (h : Below base w0 w) (hb : base ≤ w.heap.size) (hown : Owns w base e sz v css) (hg : w.grownBy w' v.ownBlock) : Below base w0 w' :=
  h.grown hg hb (fun k e => (hown.lt k e).1)
end Go.Proofs.Ytdnbholiijgedaa
