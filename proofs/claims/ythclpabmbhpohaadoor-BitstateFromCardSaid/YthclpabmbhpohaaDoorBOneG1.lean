/-
  Words of this seat's own: lists in memory, trees in memory. No condition.
  slices.Contains over places' kinds; what sets.Right answers, as a premise. No other condition.
  A program in memory: its instructions. No condition.
  slices.Clone at each element type: a list of one's own, with the same elements. No condition but on the size.
  Lists of whole numbers of one's own: slices.Clone, a copy by append, a store into one. No condition.
  Words of this seat's own: a struct stored, loaded, copied as a whole; math/bits.Mul. No condition.
  Words of this seat's own: a region that draws its order, whose loads are taken first and whose other operations wait for one another; a struct stored into a list of one's own. No condition.
  Words of this seat's own: a region that draws its order, by a script: operations that yield are taken early, the others come one by one; guards too. No condition.
  A row of bits: (*bitstate.Machine).fresh. No condition but bounds.
  A walk with bits, in plain words: depth first, never twice to a state. No program here, no condition.
  A walk with bits, from a list of things to do. No program here, no condition.
-/
import Derived.WalkKit
import Derived.WalkLawsBesides
import Derived.WalkSpells
import Derived.Deep.QuietTactic
import Derived.BigQuiet
import Derived.Lib.Hide
import Derived.RangeFuncNested
import Derived.Test.YthclpabmbhpohaaDoorProg
import Derived.Lib.ConvBytes
import Derived.ArgAppend
import Derived.Deep.MidRow
import Derived.Laws.CopyOwn
import Derived.Deep.RegionLaw
import Derived.Shelf.Bits.Mul64
import Derived.OrdersHeld
import Derived.Maps.AppendAt
import Derived.Laws.BitsAllLaws
import Derived.BigRegion
set_option linter.unusedVariables false
set_option linter.unusedSimpArgs false
namespace Go.Proofs.YthclpabmbhpohaaDoor
open Go.RowKit
set_option linter.unusedVariables false
/-- From address A on lie the elements of xs, each sz cells, as E says, in blocks that are ok. -/
def Arr {α : Type} (ok : Nat → Prop) (w : World) (sz : Nat) (E : α → List Value → Prop) (A : Option Addr) (xs : List α) : Prop :=
  ∀ i x, xs[i]? = some x → ∃ ad cs, A = some ad ∧ ok ad.block ∧ E x cs ∧ cs.length = sz ∧ ∀ j u, cs[j]? = some u → w.cell? (ad.add (i * sz + j)) = some u
theorem add_block (a : Addr) (n : Nat) : (a.add n).block = a.block := by unfold Addr.add; split <;> rfl
theorem add_add (a : Addr) (i j : Nat) : (a.add i).add j = a.add (i + j) := by
  unfold Addr.add
  by_cases hi : i = 0 <;> by_cases hj : j = 0 <;> simp [hi, hj, Nat.add_assoc]
theorem Arr.move {α : Type} {ok ok' : Nat → Prop} {w w' : World} {sz : Nat} {E : α → List Value → Prop} {A : Option Addr} {xs : List α}
    (h : Arr ok w sz E A xs) (hm : ∀ b, ok b → b < w.heap.size → w'.heap[b]? = w.heap[b]? ∧ ok' b) (hsz : 0 < sz) : Arr ok' w' sz E A xs := by
  intro i x hx
  obtain ⟨ad, cs, rfl, hok, hE, hl, hc⟩ := h i x hx
  have hb : ad.block < w.heap.size := by
    have h0 : 0 < cs.length := by omega
    have := World.block_lt_of_cell? w _ (hc 0 _ (List.getElem?_eq_getElem h0))
    rwa [add_block] at this
  obtain ⟨h1, h2⟩ := hm ad.block hok hb
  refine ⟨ad, cs, rfl, h2, hE, hl, fun j u hu => ?_⟩
  rw [← hc j u hu]
  exact World.cell?_of_block (by rw [add_block]; exact h1)
theorem Arr.nil {α : Type} {ok : Nat → Prop} {w : World} {sz : Nat} {E : α → List Value → Prop} {A : Option Addr} : Arr ok w sz E A [] := fun i x h => by simp at h
theorem Arr.weak {α : Type} {ok : Nat → Prop} {w : World} {sz : Nat} {E E' : α → List Value → Prop} {A : Option Addr} {xs : List α} (h : Arr ok w sz E A xs) (hE : ∀ x ∈ xs, ∀ cs, E x cs → E' x cs) : Arr ok w sz E' A xs := by
  intro i x hx
  obtain ⟨ad, cs, hA, hok, hc, hr⟩ := h i x hx
  exact ⟨ad, cs, hA, hok, hE x (List.mem_of_getElem? hx) _ hc, hr⟩
theorem below_drewN {B : Nat} {w w' : World} (h : Below B w w') (n : Nat) : Below B w (w'.drewN n) := ⟨h.os, h.tape, h.output, h.size, h.block⟩
theorem below_then {B : Nat} {w w1 w2 : World} (h : Below B w w1) (hB : B ≤ w1.heap.size) (k : Below w1.heap.size w1 w2) : Below B w w2 := h.trans (k.mono hB)
theorem below_and {w w1 w2 : World} (k : Below w1.heap.size w1 w2) (h : Below w.heap.size w w1) : Below w.heap.size w w2 := below_then h h.size k
theorem below_al {w w1 : World} (h : Below w.heap.size w w1) (o : Obj) : Below w.heap.size w (w1.alloc o) := h.alloc h.size o
theorem ret_int {k : IntKind} {a b : Int} (h : a = b) : Ending.returned (.int k a) = .returned (.int k b) := by rw [h]
theorem ret_bool {a b : Bool} (h : a = b) : Ending.returned (.bool a) = .returned (.bool b) := by rw [h]
structure Rg where
  lo : Int
  hi : Int
def RgC (r : Rg) (cs : List Value) : Prop := cs = [.int .i32 r.lo, .int .i32 r.hi]
/-- An instruction. -/
structure In where
  op : Int
  out : Int
  arg : Int
  set : List Rg
  at_ : Int
/-- A program. -/
structure Pg where
  ins : List In
  start : Int
  caps : Int
structure Tr where
  op : Int
  kids : List Tr
  rune : Int
  set : List Rg
  at_ : Int
  cap : Int
  name : ByteArray
  mn : Int
  mx : Int
  lz : Bool
mutual
def TrC (ok : Nat → Prop) (w : World) : Tr → List Value → Prop
  | ⟨op, kids, rune, set, at_, cap, name, mn, mx, lz⟩, cs => ∃ A c B d, cs = [.int .i64 op, .slice A kids.length c, .int .i32 rune, .slice B set.length d, .int .i64 at_, .int .i64 cap, .string name, .int .i64 mn, .int .i64 mx, .bool lz] ∧
      kids.length ≤ c ∧ c ≤ maxLen ∧ set.length ≤ d ∧ d ≤ maxLen ∧ Arr ok w 2 RgC B set ∧ TrsC ok w A 0 kids
def TrsC (ok : Nat → Prop) (w : World) (A : Option Addr) : Nat → List Tr → Prop
  | _, [] => True
  | i, x :: xs => (∃ ad cs, A = some ad ∧ ok ad.block ∧ TrC ok w x cs ∧ cs.length = 10 ∧ ∀ j u, cs[j]? = some u → w.cell? (ad.add (i * 10 + j)) = some u) ∧ TrsC ok w A (i + 1) xs
end
theorem trsC_arr {ok : Nat → Prop} {w : World} {A : Option Addr} : ∀ (xs : List Tr) (k : Nat), TrsC ok w A k xs ↔
    ∀ i x, xs[i]? = some x → ∃ ad cs, A = some ad ∧ ok ad.block ∧ TrC ok w x cs ∧ cs.length = 10 ∧ ∀ j u, cs[j]? = some u → w.cell? (ad.add ((k + i) * 10 + j)) = some u
  | [], k => by simp [TrsC]
  | x :: xs, k => by
    rw [TrsC, trsC_arr xs (k + 1)]
    constructor
    · rintro ⟨h0, hr⟩ i y hy
      cases i with
      | zero => simp at hy; subst hy; exact h0
      | succ i => have := hr i y (by simpa using hy); rwa [show k + 1 + i = k + (i + 1) by omega] at this
    · intro h
      refine ⟨by simpa using h 0 x (by simp), fun i y hy => ?_⟩
      have := h (i + 1) y (by simpa using hy)
      rwa [show k + (i + 1) = k + 1 + i by omega] at this
theorem trC_iff {ok : Nat → Prop} {w : World} {t : Tr} {cs : List Value} : TrC ok w t cs ↔
    ∃ A c B d, cs = [.int .i64 t.op, .slice A t.kids.length c, .int .i32 t.rune, .slice B t.set.length d, .int .i64 t.at_, .int .i64 t.cap, .string t.name, .int .i64 t.mn, .int .i64 t.mx, .bool t.lz] ∧
      t.kids.length ≤ c ∧ c ≤ maxLen ∧ t.set.length ≤ d ∧ d ≤ maxLen ∧ Arr ok w 2 RgC B t.set ∧ Arr ok w 10 (TrC ok w) A t.kids := by
  cases t with
  | mk op kids rune set at_ cap name mn mx lz =>
    simp only [TrC, trsC_arr, Arr, Nat.zero_add]
mutual
theorem TrC.move {ok ok' : Nat → Prop} {w w' : World} (hm : ∀ b, ok b → b < w.heap.size → w'.heap[b]? = w.heap[b]? ∧ ok' b) : ∀ {t : Tr} {cs : List Value}, TrC ok w t cs → TrC ok' w' t cs
  | ⟨op, kids, rune, set, at_, cap, name, mn, mx, lz⟩, cs, h => by
    rw [TrC] at h ⊢
    obtain ⟨A, c, B, d, hcs, h1, h2, h3, h4, h5, h6⟩ := h
    exact ⟨A, c, B, d, hcs, h1, h2, h3, h4, h5.move hm (by omega), TrsC.move hm h6⟩
theorem TrsC.move {ok ok' : Nat → Prop} {w w' : World} (hm : ∀ b, ok b → b < w.heap.size → w'.heap[b]? = w.heap[b]? ∧ ok' b) {A : Option Addr} : ∀ {k : Nat} {xs : List Tr}, TrsC ok w A k xs → TrsC ok' w' A k xs
  | _, [], _ => by rw [TrsC]; trivial
  | k, x :: xs, h => by
    rw [TrsC] at h ⊢
    obtain ⟨⟨ad, cs, rfl, hok, hE, hl, hc⟩, hr⟩ := h
    have hb : ad.block < w.heap.size := by
      have h0 : 0 < cs.length := by omega
      have := World.block_lt_of_cell? w _ (hc 0 _ (List.getElem?_eq_getElem h0))
      rwa [add_block] at this
    obtain ⟨h1, h2⟩ := hm ad.block hok hb
    refine ⟨⟨ad, cs, rfl, h2, TrC.move hm hE, hl, fun j u hu => ?_⟩, TrsC.move hm hr⟩
    rw [← hc j u hu]
    exact World.cell?_of_block (by rw [add_block]; exact h1)
end
theorem TrC.below {ok : Nat → Prop} {w w' : World} {t : Tr} {cs : List Value} (h : TrC ok w t cs) (hb : Below w.heap.size w w') : TrC ok w' t cs := h.move fun b hok hlt => ⟨hb.block b hlt, hok⟩
theorem TrC.old {ok : Nat → Prop} {w : World} {t : Tr} {cs : List Value} (h : TrC ok w t cs) : TrC (fun b => ok b ∧ b < w.heap.size) w t cs := h.move fun b hok hlt => ⟨rfl, hok, hlt⟩
theorem TrC.mono {ok ok' : Nat → Prop} {w : World} {t : Tr} {cs : List Value} (h : TrC ok w t cs) (hk : ∀ b, ok b → ok' b) : TrC ok' w t cs := h.move fun b hok hlt => ⟨rfl, hk b hok⟩
theorem TrC.len {ok : Nat → Prop} {w : World} {t : Tr} {cs : List Value} (h : TrC ok w t cs) : cs.length = 10 := by
  obtain ⟨A, c, B, d, rfl, _⟩ := trC_iff.1 h
  rfl
structure Keeps (B0 B1 : Nat) (W W' : World) : Prop where
  below : Below B0 W W'
  cells : ∀ (b : Nat) (cs : Array Value) (ty : TypeId) (fr : Nat × Nat), B1 ≤ b → W.heap[b]? = some (.cells cs ty fr) → W'.heap[b]? = W.heap[b]?
theorem Keeps.refl (B0 B1 : Nat) (W : World) : Keeps B0 B1 W W := ⟨Below.refl _ _, fun _ _ _ _ _ _ => rfl⟩
theorem Keeps.trans {B0 B1 : Nat} {A B C : World} (h : Keeps B0 B1 A B) (k : Keeps B0 B1 B C) : Keeps B0 B1 A C :=
  ⟨h.below.trans k.below, fun b cs ty fr hb hc => by
    have h1 := h.cells b cs ty fr hb hc
    rw [k.cells b cs ty fr hb (h1.trans hc), h1]⟩
theorem heap_lt {W : World} {b : Nat} {o : Obj} (h : W.heap[b]? = some o) : b < W.heap.size := (Array.getElem?_eq_some_iff.1 h).1
theorem Keeps.alloc {B0 B1 : Nat} {A B : World} (h : Keeps B0 B1 A B) (hB : B0 ≤ B.heap.size) (o : Obj) : Keeps B0 B1 A (B.alloc o) :=
  h.trans ⟨(Below.refl _ _).alloc hB _, fun b cs ty fr hb hc => Below.heap_alloc _ _ _ (heap_lt hc)⟩
theorem Keeps.drew {B0 B1 : Nat} {A B : World} (h : Keeps B0 B1 A B) : Keeps B0 B1 A B.drew := ⟨h.below.drew, h.cells⟩
theorem Keeps.drewN {B0 B1 : Nat} {A B : World} (h : Keeps B0 B1 A B) (n : Nat) : Keeps B0 B1 A (B.drewN n) := ⟨below_drewN h.below n, h.cells⟩
theorem Keeps.setCell {B0 B1 : Nat} {A B : World} (h : Keeps B0 B1 A B) {p : Addr} (h0 : B0 ≤ p.block) (h1 : p.block < B1) (u : Value) : Keeps B0 B1 A (B.setCell p u) :=
  h.trans ⟨(Below.refl _ _).setCell h0 _, fun b cs ty fr hb hc => Below.heap_setCell _ _ _ _ (by omega)⟩
theorem Keeps.of_below {B0 B1 : Nat} {A B : World} (h : Below A.heap.size A B) (hB : B0 ≤ A.heap.size) : Keeps B0 B1 A B := ⟨h.mono hB, fun b cs ty fr _ hc => h.block b (heap_lt hc)⟩
theorem Keeps.putObj {B0 B1 : Nat} {w : World} (h0 : B0 ≤ w.heap.size) (h1 : B1 ≤ w.heap.size) (W : World) (l : Nat) (o o' : Obj) (hl : w.heap.size ≤ l) (h : W.heap[l]? = some o) (hc : o.isCells = false) : Keeps B0 B1 W (W.putObj l o') :=
  ⟨(Below.refl _ W).grown (row := some l) (grownBy_putObj' W l o') (by have := heap_lt h; omega) (fun k e => by cases e; omega), fun b cs ty fr hb hcc => by
    refine World.putObj_heap_other ?_
    rintro rfl
    rw [h] at hcc
    cases hcc
    simp [Obj.isCells] at hc⟩
theorem add_field (a : Addr) (k j : Nat) (hj : 0 < j) : a.add (k + j) = ⟨(a.add k).block, (a.add k).off + j, none⟩ := by
  rw [← add_add]
  unfold Addr.add
  rw [if_neg (show j ≠ 0 by omega)]
theorem cell_of_blk {W : World} {b : Nat} {cs : Array Value} {ty : TypeId} {fr : Nat × Nat} (h : W.heap[b]? = some (.cells cs ty fr)) (j : Nat) : W.cell? ⟨b, j, none⟩ = cs[j]? := by simp [World.cell?, h]
theorem heap_new1 (w : World) (o1 : Obj) : (w.alloc o1).heap[w.heap.size]? = some o1 := World.alloc_heap_new _ _
theorem heap_new2 (w : World) (o1 o2 : Obj) : ((w.alloc o1).alloc o2).heap[w.heap.size + 1]? = some o2 := by
  have := World.alloc_heap_new (w.alloc o1) o2; rwa [World.size_alloc] at this
theorem heap_new3 (w : World) (o1 o2 o3 : Obj) : (((w.alloc o1).alloc o2).alloc o3).heap[w.heap.size + 1 + 1]? = some o3 := by
  have := World.alloc_heap_new ((w.alloc o1).alloc o2) o3; rwa [World.size_alloc, World.size_alloc] at this
def Owns (w : World) (base : Nat) (e : TypeId) (sz : Nat) (v : Value) (css : List (List Value)) : Prop := w.ownsRow base e sz v css.length css.flatten ∧ ∀ c ∈ css, c.length = sz
theorem Owns.nil (w : World) (base : Nat) (e : TypeId) (sz : Nat) : Owns w base e sz (.slice none 0 0) [] := ⟨World.ownsRow_nil _ _ _ _, fun c h => by simp at h⟩
theorem Owns.kept {w w' : World} {base : Nat} {e : TypeId} {sz : Nat} {v : Value} {css : List (List Value)} {row : Option Nat} (h : Owns w base e sz v css) (hg : w.grownBy w' row) (hne : v.ownBlock = none ∨ v.ownBlock ≠ row) : Owns w' base e sz v css := ⟨h.1.kept hg hne, h.2⟩
theorem Owns.alloc {w : World} {base : Nat} {e : TypeId} {sz : Nat} {v : Value} {css : List (List Value)} (h : Owns w base e sz v css) (o : Obj) : Owns (w.alloc o) base e sz v css := ⟨h.1.alloc o, h.2⟩
theorem Owns.drew {w : World} {base : Nat} {e : TypeId} {sz : Nat} {v : Value} {css : List (List Value)} (h : Owns w base e sz v css) : Owns w.drew base e sz v css := ⟨h.1.drew, h.2⟩
theorem Owns.lt {w : World} {base : Nat} {e : TypeId} {sz : Nat} {v : Value} {css : List (List Value)} (h : Owns w base e sz v css) : ∀ k, v.ownBlock = some k → base ≤ k ∧ k < w.heap.size := h.1.lt
theorem Owns.below {w w' : World} {base : Nat} {e : TypeId} {sz : Nat} {v : Value} {css : List (List Value)} (h : Owns w base e sz v css) (hb : Below w.heap.size w w') : Owns w' base e sz v css :=
  h.kept (row := none) ⟨hb.os, hb.tape, hb.output, hb.size, fun k hk _ => hb.block k hk⟩ (by cases v.ownBlock <;> simp)
theorem Owns.shape {w : World} {base : Nat} {e : TypeId} {sz : Nat} {v : Value} {css : List (List Value)} (h : Owns w base e sz v css) : ∃ A c, v = .slice A css.length c ∧ css.length ≤ c ∧ c ≤ maxLen := by
  rcases h.1.2 with ⟨rfl, h0⟩ | ⟨g, cap, cur, rfl, _, _, h1, h2, _⟩
  · exact ⟨none, 0, by rw [h0], by omega, by unfold maxLen; omega⟩
  · exact ⟨_, cap, rfl, h1, h2⟩
theorem flatten_at {sz : Nat} : ∀ {css : List (List Value)} (h : ∀ c ∈ css, c.length = sz) {i : Nat} {c : List Value}, css[i]? = some c → ∀ {j : Nat} {u : Value}, c[j]? = some u → css.flatten[i * sz + j]? = some u
  | [], _, i, c, hi, _, _, _ => by simp at hi
  | x :: css, h, 0, c, hi, j, u, hj => by
    simp at hi; subst hi
    rw [List.flatten_cons, Nat.zero_mul, Nat.zero_add, List.getElem?_append_left (List.getElem?_eq_some_iff.1 hj).1]; exact hj
  | x :: css, h, i + 1, c, hi, j, u, hj => by
    have h0 := h x (by simp)
    rw [List.flatten_cons, List.getElem?_append_right (by rw [h0, Nat.add_mul]; omega), h0, show (i + 1) * sz + j - sz = i * sz + j by rw [Nat.add_mul]; omega]
    exact flatten_at (fun c hc => h c (by simp [hc])) (by simpa using hi) hj
theorem Owns.arr {α : Type} {w : World} {base : Nat} {e : TypeId} {sz : Nat} {A : Option Addr} {n cap : Nat} {css : List (List Value)} (h : Owns w base e sz (.slice A n cap) css) {E : α → List Value → Prop} {xs : List α} (hx : xs.length = css.length)
    (hE : ∀ (i : Nat) (x : α) (c : List Value), xs[i]? = some x → css[i]? = some c → E x c) {ok : Nat → Prop} (hok : ∀ a, A = some a → ok a.block) : Arr ok w sz E A xs := by
  intro i x hi
  have hil : i < css.length := by rw [← hx]; exact (List.getElem?_eq_some_iff.1 hi).1
  obtain ⟨c, hc⟩ : ∃ c, css[i]? = some c := ⟨_, List.getElem?_eq_getElem hil⟩
  rcases h.1.2 with ⟨_, h0⟩ | ⟨g, cap', cur, hv, _, _⟩
  · omega
  · cases hv
    exact ⟨_, c, rfl, hok _ rfl, hE i x c hi hc, h.2 c (List.mem_of_getElem? hc), fun j u hu => h.1.cells rfl _ _ (flatten_at h.2 hc hu)⟩
theorem wpList_app1 {P : Program} {ops : Array Oper} {rest : List Oper} {o : Oper} {a : Act} {Q : Exit → Act → World → Prop} {w : World} (hgd : o.guard = none) (s x : Operand) (t : TypeId)
    (ho : o.op = .call { callee := .builtin .append, args := #[s, x], argTypes := #[t, t] }) (base : Nat) (e : TypeId) (i : TypeInfo) (z : Value) (sz bytes : Nat) (ht : P.underlying t = some (.slice e)) (hi : P.info? e = some i) (hz : i.zero = some z)
    (hsize : i.size = sz) (hby : i.bytes = bytes) (hzs : z.cells.size = sz) (hsz : 0 < sz) (v : Value) (css : List (List Value)) (hs : a.eval s = v) (hown : Owns w base e sz v css)
    (g : Nat) (c : List Value) (hx : a.eval x = .slice (some ⟨g, 0, none⟩) 1 1) (hc : c.length = sz) (hg : w.heap[g]? = some (.cells c.toArray e (0, 0))) (h1 : ∀ u ∈ c, u.oneCell' = true)
    (hmax : css.length + 1 ≤ maxLen) (hbytes : (css.length + 1) * bytes ≤ 140737488355328) (hbase : base ≤ w.heap.size)
    (h : ∀ v' w', Owns w' base e sz v' (css ++ [c]) → w.grownBy w' v.ownBlock → wpList P ops Q rest (a.put o.dst v') w') : wpList P ops Q (o :: rest) a w :=
  wpList_append_own w hgd s x t ho base e i z sz bytes ht hi hz hsize hby hzs hsz v css.length css.flatten hs hown.1 ⟨g, 0, none⟩ 1 1 c hx (by rw [hc, Nat.one_mul])
    (fun j u hj => by
      have : (⟨g, 0, none⟩ : Addr).add j = ⟨g, j, none⟩ := by unfold Addr.add; split <;> simp_all
      rw [this, cell_of_blk hg]; simpa using hj) h1 hmax hbytes hbase
    (fun v' w' h2 h3 _ => h v' w' ⟨by rw [List.length_append, List.flatten_append]; simpa using h2, fun c' hc' => (List.mem_append.1 hc').elim (hown.2 c') (fun e => by rw [List.mem_singleton.1 e]; exact hc)⟩ h3)
theorem below_app {base : Nat} {w0 w w' : World} {e : TypeId} {sz : Nat} {v : Value} {css : List (List Value)} (h : Below base w0 w) (hb : base ≤ w.heap.size) (hown : Owns w base e sz v css) (hg : w.grownBy w' v.ownBlock) : Below base w0 w' :=
  h.grown hg hb (fun k e => (hown.lt k e).1)
end Go.Proofs.YthclpabmbhpohaaDoor
namespace Go.Proofs.YthclpabmbhpohaaDoor
open Go.RowKit
set_option linter.unusedVariables false
def IntC (k : IntKind) (x : Int) (cs : List Value) : Prop := cs = [.int k x]
theorem ints_at {ok : Nat → Prop} {w : World} {k : IntKind} {A : Option Addr} {xs : List Int} (h : Arr ok w 1 (IntC k) A xs) (i : Nat) (hi : i < xs.length) : ∃ ad, A = some ad ∧ w.cell? (ad.add i) = some (.int k xs[i]) := by
  obtain ⟨ad, cs, rfl, _, rfl, _, hc⟩ := h i _ (List.getElem?_eq_getElem hi)
  exact ⟨ad, rfl, by simpa using hc 0 _ rfl⟩
def idxI (xs : List Int) (v : Int) : Int := match xs.findIdx? (· == v) with | some i => (i : Int) | none => -1
theorem idxI_some {xs : List Int} {v : Int} {i : Nat} (hi : i < xs.length) (h : (v == xs[i]) = true) (hb : ∀ j (hj : j < xs.length), j < i → ¬ v = xs[j]) : idxI xs v = i := by
  have : xs.findIdx? (· == v) = some i := by
    rw [List.findIdx?_eq_some_iff_getElem]
    refine ⟨hi, by rw [beq_iff_eq] at h ⊢; exact h.symm, fun j hj => ?_⟩
    rw [beq_iff_eq]
    exact fun e => hb j (by omega) hj e.symm
  simp [idxI, this]
theorem idxI_none {xs : List Int} {v : Int} (hb : ∀ j (hj : j < xs.length), ¬ v = xs[j]) : idxI xs v = -1 := by
  have : xs.findIdx? (· == v) = none := by
    rw [List.findIdx?_eq_none_iff]
    intro x hx
    obtain ⟨j, hj, rfl⟩ := List.getElem_of_mem hx
    rw [beq_eq_false_iff_ne]
    exact fun e => hb j hj e.symm
  simp [idxI, this]
theorem idxI_ge {xs : List Int} {v : Int} : decide (0 ≤ idxI xs v) = xs.contains v := by
  unfold idxI
  cases h : xs.findIdx? (· == v) with
  | some i =>
    rw [List.findIdx?_eq_some_iff_getElem] at h
    obtain ⟨hi, h1, _⟩ := h
    have h2 : xs[i] = v := by simpa using h1
    rw [List.contains_iff_mem.2 (h2 ▸ List.getElem_mem hi)]
    simp
  | none =>
    rw [List.findIdx?_eq_none_iff] at h
    have : xs.contains v = false := by
      rw [Bool.eq_false_iff]
      intro hc
      have := h v (List.contains_iff_mem.1 hc)
      simp at this
    rw [this]; rfl
set_option maxHeartbeats 400000 in
theorem indexAt_any (w : World) (ok : Nat → Prop) (A : Option Addr) (c : Nat) (xs : List Int) (v : Int) (h : Arr ok w 1 (IntC .i64) A xs) (hl : xs.length ≤ 9223372036854775807) :
    Calls Tryd.prog 87 #[.slice A xs.length c, .int .i64 v] w fun e w' => e = .returned (.int .i64 (idxI xs v)) ∧ w = w' := by
  go_enter Tryd.func87, Tryd.ntmps87
  go_wp2
  go_loop [8] (fun i => ∃ k : Nat, k ≤ xs.length ∧ i = .int .i64 k ∧ ∀ j (hj : j < xs.length), j < k → ¬ v = xs[j]) (fun i => xs.length - (intOf i).toNat)
  case atStart => exact ⟨0, Nat.zero_le _, rfl, fun j _ h => by omega⟩
  case round =>
    obtain ⟨k, hk, rfl, hb⟩ := hrel
    have HB := Lib.hid hb
    clear hb
    by_cases hlt : k < xs.length
    · obtain ⟨ad, rfl, hc⟩ := ints_at h k hlt
      by_cases he : (v == xs[k]) = true
      · go_wp2
        go_ret
        exact ⟨ret_int (idxI_some hlt he HB.out).symm, rfl⟩
      · have he' : (v == xs[k]) = false := by simpa using he
        clear he
        have HE := Lib.hid he'
        go_wp2
        go_round
        case rel =>
          exact ⟨k + 1, by omega, by go_num, fun j hj hjk => by
            rcases Nat.lt_or_ge j k with h1 | h1
            · exact HB.out j hj h1
            · obtain rfl : j = k := by omega
              simpa using HE.out⟩
        case measure => simp [intOf]; omega
    · obtain rfl : k = xs.length := by omega
      go_wp2
      go_ret
      exact ⟨ret_int (idxI_none (fun j hj => HB.out j hj hj)).symm, rfl⟩
set_option maxHeartbeats 400000 in
theorem containsAt_any (w : World) (ok : Nat → Prop) (A : Option Addr) (c : Nat) (xs : List Int) (v : Int) (h : Arr ok w 1 (IntC .i64) A xs) (hl : xs.length ≤ 9223372036854775807) :
    Calls Tryd.prog 74 #[.slice A xs.length c, .int .i64 v] w fun e w' => e = .returned (.bool (xs.contains v)) ∧ w = w' := by
  have hg := @idxI_ge xs v
  have HG := Lib.hid hg
  clear hg
  go_enter Tryd.func74, Tryd.ntmps74
  go_wp2_with (go_at_call 87; refine (indexAt_any w ok A c xs v h hl).mono ?_; rintro e w' ⟨rfl, rfl⟩)
  go_ret
  exact ⟨ret_bool HG.out, rfl⟩
theorem arr_lit {ok : Nat → Prop} {W : World} {k : IntKind} {g : Nat} {ty : TypeId} {fr : Nat × Nat} {xs : List Int} (h : W.heap[g]? = some (.cells (xs.map (Value.int k)).toArray ty fr)) (hok : ok g) : Arr ok W 1 (IntC k) (some ⟨g, 0, none⟩) xs := by
  intro i x hx
  refine ⟨_, _, rfl, hok, rfl, rfl, fun j u hu => ?_⟩
  obtain ⟨rfl, rfl⟩ : j = 0 ∧ u = .int k x := by
    cases j with
    | zero => simpa [eq_comm] using hu
    | succ j => simp at hu
  have : (⟨g, 0, none⟩ : Addr).add (i * 1 + 0) = ⟨g, i, none⟩ := by unfold Addr.add; split <;> simp_all
  rw [this, cell_of_blk h]
  simp [hx]
def ats : List Int := [1, 2, 4, 8, 16, 32]
theorem containsAt_lit (W : World) (g : Nat) (fr : Nat × Nat) (v : Int) (h : W.heap[g]? = some (.cells #[.int .i64 1, .int .i64 2, .int .i64 4, .int .i64 8, .int .i64 16, .int .i64 32] 62 fr)) :
    Calls Tryd.prog 74 #[.slice (some ⟨g, 0, none⟩) 6 6, .int .i64 v] W fun e w' => e = .returned (.bool (ats.contains v)) ∧ W = w' :=
  containsAt_any W (fun _ => True) (some ⟨g, 0, none⟩) 6 ats v (arr_lit (xs := ats) h trivial) (by simp [ats])
/-- What sets.Right answers of a list. -/
def RightOK (R : List Rg → Bool) (l : List Rg) : Prop := ∀ (ok : Nat → Prop) (W : World) (B : Option Addr) (d : Nat), Arr ok W 2 RgC B l → l.length ≤ d → d ≤ maxLen →
  Calls Tryd.prog 73 #[.slice B l.length d] W fun e w' => e = .returned (.bool (R l)) ∧ Below W.heap.size W w'
end Go.Proofs.YthclpabmbhpohaaDoor
namespace Go.Proofs.YthclpabmbhpohaaDoor
open Go.RowKit
set_option linter.unusedVariables false
def InO (ok : Nat → Prop) (w : World) (x : In) (cs : List Value) : Prop := ∃ B d, cs = [.int .i64 x.op, .int .i64 x.out, .int .i64 x.arg, .slice B x.set.length d, .int .i64 x.at_] ∧ x.set.length ≤ d ∧ d ≤ maxLen ∧ Arr ok w 2 RgC B x.set
def PgC (ok : Nat → Prop) (w : World) (p : Pg) (cs : List Value) : Prop := ∃ A c, cs = [.slice A p.ins.length c, .int .i64 p.start, .int .i64 p.caps] ∧ p.ins.length ≤ c ∧ c ≤ maxLen ∧ Arr ok w 5 (InO ok w) A p.ins
theorem InO.move {ok ok' : Nat → Prop} {w w' : World} (hm : ∀ b, ok b → b < w.heap.size → w'.heap[b]? = w.heap[b]? ∧ ok' b) {x : In} {cs : List Value} (h : InO ok w x cs) : InO ok' w' x cs := by
  obtain ⟨B, d, h1, h2, h3, h4⟩ := h
  exact ⟨B, d, h1, h2, h3, h4.move hm (by omega)⟩
theorem PgC.move {ok ok' : Nat → Prop} {w w' : World} (hm : ∀ b, ok b → b < w.heap.size → w'.heap[b]? = w.heap[b]? ∧ ok' b) {p : Pg} {cs : List Value} (h : PgC ok w p cs) : PgC ok' w' p cs := by
  obtain ⟨A, c, h1, h2, h3, h4⟩ := h
  exact ⟨A, c, h1, h2, h3, (h4.move hm (by omega)).weak (fun x _ cs hx => hx.move hm)⟩
theorem PgC.old {ok : Nat → Prop} {w : World} {p : Pg} {cs : List Value} (h : PgC ok w p cs) : PgC (fun b => ok b ∧ b < w.heap.size) w p cs := h.move fun b hok hlt => ⟨rfl, hok, hlt⟩
theorem InO.old {ok : Nat → Prop} {w : World} {x : In} {cs : List Value} (h : InO ok w x cs) : InO (fun b => ok b ∧ b < w.heap.size) w x cs := h.move fun b hok hlt => ⟨rfl, hok, hlt⟩
theorem PgC.below {ok : Nat → Prop} {w w' : World} {p : Pg} {cs : List Value} (h : PgC ok w p cs) (hb : Below w.heap.size w w') : PgC ok w' p cs := h.move fun b hok hlt => ⟨hb.block b hlt, hok⟩
theorem InO.below {ok : Nat → Prop} {w w' : World} {x : In} {cs : List Value} (h : InO ok w x cs) (hb : Below w.heap.size w w') : InO ok w' x cs := h.move fun b hok hlt => ⟨hb.block b hlt, hok⟩
theorem InO.len {ok : Nat → Prop} {w : World} {x : In} {cs : List Value} (h : InO ok w x cs) : cs.length = 5 := by
  obtain ⟨B, d, rfl, _⟩ := h
  rfl
theorem cells5 {W : World} {b : Nat} {ty : TypeId} {fr : Nat × Nat} {a0 a1 a2 a3 a4 : Value} (h : W.heap[b]? = some (.cells #[a0, a1, a2, a3, a4] ty fr)) :
    W.cell? ⟨b, 0, none⟩ = some a0 ∧ W.cell? ⟨b, 1, none⟩ = some a1 ∧ W.cell? ⟨b, 2, none⟩ = some a2 ∧ W.cell? ⟨b, 3, none⟩ = some a3 ∧ W.cell? ⟨b, 4, none⟩ = some a4 := by
  refine ⟨?_, ?_, ?_, ?_, ?_⟩ <;> (rw [cell_of_blk h]; rfl)
theorem cells3 {W : World} {b : Nat} {ty : TypeId} {fr : Nat × Nat} {a0 a1 a2 : Value} (h : W.heap[b]? = some (.cells #[a0, a1, a2] ty fr)) : W.cell? ⟨b, 0, none⟩ = some a0 ∧ W.cell? ⟨b, 1, none⟩ = some a1 ∧ W.cell? ⟨b, 2, none⟩ = some a2 := by
  refine ⟨?_, ?_, ?_⟩ <;> (rw [cell_of_blk h]; rfl)
def atsB (z : Int) : Bool := ats.contains z
theorem containsAtB (W : World) (g : Nat) (fr : Nat × Nat) (v : Int) (h : W.heap[g]? = some (.cells #[.int .i64 1, .int .i64 2, .int .i64 4, .int .i64 8, .int .i64 16, .int .i64 32] 62 fr)) :
    Calls Tryd.prog 74 #[.slice (some ⟨g, 0, none⟩) 6 6, .int .i64 v] W fun e w' => e = .returned (.bool (atsB v)) ∧ W = w' := containsAt_lit W g fr v h
theorem frozenOf {W : World} {b : Nat} {cs : Array Value} {T : TypeId} (h : W.heap[b]? = some (.cells cs T (0, 0))) : ∀ j, W.frozen? ⟨b, j, none⟩ = false := fun j => by simp [World.frozen?, h]
def hereB (L : Nat) (pc : Int) : Bool := decide (0 ≤ pc) && decide (pc < L)
def rightI (R : List Rg → Bool) (L : Nat) (caps : Int) (x : In) : Bool :=
  if x.op = 1 ∨ x.op = 6 then (x.out == 0) && (x.arg == 0) && (x.at_ == 0) && ((x.set.length : Int) == 0)
  else if x.op = 2 then hereB L x.out && !((x.set.length : Int) == 0) && R x.set && (x.arg == 0) && (x.at_ == 0)
  else if x.op = 3 then hereB L x.out && hereB L x.arg && (x.at_ == 0) && ((x.set.length : Int) == 0)
  else if x.op = 4 then hereB L x.out && !decide (x.arg < 2) && !decide (caps ≤ x.arg) && (x.at_ == 0) && ((x.set.length : Int) == 0)
  else if x.op = 5 then hereB L x.out && atsB x.at_ && (x.arg == 0) && ((x.set.length : Int) == 0)
  else false
set_option maxHeartbeats 400000 in
theorem here_any (w : World) (b0 : Nat) (A : Option Addr) (L c : Nat) (st cp pc : Int) (hb : w.heap[b0]? = some (.cells #[.slice A L c, .int .i64 st, .int .i64 cp] 28 (0, 0))) (hL : L ≤ 140737488351232) :
    Calls Tryd.prog 72 #[.int .i64 pc, .pointer (some ⟨b0, 0, none⟩)] w fun e w' => e = .returned (.bool (hereB L pc)) ∧ w = w' := by
  obtain ⟨g0, g1, g2⟩ := cells3 hb
  have hn := heap_lt hb
  clear hb
  have hh : hereB L pc = (decide (0 ≤ pc) && decide (pc < L)) := rfl
  have HH := Lib.hid hh
  clear hh
  generalize hereB L pc = r at *
  by_cases h0 : 0 ≤ pc
  · have d0 : decide (0 ≤ pc) = true := decide_eq_true h0
    have H0 := Lib.hid h0
    clear h0
    go_enter Tryd.func72, Tryd.ntmps72
    go_wp2_with fail
    go_ret
    exact ⟨ret_bool (by rw [HH.out]; simp [H0.out]), rfl⟩
  · have d0 : decide (0 ≤ pc) = false := decide_eq_false h0
    have H0 := Lib.hid h0
    clear h0
    go_enter Tryd.func72, Tryd.ntmps72
    go_wp2_with fail
    go_ret
    exact ⟨ret_bool (by rw [HH.out]; simp [d0]), rfl⟩
theorem heap_new4 (w : World) (o1 o2 o3 o4 : Obj) : ((((w.alloc o1).alloc o2).alloc o3).alloc o4).heap[w.heap.size + 1 + 1 + 1]? = some o4 := by
  have := World.alloc_heap_new (((w.alloc o1).alloc o2).alloc o3) o4; rwa [World.size_alloc, World.size_alloc, World.size_alloc] at this
theorem inArr_at {ok : Nat → Prop} {w : World} {A : Option Addr} {xs : List In} (h : Arr ok w 5 (InO ok w) A xs) (wr : World) (hmv : ∀ b, ok b → b < w.heap.size → wr.heap[b]? = w.heap[b]?) (i : Nat) (hi : i < xs.length) :
    ∃ ad B d, A = some ad ∧ ok ad.block ∧ ad.block < w.heap.size ∧ InO ok w xs[i] [.int .i64 xs[i].op, .int .i64 xs[i].out, .int .i64 xs[i].arg, .slice B xs[i].set.length d, .int .i64 xs[i].at_] ∧
      wr.cell? (ad.add (i * 5)) = some (.int .i64 xs[i].op) ∧ wr.cell? ⟨(ad.add (i * 5)).block, (ad.add (i * 5)).off + 1, none⟩ = some (.int .i64 xs[i].out) ∧
      wr.cell? ⟨(ad.add (i * 5)).block, (ad.add (i * 5)).off + 2, none⟩ = some (.int .i64 xs[i].arg) ∧ wr.cell? ⟨(ad.add (i * 5)).block, (ad.add (i * 5)).off + 3, none⟩ = some (.slice B xs[i].set.length d) ∧
      wr.cell? ⟨(ad.add (i * 5)).block, (ad.add (i * 5)).off + 4, none⟩ = some (.int .i64 xs[i].at_) := by
  obtain ⟨ad, cs, rfl, hok, hE, hl, hc0⟩ := h i _ (List.getElem?_eq_getElem hi)
  have hb : ad.block < w.heap.size := by
    have := World.block_lt_of_cell? w _ (hc0 0 _ (List.getElem?_eq_getElem (by omega)))
    rwa [add_block] at this
  have hc : ∀ j u, cs[j]? = some u → wr.cell? (ad.add (i * 5 + j)) = some u := fun j u hu => by
    rw [← hc0 j u hu]; exact World.cell?_of_block (by rw [add_block]; exact hmv _ hok hb)
  have hE0 := hE
  obtain ⟨B, d, rfl, _⟩ := hE
  refine ⟨ad, B, d, rfl, hok, hb, hE0, hc 0 _ rfl, ?_, ?_, ?_, ?_⟩
  · rw [← add_field _ _ 1 (by omega)]; exact hc 1 _ rfl
  · rw [← add_field _ _ 2 (by omega)]; exact hc 2 _ rfl
  · rw [← add_field _ _ 3 (by omega)]; exact hc 3 _ rfl
  · rw [← add_field _ _ 4 (by omega)]; exact hc 4 _ rfl
/-- Block b holds cells of type T. -/
def TyB (T : TypeId) (w : World) (b : Nat) : Prop := ∃ cs fr, w.heap[b]? = some (.cells cs T fr)
theorem TyB.move {T : TypeId} {w w' : World} {b : Nat} (h : TyB T w b) (hm : w'.heap[b]? = w.heap[b]?) : TyB T w' b := by obtain ⟨cs, fr, h⟩ := h; exact ⟨cs, fr, hm.trans h⟩
theorem TyB.lt {T : TypeId} {w : World} {b : Nat} (h : TyB T w b) : b < w.heap.size := by obtain ⟨cs, fr, h⟩ := h; exact heap_lt h
theorem TyB.ne {T T' : TypeId} {w : World} {b : Nat} {cs : Array Value} {fr : Nat × Nat} (h : TyB T w b) {b' : Nat} (h' : w.heap[b']? = some (.cells cs T' fr)) (hne : T ≠ T') : b ≠ b' := by
  rintro rfl
  obtain ⟨cs2, fr2, h⟩ := h
  rw [h] at h'
  injection h' with h'
  injection h' with _ h2
  exact hne h2
theorem own_ty {w : World} {B : Nat} {e : TypeId} {sz : Nat} {v : Value} {css : List (List Value)} (h : Owns w B e sz v css) {k : Nat} (hk : v.ownBlock = some k) : ∃ cs fr, w.heap[k]? = some (.cells cs e fr) := by
  rcases h.1.2 with ⟨rfl, _⟩ | ⟨g, cap, cur, rfl, _, hh, _⟩
  · simp [Value.ownBlock] at hk
  · have : g = k := by simpa [Value.ownBlock] using hk
    subst this
    exact ⟨_, _, hh⟩
theorem TyB.ne_own {T : TypeId} {w : World} {b B : Nat} {e : TypeId} {sz : Nat} {v : Value} {css : List (List Value)} (h : TyB T w b) (ho : Owns w B e sz v css) (hne : T ≠ e) : some b ≠ v.ownBlock := fun hk => by
  obtain ⟨cs, fr, hc⟩ := own_ty ho hk.symm
  exact h.ne hc hne rfl
/-- What lies below b, and what lies from b + m on and is not of type T, stays. -/
structure Kept (b m : Nat) (T : TypeId) (W W' : World) : Prop where
  os : W'.os = W.os
  tape : W'.tape = W.tape
  output : W'.output = W.output
  size : W.heap.size ≤ W'.heap.size
  block : ∀ k, k < W.heap.size → (k < b ∨ (b + m ≤ k ∧ ¬ TyB T W k)) → W'.heap[k]? = W.heap[k]?
theorem Kept.refl (b m : Nat) (T : TypeId) (W : World) : Kept b m T W W := ⟨rfl, rfl, rfl, Nat.le_refl _, fun _ _ _ => rfl⟩
theorem Kept.trans {b m : Nat} {T : TypeId} {A B C : World} (h : Kept b m T A B) (k : Kept b m T B C) : Kept b m T A C :=
  ⟨k.os.trans h.os, k.tape.trans h.tape, k.output.trans h.output, Nat.le_trans h.size k.size, fun x hx hc => by
    have h1 := h.block x hx hc
    exact (k.block x (Nat.lt_of_lt_of_le hx h.size) (hc.imp id fun hc => ⟨hc.1, fun ht => hc.2 (ht.move h1.symm)⟩)).trans h1⟩
theorem Kept.of_below {b m : Nat} {T : TypeId} {A B : World} (h : Below A.heap.size A B) : Kept b m T A B := ⟨h.os, h.tape, h.output, h.size, fun k hk _ => h.block k hk⟩
theorem Kept.below {b m : Nat} {T : TypeId} {A B : World} (h : Kept b m T A B) (hb : b ≤ A.heap.size) : Below b A B := ⟨h.os, h.tape, h.output, h.size, fun k hk => h.block k (by omega) (.inl hk)⟩
theorem Kept.alloc {b m : Nat} {T : TypeId} {A B : World} (h : Kept b m T A B) (o : Obj) : Kept b m T A (B.alloc o) := h.trans (.of_below (below_al (Below.refl _ _) o))
theorem Kept.set {b m : Nat} {T : TypeId} {A B : World} (h : Kept b m T A B) {a : Addr} (h0 : b ≤ a.block) (h1 : a.block < b + m) (v : Value) : Kept b m T A (B.setCell a v) :=
  h.trans ⟨rfl, rfl, rfl, by simp [World.setCell], fun k hk hc => Below.heap_setCell _ _ _ _ (by omega)⟩
theorem Kept.grown {b m : Nat} {T : TypeId} {A B C : World} (h : Kept b m T A B) {r : Option Nat} (hg : B.grownBy C r) (hr : ∀ k, r = some k → b ≤ k ∧ (k < b + m ∨ TyB T B k)) : Kept b m T A C :=
  h.trans ⟨hg.os, hg.tape, hg.output, hg.size, fun k hk hc => hg.block k hk (fun e => by
    obtain ⟨h1, h2⟩ := hr k e.symm
    rcases hc with hc | ⟨hc1, hc2⟩
    · omega
    · rcases h2 with h2 | h2
      · omega
      · exact hc2 h2)⟩
theorem Kept.app {b m B0 sz : Nat} {T : TypeId} {A B C : World} {v : Value} {css : List (List Value)} (hg : B.grownBy C v.ownBlock) (h : Kept b m T A B) (ho : Owns B B0 T sz v css) (hb : b ≤ B0) : Kept b m T A C :=
  h.grown hg (fun k e => ⟨Nat.le_trans hb (ho.lt k e).1, .inr (own_ty ho e)⟩)
/-- The instruction at a place, in any later world. -/
theorem ins_at {b : Nat} {w : World} {p : Pg} {ps : List Value} (h : PgC (fun k => k < b) w p ps) (hbs : b ≤ w.heap.size) (i : Nat) (hi : i < p.ins.length) :
    ∃ ad c B d, ps = [.slice (some ad) p.ins.length c, .int .i64 p.start, .int .i64 p.caps] ∧ p.ins.length ≤ c ∧ c ≤ maxLen ∧ p.ins[i].set.length ≤ d ∧ d ≤ maxLen ∧ ad.block < b ∧ ∀ wr, Below b w wr → Arr (fun k => k < b) wr 2 RgC B p.ins[i].set ∧
      wr.cell? (ad.add (i * 5)) = some (.int .i64 p.ins[i].op) ∧ wr.cell? ⟨(ad.add (i * 5)).block, (ad.add (i * 5)).off + 1, none⟩ = some (.int .i64 p.ins[i].out) ∧
      wr.cell? ⟨(ad.add (i * 5)).block, (ad.add (i * 5)).off + 2, none⟩ = some (.int .i64 p.ins[i].arg) ∧ wr.cell? ⟨(ad.add (i * 5)).block, (ad.add (i * 5)).off + 3, none⟩ = some (.slice B p.ins[i].set.length d) ∧
      wr.cell? ⟨(ad.add (i * 5)).block, (ad.add (i * 5)).off + 4, none⟩ = some (.int .i64 p.ins[i].at_) := by
  obtain ⟨A, c, rfl, h1, h2, h3⟩ := h
  obtain ⟨ad, B, d, rfl, hok, hlt, ⟨B', d', he, hd1, hd2, hs⟩, k0, k1, k2, k3, k4⟩ := inArr_at h3 w (fun _ _ _ => rfl) i hi
  simp only [List.cons.injEq, Value.slice.injEq, and_true, true_and] at he
  obtain ⟨rfl, rfl⟩ := he
  have hbk : (ad.add (i * 5)).block = ad.block := add_block _ _
  refine ⟨ad, c, B, d, rfl, h1, h2, hd1, hd2, hok, fun wr hw => ⟨hs.move (fun k hk _ => ⟨hw.block k hk, hk⟩) (by omega), ?_⟩⟩
  have hm : wr.heap[ad.block]? = w.heap[ad.block]? := hw.block _ hok
  refine ⟨?_, ?_, ?_, ?_, ?_⟩
  · rw [← k0]; exact World.cell?_of_block (by rw [hbk]; exact hm)
  · rw [← k1]; exact World.cell?_of_block (by show wr.heap[(ad.add (i * 5)).block]? = _; rw [hbk]; exact hm)
  · rw [← k2]; exact World.cell?_of_block (by show wr.heap[(ad.add (i * 5)).block]? = _; rw [hbk]; exact hm)
  · rw [← k3]; exact World.cell?_of_block (by show wr.heap[(ad.add (i * 5)).block]? = _; rw [hbk]; exact hm)
  · rw [← k4]; exact World.cell?_of_block (by show wr.heap[(ad.add (i * 5)).block]? = _; rw [hbk]; exact hm)
theorem heap_newX {W : World} {o : Obj} {n : Nat} (h : n = W.heap.size) : (W.alloc o).heap[n]? = some o := by subst h; exact World.alloc_heap_new _ _
theorem grown_ne0 {w w' : World} {b k : Nat} (hg : w.grownBy w' (some b)) (hk : k < w.heap.size) (hne : k ≠ b) : w'.heap[k]? = w.heap[k]? :=
  hg.block k hk (fun e => by cases e; exact hne rfl)
theorem heap_set0 {W : World} {b : Nat} {cs : Array Value} {ty : TypeId} {fr : Nat × Nat} (h : W.heap[b]? = some (.cells cs ty fr)) (j : Nat) (v : Value) : (W.setCell ⟨b, j, none⟩ v).heap[b]? = some (.cells (cs.setIfInBounds j v) ty fr) := by
  obtain ⟨hlt, hk⟩ := Array.getElem?_eq_some_iff.1 h
  show (W.heap.modify b _)[b]? = _
  rw [Array.getElem?_eq_getElem (by rw [Array.size_modify]; exact hlt), Array.getElem_modify_self, hk]
  rfl
theorem infoI : (Tryd.prog.info? 3).map (fun i => (i.zero, i.size, i.bytes)) = some (some (.int .i64 0), 1, 8) := by kernel_rfl
def i64C (x : Int) : List Value := [.int .i64 x]
theorem one_i64 (x : Int) : ∀ u ∈ [Value.int .i64 x], u.oneCell' = true := fun u hu => by rw [List.mem_singleton.1 hu]; rfl
theorem set_ne0 (W : World) {a : Addr} (v : Value) {k : Nat} (h : k ≠ a.block) : (W.setCell a v).heap[k]? = W.heap[k]? := Below.heap_setCell _ _ _ _ h
theorem grown_set0 (W : World) (b j : Nat) (v : Value) : W.grownBy (W.setCell ⟨b, j, none⟩ v) (some b) := ⟨rfl, rfl, rfl, by simp [World.setCell], fun k _ hk => Below.heap_setCell _ _ _ _ (fun e => hk (by rw [e]))⟩
theorem owns_grown0 {W W' : World} {B r : Nat} {e : TypeId} {sz : Nat} {v : Value} {css : List (List Value)} (h : Owns W B e sz v css) (hg : W.grownBy W' (some r)) (hr : r < B) : Owns W' B e sz v css := by
  refine h.kept hg ?_
  cases hv : v.ownBlock with
  | none => exact .inl rfl
  | some g => exact .inr fun e => by cases e; have := (h.lt _ hv).1; omega
theorem owns_lit (w : World) (base : Nat) (hb : base ≤ w.heap.size) (x : Int) : Owns (w.alloc (.cells #[.int .i64 x] 3)) base 3 1 (.slice (some ⟨w.heap.size, 0, none⟩) 1 1) [i64C x] :=
  ⟨⟨rfl, .inr ⟨w.heap.size, 1, #[.int .i64 x], rfl, hb, World.alloc_heap_new _ _, Nat.le_refl _, by decide, rfl, rfl⟩⟩, fun c hc => by obtain rfl := List.mem_singleton.1 hc; rfl⟩
theorem ownI64_arr0 {w : World} {base : Nat} {A : Option Addr} {n cap : Nat} {xs : List Int} (h : Owns w base 3 1 (.slice A n cap) (xs.map i64C)) : Arr (fun k => base ≤ k) w 1 (IntC .i64) A xs := by
  have hl := h.lt
  refine Owns.arr h (by simp) (fun i x cs hx hc => ?_) (fun a hA => ?_)
  · rw [List.getElem?_map, hx] at hc; simp at hc; subst hc; rfl
  · subst hA; exact (hl a.block rfl).1
end Go.Proofs.YthclpabmbhpohaaDoor
namespace Go.Proofs.YthclpabmbhpohaaDoor
open Go.RowKit
set_option linter.unusedVariables false
theorem flatten_back {sz : Nat} : ∀ {css : List (List Value)} (h : ∀ c ∈ css, c.length = sz) {j : Nat} {u : Value}, css.flatten[j]? = some u → ∃ i c r, css[i]? = some c ∧ c[r]? = some u ∧ j = i * sz + r
  | [], _, j, u, h => by simp at h
  | x :: css, h, j, u, hj => by
    have h0 := h x (by simp)
    rw [List.flatten_cons] at hj
    rcases Nat.lt_or_ge j x.length with hl | hl
    · rw [List.getElem?_append_left hl] at hj
      exact ⟨0, x, j, rfl, hj, by omega⟩
    · rw [List.getElem?_append_right hl] at hj
      obtain ⟨i, c, r, hi, hr, he⟩ := flatten_back (fun c hc => h c (by simp [hc])) hj
      exact ⟨i + 1, c, r, by simpa using hi, hr, by rw [Nat.add_mul]; omega⟩
theorem Arr.css {α : Type} {ok : Nat → Prop} {w : World} {sz : Nat} {E : α → List Value → Prop} {A : Option Addr} {xs : List α} (h : Arr ok w sz E A xs) :
    ∃ css : List (List Value), css.length = xs.length ∧ (∀ (i : Nat) (x : α) (c : List Value), xs[i]? = some x → css[i]? = some c → E x c) ∧ (∀ c ∈ css, c.length = sz) ∧ ∀ ad, A = some ad → ∀ j u, css.flatten[j]? = some u → w.cell? (ad.add j) = some u := by
  have h1 : ∀ i : Nat, ∃ cs : List Value, ∀ x, xs[i]? = some x → E x cs ∧ cs.length = sz ∧ ∀ ad, A = some ad → ∀ j u, cs[j]? = some u → w.cell? (ad.add (i * sz + j)) = some u := fun i => by
    cases hx : xs[i]? with
    | none => exact ⟨[], fun x hx => by cases hx⟩
    | some x =>
      obtain ⟨ad, cs, rfl, _, hE, hl, hc⟩ := h i x hx
      exact ⟨cs, fun y hy => by cases hy; exact ⟨hE, hl, fun ad' e => by cases e; exact hc⟩⟩
  obtain ⟨f, hf⟩ := Classical.axiomOfChoice h1
  have hget : ∀ (i : Nat) (c : List Value), ((List.range xs.length).map f)[i]? = some c → i < xs.length ∧ c = f i := fun i c hc => by
    rw [List.getElem?_map] at hc
    rcases Nat.lt_or_ge i xs.length with hi | hi
    · rw [List.getElem?_range hi] at hc; exact ⟨hi, by simpa [eq_comm] using hc⟩
    · rw [List.getElem?_eq_none (by simpa using hi)] at hc; simp at hc
  have hlen : ∀ c ∈ (List.range xs.length).map f, c.length = sz := fun c hc => by
    obtain ⟨i, hi, rfl⟩ := List.mem_map.1 hc
    have hi := List.mem_range.1 hi
    exact (hf i _ (List.getElem?_eq_getElem hi)).2.1
  refine ⟨(List.range xs.length).map f, by simp, fun i x c hx hc => ?_, hlen, fun ad hA j u hu => ?_⟩
  · obtain ⟨_, rfl⟩ := hget i c hc
    exact (hf i x hx).1
  · obtain ⟨i, c, r, hi, hr, rfl⟩ := flatten_back hlen hu
    obtain ⟨hlt, rfl⟩ := hget i c hi
    exact (hf i _ (List.getElem?_eq_getElem hlt)).2.2 ad hA r u hr
def ClonePost {α : Type} (E : α → List Value → Prop) (e : TypeId) (sz : Nat) (xs : List α) (w : World) (en : Ending) (w' : World) : Prop :=
  ∃ v' css, en = .returned v' ∧ css.length = xs.length ∧ (∀ (i : Nat) (x : α) (c : List Value), xs[i]? = some x → css[i]? = some c → E x c) ∧ Owns w' w.heap.size e sz v' css ∧ Below w.heap.size w w'
theorem infoCByte : (Tryd.prog.info? 5).map (fun i => (i.zero, i.size, i.bytes)) = some (some (.int .u8 0), 1, 1) := by kernel_rfl
set_option maxRecDepth 100000 in
set_option maxHeartbeats 1000000 in
theorem cloneByte (α : Type) (E : α → List Value → Prop) (hE1 : ∀ x c, E x c → ∀ u ∈ c, u.oneCell' = true) (ok : Nat → Prop) (w : World) (A : Option Addr) (c : Nat) (xs : List α) (h : Arr ok w 1 E A xs) (hN : xs.length * 1 ≤ 140737488355328) :
    Calls Tryd.prog 44 #[.slice A xs.length c] w (ClonePost E 5 1 xs w) := by
  obtain ⟨css, hl, hE, hs, hc⟩ := h.css
  have HE := Lib.hid hE
  have hxs : A = none → xs = [] := fun hA => by
    cases xs with
    | nil => rfl
    | cons x xs => obtain ⟨ad, _, hA', _⟩ := h 0 x rfl; rw [hA] at hA'; cases hA'
  clear hE h
  cases A with
  | none =>
    have hnil := fun W => Go.Lib.run_eql_slice_nil (P := Tryd.prog) W 29 5 none 0 c 0 0 Tryd.underlying29
    obtain rfl := hxs rfl
    clear hxs
    obtain rfl : css = [] := List.eq_nil_of_length_eq_zero hl
    clear hl hs hc
    go_enter Tryd.func44, Tryd.ntmps44
    go_wp2_with fail
    go_ret
    exact ⟨_, [], rfl, rfl, HE.out, Owns.nil _ _ _ _, Below.refl _ _⟩
  | some ad =>
    have hnil := fun W => Go.Lib.run_eql_slice_nil (P := Tryd.prog) W 29 5 (some ad) xs.length c 0 0 Tryd.underlying29
    obtain ⟨i0, hi, hz0, hz1, hz2⟩ := info_parts infoCByte
    have HL := Lib.hid hl
    have HS := Lib.hid hs
    have HC := Lib.hid hc
    have hfl : css.flatten.length = xs.length * 1 := by
      rw [← hl]
      clear hl hc HE HL HS HC
      induction css with
      | nil => simp
      | cons c css ih => rw [List.flatten_cons, List.length_append, ih (fun c hc => hs c (by simp [hc])), hs c (by simp), List.length_cons, Nat.add_mul]; omega
    have HFL := Lib.hid hfl
    have hmax : xs.length ≤ maxLen := by unfold maxLen; omega
    have hone : ∀ u ∈ css.flatten, u.oneCell' = true := fun u hu => by
      obtain ⟨c', hc', hu'⟩ := List.mem_flatten.1 hu
      obtain ⟨k, hk, rfl⟩ := List.getElem_of_mem hc'
      exact hE1 _ _ (HE.out k _ _ (List.getElem?_eq_getElem (show k < xs.length by omega)) (List.getElem?_eq_getElem hk)) u hu'
    clear hl hs hc hxs hfl
    go_enter Tryd.func44, Tryd.ntmps44
    go_wp2_with (at_builtin; refine wpList_append_own _ rfl _ _ 29 rfl w.heap.size 5 i0 (.int .u8 0) 1 1 Tryd.underlying29 hi hz0 hz1 hz2 rfl (by decide) _ 0 [] rfl (World.ownsRow_made w #[] 0 (Nat.le_refl _) (Nat.zero_le _) rfl) ad xs.length c css.flatten rfl HFL.out ?c1 hone (by omega) (by omega) (by simp) ?_)
    case c1 =>
      intro j u hu
      have h1 := HC.out ad rfl j u hu
      rw [← h1]; exact World.cell?_alloc_lt _ _ _ (World.block_lt_of_cell? w _ h1)
    · intro v' w1 hown' hgrow _
      have hb1 : Below w.heap.size w w1 := (below_al (Below.refl _ _) _).grown hgrow (by simp) (fun k e => by simp [Value.ownBlock] at e; omega)
      have hown : Owns w1 w.heap.size 5 1 v' css := ⟨by rw [HL.out]; simpa using hown', HS.out⟩
      clear hown' hgrow
      have HH := Lib.hid (And.intro hown hb1)
      clear hown hb1
      go_wp2_with fail
      go_ret
      exact ⟨v', css, rfl, HL.out, HE.out, HH.out.1, HH.out.2⟩
theorem infoCInt : (Tryd.prog.info? 3).map (fun i => (i.zero, i.size, i.bytes)) = some (some (.int .i64 0), 1, 8) := by kernel_rfl
set_option maxRecDepth 100000 in
set_option maxHeartbeats 1000000 in
theorem cloneInt (α : Type) (E : α → List Value → Prop) (hE1 : ∀ x c, E x c → ∀ u ∈ c, u.oneCell' = true) (ok : Nat → Prop) (w : World) (A : Option Addr) (c : Nat) (xs : List α) (h : Arr ok w 1 E A xs) (hN : xs.length * 8 ≤ 140737488355328) :
    Calls Tryd.prog 30 #[.slice A xs.length c] w (ClonePost E 3 1 xs w) := by
  obtain ⟨css, hl, hE, hs, hc⟩ := h.css
  have HE := Lib.hid hE
  have hxs : A = none → xs = [] := fun hA => by
    cases xs with
    | nil => rfl
    | cons x xs => obtain ⟨ad, _, hA', _⟩ := h 0 x rfl; rw [hA] at hA'; cases hA'
  clear hE h
  cases A with
  | none =>
    have hnil := fun W => Go.Lib.run_eql_slice_nil (P := Tryd.prog) W 35 3 none 0 c 0 0 Tryd.underlying35
    obtain rfl := hxs rfl
    clear hxs
    obtain rfl : css = [] := List.eq_nil_of_length_eq_zero hl
    clear hl hs hc
    go_enter Tryd.func30, Tryd.ntmps30
    go_wp2_with fail
    go_ret
    exact ⟨_, [], rfl, rfl, HE.out, Owns.nil _ _ _ _, Below.refl _ _⟩
  | some ad =>
    have hnil := fun W => Go.Lib.run_eql_slice_nil (P := Tryd.prog) W 35 3 (some ad) xs.length c 0 0 Tryd.underlying35
    obtain ⟨i0, hi, hz0, hz1, hz2⟩ := info_parts infoCInt
    have HL := Lib.hid hl
    have HS := Lib.hid hs
    have HC := Lib.hid hc
    have hfl : css.flatten.length = xs.length * 1 := by
      rw [← hl]
      clear hl hc HE HL HS HC
      induction css with
      | nil => simp
      | cons c css ih => rw [List.flatten_cons, List.length_append, ih (fun c hc => hs c (by simp [hc])), hs c (by simp), List.length_cons, Nat.add_mul]; omega
    have HFL := Lib.hid hfl
    have hmax : xs.length ≤ maxLen := by unfold maxLen; omega
    have hone : ∀ u ∈ css.flatten, u.oneCell' = true := fun u hu => by
      obtain ⟨c', hc', hu'⟩ := List.mem_flatten.1 hu
      obtain ⟨k, hk, rfl⟩ := List.getElem_of_mem hc'
      exact hE1 _ _ (HE.out k _ _ (List.getElem?_eq_getElem (show k < xs.length by omega)) (List.getElem?_eq_getElem hk)) u hu'
    clear hl hs hc hxs hfl
    go_enter Tryd.func30, Tryd.ntmps30
    go_wp2_with (at_builtin; refine wpList_append_own _ rfl _ _ 35 rfl w.heap.size 3 i0 (.int .i64 0) 1 8 Tryd.underlying35 hi hz0 hz1 hz2 rfl (by decide) _ 0 [] rfl (World.ownsRow_made w #[] 0 (Nat.le_refl _) (Nat.zero_le _) rfl) ad xs.length c css.flatten rfl HFL.out ?c1 hone (by omega) (by omega) (by simp) ?_)
    case c1 =>
      intro j u hu
      have h1 := HC.out ad rfl j u hu
      rw [← h1]; exact World.cell?_alloc_lt _ _ _ (World.block_lt_of_cell? w _ h1)
    · intro v' w1 hown' hgrow _
      have hb1 : Below w.heap.size w w1 := (below_al (Below.refl _ _) _).grown hgrow (by simp) (fun k e => by simp [Value.ownBlock] at e; omega)
      have hown : Owns w1 w.heap.size 3 1 v' css := ⟨by rw [HL.out]; simpa using hown', HS.out⟩
      clear hown' hgrow
      have HH := Lib.hid (And.intro hown hb1)
      clear hown hb1
      go_wp2_with fail
      go_ret
      exact ⟨v', css, rfl, HL.out, HE.out, HH.out.1, HH.out.2⟩
end Go.Proofs.YthclpabmbhpohaaDoor
namespace Go.Proofs.YthclpabmbhpohaaDoor
open Go.RowKit
set_option linter.unusedVariables false
/-- slices.Clone of whole numbers, and a store into it. -/
def CloneI (l : List Int) (w : World) (e : Ending) (w' : World) : Prop := ∃ g c, e = .returned (.slice (some ⟨g, 0, none⟩) l.length c) ∧ Owns w' w.heap.size 3 1 (.slice (some ⟨g, 0, none⟩) l.length c) (l.map i64C) ∧ Below w.heap.size w w'
theorem map_eq_of {l : List Int} {css : List (List Value)} (hl : css.length = l.length) (h : ∀ (i : Nat) (x : Int) (c : List Value), l[i]? = some x → css[i]? = some c → IntC .i64 x c) : css = l.map i64C := by
  apply List.ext_getElem?
  intro i
  rw [List.getElem?_map]
  cases hx : l[i]? with
  | none => rw [List.getElem?_eq_none_iff] at hx; simp only [Option.map_none]; rw [List.getElem?_eq_none_iff]; omega
  | some x =>
    have hi : i < css.length := by rw [hl]; exact (List.getElem?_eq_some_iff.1 hx).1
    have := h i x css[i] hx (List.getElem?_eq_getElem hi)
    rw [List.getElem?_eq_getElem hi]
    exact congrArg some this
theorem cloneI_any (ok : Nat → Prop) (w : World) (A : Option Addr) (c : Nat) (l : List Int) (h : Arr ok w 1 (IntC .i64) A l) (hN : l.length ≤ 1000000) (h0 : 0 < l.length) :
    Calls Tryd.prog 30 #[.slice A l.length c] w (CloneI l w) := by
  refine (cloneInt Int (IntC .i64) (fun x c h u hu => by rw [h] at hu; simp at hu; subst hu; rfl) ok w A c l h (by omega)).mono ?_
  rintro e w' ⟨v', css, rfl, hl, hE, hown, hb⟩
  obtain rfl := map_eq_of hl hE
  rcases hown.1.2 with ⟨rfl, h9⟩ | ⟨g, cap, cur, rfl, _⟩
  · exfalso
    obtain ⟨A3, c3, he, _⟩ := hown.shape
    simp only [Value.slice.injEq, List.length_map] at he
    omega
  · rw [List.length_map] at hown ⊢
    exact ⟨g, cap, rfl, hown, hb⟩
theorem owns_put {W : World} {B g c : Nat} {l : List Int} (h : Owns W B 3 1 (.slice (some ⟨g, 0, none⟩) l.length c) (l.map i64C)) (j : Nat) (x : Int) : Owns (W.setCell ⟨g, j, none⟩ (.int .i64 x)) B 3 1 (.slice (some ⟨g, 0, none⟩) l.length c) ((l.set j x).map i64C) := by
  have h1 := h.1
  rw [List.length_map] at h1
  have hst := (World.ownsRow.stored h1 j (.int .i64 x)).1
  have e : ∀ (l : List Int) (j : Nat), (l.map i64C).flatten.set j (.int .i64 x) = ((l.set j x).map i64C).flatten := by
    intro l
    induction l with
    | nil => intro j; rfl
    | cons y l ih =>
      intro j
      cases j with
      | zero => rfl
      | succ j => simp only [List.map_cons, List.flatten_cons, i64C, List.set_cons_succ, List.cons_append, List.nil_append, List.cons.injEq, true_and]; exact ih j
  rw [e] at hst
  refine ⟨by simpa using hst, fun c hc => ?_⟩
  obtain ⟨y, _, rfl⟩ := List.mem_map.1 hc
  rfl
theorem own_blk {w : World} {B : Nat} {e : TypeId} {sz : Nat} {v : Value} {css : List (List Value)} (h : Owns w B e sz v css) {g : Nat} (hv : v.ownBlock = some g) : ∃ cur, w.heap[g]? = some (.cells cur e (0, 0)) := by
  rcases h.1.2 with ⟨rfl, _⟩ | ⟨g', cap, cur, rfl, _, hh, _⟩
  · simp [Value.ownBlock] at hv
  · have : g' = g := by simpa [Value.ownBlock] using hv
    subst this
    exact ⟨_, hh⟩
theorem flat_i64 : ∀ l : List Int, (l.map i64C).flatten = l.map (Value.int .i64)
  | [] => rfl
  | x :: l => by rw [List.map_cons, List.flatten_cons, List.map_cons, flat_i64 l]; rfl
end Go.Proofs.YthclpabmbhpohaaDoor
namespace Go.Proofs.YthclpabmbhpohaaDoor
open Go.RowKit
set_option linter.unusedVariables false
/-- A struct that lies alone in a block is stored whole. -/
theorem wp_storeB {P : Program} {o : Oper} {a : Act} {Q : Exit → Act → World → Prop} {K : Act → World → Prop} {w : World} (ty : TypeId) (x y : Operand) (ho : o.op = .store ty x y)
    (b : Nat) (cells old : List Value) (T : TypeId) (hx : a.eval x = .pointer (some ⟨b, 0, none⟩)) (hy : a.eval y = .agg cells.toArray) (hb : w.heap[b]? = some (.cells old.toArray T (0, 0))) (hsz : old.length = cells.length)
    (hi : (P.info? ty).map (·.size) = some cells.length) (h1 : ∀ u ∈ cells, u.oneCell' = true)
    (h : ∀ w', w'.heap[b]? = some (.cells cells.toArray T (0, 0)) → w.grownBy w' (some b) → w'.heap.size = w.heap.size → K (a.put o.dst undef) w') : o.wp P a w K Q := by
  have hc : ∀ j, j < cells.length → (w.cell? ⟨b, 0 + j, none⟩).isSome = true := fun j hj => by
    rw [Nat.zero_add, cell_of_blk hb]
    simp [hsz, hj]
  refine wp_store_mid ty x y ho b 0 cells.toArray hx hy (fun j hj => ⟨hc j (by simpa using hj), by simp [World.frozen?, hb]⟩) (by simpa using hi) (by simpa using h1) ?_
  have hcell : ∀ j (hj : j < cells.length), (w.setCells b 0 cells.toArray.toList).cell? ⟨b, 0 + j, none⟩ = some cells[j] := fun j hj => World.cell?_setCells_in b cells 0 w hc j hj
  have hmod : ∀ (vs : List Value) (o : Nat) (w : World), (w.setCells b o vs).heap.size = w.heap.size ∧ (∀ k, k ≠ b → (w.setCells b o vs).heap[k]? = w.heap[k]?) ∧ (w.setCells b o vs).os = w.os ∧ (w.setCells b o vs).tape = w.tape ∧ (w.setCells b o vs).output = w.output ∧
      (∀ cs T, w.heap[b]? = some (.cells cs T (0, 0)) → ∃ cs', (w.setCells b o vs).heap[b]? = some (.cells cs' T (0, 0)) ∧ cs'.size = cs.size) := by
    intro vs
    induction vs with
    | nil => exact fun o w => ⟨rfl, fun _ _ => rfl, rfl, rfl, rfl, fun cs T h => ⟨cs, h, rfl⟩⟩
    | cons v vs ih =>
      intro o w
      obtain ⟨i1, i2, i3, i4, i5, i6⟩ := ih (o + 1) (w.setCell ⟨b, o, none⟩ v)
      have hs : (w.setCell ⟨b, o, none⟩ v).heap.size = w.heap.size := by simp [World.setCell]
      refine ⟨i1.trans hs, fun k hk => (i2 k hk).trans (Below.heap_setCell w _ v k hk), i3, i4, i5, fun cs T hh => ?_⟩
      have h9 := heap_setCell_same w b o cs T v hh
      obtain ⟨cs', k1, k2⟩ := i6 _ _ h9
      exact ⟨cs', k1, by rw [k2]; simp⟩
  obtain ⟨m1, m2, m3, m4, m5, m6⟩ := hmod cells 0 w
  obtain ⟨cs', k1, k2⟩ := m6 _ _ hb
  have e : cs' = cells.toArray := by
    apply Array.ext
    · rw [k2]; simpa using hsz
    · intro j h1 h2
      have hj : j < cells.length := by simpa using h2
      have h3 := hcell j hj
      rw [Nat.zero_add, cell_of_blk (by simpa using k1)] at h3
      simpa [h1] using h3
  rw [e] at k1
  exact h _ k1 ⟨m3, m4, m5, Nat.le_of_eq m1.symm, fun k hk hne => m2 k (fun e => hne (by rw [e]))⟩ m1
/-- copy, of elements of sz cells. -/
theorem run_copy_rowS {P : Program} (w : World) (dT sT ty elem : TypeId) (sz g o dLen dCap : Nat) (a : Addr) (sLen sCap : Nat) (cur : Array Value) (t : TypeId) (cs : List Value)
    (hu : P.underlying dT = some (.slice elem)) (hs : (P.info? elem).map (·.size) = some sz)
    (hg : w.heap[g]? = some (.cells cur t (0, 0))) (hn : cs.length = Nat.min sLen dLen * sz)
    (hsrc : ∀ j v, cs[j]? = some v → w.cell? (a.add j) = some v) (hfit : o + cs.length ≤ cur.size) (h1 : ∀ v ∈ cs, v.oneCell' = true) :
    (Builtin.copy_ #[dT, sT] ty #[.slice (some ⟨g, o, none⟩) dLen dCap, .slice (some a) sLen sCap]).run P w =
      .ok (goInt (Nat.min sLen dLen)) (w.setRow g (cur.toList.take o ++ cs ++ cur.toList.drop (o + cs.length)).toArray) := by
  have hl := run_loadCells_list (P := P) w a cs hsrc
  have hst := run_storeCells_at P g o t cs 0 cur w hg (by simpa using hfit) h1
  cases hq : P.info? elem with
  | none => simp [hq] at hs
  | some i =>
    have hi : i.size = sz := by simpa [hq] using hs
    simp [Builtin.copy_, run_underlying hu, Builtin.lenOf, Builtin.firstCells, sizeOf, typeInfo, hq, hi, ← hn, hl, hst]
theorem run_copy_noneS {P : Program} (w : World) (dT sT ty elem : TypeId) (sz : Nat) (d a : Option Addr) (dLen dCap sLen sCap : Nat) (hu : P.underlying dT = some (.slice elem)) (hs : (P.info? elem).map (·.size) = some sz) (hn : Nat.min sLen dLen = 0) :
    (Builtin.copy_ #[dT, sT] ty #[.slice d dLen dCap, .slice a sLen sCap]).run P w = .ok (goInt 0) w := by
  cases hq : P.info? elem with
  | none => simp [hq] at hs
  | some i =>
    have hl : ∀ (x : Addr), (loadCells x 0).run P w = .ok #[] w := fun x => by simpa using run_loadCells_list (P := P) w x [] (by simp)
    cases d <;> cases a <;> simp [Builtin.copy_, run_underlying hu, Builtin.lenOf, Builtin.firstCells, sizeOf, typeInfo, hq, hn, storeCells, hl]
/-- Into a block that is known whole; the world behind it is a letter. -/
theorem run_copy_any {P : Program} (w : World) (dT sT ty elem : TypeId) (sz : Nat) (hu : P.underlying dT = some (.slice elem)) (hs : (P.info? elem).map (·.size) = some sz) (dp sp : Option Addr) (dLen dCap sLen sCap : Nat)
    (g off : Nat) (cur : List Value) (t : TypeId) (hg : w.heap[g]? = some (.cells cur.toArray t (0, 0))) (cs : List Value) (hn : cs.length = Nat.min sLen dLen * sz)
    (hpos : 0 < cs.length → dp = some ⟨g, off, none⟩ ∧ ∃ ad, sp = some ad ∧ ∀ j v, cs[j]? = some v → w.cell? (ad.add j) = some v) (hsz : 0 < sz)
    (hfit : off + cs.length ≤ cur.length) (h1 : ∀ v ∈ cs, v.oneCell' = true) :
    ∃ w', (Builtin.copy_ #[dT, sT] ty #[.slice dp dLen dCap, .slice sp sLen sCap]).run P w = .ok (goInt (Nat.min sLen dLen)) w' ∧ w'.heap[g]? = some (.cells (splice cur off cs).toArray t (0, 0)) ∧ w.grownBy w' (some g) ∧ w'.heap.size = w.heap.size := by
  by_cases h0 : cs.length = 0
  · have hm : Nat.min sLen dLen = 0 := by
      rw [h0] at hn
      rcases Nat.mul_eq_zero.1 hn.symm with h | h
      · exact h
      · omega
    obtain rfl : cs = [] := List.eq_nil_of_length_eq_zero h0
    refine ⟨w, by rw [hm]; exact run_copy_noneS w dT sT ty elem sz dp sp dLen dCap sLen sCap hu hs hm, by simpa [splice] using hg, ⟨rfl, rfl, rfl, Nat.le_refl _, fun _ _ _ => rfl⟩, rfl⟩
  · obtain ⟨rfl, ad, rfl, hsrc⟩ := hpos (by omega)
    refine ⟨_, run_copy_rowS w dT sT ty elem sz g off dLen dCap ad sLen sCap cur.toArray t cs hu hs hg hn hsrc (by simpa using hfit) h1, ?_, ?_, by simp [World.setRow]⟩
    · have := setRow_heap w g cur.toArray (cur.toArray.toList.take off ++ cs ++ cur.toArray.toList.drop (off + cs.length)).toArray t (0, 0) hg
      simpa [splice] using this
    · exact ⟨rfl, rfl, rfl, by simp [World.setRow], fun k hk hne => setRow_other w g k _ (fun e => hne (by rw [e]))⟩
theorem wpList_copyS {P : Program} {ops : Array Oper} {rest : List Oper} {o : Oper} {a : Act} {Q : Exit → Act → World → Prop} {w : World} (hgd : o.guard = none) (d s : Operand) (dT sT : TypeId)
    (ho : o.op = .call { callee := .builtin .copy, args := #[d, s], argTypes := #[dT, sT] }) (elem : TypeId) (sz : Nat) (hu : P.underlying dT = some (.slice elem)) (hsi : (P.info? elem).map (·.size) = some sz)
    (dp sp : Option Addr) (dLen dCap sLen sCap : Nat) (hd : a.eval d = .slice dp dLen dCap) (hs : a.eval s = .slice sp sLen sCap)
    (g off : Nat) (cur : List Value) (t : TypeId) (hg : w.heap[g]? = some (.cells cur.toArray t (0, 0))) (cs : List Value) (hn : cs.length = Nat.min sLen dLen * sz)
    (hpos : 0 < cs.length → dp = some ⟨g, off, none⟩ ∧ ∃ ad, sp = some ad ∧ ∀ j v, cs[j]? = some v → w.cell? (ad.add j) = some v) (hsz : 0 < sz)
    (hfit : off + cs.length ≤ cur.length) (h1 : ∀ v ∈ cs, v.oneCell' = true) (m : Nat) (hm : Nat.min sLen dLen = m)
    (h : ∀ w', Hid (w'.heap[g]? = some (.cells (splice cur off cs).toArray t (0, 0))) → w.grownBy w' (some g) → w'.heap.size = w.heap.size → wpList P ops Q rest (a.put o.dst (.int .i64 m)) w') : wpList P ops Q (o :: rest) a w := by
  subst hm
  refine wpList_plain hgd fun K hK => ?_
  obtain ⟨w', hr, k1, k2, k3⟩ := run_copy_any (P := P) w dT sT o.type elem sz hu hsi dp sp dLen dCap sLen sCap g off cur t hg cs hn hpos hsz hfit h1
  unfold Oper.wp execOp
  simp only [ho, resolve, invoke, builtin, Sem.run_bind, Sem.run_pure, Result.andThen_ok, List.map_toArray, List.map_cons, List.map_nil, hs, hd, hr]
  exact hK _ _ (h w' (Lib.hid k1) k2 k3)
theorem step_copyS {P : Program} {ops : Array Oper} {o : Oper} {a : Act} {w : World} {K : Act → World → Prop} {Q : Exit → Act → World → Prop} {E : Prop} (hgd : o.guard = none) (d s : Operand) (dT sT : TypeId)
    (ho : o.op = .call { callee := .builtin .copy, args := #[d, s], argTypes := #[dT, sT] }) (elem : TypeId) (sz : Nat) (hu : P.underlying dT = some (.slice elem)) (hsi : (P.info? elem).map (·.size) = some sz)
    (dp sp : Option Addr) (dLen dCap sLen sCap : Nat) (hd : a.eval d = .slice dp dLen dCap) (hs : a.eval s = .slice sp sLen sCap)
    (g off : Nat) (cur : List Value) (t : TypeId) (hg : w.heap[g]? = some (.cells cur.toArray t (0, 0))) (cs : List Value) (hn : cs.length = Nat.min sLen dLen * sz)
    (hpos : 0 < cs.length → dp = some ⟨g, off, none⟩ ∧ ∃ ad, sp = some ad ∧ ∀ j v, cs[j]? = some v → w.cell? (ad.add j) = some v) (hsz : 0 < sz)
    (hfit : off + cs.length ≤ cur.length) (h1 : ∀ v ∈ cs, v.oneCell' = true) (m : Nat) (hm : Nat.min sLen dLen = m)
    (h : ∀ w', Hid (w'.heap[g]? = some (.cells (splice cur off cs).toArray t (0, 0))) → w.grownBy w' (some g) → w'.heap.size = w.heap.size → K (a.put o.dst (.int .i64 m)) w') :
    if Region.wanted o (yielded ops a.tmps) = true then Oper.wp P o a w K Q else E := by
  subst hm
  have hw : Region.wanted o (yielded ops a.tmps) = true := by simp [Region.wanted, hgd]
  rw [if_pos hw]
  obtain ⟨w', hr, k1, k2, k3⟩ := run_copy_any (P := P) w dT sT o.type elem sz hu hsi dp sp dLen dCap sLen sCap g off cur t hg cs hn hpos hsz hfit h1
  unfold Oper.wp execOp
  simp only [ho, resolve, invoke, builtin, Sem.run_bind, Sem.run_pure, Result.andThen_ok, List.map_toArray, List.map_cons, List.map_nil, hs, hd, hr]
  exact h w' (Lib.hid k1) k2 k3
set_option maxHeartbeats 1000000 in
theorem mul64_any (x y : Nat) (hx : x < 18446744073709551616) (hy : y < 18446744073709551616) (w : World) :
    Calls Tryd.prog 83 #[.int .u64 x, .int .u64 y] w fun e w' => e = .returned (.tuple #[.int .u64 ((x * y / 18446744073709551616 : Nat) : Int), .int .u64 ((x * y % 18446744073709551616 : Nat) : Int)]) ∧ w' = w := by
  obtain ⟨bd, bt, bw, hhi⟩ := Go.Lib.mul64_hi x y hx hy
  have ba := Go.Lib.half_mul_le (a := x / 4294967296) (b := y / 4294967296) (by omega) (by omega)
  have bb := Go.Lib.half_mul_le (a := x / 4294967296) (b := y % 4294967296) (by omega) (by omega)
  have bc := Go.Lib.half_mul_le (a := x % 4294967296) (b := y / 4294967296) (by omega) (by omega)
  have ba' : x / 4294967296 * (y / 4294967296) < 18446744073709551616 := by omega
  have bb' : x / 4294967296 * (y % 4294967296) < 18446744073709551616 := by omega
  have bc' : x % 4294967296 * (y / 4294967296) < 18446744073709551616 := by omega
  have bh1 : x / 4294967296 * (y / 4294967296) + (x / 4294967296 * (y % 4294967296) + x % 4294967296 * (y % 4294967296) / 4294967296) / 4294967296 < 18446744073709551616 := by omega
  have bh : x / 4294967296 * (y / 4294967296) + (x / 4294967296 * (y % 4294967296) + x % 4294967296 * (y % 4294967296) / 4294967296) / 4294967296 + ((x / 4294967296 * (y % 4294967296) + x % 4294967296 * (y % 4294967296) / 4294967296) % 4294967296 + x % 4294967296 * (y / 4294967296)) / 4294967296 < 18446744073709551616 := by omega
  go_enter Tryd.func83, Tryd.ntmps83
  go_wp2
  simp only [Mul64.maskN x hx, Mul64.maskN y hy, Mul64.divN, Mul64.mulN, Mul64.addN, Mul64.wrapN _ bd, Mul64.wrapN _ bb', Mul64.wrapN _ bt, Mul64.maskN _ bt, Mul64.wrapN _ bc', Mul64.wrapN _ bw, Mul64.wrapN _ ba', Mul64.wrapN _ bh1, Mul64.wrapN _ bh, Mul64.wrapM (x * y)]
  rw [hhi]
  go_ret2
  exact ⟨rfl, rfl⟩
set_option maxHeartbeats 1000000 in
theorem mul_one (n : Nat) (hn : n ≤ 1000000000) (w : World) :
    Calls Tryd.prog 63 #[.int .u64 1, .int .u64 n] w fun e w' => e = .returned (.tuple #[.int .u64 0, .int .u64 n]) ∧ w = w' := by
  have c64 := mul64_any 1 n (by omega) (by omega) w
  rw [show ((1 * n / 18446744073709551616 : Nat) : Int) = 0 by omega, show ((1 * n % 18446744073709551616 : Nat) : Int) = n by omega] at c64
  go_enter Tryd.func63, Tryd.ntmps63
  go_wp2_with (go_at_call 83; refine c64.mono ?_; clear c64; rintro e w' ⟨rfl, rfl⟩)
  go_ret2
  exact ⟨rfl, rfl⟩
end Go.Proofs.YthclpabmbhpohaaDoor
namespace Go.Proofs.YthclpabmbhpohaaDoor
open Go.RowKit
set_option linter.unusedVariables false
section
variable {P : Program} {ops : Array Oper} {Q : Exit → Act → World → Prop} {md : Region.Mode} {S : World → Prop}
/-- The operations that are left, one behind the other; behind each S holds. -/
def Seq (P : Program) (ops : Array Oper) (Q : Exit → Act → World → Prop) (S : World → Prop) : List Nat → Act → World → Prop
  | [], a, w => Q .normal a w
  | i :: is, a, w => wpOp P ops Q i (fun a' w' => S w' ∧ Seq P ops Q S is a' w') a w
theorem Seq.cons {i : Nat} {is : List Nat} {o : Oper} {a : Act} {w : World} (hi : ops[i]? = some o) (hg : o.guard = none) (h : ∀ K : Act → World → Prop, (∀ a' w', S w' → Seq P ops Q S is a' w' → K a' w') → Oper.wp P o a w K Q) : Seq P ops Q S (i :: is) a w := by
  unfold Seq wpOp
  simp only [hi]
  have hw : Region.wanted o (yielded ops a.tmps) = true := by simp [Region.wanted, hg]
  rw [if_pos hw]
  exact .inl (h _ fun a' w' h1 h2 => ⟨h1, h2⟩)
end
/-- An append of one element, at the operation. -/
theorem wp_app1 {P : Program} {o : Oper} {a : Act} {Q : Exit → Act → World → Prop} {K : Act → World → Prop} {w : World} (s x : Operand) (t : TypeId)
    (ho : o.op = .call { callee := .builtin .append, args := #[s, x], argTypes := #[t, t] }) (base : Nat) (e : TypeId) (z : Value) (sz bytes : Nat) (ht : P.underlying t = some (.slice e)) (hinfo : (P.info? e).map (fun i => (i.zero, i.size, i.bytes)) = some (some z, sz, bytes))
    (hzs : z.cells.size = sz) (hsz : 0 < sz) (v : Value) (css : List (List Value)) (hs : a.eval s = v) (hown : Owns w base e sz v css)
    (g : Nat) (c : List Value) (hx : a.eval x = .slice (some ⟨g, 0, none⟩) 1 1) (hc : c.length = sz) (hg : w.heap[g]? = some (.cells c.toArray e (0, 0))) (h1 : ∀ u ∈ c, u.oneCell' = true)
    (hmax : css.length + 1 ≤ maxLen) (hbytes : (css.length + 1) * bytes ≤ 140737488355328) (hbase : base ≤ w.heap.size)
    (h : ∀ v' w', Owns w' base e sz v' (css ++ [c]) → w.grownBy w' v.ownBlock → (v'.ownBlock = v.ownBlock ∨ v'.ownBlock = some w.heap.size) → K (a.put o.dst v') w') : o.wp P a w K Q := by
  obtain ⟨i0, hi, hz0, hz1, hz2⟩ := info_parts hinfo
  obtain ⟨v1, w1, hr, hown1, hg1, _, hat⟩ := run_append_own_at (P := P) w base t o.type e i0 z sz bytes ht hi hz0 hz1 hz2 hzs hsz v css.length css.flatten hown.1 ⟨g, 0, none⟩ 1 1 c (by rw [hc]; simp)
    (fun j u hj => by
      rw [Addr.add_mid, Nat.zero_add, cell_of_blk hg]; simpa using hj) h1 hmax hbytes hbase
  unfold Oper.wp execOp
  simp only [ho, resolve, invoke, builtin, Sem.run_bind, Sem.run_pure, Result.andThen_ok, List.map_toArray, List.map_cons, List.map_nil, hs, hx]
  rw [hr]
  exact h v1 w1 ⟨by rw [List.length_append, List.flatten_append]; simpa using hown1, fun c' hc' => (List.mem_append.1 hc').elim (hown.2 c') (fun e => by rw [List.mem_singleton.1 e]; exact hc)⟩ hg1 hat
/-- An append of one element, in a list of operations; where the row lies behind it. -/
theorem wpList_app1At {P : Program} {ops : Array Oper} {rest : List Oper} {o : Oper} {a : Act} {Q : Exit → Act → World → Prop} {w : World} (hgd : o.guard = none) (s x : Operand) (t : TypeId)
    (ho : o.op = .call { callee := .builtin .append, args := #[s, x], argTypes := #[t, t] }) (base : Nat) (e : TypeId) (z : Value) (sz bytes : Nat) (ht : P.underlying t = some (.slice e)) (hinfo : (P.info? e).map (fun i => (i.zero, i.size, i.bytes)) = some (some z, sz, bytes))
    (hzs : z.cells.size = sz) (hsz : 0 < sz) (v : Value) (css : List (List Value)) (hs : a.eval s = v) (hown : Owns w base e sz v css)
    (g : Nat) (c : List Value) (hx : a.eval x = .slice (some ⟨g, 0, none⟩) 1 1) (hc : c.length = sz) (hg : w.heap[g]? = some (.cells c.toArray e (0, 0))) (h1 : ∀ u ∈ c, u.oneCell' = true)
    (hmax : css.length + 1 ≤ maxLen) (hbytes : (css.length + 1) * bytes ≤ 140737488355328) (hbase : base ≤ w.heap.size)
    (h : ∀ v' w', Owns w' base e sz v' (css ++ [c]) → w.grownBy w' v.ownBlock → (v'.ownBlock = v.ownBlock ∨ v'.ownBlock = some w.heap.size) → wpList P ops Q rest (a.put o.dst v') w') : wpList P ops Q (o :: rest) a w :=
  wpList_plain hgd fun K hK => wp_app1 s x t ho base e z sz bytes ht hinfo hzs hsz v css hs hown g c hx hc hg h1 hmax hbytes hbase fun v' w' h1 h2 h3 => hK _ _ (h v' w' h1 h2 h3)
end Go.Proofs.YthclpabmbhpohaaDoor
namespace Go.Proofs.YthclpabmbhpohaaDoor
open Go.RowKit
set_option linter.unusedVariables false
section
variable {P : Program} {ops : Array Oper} {Q : Exit → Act → World → Prop} {md : Region.Mode} {S : World → Prop}
/-- true: taken; false: carried out; number, slot. -/
def Scr (P : Program) (ops : Array Oper) (Q : Exit → Act → World → Prop) (S : World → Prop) : List (Bool × Nat × Nat) → Act → World → Prop
  | [], a, w => Q .normal a w
  | (true, i, d) :: r, a, w => ∃ o v, ops[i]? = some o ∧ o.dst = some d ∧ YieldsIf P ops S o v a ∧ S w ∧ Scr P ops Q S r (a.put (some d) v) w
  | (false, i, _) :: r, a, w => wpOp P ops Q i (fun a' w' => S w' ∧ Scr P ops Q S r a' w') a w
def scrOK (md : Region.Mode) (ops : Array Oper) : Array Bool → List (Bool × Nat × Nat) → Bool
  | listed, [] => Region.ready md ops listed == []
  | listed, (true, i, _) :: r => Region.free md ops listed i && (Region.ready md ops listed).contains i && scrOK md ops (listed.setIfInBounds i true) r
  | listed, (false, i, _) :: r => (Region.ready md ops listed == [i]) && scrOK md ops (listed.setIfInBounds i true) r
theorem held_of_scr (hs : Region.noSelect ops = true) (hQ : ∀ c (d : Tmp) v a w, Q (.panic c) (a.put (some d) v) w → Q (.panic c) a w) : ∀ (r : List (Bool × Nat × Nat)) (listed : Array Bool) (a : Act) (w : World),
    scrOK md ops listed r = true → Scr P ops Q S r a w → wpAnyH P md ops Q S r.length listed a w
  | [], listed, a, w, hc, h => wpAnyH_done (by simpa [scrOK] using hc) h _
  | (true, i, d) :: r, listed, a, w, hc, h => by
    simp only [scrOK, Bool.and_eq_true] at hc
    obtain ⟨o, v, ho, hd, hy, hS, hr⟩ := h
    refine wpAnyH_take ho hs hc.1.1 hc.1.2 (fun c a w => by rw [hd]; exact hQ c d v a w) hy hS ?_
    rw [hd]
    exact held_of_scr hs hQ r _ _ w hc.2 hr
  | (false, i, _) :: r, listed, a, w, hc, h => by
    simp only [scrOK, Bool.and_eq_true, beq_iff_eq] at hc
    refine ⟨fun h0 => by rw [h0] at hc; exact absurd hc.1 (by simp), fun j hj => ?_⟩
    rw [hc.1] at hj
    rw [List.mem_singleton.1 hj]
    exact wpOp_mono (fun a' w' h' => ⟨h'.1, held_of_scr hs hQ r _ a' w' hc.2 h'.2⟩) h
theorem Scr.take {i d : Nat} {r : List (Bool × Nat × Nat)} {o : Oper} {v : Value} {a : Act} {w : World} (hi : ops[i]? = some o) (hd : o.dst = some d) (hy : YieldsIf P ops S o v a) (hS : S w) (h : Scr P ops Q S r (a.put (some d) v) w) : Scr P ops Q S ((true, i, d) :: r) a w :=
  ⟨o, v, hi, hd, hy, hS, h⟩
theorem Scr.run {i d : Nat} {r : List (Bool × Nat × Nat)} {o : Oper} {a : Act} {w : World} (hi : ops[i]? = some o) (hw : Region.wanted o (yielded ops a.tmps) = true) (h : ∀ K : Act → World → Prop, (∀ a' w', S w' → Scr P ops Q S r a' w' → K a' w') → Oper.wp P o a w K Q) : Scr P ops Q S ((false, i, d) :: r) a w := by
  unfold Scr wpOp
  simp only [hi]
  rw [if_pos hw]
  exact .inl (h _ fun a' w' h1 h2 => ⟨h1, h2⟩)
theorem Scr.skip {i d : Nat} {r : List (Bool × Nat × Nat)} {o : Oper} {a : Act} {w : World} (hi : ops[i]? = some o) (hd : o.dst = some d) (hw : Region.wanted o (yielded ops a.tmps) = false) (hS : S w) (h : Scr P ops Q S r (a.put (some d) undef) w) : Scr P ops Q S ((false, i, d) :: r) a w := by
  rw [← hd] at h
  unfold Scr wpOp
  simp only [hi]
  rw [if_neg (by rw [hw]; simp)]
  exact ⟨hS, h⟩
end
theorem wp_region_scr {P : Program} {ops : Array Oper} {Q : Exit → Act → World → Prop} (S : World → Prop) {id : Nat} {a : Act} {w : World} (r : List (Bool × Nat × Nat)) (hm : P.follows .mixedOrders = true) (hs : Region.noSelect ops = true)
    (hQ : ∀ c (d : Tmp) v a w, Q (.panic c) (a.put (some d) v) w → Q (.panic c) a w) (hl : r.length = ops.size)
    (hc : scrOK .any ops (Array.replicate ops.size false) r = true) (h : Scr P ops Q S r a w.drew) : (Code.region id ops true).wp P Q a w := by
  have h9 := held_of_scr (P := P) (md := .any) (S := S) hs hQ r (Array.replicate ops.size false) a w.drew hc h
  rw [hl] at h9
  exact wp_region_held hm h9
theorem yw_cell {P : Program} {ops : Array Oper} {S : World → Prop} {o : Oper} {a : Act} (ty : TypeId) (x : Operand) (ho : o.op = .load ty x) (p : Addr) (v : Value) (hx : a.eval x = .pointer (some p)) (hw : Region.wanted o (yielded ops a.tmps) = true)
    (d : TypeDesc) (hu : P.underlying ty = some d) (hd : d.isRow = false) (hc : ∀ w, S w → w.cell? p = some v) : YieldsIf P ops S o v a := by
  refine Or.inl ⟨hw, fun w hS => ?_⟩
  have h := hc w hS
  have hagg : (isAgg ty).run P w = .ok false w := by
    unfold isAgg
    rw [Sem.run_bind, run_underlying hu w]
    cases d <;> simp_all
  unfold execOp
  simp [ho, hx, Instr.loadAt, Instr.sureAddr, loadVar, hagg, h]
theorem yw_row {P : Program} {ops : Array Oper} {S : World → Prop} {o : Oper} {a : Act} (ty : TypeId) (x : Operand) (ho : o.op = .load ty x) (b : Nat) (cs : List Value) (T : TypeId) (hx : a.eval x = .pointer (some ⟨b, 0, none⟩)) (hw : Region.wanted o (yielded ops a.tmps) = true)
    (d : TypeDesc) (hu : P.underlying ty = some d) (hd : d.isRow = true) (hi : (P.info? ty).map (·.size) = some cs.length) (hc : ∀ w, S w → w.heap[b]? = some (.cells cs.toArray T (0, 0))) : YieldsIf P ops S o (.agg cs.toArray) a := by
  refine Or.inl ⟨hw, fun w hS => ?_⟩
  have h := hc w hS
  have h2 := run_loadAt_mid (P := P) w b 0 ty cs d (fun j v hv => by rw [Nat.zero_add, cell_of_blk h]; simpa using hv) hu hd hi
  unfold execOp
  simp [ho, hx, h2]
theorem yw_pure {P : Program} {ops : Array Oper} {S : World → Prop} {o : Oper} {a : Act} {v : Value} (hw : Region.wanted o (yielded ops a.tmps) = true) (h : ∀ w, (execOp a.eval o).run P w = .ok (.value v) w) : YieldsIf P ops S o v a := Or.inl ⟨hw, fun w _ => h w⟩
theorem yw_no {P : Program} {ops : Array Oper} {S : World → Prop} {o : Oper} {a : Act} (hw : Region.wanted o (yielded ops a.tmps) = false) : YieldsIf P ops S o undef a := Or.inr ⟨hw, rfl⟩
end Go.Proofs.YthclpabmbhpohaaDoor
namespace Go.Proofs.YthclpabmbhpohaaDoor
open Go.RowKit
set_option linter.unusedVariables false
def u64C (x : Nat) : List Value := [.int .u64 x]
theorem flat_u64 : ∀ l : List Nat, (l.map u64C).flatten = l.map (fun x : Nat => Value.int .u64 x)
  | [] => rfl
  | x :: l => by rw [List.map_cons, List.flatten_cons, List.map_cons, flat_u64 l]; rfl
theorem owns_word {W : World} {B g c : Nat} {l : List Nat} (h : Owns W B 74 1 (.slice (some ⟨g, 0, none⟩) l.length c) (l.map u64C)) (j x : Nat) : Owns (W.setCell ⟨g, j, none⟩ (.int .u64 x)) B 74 1 (.slice (some ⟨g, 0, none⟩) l.length c) ((l.set j x).map u64C) := by
  have h1 := h.1
  rw [List.length_map] at h1
  have hst := (World.ownsRow.stored h1 j (.int .u64 x)).1
  have e : (l.map u64C).flatten.set j (.int .u64 x) = ((l.set j x).map u64C).flatten := by rw [flat_u64, flat_u64, List.map_set]
  rw [e] at hst
  refine ⟨by simpa using hst, fun c hc => ?_⟩
  obtain ⟨y, _, rfl⟩ := List.mem_map.1 hc
  rfl
theorem own_word_at {W : World} {B g n c : Nat} {l : List Nat} (h : Owns W B 74 1 (.slice (some ⟨g, 0, none⟩) n c) (l.map u64C)) (i : Nat) (hi : i < l.length) : W.cell? ⟨g, i, none⟩ = some (.int .u64 (l[i] : Nat)) := by
  have h2 := h.1
  rw [flat_u64] at h2
  have := h2.cells (g := g) rfl i (.int .u64 (l[i] : Nat)) (by rw [List.getElem?_map, List.getElem?_eq_getElem hi]; rfl)
  rwa [Addr.add_mid, Nat.zero_add] at this
theorem bit_of (x k : Nat) (hx : x < 18446744073709551616) : bits .and .u64 ((x : Int) / 2 ^ k) 1 = if x.testBit k then 1 else 0 := by
  have e : ((x : Int) / 2 ^ k) = ((x / 2 ^ k : Nat) : Int) := by rw [Int.natCast_ediv]; simp
  rw [e]
  have h := u64_and_nat (x / 2 ^ k) 1 (Nat.lt_of_le_of_lt (Nat.div_le_self _ _) hx) (by omega)
  have h2 : bits .and .u64 ((x / 2 ^ k : Nat) : Int) 1 = (((x / 2 ^ k) &&& 1 : Nat) : Int) := h
  rw [h2, Nat.and_one_is_mod, Nat.testBit_eq_decide_div_mod_eq]
  rcases Nat.mod_two_eq_zero_or_one (x / 2 ^ k) with h | h <;> rw [h] <;> rfl
theorem wrap_u64x (n : Int) : IntKind.u64.wrap n = n % 18446744073709551616 := by simp [IntKind.wrap, IntKind.bits, IntKind.signed]
theorem bit_up (x k : Nat) (hx : x < 18446744073709551616) (hk : k < 64) : bits .or .u64 x (IntKind.u64.wrap (2 ^ k)) = ((x ||| 2 ^ k : Nat) : Int) := by
  have h2 : 2 ^ k < 18446744073709551616 := by
    have := Nat.pow_lt_pow_right (a := 2) (by omega) hk
    omega
  have e : IntKind.u64.wrap (2 ^ k) = ((2 ^ k : Nat) : Int) := by
    rw [wrap_u64x]
    have : ((2 : Int) ^ k) = ((2 ^ k : Nat) : Int) := by simp
    rw [this]
    generalize 2 ^ k = m at *
    omega
  rw [e]
  exact u64_or_nat _ _ hx h2
theorem up_lt (x k : Nat) (hx : x < 18446744073709551616) (hk : k < 64) : x ||| 2 ^ k < 18446744073709551616 := by
  have h2 := Nat.pow_lt_pow_right (a := 2) (by omega) hk
  exact Nat.or_lt_two_pow (n := 64) (by simpa using hx) (by simpa using h2)
theorem up_bit (x k j : Nat) : (x ||| 2 ^ k).testBit j = (x.testBit j || decide (k = j)) := by rw [Nat.testBit_or, Nat.testBit_two_pow]
/-- What fresh tells. -/
def FreshPost (G g : Nat) (ws : List Nat) (n : Nat) (w : World) (e : Ending) (w' : World) : Prop :=
  e = .returned (.bool (!(ws.getD (n / 64) 0).testBit (n % 64))) ∧ w' = w.drew.setCell ⟨g, n / 64, none⟩ (.int .u64 ((ws.getD (n / 64) 0 ||| 2 ^ (n % 64) : Nat) : Int))
set_option maxRecDepth 100000 in
set_option maxHeartbeats 4000000 in
theorem fresh_any (w : World) (G B g c : Nat) (ws : List Nat) (v1 v2 v3 v4 : Value) (hG : w.heap[G]? = some (.cells #[.slice (some ⟨g, 0, none⟩) ws.length c, v1, v2, v3, v4] 70 (0, 0)))
    (hown : Owns w B 74 1 (.slice (some ⟨g, 0, none⟩) ws.length c) (ws.map u64C)) (hw : ∀ x ∈ ws, x < 18446744073709551616) (n : Nat) (hn : n / 64 < ws.length) (hn2 : n ≤ 1000000000) :
    Calls Tryd.prog 47 #[.pointer (some ⟨G, 0, none⟩), .int .i64 n] w (FreshPost G g ws n w) := by
  have hx := hw ws[n / 64] (List.getElem_mem hn)
  have hc := own_word_at hown (n / 64) hn
  obtain ⟨cur, hk⟩ := own_blk hown rfl
  have hf : w.frozen? ⟨g, n / 64, none⟩ = false := frozenOf hk _
  have hng := heap_lt hk
  have c0 : w.cell? ⟨G, 0, none⟩ = some (.slice (some ⟨g, 0, none⟩) ws.length c) := by rw [cell_of_blk hG]; rfl
  have hGn := heap_lt hG
  unfold FreshPost
  rw [show ws.getD (n / 64) 0 = ws[n / 64] by rw [List.getD_eq_getElem?_getD, List.getElem?_eq_getElem hn]; rfl]
  generalize ws[n / 64] = x at *
  have hq : IntKind.i64.wrap ((n : Int).tdiv 64) = ((n / 64 : Nat) : Int) := by
    rw [Int.tdiv_eq_ediv_of_nonneg (by omega), IntWalk.i64_in _ (by omega)]; omega
  have hr : (n : Int).tmod 64 = ((n % 64 : Nat) : Int) := by rw [Int.tmod_eq_emod_of_nonneg (by omega)]; omega
  have hk : n % 64 < 64 := Nat.mod_lt _ (by omega)
  have HB := Lib.hid (And.intro (bit_of x (n % 64) hx) (bit_up x (n % 64) hx hk))
  clear hown hw hk hG
  go_enter Tryd.func47, Tryd.ntmps47
  go_wp2_with fail
  go_region
  all_goals go_wp2_with fail
  go_ret
  refine ⟨ret_bool ?_, ?_⟩
  · rw [HB.out.1]
    cases x.testBit (n % 64) <;> rfl
  · rw [HB.out.2]; rfl
end Go.Proofs.YthclpabmbhpohaaDoor
namespace Go.Proofs.YthclpabmbhpohaaDoor
set_option linter.unusedVariables false
set_option linter.unusedSectionVars false
/-- A graph with places: what follows a state, is it a match, its place, what a fit becomes there; all to the end? -/
structure Gr (Q : Type) where
  nexts : Q → List Q
  mat : Q → Bool
  pl : Q → Int
  upd : Q → List Int → List Int
  longest : Bool
/-- What was come to; the best match. -/
structure Wk (Q : Type) where
  seen : Q → Bool
  best : Option (List Int)
variable {Q : Type} [DecidableEq Q]
def halts (g : Gr Q) (s : Wk Q) : Bool := s.best.isSome && !g.longest
def bestOf (g : Gr Q) (q : Q) (c : List Int) (b : Option (List Int)) : Option (List Int) :=
  match b with
  | none => some (c.set 1 (g.pl q))
  | some b => if b.getD 1 0 < g.pl q then some (c.set 1 (g.pl q)) else some b
def markW (q : Q) (s : Wk Q) : Wk Q := ⟨fun r => decide (r = q) || s.seen r, s.best⟩
def come (g : Gr Q) : Nat → Q → List Int → Wk Q → Wk Q
  | 0, _, _, s => s
  | n + 1, q, c, s =>
    if halts g s = true then s else
    if s.seen q = true then s else
    if g.mat q = true then ⟨(markW q s).seen, bestOf g q c s.best⟩ else
    (g.nexts q).foldl (fun s r => come g n r (g.upd q c) s) (markW q s)
def comes (g : Gr Q) (n : Nat) (c : List Int) (l : List Q) (s : Wk Q) : Wk Q := l.foldl (fun s r => come g n r c s) s
theorem comes_nil (g : Gr Q) (n : Nat) (c : List Int) (s : Wk Q) : comes g n c [] s = s := rfl
theorem comes_cons (g : Gr Q) (n : Nat) (c : List Int) (q : Q) (l : List Q) (s : Wk Q) : comes g n c (q :: l) s = comes g n c l (come g n q c s) := rfl
theorem come_succ (g : Gr Q) (n : Nat) (q : Q) (c : List Int) (s : Wk Q) : come g (n + 1) q c s =
    if halts g s = true then s else if s.seen q = true then s else if g.mat q = true then ⟨(markW q s).seen, bestOf g q c s.best⟩ else comes g n (g.upd q c) (g.nexts q) (markW q s) := by rw [come]; rfl
theorem come_halts {g : Gr Q} {s : Wk Q} (h : halts g s = true) (n : Nat) (q : Q) (c : List Int) : come g n q c s = s := by
  cases n with
  | zero => rfl
  | succ n => rw [come_succ, if_pos h]
theorem come_seen {g : Gr Q} {s : Wk Q} {q : Q} (h : s.seen q = true) (n : Nat) (c : List Int) : come g n q c s = s := by
  cases n with
  | zero => rfl
  | succ n => rw [come_succ]; split <;> first | rfl | rw [if_pos h]
theorem comes_halts {g : Gr Q} {s : Wk Q} (h : halts g s = true) (n : Nat) (c : List Int) : ∀ l : List Q, comes g n c l s = s
  | [] => rfl
  | q :: l => by rw [comes_cons, come_halts h, comes_halts h]
/-- What holds of a state and is kept by a step holds behind all. -/
theorem come_keep (g : Gr Q) (P : Wk Q → Prop) (R : Q → List Int → Prop) (hR : ∀ q c, R q c → g.mat q = false → ∀ r ∈ g.nexts q, R r (g.upd q c))
    (hP : ∀ s q c, P s → R q c → halts g s = false → s.seen q = false → g.mat q = true → P ⟨(markW q s).seen, bestOf g q c s.best⟩)
    (hM : ∀ s q c, P s → R q c → halts g s = false → s.seen q = false → g.mat q = false → P (markW q s)) :
    ∀ (n : Nat) (q : Q) (c : List Int) (s : Wk Q), P s → R q c → P (come g n q c s) := by
  intro n
  induction n with
  | zero => intro q c s h _; exact h
  | succ n ih =>
    intro q c s h hq
    rw [come_succ]
    by_cases h1 : halts g s = true
    · rw [if_pos h1]; exact h
    rw [if_neg h1]
    by_cases h2 : s.seen q = true
    · rw [if_pos h2]; exact h
    rw [if_neg h2]
    have h1' : halts g s = false := by simpa using h1
    have h2' : s.seen q = false := by simpa using h2
    by_cases h3 : g.mat q = true
    · rw [if_pos h3]; exact hP s q c h hq h1' h2' h3
    rw [if_neg h3]
    have h3' : g.mat q = false := by simpa using h3
    have hl : ∀ (l : List Q) (s : Wk Q), (∀ r ∈ l, R r (g.upd q c)) → P s → P (comes g n (g.upd q c) l s) := by
      intro l
      induction l with
      | nil => intro s _ h; exact h
      | cons r l ihl => intro s hr h; rw [comes_cons]; exact ihl _ (fun x hx => hr x (by simp [hx])) (ih r _ s h (hr r (by simp)))
    exact hl _ _ (hR q c hq h3') (hM s q c h hq h1' h2' h3')
def Sub (s s' : Wk Q) : Prop := ∀ r, s.seen r = true → s'.seen r = true
theorem mark_seen (q : Q) (s : Wk Q) (r : Q) : (markW q s).seen r = (decide (r = q) || s.seen r) := rfl
theorem mark_sub (q : Q) (s : Wk Q) : Sub s (markW q s) := fun r h => by rw [mark_seen, h]; simp
theorem come_sub (g : Gr Q) (n : Nat) (q : Q) (c : List Int) (s : Wk Q) : Sub s (come g n q c s) :=
  come_keep g (Sub s) (fun _ _ => True) (fun _ _ _ _ _ _ => trivial) (fun s' q' _ h _ _ _ _ r hr => mark_sub q' s' r (h r hr)) (fun s' q' _ h _ _ _ _ r hr => mark_sub q' s' r (h r hr)) n q c s (fun r h => h) trivial
def left (U : List Q) (s : Wk Q) : Nat := (U.filter (fun r => !s.seen r)).length
theorem left_sub {s s' : Wk Q} (h : Sub s s') : ∀ U : List Q, left U s' ≤ left U s
  | [] => Nat.le_refl _
  | x :: U => by
    have h1 := left_sub h U
    unfold left at h1 ⊢
    rw [List.filter_cons, List.filter_cons]
    by_cases hx : s.seen x = true
    · rw [hx, h x hx]; simpa using h1
    · have hx' : s.seen x = false := by simpa using hx
      rw [hx']
      cases s'.seen x <;> simp <;> omega
theorem left_mark {s : Wk Q} {q : Q} (hq : s.seen q = false) : ∀ U : List Q, q ∈ U → left U (markW q s) + 1 ≤ left U s
  | [], h => by simp at h
  | x :: U, h => by
    have h1 := left_sub (mark_sub q s) U
    by_cases hx : x = q
    · subst hx
      unfold left at h1 ⊢
      rw [List.filter_cons, List.filter_cons, mark_seen, hq]
      simp
      omega
    · have h2 := left_mark hq U (by rcases List.mem_cons.1 h with rfl | h; · exact absurd rfl hx
                                    · exact h)
      unfold left at h2 ⊢
      rw [List.filter_cons, List.filter_cons, mark_seen, decide_eq_false hx, Bool.false_or]
      split <;> simp <;> omega
/-- All that follows lies in U. -/
def Within (g : Gr Q) (U : List Q) : Prop := ∀ q ∈ U, ∀ r ∈ g.nexts q, r ∈ U
theorem come_fuel (g : Gr Q) (U : List Q) (hU : Within g U) : ∀ (n m : Nat) (q : Q) (c : List Int) (s : Wk Q), q ∈ U → left U s < n → n ≤ m → come g m q c s = come g n q c s := by
  intro n
  induction n with
  | zero => intro m q c s _ h _; omega
  | succ n ih =>
    intro m q c s hq h hm
    obtain ⟨m, rfl⟩ : ∃ k, m = k + 1 := ⟨m - 1, by omega⟩
    rw [come_succ, come_succ]
    by_cases h1 : halts g s = true
    · rw [if_pos h1, if_pos h1]
    rw [if_neg h1, if_neg h1]
    by_cases h2 : s.seen q = true
    · rw [if_pos h2, if_pos h2]
    rw [if_neg h2, if_neg h2]
    by_cases h3 : g.mat q = true
    · rw [if_pos h3, if_pos h3]
    rw [if_neg h3, if_neg h3]
    have h4 := left_mark (by simpa using h2) U hq
    have hl : ∀ (l : List Q) (s : Wk Q), (∀ r ∈ l, r ∈ U) → left U s < n → comes g m (g.upd q c) l s = comes g n (g.upd q c) l s := by
      intro l
      induction l with
      | nil => intro s _ _; rfl
      | cons r l ihl =>
        intro s hr hs
        rw [comes_cons, comes_cons, ih m r _ s (hr r (by simp)) hs (by omega)]
        exact ihl _ (fun x hx => hr x (by simp [hx])) (by have := left_sub (come_sub g n r (g.upd q c) s) U; omega)
    exact hl _ _ (hU q hq) (by omega)
/-- All that was come to since s0 is gone through. -/
def Done (g : Gr Q) (s0 s : Wk Q) : Prop := ∀ q, s.seen q = true → s0.seen q = false → ∀ r ∈ g.nexts q, g.mat q = false → s.seen r = true
theorem come_done (g : Gr Q) (U : List Q) (hU : Within g U) : ∀ (n : Nat) (q : Q) (c : List Int) (s : Wk Q), q ∈ U → left U s < n → halts g (come g n q c s) = false →
    (come g n q c s).seen q = true ∧ Done g s (come g n q c s) := by
  intro n
  induction n with
  | zero => intro q c s _ h _; omega
  | succ n ih =>
    intro q c s hq h hh
    have hsub := come_sub g (n + 1) q c s
    rw [come_succ] at hh hsub ⊢
    by_cases h1 : halts g s = true
    · rw [if_pos h1] at hh; rw [h1] at hh; cases hh
    rw [if_neg h1] at hh hsub ⊢
    by_cases h2 : s.seen q = true
    · rw [if_pos h2]; exact ⟨h2, fun r hr h0 => by rw [hr] at h0; cases h0⟩
    rw [if_neg h2] at hh hsub ⊢
    by_cases h3 : g.mat q = true
    · rw [if_pos h3]
      refine ⟨by rw [mark_seen]; simp, fun r hr h0 x hx hm => ?_⟩
      rw [mark_seen, h0] at hr
      have : r = q := by simpa using hr
      rw [this, h3] at hm; cases hm
    rw [if_neg h3] at hh hsub ⊢
    have h4 := left_mark (by simpa using h2) U hq
    have hl : ∀ (l : List Q) (s : Wk Q), (∀ r ∈ l, r ∈ U) → left U s < n → halts g (comes g n (g.upd q c) l s) = false →
        Sub s (comes g n (g.upd q c) l s) ∧ (∀ r ∈ l, (comes g n (g.upd q c) l s).seen r = true) ∧ Done g s (comes g n (g.upd q c) l s) := by
      intro l
      induction l with
      | nil => intro s _ _ _; exact ⟨fun _ h => h, fun r hr => by simp at hr, fun r hr h0 => by rw [comes_nil, h0] at hr; cases hr⟩
      | cons r l ihl =>
        intro s hr hs hh
        rw [comes_cons] at hh ⊢
        have hsb := come_sub g n r (g.upd q c) s
        have hlf := left_sub hsb U
        obtain ⟨a1, a2, a3⟩ := ihl _ (fun x hx => hr x (by simp [hx])) (by omega) hh
        have hh1 : halts g (come g n r (g.upd q c) s) = false := by
          rw [Bool.eq_false_iff]
          intro e
          rw [comes_halts e, e] at hh; cases hh
        obtain ⟨b1, b2⟩ := ih r _ s (hr r (by simp)) hs hh1
        refine ⟨fun x hx => a1 x (hsb x hx), fun x hx => ?_, fun x hx h0 y hy hm => ?_⟩
        · rcases List.mem_cons.1 hx with rfl | hx
          · exact a1 _ b1
          · exact a2 x hx
        · by_cases hx1 : (come g n r (g.upd q c) s).seen x = true
          · exact a1 y (b2 x hx1 h0 y hy hm)
          · exact a3 x hx (by simpa using hx1) y hy hm
    obtain ⟨a1, a2, a3⟩ := hl _ _ (hU q hq) (by omega) hh
    refine ⟨a1 q (by rw [mark_seen]; simp), fun x hx h0 y hy hm => ?_⟩
    by_cases hxq : x = q
    · subst hxq; exact a2 y hy
    · exact a3 x hx (by rw [mark_seen, h0, decide_eq_false hxq]; rfl) y hy hm
inductive Reach (g : Gr Q) : Q → Q → Prop
  | here (q : Q) : Reach g q q
  | step {q r t : Q} : g.mat q = false → r ∈ g.nexts q → Reach g r t → Reach g q t
theorem Reach.snoc {g : Gr Q} {q r t : Q} (h : Reach g q r) (hm : g.mat r = false) (ht : t ∈ g.nexts r) : Reach g q t := by
  induction h with
  | here q => exact .step hm ht (.here t)
  | step a b _ ih => exact .step a b (ih hm ht)
/-- Closed, and no match in it. -/
def Dead (g : Gr Q) (D : Q → Bool) : Prop := ∀ q, D q = true → g.mat q = false ∧ ∀ r ∈ g.nexts q, D r = true
theorem Dead.reach {g : Gr Q} {D : Q → Bool} (h : Dead g D) {q r : Q} (hr : Reach g q r) (hq : D q = true) : D r = true := by
  induction hr with
  | here q => exact hq
  | step a b _ ih => exact ih ((h _ hq).2 _ b)
theorem bestOf_some (g : Gr Q) (q : Q) (c : List Int) (b : Option (List Int)) : ∃ b', bestOf g q c b = some b' ∧ (b' = c.set 1 (g.pl q) ∨ b = some b') := by
  unfold bestOf
  split
  · exact ⟨_, rfl, .inl rfl⟩
  · split
    · exact ⟨_, rfl, .inl rfl⟩
    · exact ⟨_, rfl, .inr rfl⟩
/-- A match that is newly come to lays a best one. -/
theorem come_laid (g : Gr Q) (n : Nat) (q : Q) (c : List Int) (s : Wk Q) : ∀ r, (come g n q c s).seen r = true → s.seen r = false → g.mat r = true → (come g n q c s).best.isSome = true := by
  refine come_keep g (fun s' => ∀ r, s'.seen r = true → s.seen r = false → g.mat r = true → s'.best.isSome = true) (fun _ _ => True) (fun _ _ _ _ _ _ => trivial) ?_ ?_ n q c s (fun r hr h0 => by rw [hr] at h0; cases h0) trivial
  · intro s' q' c' _ _ _ _ _ r _ _ _
    obtain ⟨b, hb, _⟩ := bestOf_some g q' c' s'.best
    rw [show (Wk.mk (markW q' s').seen (bestOf g q' c' s'.best)).best = some b from hb]; rfl
  · intro s' q' c' h _ _ _ hm r hr h0 hr2
    rw [mark_seen] at hr
    by_cases e : r = q'
    · subst e; rw [hm] at hr2; cases hr2
    · rw [decide_eq_false e, Bool.false_or] at hr; exact h r hr h0 hr2
/-- Where nothing was found all that was come to is dead. -/
theorem come_dead (g : Gr Q) (U : List Q) (hU : Within g U) {n : Nat} {q : Q} {c : List Int} {s : Wk Q} (hq : q ∈ U) (hn : left U s < n) (hd : Dead g s.seen) (hb : (come g n q c s).best = none) :
    Dead g (come g n q c s).seen ∧ (come g n q c s).seen q = true := by
  have hh : halts g (come g n q c s) = false := by unfold halts; rw [hb]; rfl
  obtain ⟨h1, h2⟩ := come_done g U hU n q c s hq hn hh
  refine ⟨fun r hr => ?_, h1⟩
  by_cases h0 : s.seen r = true
  · exact ⟨(hd r h0).1, fun t ht => come_sub g n q c s t ((hd r h0).2 t ht)⟩
  · have h0' : s.seen r = false := by simpa using h0
    have hm : g.mat r = false := by
      rw [Bool.eq_false_iff]
      intro e
      have := come_laid g n q c s r hr h0' e
      rw [hb] at this; cases this
    exact ⟨hm, fun t ht => h2 r hr h0' t ht hm⟩
/-- What best is: a match that can be come to; its fit. -/
theorem come_best (g : Gr Q) (W : Q → List Int → Prop) (hW : ∀ q c, W q c → g.mat q = false → ∀ r ∈ g.nexts q, W r (g.upd q c)) {n : Nat} {q : Q} {c : List Int} {s : Wk Q} (hs : s.best = none) (hq : W q c) :
    ∀ b, (come g n q c s).best = some b → ∃ r d, Reach g q r ∧ g.mat r = true ∧ W r d ∧ b = d.set 1 (g.pl r) := by
  refine come_keep g (fun s' => ∀ b, s'.best = some b → ∃ r d, Reach g q r ∧ g.mat r = true ∧ W r d ∧ b = d.set 1 (g.pl r)) (fun r d => Reach g q r ∧ W r d) (fun r d h hm t ht => ⟨h.1.snoc hm ht, hW r d h.2 hm t ht⟩) ?_ ?_ n q c s (fun b hb => by rw [hs] at hb; cases hb) ⟨.here q, hq⟩
  · intro s' r d h hr _ _ hm b hb
    obtain ⟨b', h1, h2⟩ := bestOf_some g r d s'.best
    have hb' : bestOf g r d s'.best = some b := hb
    rw [h1] at hb'
    obtain rfl : b' = b := by simpa using hb'
    rcases h2 with h2 | h2
    · exact ⟨r, d, hr.1, hm, hr.2, h2⟩
    · exact h b' h2
  · intro s' r d h _ _ _ _ b hb; exact h b hb
structure Alike (D : Q → Bool) (s t : Wk Q) : Prop where
  best : s.best = t.best
  out : ∀ r, D r = false → s.seen r = t.seen r
  inn : ∀ r, D r = true → t.seen r = true
theorem Alike.sub {D : Q → Bool} {s t : Wk Q} (h : Alike D s t) : Sub s t := fun r hr => by
  by_cases e : D r = true
  · exact h.inn r e
  · rw [← h.out r (by simpa using e)]; exact hr
theorem Alike.markIn {D : Q → Bool} {s t : Wk Q} (h : Alike D s t) {q : Q} (hq : D q = true) : Alike D (markW q s) t :=
  ⟨h.best, fun r hr => by rw [mark_seen, decide_eq_false (by rintro rfl; rw [hq] at hr; cases hr), Bool.false_or]; exact h.out r hr, h.inn⟩
theorem Alike.mark {D : Q → Bool} {s t : Wk Q} (h : Alike D s t) (q : Q) : Alike D (markW q s) (markW q t) :=
  ⟨h.best, fun r hr => by rw [mark_seen, mark_seen, h.out r hr], fun r hr => by rw [mark_seen, h.inn r hr]; simp⟩
theorem come_alike (g : Gr Q) (U : List Q) (hU : Within g U) {D : Q → Bool} (hD : Dead g D) : ∀ (n : Nat) (q : Q) (c : List Int) (s t : Wk Q), q ∈ U → left U s < n → Alike D s t → Alike D (come g n q c s) (come g n q c t) := by
  intro n
  induction n with
  | zero => intro q c s t _ h; omega
  | succ n ih =>
    intro q c s t hq hn h
    by_cases hdq : D q = true
    · rw [come_seen (h.inn q hdq)]
      exact come_keep g (fun s' => Alike D s' t) (fun r _ => D r = true) (fun r _ hr _ x hx => (hD r hr).2 x hx) (fun s' r _ _ hr _ _ hm => by rw [(hD r hr).1] at hm; cases hm) (fun s' r _ hs' hr _ _ _ => hs'.markIn hr) (n + 1) q c s h hdq
    · have hdq' : D q = false := by simpa using hdq
      rw [come_succ, come_succ]
      have e1 : halts g s = halts g t := by unfold halts; rw [h.best]
      rw [← e1, ← h.out q hdq', ← h.best]
      by_cases h1 : halts g s = true
      · rw [if_pos h1, if_pos h1]; exact h
      rw [if_neg h1, if_neg h1]
      by_cases h2 : s.seen q = true
      · rw [if_pos h2, if_pos h2]; exact h
      rw [if_neg h2, if_neg h2]
      by_cases h3 : g.mat q = true
      · rw [if_pos h3, if_pos h3]; exact ⟨rfl, (h.mark q).out, (h.mark q).inn⟩
      rw [if_neg h3, if_neg h3]
      have h4 := left_mark (by simpa using h2) U hq
      have hl : ∀ (l : List Q) (s t : Wk Q), (∀ r ∈ l, r ∈ U) → left U s < n → Alike D s t → Alike D (comes g n (g.upd q c) l s) (comes g n (g.upd q c) l t) := by
        intro l
        induction l with
        | nil => intro s t _ _ h; exact h
        | cons r l ihl =>
          intro s t hr hs h
          rw [comes_cons, comes_cons]
          exact ihl _ _ (fun x hx => hr x (by simp [hx])) (by have := left_sub (come_sub g n r (g.upd q c) s) U; omega) (ih r _ s t (hr r (by simp)) hs h)
      exact hl _ _ _ (hU q hq) (by omega) (h.mark q)
end Go.Proofs.YthclpabmbhpohaaDoor
namespace Go.Proofs.YthclpabmbhpohaaDoor
set_option linter.unusedVariables false
set_option linter.unusedSectionVars false
variable {Q : Type} [DecidableEq Q]
/-- Something to do: come to a state; put a fit's place back. -/
inductive Job (Q : Type)
  | go (q : Q)
  | back (i : Nat) (v : Int)
/-- All of it, one by one. -/
def fin (g : Gr Q) (n : Nat) : List (Job Q) → List Int → Wk Q → Wk Q
  | [], _, s => s
  | .go q :: J, c, s => fin g n J c (come g n q c s)
  | .back i v :: J, c, s => fin g n J (c.set i v) s
theorem fin_halts {g : Gr Q} {n : Nat} {s : Wk Q} (h : halts g s = true) : ∀ (J : List (Job Q)) (c : List Int), fin g n J c s = s
  | [], c => rfl
  | .go q :: J, c => by rw [fin, come_halts h]; exact fin_halts h J c
  | .back i v :: J, c => by rw [fin]; exact fin_halts h J _
theorem fin_goes (g : Gr Q) (n : Nat) (J : List (Job Q)) (c : List Int) : ∀ (l : List Q) (s : Wk Q), fin g n (l.map .go ++ J) c s = fin g n J c (comes g n c l s)
  | [], s => rfl
  | q :: l, s => by rw [List.map_cons, List.cons_append, fin, comes_cons]; exact fin_goes g n J c l _
theorem comes_fuel (g : Gr Q) (U : List Q) (hU : Within g U) {n m : Nat} (hm : n ≤ m) (c : List Int) : ∀ (l : List Q) (s : Wk Q), (∀ r ∈ l, r ∈ U) → left U s < n → comes g m c l s = comes g n c l s
  | [], s, _, _ => rfl
  | q :: l, s, hr, hs => by
    rw [comes_cons, comes_cons, come_fuel g U hU n m q c s (hr q (by simp)) hs hm]
    exact comes_fuel g U hU hm c l _ (fun x hx => hr x (by simp [hx])) (by have := left_sub (come_sub g n q c s) U; omega)
theorem fin_seen {g : Gr Q} {n : Nat} {s : Wk Q} {q : Q} (h : s.seen q = true) (J : List (Job Q)) (c : List Int) : fin g n (.go q :: J) c s = fin g n J c s := by
  rw [fin, come_seen h]
theorem fin_mat {g : Gr Q} {n : Nat} {s : Wk Q} {q : Q} (h0 : halts g s = false) (h1 : s.seen q = false) (h2 : g.mat q = true) (hn : 0 < n) (J : List (Job Q)) (c : List Int) :
    fin g n (.go q :: J) c s = fin g n J c ⟨(markW q s).seen, bestOf g q c s.best⟩ := by
  obtain ⟨m, rfl⟩ : ∃ m, n = m + 1 := ⟨n - 1, by omega⟩
  rw [fin, come_succ, if_neg (by rw [h0]; simp), if_neg (by rw [h1]; simp), if_pos h2]
theorem come_on {g : Gr Q} {U : List Q} (hU : Within g U) {n : Nat} {s : Wk Q} {q : Q} (hq : q ∈ U) (hn : left U s < n) (h0 : halts g s = false) (h1 : s.seen q = false) (h2 : g.mat q = false) (c : List Int) :
    come g n q c s = comes g n (g.upd q c) (g.nexts q) (markW q s) := by
  obtain ⟨m, rfl⟩ : ∃ m, n = m + 1 := ⟨n - 1, by omega⟩
  rw [come_succ, if_neg (by rw [h0]; simp), if_neg (by rw [h1]; simp), if_neg (by rw [h2]; simp)]
  have := left_mark h1 U hq
  exact (comes_fuel g U hU (by omega) _ _ _ (hU q hq) (by omega)).symm
theorem fin_on {g : Gr Q} {U : List Q} (hU : Within g U) {n : Nat} {s : Wk Q} {q : Q} (hq : q ∈ U) (hn : left U s < n) (h0 : halts g s = false) (h1 : s.seen q = false) (h2 : g.mat q = false) (J : List (Job Q)) (c : List Int) (hc : g.upd q c = c) :
    fin g n (.go q :: J) c s = fin g n ((g.nexts q).map .go ++ J) c (markW q s) := by
  rw [fin, come_on hU hq hn h0 h1 h2, fin_goes, hc]
theorem fin_cap {g : Gr Q} {U : List Q} (hU : Within g U) {n : Nat} {s : Wk Q} {q : Q} (hq : q ∈ U) (hn : left U s < n) (h0 : halts g s = false) (h1 : s.seen q = false) (h2 : g.mat q = false) (J : List (Job Q)) (c : List Int) (i : Nat) (hi : i < c.length) (v : Int) (hc : g.upd q c = c.set i v) :
    fin g n (.go q :: J) c s = fin g n ((g.nexts q).map .go ++ .back i c[i] :: J) (c.set i v) (markW q s) := by
  rw [fin, come_on hU hq hn h0 h1 h2, fin_goes, hc, fin, List.set_set]
  rw [List.set_getElem_self]
def wt : List (Job Q) → Nat
  | [] => 0
  | .go _ :: J => wt J + 2
  | .back _ _ :: J => wt J + 1
def pot (K : Nat) (U : List Q) (J : List (Job Q)) (s : Wk Q) : Nat := K * left U s + wt J
theorem pot_mark {K : Nat} {U : List Q} {s : Wk Q} {q : Q} (hq : q ∈ U) (h : s.seen q = false) (J : List (Job Q)) : pot K U J (markW q s) + K ≤ pot K U J s := by
  have h1 := left_mark h U hq
  unfold pot
  have h2 : K * (left U (markW q s) + 1) ≤ K * left U s := Nat.mul_le_mul_left K h1
  rw [Nat.mul_add] at h2
  omega
end Go.Proofs.YthclpabmbhpohaaDoor
