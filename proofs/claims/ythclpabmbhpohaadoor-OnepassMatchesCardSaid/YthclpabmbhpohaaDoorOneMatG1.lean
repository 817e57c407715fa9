/-
  Words of this seat's own: lists in memory, trees in memory. No condition.
  slices.Contains over places' kinds; what sets.Right answers, as a premise. No other condition.
  A program in memory: its instructions. No condition.
  Words of this seat's own: a set of whole numbers in a map from numbers to bools. No condition.
  Programs that need no choice, in plain words: all ways from an instruction, depth first; two tellings of it agree. No condition.
  onepass.anchored: does one come to nothing but at the beginning? No condition but that the program is right.
  (*martelloref15.Ways).come: all ways from an instruction, as the document tells it. No condition but that the program is right.
-/
import Derived.WalkKit
import Derived.WalkLawsBesides
import Derived.WalkSpells
import Derived.Deep.QuietTactic
import Derived.BigQuiet
import Derived.Lib.Hide
import Derived.RangeFuncNested
import Derived.Test.YthclpabmbhpohaaDoorProg
import Derived.Lib.ConvBytes
import Derived.Maps.OwnIn
import Derived.Maps.Views
import Derived.Maps.Keyed
import Derived.Laws.EntriesVeiled
import Derived.Deep.RegionLaw
import Derived.Maps.AppendAt
namespace Go.Proofs.YthclpabmbhpohaaDoor
open Go.RowKit
set_option linter.unusedVariables false
/-- From address A on lie the elements of xs, each sz cells, as E says, in blocks that are ok. -/
def Arr {α : Type} (ok : Nat → Prop) (w : World) (sz : Nat) (E : α → List Value → Prop) (A : Option Addr) (xs : List α) : Prop :=
  ∀ i x, xs[i]? = some x → ∃ ad cs, A = some ad ∧ ok ad.block ∧ E x cs ∧ cs.length = sz ∧ ∀ j u, cs[j]? = some u → w.cell? (ad.add (i * sz + j)) = some u
theorem add_block (a : Addr) (n : Nat) : (a.add n).block = a.block := by unfold Addr.add; split <;> rfl
theorem add_add (a : Addr) (i j : Nat) : (a.add i).add j = a.add (i + j) := by
  unfold Addr.add
  by_cases hi : i = 0 <;> by_cases hj : j = 0 <;> simp [hi, hj, Nat.add_assoc]
theorem Arr.move {α : Type} {ok ok' : Nat → Prop} {w w' : World} {sz : Nat} {E : α → List Value → Prop} {A : Option Addr} {xs : List α}
    (h : Arr ok w sz E A xs) (hm : ∀ b, ok b → b < w.heap.size → w'.heap[b]? = w.heap[b]? ∧ ok' b) (hsz : 0 < sz) : Arr ok' w' sz E A xs := by
  intro i x hx
  obtain ⟨ad, cs, rfl, hok, hE, hl, hc⟩ := h i x hx
  have hb : ad.block < w.heap.size := by
    have h0 : 0 < cs.length := by omega
    have := World.block_lt_of_cell? w _ (hc 0 _ (List.getElem?_eq_getElem h0))
    rwa [add_block] at this
  obtain ⟨h1, h2⟩ := hm ad.block hok hb
  refine ⟨ad, cs, rfl, h2, hE, hl, fun j u hu => ?_⟩
  rw [← hc j u hu]
  exact World.cell?_of_block (by rw [add_block]; exact h1)
theorem Arr.nil {α : Type} {ok : Nat → Prop} {w : World} {sz : Nat} {E : α → List Value → Prop} {A : Option Addr} : Arr ok w sz E A [] := fun i x h => by simp at h
theorem Arr.weak {α : Type} {ok : Nat → Prop} {w : World} {sz : Nat} {E E' : α → List Value → Prop} {A : Option Addr} {xs : List α} (h : Arr ok w sz E A xs) (hE : ∀ x ∈ xs, ∀ cs, E x cs → E' x cs) : Arr ok w sz E' A xs := by
  intro i x hx
  obtain ⟨ad, cs, hA, hok, hc, hr⟩ := h i x hx
  exact ⟨ad, cs, hA, hok, hE x (List.mem_of_getElem? hx) _ hc, hr⟩
/-- Only draws, new blocks, stores into blocks from B on. -/
theorem below_w {w : World} {B : Nat} : Below B w w := Below.refl _ _
theorem below_drewN {B : Nat} {w w' : World} (h : Below B w w') (n : Nat) : Below B w (w'.drewN n) := ⟨h.os, h.tape, h.output, h.size, h.block⟩
theorem below_then {B : Nat} {w w1 w2 : World} (h : Below B w w1) (hB : B ≤ w1.heap.size) (k : Below w1.heap.size w1 w2) : Below B w w2 := h.trans (k.mono hB)
theorem below_and {w w1 w2 : World} (k : Below w1.heap.size w1 w2) (h : Below w.heap.size w w1) : Below w.heap.size w w2 := below_then h h.size k
theorem below_al {w w1 : World} (h : Below w.heap.size w w1) (o : Obj) : Below w.heap.size w (w1.alloc o) := h.alloc h.size o
theorem ret_int {k : IntKind} {a b : Int} (h : a = b) : Ending.returned (.int k a) = .returned (.int k b) := by rw [h]
theorem ret_bool {a b : Bool} (h : a = b) : Ending.returned (.bool a) = .returned (.bool b) := by rw [h]
structure Rg where
  lo : Int
  hi : Int
def RgC (r : Rg) (cs : List Value) : Prop := cs = [.int .i32 r.lo, .int .i32 r.hi]
/-- An instruction. -/
structure In where
  op : Int
  out : Int
  arg : Int
  set : List Rg
  at_ : Int
/-- A program. -/
structure Pg where
  ins : List In
  start : Int
  caps : Int
structure Tr where
  op : Int
  kids : List Tr
  rune : Int
  set : List Rg
  at_ : Int
  cap : Int
  name : ByteArray
  mn : Int
  mx : Int
  lz : Bool
mutual
def TrC (ok : Nat → Prop) (w : World) : Tr → List Value → Prop
  | ⟨op, kids, rune, set, at_, cap, name, mn, mx, lz⟩, cs => ∃ A c B d, cs = [.int .i64 op, .slice A kids.length c, .int .i32 rune, .slice B set.length d, .int .i64 at_, .int .i64 cap, .string name, .int .i64 mn, .int .i64 mx, .bool lz] ∧
      kids.length ≤ c ∧ c ≤ maxLen ∧ set.length ≤ d ∧ d ≤ maxLen ∧ Arr ok w 2 RgC B set ∧ TrsC ok w A 0 kids
def TrsC (ok : Nat → Prop) (w : World) (A : Option Addr) : Nat → List Tr → Prop
  | _, [] => True
  | i, x :: xs => (∃ ad cs, A = some ad ∧ ok ad.block ∧ TrC ok w x cs ∧ cs.length = 10 ∧ ∀ j u, cs[j]? = some u → w.cell? (ad.add (i * 10 + j)) = some u) ∧ TrsC ok w A (i + 1) xs
end
theorem trsC_arr {ok : Nat → Prop} {w : World} {A : Option Addr} : ∀ (xs : List Tr) (k : Nat), TrsC ok w A k xs ↔
    ∀ i x, xs[i]? = some x → ∃ ad cs, A = some ad ∧ ok ad.block ∧ TrC ok w x cs ∧ cs.length = 10 ∧ ∀ j u, cs[j]? = some u → w.cell? (ad.add ((k + i) * 10 + j)) = some u
  | [], k => by simp [TrsC]
  | x :: xs, k => by
    rw [TrsC, trsC_arr xs (k + 1)]
    constructor
    · rintro ⟨h0, hr⟩ i y hy
      cases i with
      | zero => simp at hy; subst hy; exact h0
      | succ i => have := hr i y (by simpa using hy); rwa [show k + 1 + i = k + (i + 1) by omega] at this
    · intro h
      refine ⟨by simpa using h 0 x (by simp), fun i y hy => ?_⟩
      have := h (i + 1) y (by simpa using hy)
      rwa [show k + (i + 1) = k + 1 + i by omega] at this
theorem trC_iff {ok : Nat → Prop} {w : World} {t : Tr} {cs : List Value} : TrC ok w t cs ↔
    ∃ A c B d, cs = [.int .i64 t.op, .slice A t.kids.length c, .int .i32 t.rune, .slice B t.set.length d, .int .i64 t.at_, .int .i64 t.cap, .string t.name, .int .i64 t.mn, .int .i64 t.mx, .bool t.lz] ∧
      t.kids.length ≤ c ∧ c ≤ maxLen ∧ t.set.length ≤ d ∧ d ≤ maxLen ∧ Arr ok w 2 RgC B t.set ∧ Arr ok w 10 (TrC ok w) A t.kids := by
  cases t with
  | mk op kids rune set at_ cap name mn mx lz =>
    simp only [TrC, trsC_arr, Arr, Nat.zero_add]
mutual
theorem TrC.move {ok ok' : Nat → Prop} {w w' : World} (hm : ∀ b, ok b → b < w.heap.size → w'.heap[b]? = w.heap[b]? ∧ ok' b) : ∀ {t : Tr} {cs : List Value}, TrC ok w t cs → TrC ok' w' t cs
  | ⟨op, kids, rune, set, at_, cap, name, mn, mx, lz⟩, cs, h => by
    rw [TrC] at h ⊢
    obtain ⟨A, c, B, d, hcs, h1, h2, h3, h4, h5, h6⟩ := h
    exact ⟨A, c, B, d, hcs, h1, h2, h3, h4, h5.move hm (by omega), TrsC.move hm h6⟩
theorem TrsC.move {ok ok' : Nat → Prop} {w w' : World} (hm : ∀ b, ok b → b < w.heap.size → w'.heap[b]? = w.heap[b]? ∧ ok' b) {A : Option Addr} : ∀ {k : Nat} {xs : List Tr}, TrsC ok w A k xs → TrsC ok' w' A k xs
  | _, [], _ => by rw [TrsC]; trivial
  | k, x :: xs, h => by
    rw [TrsC] at h ⊢
    obtain ⟨⟨ad, cs, rfl, hok, hE, hl, hc⟩, hr⟩ := h
    have hb : ad.block < w.heap.size := by
      have h0 : 0 < cs.length := by omega
      have := World.block_lt_of_cell? w _ (hc 0 _ (List.getElem?_eq_getElem h0))
      rwa [add_block] at this
    obtain ⟨h1, h2⟩ := hm ad.block hok hb
    refine ⟨⟨ad, cs, rfl, h2, TrC.move hm hE, hl, fun j u hu => ?_⟩, TrsC.move hm hr⟩
    rw [← hc j u hu]
    exact World.cell?_of_block (by rw [add_block]; exact h1)
end
theorem TrC.below {ok : Nat → Prop} {w w' : World} {t : Tr} {cs : List Value} (h : TrC ok w t cs) (hb : Below w.heap.size w w') : TrC ok w' t cs := h.move fun b hok hlt => ⟨hb.block b hlt, hok⟩
theorem TrC.old {ok : Nat → Prop} {w : World} {t : Tr} {cs : List Value} (h : TrC ok w t cs) : TrC (fun b => ok b ∧ b < w.heap.size) w t cs := h.move fun b hok hlt => ⟨rfl, hok, hlt⟩
theorem TrC.mono {ok ok' : Nat → Prop} {w : World} {t : Tr} {cs : List Value} (h : TrC ok w t cs) (hk : ∀ b, ok b → ok' b) : TrC ok' w t cs := h.move fun b hok hlt => ⟨rfl, hk b hok⟩
theorem TrC.len {ok : Nat → Prop} {w : World} {t : Tr} {cs : List Value} (h : TrC ok w t cs) : cs.length = 10 := by
  obtain ⟨A, c, B, d, rfl, _⟩ := trC_iff.1 h
  rfl
structure Keeps (B0 B1 : Nat) (W W' : World) : Prop where
  below : Below B0 W W'
  cells : ∀ (b : Nat) (cs : Array Value) (ty : TypeId) (fr : Nat × Nat), B1 ≤ b → W.heap[b]? = some (.cells cs ty fr) → W'.heap[b]? = W.heap[b]?
theorem Keeps.refl (B0 B1 : Nat) (W : World) : Keeps B0 B1 W W := ⟨Below.refl _ _, fun _ _ _ _ _ _ => rfl⟩
theorem Keeps.trans {B0 B1 : Nat} {A B C : World} (h : Keeps B0 B1 A B) (k : Keeps B0 B1 B C) : Keeps B0 B1 A C :=
  ⟨h.below.trans k.below, fun b cs ty fr hb hc => by
    have h1 := h.cells b cs ty fr hb hc
    rw [k.cells b cs ty fr hb (h1.trans hc), h1]⟩
theorem heap_lt {W : World} {b : Nat} {o : Obj} (h : W.heap[b]? = some o) : b < W.heap.size := (Array.getElem?_eq_some_iff.1 h).1
theorem Keeps.alloc {B0 B1 : Nat} {A B : World} (h : Keeps B0 B1 A B) (hB : B0 ≤ B.heap.size) (o : Obj) : Keeps B0 B1 A (B.alloc o) :=
  h.trans ⟨(Below.refl _ _).alloc hB _, fun b cs ty fr hb hc => Below.heap_alloc _ _ _ (heap_lt hc)⟩
theorem Keeps.drew {B0 B1 : Nat} {A B : World} (h : Keeps B0 B1 A B) : Keeps B0 B1 A B.drew := ⟨h.below.drew, h.cells⟩
theorem Keeps.drewN {B0 B1 : Nat} {A B : World} (h : Keeps B0 B1 A B) (n : Nat) : Keeps B0 B1 A (B.drewN n) := ⟨below_drewN h.below n, h.cells⟩
theorem Keeps.setCell {B0 B1 : Nat} {A B : World} (h : Keeps B0 B1 A B) {p : Addr} (h0 : B0 ≤ p.block) (h1 : p.block < B1) (u : Value) : Keeps B0 B1 A (B.setCell p u) :=
  h.trans ⟨(Below.refl _ _).setCell h0 _, fun b cs ty fr hb hc => Below.heap_setCell _ _ _ _ (by omega)⟩
theorem Keeps.of_below {B0 B1 : Nat} {A B : World} (h : Below A.heap.size A B) (hB : B0 ≤ A.heap.size) : Keeps B0 B1 A B := ⟨h.mono hB, fun b cs ty fr _ hc => h.block b (heap_lt hc)⟩
theorem Keeps.putObj {B0 B1 : Nat} {w : World} (h0 : B0 ≤ w.heap.size) (h1 : B1 ≤ w.heap.size) (W : World) (l : Nat) (o o' : Obj) (hl : w.heap.size ≤ l) (h : W.heap[l]? = some o) (hc : o.isCells = false) : Keeps B0 B1 W (W.putObj l o') :=
  ⟨(Below.refl _ W).grown (row := some l) (grownBy_putObj' W l o') (by have := heap_lt h; omega) (fun k e => by cases e; omega), fun b cs ty fr hb hcc => by
    refine World.putObj_heap_other ?_
    rintro rfl
    rw [h] at hcc
    cases hcc
    simp [Obj.isCells] at hc⟩
theorem add_field (a : Addr) (k j : Nat) (hj : 0 < j) : a.add (k + j) = ⟨(a.add k).block, (a.add k).off + j, none⟩ := by
  rw [← add_add]
  unfold Addr.add
  rw [if_neg (show j ≠ 0 by omega)]
theorem cell_of_blk {W : World} {b : Nat} {cs : Array Value} {ty : TypeId} {fr : Nat × Nat} (h : W.heap[b]? = some (.cells cs ty fr)) (j : Nat) : W.cell? ⟨b, j, none⟩ = cs[j]? := by simp [World.cell?, h]
theorem heap_new1 (w : World) (o1 : Obj) : (w.alloc o1).heap[w.heap.size]? = some o1 := World.alloc_heap_new _ _
theorem heap_new2 (w : World) (o1 o2 : Obj) : ((w.alloc o1).alloc o2).heap[w.heap.size + 1]? = some o2 := by
  have := World.alloc_heap_new (w.alloc o1) o2; rwa [World.size_alloc] at this
theorem heap_new3 (w : World) (o1 o2 o3 : Obj) : (((w.alloc o1).alloc o2).alloc o3).heap[w.heap.size + 1 + 1]? = some o3 := by
  have := World.alloc_heap_new ((w.alloc o1).alloc o2) o3; rwa [World.size_alloc, World.size_alloc] at this
def Owns (w : World) (base : Nat) (e : TypeId) (sz : Nat) (v : Value) (css : List (List Value)) : Prop := w.ownsRow base e sz v css.length css.flatten ∧ ∀ c ∈ css, c.length = sz
theorem Owns.nil (w : World) (base : Nat) (e : TypeId) (sz : Nat) : Owns w base e sz (.slice none 0 0) [] := ⟨World.ownsRow_nil _ _ _ _, fun c h => by simp at h⟩
theorem Owns.kept {w w' : World} {base : Nat} {e : TypeId} {sz : Nat} {v : Value} {css : List (List Value)} {row : Option Nat} (h : Owns w base e sz v css) (hg : w.grownBy w' row) (hne : v.ownBlock = none ∨ v.ownBlock ≠ row) : Owns w' base e sz v css := ⟨h.1.kept hg hne, h.2⟩
theorem Owns.alloc {w : World} {base : Nat} {e : TypeId} {sz : Nat} {v : Value} {css : List (List Value)} (h : Owns w base e sz v css) (o : Obj) : Owns (w.alloc o) base e sz v css := ⟨h.1.alloc o, h.2⟩
theorem Owns.drew {w : World} {base : Nat} {e : TypeId} {sz : Nat} {v : Value} {css : List (List Value)} (h : Owns w base e sz v css) : Owns w.drew base e sz v css := ⟨h.1.drew, h.2⟩
theorem Owns.lt {w : World} {base : Nat} {e : TypeId} {sz : Nat} {v : Value} {css : List (List Value)} (h : Owns w base e sz v css) : ∀ k, v.ownBlock = some k → base ≤ k ∧ k < w.heap.size := h.1.lt
theorem Owns.below {w w' : World} {base : Nat} {e : TypeId} {sz : Nat} {v : Value} {css : List (List Value)} (h : Owns w base e sz v css) (hb : Below w.heap.size w w') : Owns w' base e sz v css :=
  h.kept (row := none) ⟨hb.os, hb.tape, hb.output, hb.size, fun k hk _ => hb.block k hk⟩ (by cases v.ownBlock <;> simp)
theorem Owns.shape {w : World} {base : Nat} {e : TypeId} {sz : Nat} {v : Value} {css : List (List Value)} (h : Owns w base e sz v css) : ∃ A c, v = .slice A css.length c ∧ css.length ≤ c ∧ c ≤ maxLen := by
  rcases h.1.2 with ⟨rfl, h0⟩ | ⟨g, cap, cur, rfl, _, _, h1, h2, _⟩
  · exact ⟨none, 0, by rw [h0], by omega, by unfold maxLen; omega⟩
  · exact ⟨_, cap, rfl, h1, h2⟩
theorem flatten_at {sz : Nat} : ∀ {css : List (List Value)} (h : ∀ c ∈ css, c.length = sz) {i : Nat} {c : List Value}, css[i]? = some c → ∀ {j : Nat} {u : Value}, c[j]? = some u → css.flatten[i * sz + j]? = some u
  | [], _, i, c, hi, _, _, _ => by simp at hi
  | x :: css, h, 0, c, hi, j, u, hj => by
    simp at hi; subst hi
    rw [List.flatten_cons, Nat.zero_mul, Nat.zero_add, List.getElem?_append_left (List.getElem?_eq_some_iff.1 hj).1]; exact hj
  | x :: css, h, i + 1, c, hi, j, u, hj => by
    have h0 := h x (by simp)
    rw [List.flatten_cons, List.getElem?_append_right (by rw [h0, Nat.add_mul]; omega), h0, show (i + 1) * sz + j - sz = i * sz + j by rw [Nat.add_mul]; omega]
    exact flatten_at (fun c hc => h c (by simp [hc])) (by simpa using hi) hj
theorem Owns.arr {α : Type} {w : World} {base : Nat} {e : TypeId} {sz : Nat} {A : Option Addr} {n cap : Nat} {css : List (List Value)} (h : Owns w base e sz (.slice A n cap) css) {E : α → List Value → Prop} {xs : List α} (hx : xs.length = css.length)
    (hE : ∀ (i : Nat) (x : α) (c : List Value), xs[i]? = some x → css[i]? = some c → E x c) {ok : Nat → Prop} (hok : ∀ a, A = some a → ok a.block) : Arr ok w sz E A xs := by
  intro i x hi
  have hil : i < css.length := by rw [← hx]; exact (List.getElem?_eq_some_iff.1 hi).1
  obtain ⟨c, hc⟩ : ∃ c, css[i]? = some c := ⟨_, List.getElem?_eq_getElem hil⟩
  rcases h.1.2 with ⟨_, h0⟩ | ⟨g, cap', cur, hv, _, _⟩
  · omega
  · cases hv
    exact ⟨_, c, rfl, hok _ rfl, hE i x c hi hc, h.2 c (List.mem_of_getElem? hc), fun j u hu => h.1.cells rfl _ _ (flatten_at h.2 hc hu)⟩
theorem wpList_app1 {P : Program} {ops : Array Oper} {rest : List Oper} {o : Oper} {a : Act} {Q : Exit → Act → World → Prop} {w : World} (hgd : o.guard = none) (s x : Operand) (t : TypeId)
    (ho : o.op = .call { callee := .builtin .append, args := #[s, x], argTypes := #[t, t] }) (base : Nat) (e : TypeId) (i : TypeInfo) (z : Value) (sz bytes : Nat) (ht : P.underlying t = some (.slice e)) (hi : P.info? e = some i) (hz : i.zero = some z)
    (hsize : i.size = sz) (hby : i.bytes = bytes) (hzs : z.cells.size = sz) (hsz : 0 < sz) (v : Value) (css : List (List Value)) (hs : a.eval s = v) (hown : Owns w base e sz v css)
    (g : Nat) (c : List Value) (hx : a.eval x = .slice (some ⟨g, 0, none⟩) 1 1) (hc : c.length = sz) (hg : w.heap[g]? = some (.cells c.toArray e (0, 0))) (h1 : ∀ u ∈ c, u.oneCell' = true)
    (hmax : css.length + 1 ≤ maxLen) (hbytes : (css.length + 1) * bytes ≤ 140737488355328) (hbase : base ≤ w.heap.size)
    (h : ∀ v' w', Owns w' base e sz v' (css ++ [c]) → w.grownBy w' v.ownBlock → wpList P ops Q rest (a.put o.dst v') w') : wpList P ops Q (o :: rest) a w :=
  wpList_append_own w hgd s x t ho base e i z sz bytes ht hi hz hsize hby hzs hsz v css.length css.flatten hs hown.1 ⟨g, 0, none⟩ 1 1 c hx (by rw [hc, Nat.one_mul])
    (fun j u hj => by
      have : (⟨g, 0, none⟩ : Addr).add j = ⟨g, j, none⟩ := by unfold Addr.add; split <;> simp_all
      rw [this, cell_of_blk hg]; simpa using hj) h1 hmax hbytes hbase
    (fun v' w' h2 h3 _ => h v' w' ⟨by rw [List.length_append, List.flatten_append]; simpa using h2, fun c' hc' => (List.mem_append.1 hc').elim (hown.2 c') (fun e => by rw [List.mem_singleton.1 e]; exact hc)⟩ h3)
theorem below_app {base : Nat} {w0 w w' : World} {e : TypeId} {sz : Nat} {v : Value} {css : List (List Value)} (h : Below base w0 w) (hb : base ≤ w.heap.size) (hown : Owns w base e sz v css) (hg : w.grownBy w' v.ownBlock) : Below base w0 w' :=
  h.grown hg hb (fun k e => (hown.lt k e).1)
end Go.Proofs.YthclpabmbhpohaaDoor
namespace Go.Proofs.YthclpabmbhpohaaDoor
open Go.RowKit
set_option linter.unusedVariables false
def IntC (k : IntKind) (x : Int) (cs : List Value) : Prop := cs = [.int k x]
theorem ints_at {ok : Nat → Prop} {w : World} {k : IntKind} {A : Option Addr} {xs : List Int} (h : Arr ok w 1 (IntC k) A xs) (i : Nat) (hi : i < xs.length) : ∃ ad, A = some ad ∧ w.cell? (ad.add i) = some (.int k xs[i]) := by
  obtain ⟨ad, cs, rfl, _, rfl, _, hc⟩ := h i _ (List.getElem?_eq_getElem hi)
  exact ⟨ad, rfl, by simpa using hc 0 _ rfl⟩
def idxI (xs : List Int) (v : Int) : Int := match xs.findIdx? (· == v) with | some i => (i : Int) | none => -1
theorem idxI_some {xs : List Int} {v : Int} {i : Nat} (hi : i < xs.length) (h : (v == xs[i]) = true) (hb : ∀ j (hj : j < xs.length), j < i → ¬ v = xs[j]) : idxI xs v = i := by
  have : xs.findIdx? (· == v) = some i := by
    rw [List.findIdx?_eq_some_iff_getElem]
    refine ⟨hi, by rw [beq_iff_eq] at h ⊢; exact h.symm, fun j hj => ?_⟩
    rw [beq_iff_eq]
    exact fun e => hb j (by omega) hj e.symm
  simp [idxI, this]
theorem idxI_none {xs : List Int} {v : Int} (hb : ∀ j (hj : j < xs.length), ¬ v = xs[j]) : idxI xs v = -1 := by
  have : xs.findIdx? (· == v) = none := by
    rw [List.findIdx?_eq_none_iff]
    intro x hx
    obtain ⟨j, hj, rfl⟩ := List.getElem_of_mem hx
    rw [beq_eq_false_iff_ne]
    exact fun e => hb j hj e.symm
  simp [idxI, this]
theorem idxI_ge {xs : List Int} {v : Int} : decide (0 ≤ idxI xs v) = xs.contains v := by
  unfold idxI
  cases h : xs.findIdx? (· == v) with
  | some i =>
    rw [List.findIdx?_eq_some_iff_getElem] at h
    obtain ⟨hi, h1, _⟩ := h
    have h2 : xs[i] = v := by simpa using h1
    rw [List.contains_iff_mem.2 (h2 ▸ List.getElem_mem hi)]
    simp
  | none =>
    rw [List.findIdx?_eq_none_iff] at h
    have : xs.contains v = false := by
      rw [Bool.eq_false_iff]
      intro hc
      have := h v (List.contains_iff_mem.1 hc)
      simp at this
    rw [this]; rfl
set_option maxHeartbeats 400000 in
theorem indexAt_any (w : World) (ok : Nat → Prop) (A : Option Addr) (c : Nat) (xs : List Int) (v : Int) (h : Arr ok w 1 (IntC .i64) A xs) (hl : xs.length ≤ 9223372036854775807) :
    Calls Tryd.prog 87 #[.slice A xs.length c, .int .i64 v] w fun e w' => e = .returned (.int .i64 (idxI xs v)) ∧ w = w' := by
  go_enter Tryd.func87, Tryd.ntmps87
  go_wp2
  go_loop [8] (fun i => ∃ k : Nat, k ≤ xs.length ∧ i = .int .i64 k ∧ ∀ j (hj : j < xs.length), j < k → ¬ v = xs[j]) (fun i => xs.length - (intOf i).toNat)
  case atStart => exact ⟨0, Nat.zero_le _, rfl, fun j _ h => by omega⟩
  case round =>
    obtain ⟨k, hk, rfl, hb⟩ := hrel
    have HB := Lib.hid hb
    clear hb
    by_cases hlt : k < xs.length
    · obtain ⟨ad, rfl, hc⟩ := ints_at h k hlt
      by_cases he : (v == xs[k]) = true
      · go_wp2
        go_ret
        exact ⟨ret_int (idxI_some hlt he HB.out).symm, rfl⟩
      · have he' : (v == xs[k]) = false := by simpa using he
        clear he
        have HE := Lib.hid he'
        go_wp2
        go_round
        case rel =>
          exact ⟨k + 1, by omega, by go_num, fun j hj hjk => by
            rcases Nat.lt_or_ge j k with h1 | h1
            · exact HB.out j hj h1
            · obtain rfl : j = k := by omega
              simpa using HE.out⟩
        case measure => simp [intOf]; omega
    · obtain rfl : k = xs.length := by omega
      go_wp2
      go_ret
      exact ⟨ret_int (idxI_none (fun j hj => HB.out j hj hj)).symm, rfl⟩
set_option maxHeartbeats 400000 in
theorem containsAt_any (w : World) (ok : Nat → Prop) (A : Option Addr) (c : Nat) (xs : List Int) (v : Int) (h : Arr ok w 1 (IntC .i64) A xs) (hl : xs.length ≤ 9223372036854775807) :
    Calls Tryd.prog 74 #[.slice A xs.length c, .int .i64 v] w fun e w' => e = .returned (.bool (xs.contains v)) ∧ w = w' := by
  have hg := @idxI_ge xs v
  have HG := Lib.hid hg
  clear hg
  go_enter Tryd.func74, Tryd.ntmps74
  go_wp2_with (go_at_call 87; refine (indexAt_any w ok A c xs v h hl).mono ?_; rintro e w' ⟨rfl, rfl⟩)
  go_ret
  exact ⟨ret_bool HG.out, rfl⟩
theorem arr_lit {ok : Nat → Prop} {W : World} {k : IntKind} {g : Nat} {ty : TypeId} {fr : Nat × Nat} {xs : List Int} (h : W.heap[g]? = some (.cells (xs.map (Value.int k)).toArray ty fr)) (hok : ok g) : Arr ok W 1 (IntC k) (some ⟨g, 0, none⟩) xs := by
  intro i x hx
  refine ⟨_, _, rfl, hok, rfl, rfl, fun j u hu => ?_⟩
  obtain ⟨rfl, rfl⟩ : j = 0 ∧ u = .int k x := by
    cases j with
    | zero => simpa [eq_comm] using hu
    | succ j => simp at hu
  have : (⟨g, 0, none⟩ : Addr).add (i * 1 + 0) = ⟨g, i, none⟩ := by unfold Addr.add; split <;> simp_all
  rw [this, cell_of_blk h]
  simp [hx]
def ats : List Int := [1, 2, 4, 8, 16, 32]
theorem containsAt_lit (W : World) (g : Nat) (fr : Nat × Nat) (v : Int) (h : W.heap[g]? = some (.cells #[.int .i64 1, .int .i64 2, .int .i64 4, .int .i64 8, .int .i64 16, .int .i64 32] 62 fr)) :
    Calls Tryd.prog 74 #[.slice (some ⟨g, 0, none⟩) 6 6, .int .i64 v] W fun e w' => e = .returned (.bool (ats.contains v)) ∧ W = w' :=
  containsAt_any W (fun _ => True) (some ⟨g, 0, none⟩) 6 ats v (arr_lit (xs := ats) h trivial) (by simp [ats])
/-- What sets.Right answers of a list. -/
def RightOK (R : List Rg → Bool) (l : List Rg) : Prop := ∀ (ok : Nat → Prop) (W : World) (B : Option Addr) (d : Nat), Arr ok W 2 RgC B l → l.length ≤ d → d ≤ maxLen →
  Calls Tryd.prog 73 #[.slice B l.length d] W fun e w' => e = .returned (.bool (R l)) ∧ Below W.heap.size W w'
end Go.Proofs.YthclpabmbhpohaaDoor
namespace Go.Proofs.YthclpabmbhpohaaDoor
open Go.RowKit
set_option linter.unusedVariables false
def InO (ok : Nat → Prop) (w : World) (x : In) (cs : List Value) : Prop := ∃ B d, cs = [.int .i64 x.op, .int .i64 x.out, .int .i64 x.arg, .slice B x.set.length d, .int .i64 x.at_] ∧ x.set.length ≤ d ∧ d ≤ maxLen ∧ Arr ok w 2 RgC B x.set
def PgC (ok : Nat → Prop) (w : World) (p : Pg) (cs : List Value) : Prop := ∃ A c, cs = [.slice A p.ins.length c, .int .i64 p.start, .int .i64 p.caps] ∧ p.ins.length ≤ c ∧ c ≤ maxLen ∧ Arr ok w 5 (InO ok w) A p.ins
theorem InO.move {ok ok' : Nat → Prop} {w w' : World} (hm : ∀ b, ok b → b < w.heap.size → w'.heap[b]? = w.heap[b]? ∧ ok' b) {x : In} {cs : List Value} (h : InO ok w x cs) : InO ok' w' x cs := by
  obtain ⟨B, d, h1, h2, h3, h4⟩ := h
  exact ⟨B, d, h1, h2, h3, h4.move hm (by omega)⟩
theorem PgC.move {ok ok' : Nat → Prop} {w w' : World} (hm : ∀ b, ok b → b < w.heap.size → w'.heap[b]? = w.heap[b]? ∧ ok' b) {p : Pg} {cs : List Value} (h : PgC ok w p cs) : PgC ok' w' p cs := by
  obtain ⟨A, c, h1, h2, h3, h4⟩ := h
  exact ⟨A, c, h1, h2, h3, (h4.move hm (by omega)).weak (fun x _ cs hx => hx.move hm)⟩
theorem PgC.old {ok : Nat → Prop} {w : World} {p : Pg} {cs : List Value} (h : PgC ok w p cs) : PgC (fun b => ok b ∧ b < w.heap.size) w p cs := h.move fun b hok hlt => ⟨rfl, hok, hlt⟩
theorem InO.old {ok : Nat → Prop} {w : World} {x : In} {cs : List Value} (h : InO ok w x cs) : InO (fun b => ok b ∧ b < w.heap.size) w x cs := h.move fun b hok hlt => ⟨rfl, hok, hlt⟩
theorem PgC.below {ok : Nat → Prop} {w w' : World} {p : Pg} {cs : List Value} (h : PgC ok w p cs) (hb : Below w.heap.size w w') : PgC ok w' p cs := h.move fun b hok hlt => ⟨hb.block b hlt, hok⟩
theorem InO.below {ok : Nat → Prop} {w w' : World} {x : In} {cs : List Value} (h : InO ok w x cs) (hb : Below w.heap.size w w') : InO ok w' x cs := h.move fun b hok hlt => ⟨hb.block b hlt, hok⟩
theorem InO.len {ok : Nat → Prop} {w : World} {x : In} {cs : List Value} (h : InO ok w x cs) : cs.length = 5 := by
  obtain ⟨B, d, rfl, _⟩ := h
  rfl
theorem cells5 {W : World} {b : Nat} {ty : TypeId} {fr : Nat × Nat} {a0 a1 a2 a3 a4 : Value} (h : W.heap[b]? = some (.cells #[a0, a1, a2, a3, a4] ty fr)) :
    W.cell? ⟨b, 0, none⟩ = some a0 ∧ W.cell? ⟨b, 1, none⟩ = some a1 ∧ W.cell? ⟨b, 2, none⟩ = some a2 ∧ W.cell? ⟨b, 3, none⟩ = some a3 ∧ W.cell? ⟨b, 4, none⟩ = some a4 := by
  refine ⟨?_, ?_, ?_, ?_, ?_⟩ <;> (rw [cell_of_blk h]; rfl)
theorem cells3 {W : World} {b : Nat} {ty : TypeId} {fr : Nat × Nat} {a0 a1 a2 : Value} (h : W.heap[b]? = some (.cells #[a0, a1, a2] ty fr)) : W.cell? ⟨b, 0, none⟩ = some a0 ∧ W.cell? ⟨b, 1, none⟩ = some a1 ∧ W.cell? ⟨b, 2, none⟩ = some a2 := by
  refine ⟨?_, ?_, ?_⟩ <;> (rw [cell_of_blk h]; rfl)
def atsB (z : Int) : Bool := ats.contains z
theorem containsAtB (W : World) (g : Nat) (fr : Nat × Nat) (v : Int) (h : W.heap[g]? = some (.cells #[.int .i64 1, .int .i64 2, .int .i64 4, .int .i64 8, .int .i64 16, .int .i64 32] 62 fr)) :
    Calls Tryd.prog 74 #[.slice (some ⟨g, 0, none⟩) 6 6, .int .i64 v] W fun e w' => e = .returned (.bool (atsB v)) ∧ W = w' := containsAt_lit W g fr v h
theorem frozenOf {W : World} {b : Nat} {cs : Array Value} {T : TypeId} (h : W.heap[b]? = some (.cells cs T (0, 0))) : ∀ j, W.frozen? ⟨b, j, none⟩ = false := fun j => by simp [World.frozen?, h]
def hereB (L : Nat) (pc : Int) : Bool := decide (0 ≤ pc) && decide (pc < L)
def rightI (R : List Rg → Bool) (L : Nat) (caps : Int) (x : In) : Bool :=
  if x.op = 1 ∨ x.op = 6 then (x.out == 0) && (x.arg == 0) && (x.at_ == 0) && ((x.set.length : Int) == 0)
  else if x.op = 2 then hereB L x.out && !((x.set.length : Int) == 0) && R x.set && (x.arg == 0) && (x.at_ == 0)
  else if x.op = 3 then hereB L x.out && hereB L x.arg && (x.at_ == 0) && ((x.set.length : Int) == 0)
  else if x.op = 4 then hereB L x.out && !decide (x.arg < 2) && !decide (caps ≤ x.arg) && (x.at_ == 0) && ((x.set.length : Int) == 0)
  else if x.op = 5 then hereB L x.out && atsB x.at_ && (x.arg == 0) && ((x.set.length : Int) == 0)
  else false
set_option maxHeartbeats 400000 in
theorem here_any (w : World) (b0 : Nat) (A : Option Addr) (L c : Nat) (st cp pc : Int) (hb : w.heap[b0]? = some (.cells #[.slice A L c, .int .i64 st, .int .i64 cp] 28 (0, 0))) (hL : L ≤ 140737488351232) :
    Calls Tryd.prog 72 #[.int .i64 pc, .pointer (some ⟨b0, 0, none⟩)] w fun e w' => e = .returned (.bool (hereB L pc)) ∧ w = w' := by
  obtain ⟨g0, g1, g2⟩ := cells3 hb
  have hn := heap_lt hb
  clear hb
  have hh : hereB L pc = (decide (0 ≤ pc) && decide (pc < L)) := rfl
  have HH := Lib.hid hh
  clear hh
  generalize hereB L pc = r at *
  by_cases h0 : 0 ≤ pc
  · have d0 : decide (0 ≤ pc) = true := decide_eq_true h0
    have H0 := Lib.hid h0
    clear h0
    go_enter Tryd.func72, Tryd.ntmps72
    go_wp2_with fail
    go_ret
    exact ⟨ret_bool (by rw [HH.out]; simp [H0.out]), rfl⟩
  · have d0 : decide (0 ≤ pc) = false := decide_eq_false h0
    have H0 := Lib.hid h0
    clear h0
    go_enter Tryd.func72, Tryd.ntmps72
    go_wp2_with fail
    go_ret
    exact ⟨ret_bool (by rw [HH.out]; simp [d0]), rfl⟩
theorem heap_new4 (w : World) (o1 o2 o3 o4 : Obj) : ((((w.alloc o1).alloc o2).alloc o3).alloc o4).heap[w.heap.size + 1 + 1 + 1]? = some o4 := by
  have := World.alloc_heap_new (((w.alloc o1).alloc o2).alloc o3) o4; rwa [World.size_alloc, World.size_alloc, World.size_alloc] at this
theorem inArr_at {ok : Nat → Prop} {w : World} {A : Option Addr} {xs : List In} (h : Arr ok w 5 (InO ok w) A xs) (wr : World) (hmv : ∀ b, ok b → b < w.heap.size → wr.heap[b]? = w.heap[b]?) (i : Nat) (hi : i < xs.length) :
    ∃ ad B d, A = some ad ∧ ok ad.block ∧ ad.block < w.heap.size ∧ InO ok w xs[i] [.int .i64 xs[i].op, .int .i64 xs[i].out, .int .i64 xs[i].arg, .slice B xs[i].set.length d, .int .i64 xs[i].at_] ∧
      wr.cell? (ad.add (i * 5)) = some (.int .i64 xs[i].op) ∧ wr.cell? ⟨(ad.add (i * 5)).block, (ad.add (i * 5)).off + 1, none⟩ = some (.int .i64 xs[i].out) ∧
      wr.cell? ⟨(ad.add (i * 5)).block, (ad.add (i * 5)).off + 2, none⟩ = some (.int .i64 xs[i].arg) ∧ wr.cell? ⟨(ad.add (i * 5)).block, (ad.add (i * 5)).off + 3, none⟩ = some (.slice B xs[i].set.length d) ∧
      wr.cell? ⟨(ad.add (i * 5)).block, (ad.add (i * 5)).off + 4, none⟩ = some (.int .i64 xs[i].at_) := by
  obtain ⟨ad, cs, rfl, hok, hE, hl, hc0⟩ := h i _ (List.getElem?_eq_getElem hi)
  have hb : ad.block < w.heap.size := by
    have := World.block_lt_of_cell? w _ (hc0 0 _ (List.getElem?_eq_getElem (by omega)))
    rwa [add_block] at this
  have hc : ∀ j u, cs[j]? = some u → wr.cell? (ad.add (i * 5 + j)) = some u := fun j u hu => by
    rw [← hc0 j u hu]; exact World.cell?_of_block (by rw [add_block]; exact hmv _ hok hb)
  have hE0 := hE
  obtain ⟨B, d, rfl, _⟩ := hE
  refine ⟨ad, B, d, rfl, hok, hb, hE0, hc 0 _ rfl, ?_, ?_, ?_, ?_⟩
  · rw [← add_field _ _ 1 (by omega)]; exact hc 1 _ rfl
  · rw [← add_field _ _ 2 (by omega)]; exact hc 2 _ rfl
  · rw [← add_field _ _ 3 (by omega)]; exact hc 3 _ rfl
  · rw [← add_field _ _ 4 (by omega)]; exact hc 4 _ rfl
/-- Block b holds cells of type T. -/
def TyB (T : TypeId) (w : World) (b : Nat) : Prop := ∃ cs fr, w.heap[b]? = some (.cells cs T fr)
theorem TyB.move {T : TypeId} {w w' : World} {b : Nat} (h : TyB T w b) (hm : w'.heap[b]? = w.heap[b]?) : TyB T w' b := by obtain ⟨cs, fr, h⟩ := h; exact ⟨cs, fr, hm.trans h⟩
theorem TyB.lt {T : TypeId} {w : World} {b : Nat} (h : TyB T w b) : b < w.heap.size := by obtain ⟨cs, fr, h⟩ := h; exact heap_lt h
theorem TyB.ne {T T' : TypeId} {w : World} {b : Nat} {cs : Array Value} {fr : Nat × Nat} (h : TyB T w b) {b' : Nat} (h' : w.heap[b']? = some (.cells cs T' fr)) (hne : T ≠ T') : b ≠ b' := by
  rintro rfl
  obtain ⟨cs2, fr2, h⟩ := h
  rw [h] at h'
  injection h' with h'
  injection h' with _ h2
  exact hne h2
theorem own_ty {w : World} {B : Nat} {e : TypeId} {sz : Nat} {v : Value} {css : List (List Value)} (h : Owns w B e sz v css) {k : Nat} (hk : v.ownBlock = some k) : ∃ cs fr, w.heap[k]? = some (.cells cs e fr) := by
  rcases h.1.2 with ⟨rfl, _⟩ | ⟨g, cap, cur, rfl, _, hh, _⟩
  · simp [Value.ownBlock] at hk
  · have : g = k := by simpa [Value.ownBlock] using hk
    subst this
    exact ⟨_, _, hh⟩
theorem TyB.ne_own {T : TypeId} {w : World} {b B : Nat} {e : TypeId} {sz : Nat} {v : Value} {css : List (List Value)} (h : TyB T w b) (ho : Owns w B e sz v css) (hne : T ≠ e) : some b ≠ v.ownBlock := fun hk => by
  obtain ⟨cs, fr, hc⟩ := own_ty ho hk.symm
  exact h.ne hc hne rfl
/-- What lies below b, and what lies from b + m on and is not of type T, stays. -/
structure Kept (b m : Nat) (T : TypeId) (W W' : World) : Prop where
  os : W'.os = W.os
  tape : W'.tape = W.tape
  output : W'.output = W.output
  size : W.heap.size ≤ W'.heap.size
  block : ∀ k, k < W.heap.size → (k < b ∨ (b + m ≤ k ∧ ¬ TyB T W k)) → W'.heap[k]? = W.heap[k]?
theorem Kept.refl (b m : Nat) (T : TypeId) (W : World) : Kept b m T W W := ⟨rfl, rfl, rfl, Nat.le_refl _, fun _ _ _ => rfl⟩
theorem Kept.trans {b m : Nat} {T : TypeId} {A B C : World} (h : Kept b m T A B) (k : Kept b m T B C) : Kept b m T A C :=
  ⟨k.os.trans h.os, k.tape.trans h.tape, k.output.trans h.output, Nat.le_trans h.size k.size, fun x hx hc => by
    have h1 := h.block x hx hc
    exact (k.block x (Nat.lt_of_lt_of_le hx h.size) (hc.imp id fun hc => ⟨hc.1, fun ht => hc.2 (ht.move h1.symm)⟩)).trans h1⟩
theorem Kept.of_below {b m : Nat} {T : TypeId} {A B : World} (h : Below A.heap.size A B) : Kept b m T A B := ⟨h.os, h.tape, h.output, h.size, fun k hk _ => h.block k hk⟩
theorem Kept.below {b m : Nat} {T : TypeId} {A B : World} (h : Kept b m T A B) (hb : b ≤ A.heap.size) : Below b A B := ⟨h.os, h.tape, h.output, h.size, fun k hk => h.block k (by omega) (.inl hk)⟩
theorem Kept.alloc {b m : Nat} {T : TypeId} {A B : World} (h : Kept b m T A B) (o : Obj) : Kept b m T A (B.alloc o) := h.trans (.of_below (below_al (Below.refl _ _) o))
theorem Kept.set {b m : Nat} {T : TypeId} {A B : World} (h : Kept b m T A B) {a : Addr} (h0 : b ≤ a.block) (h1 : a.block < b + m) (v : Value) : Kept b m T A (B.setCell a v) :=
  h.trans ⟨rfl, rfl, rfl, by simp [World.setCell], fun k hk hc => Below.heap_setCell _ _ _ _ (by omega)⟩
theorem Kept.grown {b m : Nat} {T : TypeId} {A B C : World} (h : Kept b m T A B) {r : Option Nat} (hg : B.grownBy C r) (hr : ∀ k, r = some k → b ≤ k ∧ (k < b + m ∨ TyB T B k)) : Kept b m T A C :=
  h.trans ⟨hg.os, hg.tape, hg.output, hg.size, fun k hk hc => hg.block k hk (fun e => by
    obtain ⟨h1, h2⟩ := hr k e.symm
    rcases hc with hc | ⟨hc1, hc2⟩
    · omega
    · rcases h2 with h2 | h2
      · omega
      · exact hc2 h2)⟩
theorem Kept.app {b m B0 sz : Nat} {T : TypeId} {A B C : World} {v : Value} {css : List (List Value)} (hg : B.grownBy C v.ownBlock) (h : Kept b m T A B) (ho : Owns B B0 T sz v css) (hb : b ≤ B0) : Kept b m T A C :=
  h.grown hg (fun k e => ⟨Nat.le_trans hb (ho.lt k e).1, .inr (own_ty ho e)⟩)
/-- The instruction at a place, in any later world. -/
theorem ins_at {b : Nat} {w : World} {p : Pg} {ps : List Value} (h : PgC (fun k => k < b) w p ps) (hbs : b ≤ w.heap.size) (i : Nat) (hi : i < p.ins.length) :
    ∃ ad c B d, ps = [.slice (some ad) p.ins.length c, .int .i64 p.start, .int .i64 p.caps] ∧ p.ins.length ≤ c ∧ c ≤ maxLen ∧ p.ins[i].set.length ≤ d ∧ d ≤ maxLen ∧ ad.block < b ∧ ∀ wr, Below b w wr → Arr (fun k => k < b) wr 2 RgC B p.ins[i].set ∧
      wr.cell? (ad.add (i * 5)) = some (.int .i64 p.ins[i].op) ∧ wr.cell? ⟨(ad.add (i * 5)).block, (ad.add (i * 5)).off + 1, none⟩ = some (.int .i64 p.ins[i].out) ∧
      wr.cell? ⟨(ad.add (i * 5)).block, (ad.add (i * 5)).off + 2, none⟩ = some (.int .i64 p.ins[i].arg) ∧ wr.cell? ⟨(ad.add (i * 5)).block, (ad.add (i * 5)).off + 3, none⟩ = some (.slice B p.ins[i].set.length d) ∧
      wr.cell? ⟨(ad.add (i * 5)).block, (ad.add (i * 5)).off + 4, none⟩ = some (.int .i64 p.ins[i].at_) := by
  obtain ⟨A, c, rfl, h1, h2, h3⟩ := h
  obtain ⟨ad, B, d, rfl, hok, hlt, ⟨B', d', he, hd1, hd2, hs⟩, k0, k1, k2, k3, k4⟩ := inArr_at h3 w (fun _ _ _ => rfl) i hi
  simp only [List.cons.injEq, Value.slice.injEq, and_true, true_and] at he
  obtain ⟨rfl, rfl⟩ := he
  have hbk : (ad.add (i * 5)).block = ad.block := add_block _ _
  refine ⟨ad, c, B, d, rfl, h1, h2, hd1, hd2, hok, fun wr hw => ⟨hs.move (fun k hk _ => ⟨hw.block k hk, hk⟩) (by omega), ?_⟩⟩
  have hm : wr.heap[ad.block]? = w.heap[ad.block]? := hw.block _ hok
  refine ⟨?_, ?_, ?_, ?_, ?_⟩
  · rw [← k0]; exact World.cell?_of_block (by rw [hbk]; exact hm)
  · rw [← k1]; exact World.cell?_of_block (by show wr.heap[(ad.add (i * 5)).block]? = _; rw [hbk]; exact hm)
  · rw [← k2]; exact World.cell?_of_block (by show wr.heap[(ad.add (i * 5)).block]? = _; rw [hbk]; exact hm)
  · rw [← k3]; exact World.cell?_of_block (by show wr.heap[(ad.add (i * 5)).block]? = _; rw [hbk]; exact hm)
  · rw [← k4]; exact World.cell?_of_block (by show wr.heap[(ad.add (i * 5)).block]? = _; rw [hbk]; exact hm)
theorem heap_newX {W : World} {o : Obj} {n : Nat} (h : n = W.heap.size) : (W.alloc o).heap[n]? = some o := by subst h; exact World.alloc_heap_new _ _
theorem grown_ne0 {w w' : World} {b k : Nat} (hg : w.grownBy w' (some b)) (hk : k < w.heap.size) (hne : k ≠ b) : w'.heap[k]? = w.heap[k]? :=
  hg.block k hk (fun e => by cases e; exact hne rfl)
theorem heap_set0 {W : World} {b : Nat} {cs : Array Value} {ty : TypeId} {fr : Nat × Nat} (h : W.heap[b]? = some (.cells cs ty fr)) (j : Nat) (v : Value) : (W.setCell ⟨b, j, none⟩ v).heap[b]? = some (.cells (cs.setIfInBounds j v) ty fr) := by
  obtain ⟨hlt, hk⟩ := Array.getElem?_eq_some_iff.1 h
  show (W.heap.modify b _)[b]? = _
  rw [Array.getElem?_eq_getElem (by rw [Array.size_modify]; exact hlt), Array.getElem_modify_self, hk]
  rfl
theorem infoI : (Tryd.prog.info? 3).map (fun i => (i.zero, i.size, i.bytes)) = some (some (.int .i64 0), 1, 8) := by kernel_rfl
def i64C (x : Int) : List Value := [.int .i64 x]
theorem one_i64 (x : Int) : ∀ u ∈ [Value.int .i64 x], u.oneCell' = true := fun u hu => by rw [List.mem_singleton.1 hu]; rfl
theorem set_ne0 (W : World) {a : Addr} (v : Value) {k : Nat} (h : k ≠ a.block) : (W.setCell a v).heap[k]? = W.heap[k]? := Below.heap_setCell _ _ _ _ h
theorem grown_set0 (W : World) (b j : Nat) (v : Value) : W.grownBy (W.setCell ⟨b, j, none⟩ v) (some b) := ⟨rfl, rfl, rfl, by simp [World.setCell], fun k _ hk => Below.heap_setCell _ _ _ _ (fun e => hk (by rw [e]))⟩
theorem owns_grown0 {W W' : World} {B r : Nat} {e : TypeId} {sz : Nat} {v : Value} {css : List (List Value)} (h : Owns W B e sz v css) (hg : W.grownBy W' (some r)) (hr : r < B) : Owns W' B e sz v css := by
  refine h.kept hg ?_
  cases hv : v.ownBlock with
  | none => exact .inl rfl
  | some g => exact .inr fun e => by cases e; have := (h.lt _ hv).1; omega
theorem owns_lit (w : World) (base : Nat) (hb : base ≤ w.heap.size) (x : Int) : Owns (w.alloc (.cells #[.int .i64 x] 3)) base 3 1 (.slice (some ⟨w.heap.size, 0, none⟩) 1 1) [i64C x] :=
  ⟨⟨rfl, .inr ⟨w.heap.size, 1, #[.int .i64 x], rfl, hb, World.alloc_heap_new _ _, Nat.le_refl _, by decide, rfl, rfl⟩⟩, fun c hc => by obtain rfl := List.mem_singleton.1 hc; rfl⟩
theorem ownI64_arr0 {w : World} {base : Nat} {A : Option Addr} {n cap : Nat} {xs : List Int} (h : Owns w base 3 1 (.slice A n cap) (xs.map i64C)) : Arr (fun k => base ≤ k) w 1 (IntC .i64) A xs := by
  have hl := h.lt
  refine Owns.arr h (by simp) (fun i x cs hx hc => ?_) (fun a hA => ?_)
  · rw [List.getElem?_map, hx] at hc; simp at hc; subst hc; rfl
  · subst hA; exact (hl a.block rfl).1
end Go.Proofs.YthclpabmbhpohaaDoor
namespace Go.Proofs.YthclpabmbhpohaaDoor
open Go.RowKit Go.Maps
set_option linter.unusedVariables false
/-- In block b lies a map of at most n entries that is true at the numbers, else false. -/
def IntsAt (W : World) (b n : Nat) (l : List Int) : Prop :=
  ∃ D : DataW Unit, W.ownsMap Tryd.prog 3 (plainElem Tryd.prog 4) b n D ∧ ∀ x : Int, (Lit.int .i64 x).wf = true → D.atKey (.int .i64 x) (.lit (.bool false)) = .lit (.bool (l.contains x))
theorem IntsAt.made (w : World) : IntsAt (w.alloc (.map #[] 0)) w.heap.size 0 [] := ⟨_, World.ownsMap_made w _ _ _, fun s _ => by simp [DataW.atKey]⟩
theorem IntsAt.kept {W W' : World} {b n : Nat} {l : List Int} {row : Option Nat} (h : IntsAt W b n l) (hg : W.grownBy W' row) (hne : some b ≠ row) : IntsAt W' b n l := by
  obtain ⟨D, h1, h2⟩ := h
  exact ⟨D, h1.kept hg hne, h2⟩
theorem IntsAt.lt {W : World} {b n : Nat} {l : List Int} (h : IntsAt W b n l) : b < W.heap.size := by
  obtain ⟨D, h1, h2⟩ := h
  exact h1.lt
theorem IntsAt.blk {W W' : World} {b n : Nat} {l : List Int} (h : IntsAt W b n l) (hb : W'.heap[b]? = W.heap[b]?) : IntsAt W' b n l := by
  obtain ⟨D, ⟨es, clock, h1, h3⟩, h2⟩ := h
  exact ⟨D, ⟨es, clock, hb.trans h1, h3⟩, h2⟩
theorem ints_look {W : World} {b n : Nat} {l : List Int} (h : IntsAt W b n l) (x : Int) (hx : (Lit.int .i64 x).wf = true) : (Instr.lookup 116 (.map (some b)) (.int .i64 x) false).run Tryd.prog W = .ok (.bool (l.contains x)) W := by
  obtain ⟨D, h1, h2⟩ := h
  obtain ⟨v, ps, hr, hv⟩ := h1.lookup (int_keyed Tryd.underlying3) Tryd.underlying116 (z := .bool false) (by kernel_rfl) (zd := .lit (.bool false)) (zp := []) (plainElem_bool Tryd.underlying4 false) (keyOf_int_mk Tryd.underlying3 hx)
  rw [h2 x hx] at hv
  rw [hr]
  have hu : Tryd.prog.underlying 4 = some .bool := Tryd.underlying4
  unfold plainElem at hv
  simp only [hu] at hv
  cases v <;> simp at hv
  rename_i bb
  rw [hv.1]
  simp
theorem ints_put {D : DataW Unit} (hD : IsMap D) {l : List Int} {n : Int} (h : ∀ x : Int, (Lit.int .i64 x).wf = true → D.atKey (.int .i64 x) (.lit (.bool false)) = .lit (.bool (l.contains x))) :
    ∀ x : Int, (Lit.int .i64 x).wf = true → (D.put (.int .i64 n) (.lit (.bool true))).atKey (.int .i64 x) (.lit (.bool false)) = .lit (.bool ((n :: l).contains x)) := fun x hx => by
  by_cases e : n = x
  · subst e; rw [atKey_put_same hD (by simp [WideAt.IsKeyLit])]; simp
  · rw [atKey_put_other (fun h => e (by injection h with _ h; exact h.symm)), h x hx]
    simp only [List.contains_cons]
    rw [beq_eq_false_iff_ne.2 (fun h => e h.symm), Bool.false_or]
section
variable {ops : Array Oper} {rest : List Oper} {o : Oper} {a : Act} {Q : Exit → Act → World → Prop} {w : World}
theorem wpList_ints (hg : o.guard = none) (m x v : Operand) (hop : o.op = Op.mapUpdate 116 m x v) (b n : Nat) (l : List Int) (hm : a.eval m = .map (some b)) (h : IntsAt w b n l) (hn : n < maxLen) (s : Int) (hs : (Lit.int .i64 s).wf = true) (hx : a.eval x = .int .i64 s) (hv : a.eval v = .bool true)
    (hK : ∀ w', IntsAt w' b (n + 1) (s :: l) → w.grownBy w' (some b) → wpList Tryd.prog ops Q rest (a.put o.dst undef) w') : wpList Tryd.prog ops Q (o :: rest) a w := by
  obtain ⟨D, h1, h2⟩ := h
  exact wpList_mapUpdate_own w hg m x v 116 hop 3 4 (int_keyed Tryd.underlying3) Tryd.underlying116 _ b n D hm h1 hn _ _ _ hx hv (keyOf_int_mk Tryd.underlying3 hs) _ [] (plainElem_bool Tryd.underlying4 true) (fun w' k1 k2 => hK w' ⟨_, k1, ints_put h1.isMap h2⟩ k2)
end
theorem wf_small {x : Int} (h0 : 0 ≤ x) (h1 : x ≤ 1000000000000) : (Lit.int .i64 x).wf = true := by
  simp [Lit.wf, IntKind.min, IntKind.max, IntKind.signed, IntKind.bits]
  omega
end Go.Proofs.YthclpabmbhpohaaDoor
namespace Go.Proofs.YthclpabmbhpohaaDoor
set_option linter.unusedVariables false
def Pg.get (p : Pg) (pc : Int) : In := (p.ins[pc.toNat]?).getD ⟨6, 0, 0, [], 0⟩
def Pc (p : Pg) (pc : Int) : Prop := 0 ≤ pc ∧ pc < p.ins.length
/-- All that instructions lead to are instructions. -/
def Leads (p : Pg) : Prop := ∀ pc, Pc p pc → (((p.get pc).op = 2 ∨ (p.get pc).op = 3 ∨ (p.get pc).op = 4 ∨ (p.get pc).op = 5) → Pc p (p.get pc).out) ∧ ((p.get pc).op = 3 → Pc p (p.get pc).arg)
def leftN (N : Nat) (seen : List Int) : Nat := ((List.range N).filter fun (i : Nat) => !seen.contains (i : Int)).length
theorem filter_len_le {α : Type} (f g : α → Bool) (h : ∀ x, f x = true → g x = true) : ∀ l : List α, (l.filter f).length ≤ (l.filter g).length
  | [] => Nat.le_refl _
  | x :: l => by
    have := filter_len_le f g h l
    rw [List.filter_cons, List.filter_cons]
    by_cases hx : f x = true
    · rw [if_pos hx, if_pos (h x hx)]; simpa using this
    · rw [if_neg hx]; split <;> simp <;> omega
theorem filter_len_lt {α : Type} (f g : α → Bool) (h : ∀ x, f x = true → g x = true) (y : α) (h1 : f y = false) (h2 : g y = true) : ∀ l : List α, y ∈ l → (l.filter f).length + 1 ≤ (l.filter g).length
  | [], hy => by simp at hy
  | x :: l, hy => by
    have h3 := filter_len_le f g h l
    rw [List.filter_cons, List.filter_cons]
    rcases List.mem_cons.1 hy with rfl | hy
    · rw [if_neg (by rw [h1]; simp), if_pos h2]; simp; omega
    · have h4 := filter_len_lt f g h y h1 h2 l hy
      by_cases hx : f x = true
      · rw [if_pos hx, if_pos (h x hx)]; simp; omega
      · rw [if_neg hx]; split <;> simp <;> omega
theorem leftN_sub {N : Nat} {a b : List Int} (h : ∀ x ∈ a, x ∈ b) : leftN N b ≤ leftN N a := by
  refine filter_len_le _ _ (fun i hi => ?_) _
  simp only [Bool.not_eq_true', List.contains_eq_mem, decide_eq_false_iff_not] at hi ⊢
  exact fun hm => hi (h _ hm)
theorem leftN_cons {p : Pg} {pc : Int} {seen : List Int} (hp : Pc p pc) (hs : seen.contains pc = false) : leftN p.ins.length (pc :: seen) + 1 ≤ leftN p.ins.length seen := by
  obtain ⟨h0, h1⟩ := hp
  refine filter_len_lt _ _ (fun i hi => ?_) pc.toNat ?_ ?_ _ (List.mem_range.2 (by omega))
  · simp only [Bool.not_eq_true', List.contains_eq_mem, decide_eq_false_iff_not, List.mem_cons, not_or] at hi ⊢
    exact hi.2
  · simp [show ((pc.toNat : Nat) : Int) = pc by omega]
  · rw [show ((pc.toNat : Nat) : Int) = pc by omega, hs]; rfl
theorem leftN_nil (N : Nat) : leftN N [] = N := by unfold leftN; rw [List.filter_eq_self.2 (fun i _ => by simp), List.length_range]
theorem leftN_le (N : Nat) (s : List Int) : leftN N s ≤ N := by have := leftN_sub (N := N) (a := []) (b := s) (fun x h => by simp at h); rwa [leftN_nil] at this
/-- Which were come to; those that read; what they read; how many match. -/
structure Ow where
  seen : List Int
  l : List Int
  all : List Rg
  mt : Int
section
variable (me : List Rg → List Rg → Bool) (un : List Rg → List Rg → List Rg) (p : Pg)
def onW (pc : Int) (s : Ow) : Bool × Ow :=
  if s.seen.contains pc = true then (false, s) else
  if (p.get pc).op = 1 then (decide (s.mt + 1 < 2), ⟨pc :: s.seen, s.l, s.all, s.mt + 1⟩) else
  if (p.get pc).op = 2 then (if me s.all (p.get pc).set = true then (false, ⟨pc :: s.seen, s.l, s.all, s.mt⟩) else (decide (s.mt < 2), ⟨pc :: s.seen, s.l ++ [pc], un s.all (p.get pc).set, s.mt⟩)) else
  (decide (s.mt < 2), ⟨pc :: s.seen, s.l, s.all, s.mt⟩)
def waysW : Nat → Int → Ow → Bool × Ow
  | 0, _, s => (false, s)
  | n + 1, pc, s =>
    if (onW me un p pc s).1 = false then (false, (onW me un p pc s).2) else
    if (p.get pc).op = 3 then (if (waysW n (p.get pc).out (onW me un p pc s).2).1 = false then (false, (waysW n (p.get pc).out (onW me un p pc s).2).2) else waysW n (p.get pc).arg (waysW n (p.get pc).out (onW me un p pc s).2).2) else
    if (p.get pc).op = 4 ∨ (p.get pc).op = 5 then waysW n (p.get pc).out (onW me un p pc s).2 else
    (true, (onW me un p pc s).2)
variable {me un p}
theorem waysW_new {n : Nat} {pc : Int} {s : Ow} {x : In} {r : Bool × Ow} (hr : onW me un p pc s = r) (hx : p.get pc = x) : waysW me un p (n + 1) pc s =
    if r.1 = false then (false, r.2) else
    if x.op = 3 then (if (waysW me un p n x.out r.2).1 = false then (false, (waysW me un p n x.out r.2).2) else waysW me un p n x.arg (waysW me un p n x.out r.2).2) else
    if x.op = 4 ∨ x.op = 5 then waysW me un p n x.out r.2 else (true, r.2) := by
  subst hr hx; rw [waysW]
theorem onW_left {pc : Int} {s : Ow} (hp : Pc p pc) (h : (onW me un p pc s).1 = true) : leftN p.ins.length (onW me un p pc s).2.seen + 1 ≤ leftN p.ins.length s.seen := by
  by_cases c0 : s.seen.contains pc = true
  · unfold onW at h; rw [if_pos c0] at h; cases h
  have hl := leftN_cons hp (show s.seen.contains pc = false by simpa using c0)
  unfold onW
  rw [if_neg c0]
  repeat' split
  all_goals exact hl
variable (me un p)
def simpleW (pc : Int) : List Int × Bool := ((waysW me un p (p.ins.length + 1) pc ⟨[], [], [], 0⟩).2.l, (waysW me un p (p.ins.length + 1) pc ⟨[], [], [], 0⟩).1)
end
structure Rw where
  seen : List Int
  l : List Int
  mt : Int
  tw : Bool
def comeR (p : Pg) (bg : Bool) : Nat → Int → Rw → Rw
  | 0, _, s => s
  | n + 1, pc, s =>
    if s.seen.contains pc = true then ⟨s.seen, s.l, s.mt, true⟩ else
    if (p.get pc).op = 1 then ⟨pc :: s.seen, s.l, s.mt + 1, s.tw⟩ else
    if (p.get pc).op = 2 then ⟨pc :: s.seen, s.l ++ [pc], s.mt, s.tw⟩ else
    if (p.get pc).op = 3 then comeR p bg n (p.get pc).arg (comeR p bg n (p.get pc).out ⟨pc :: s.seen, s.l, s.mt, s.tw⟩) else
    if (p.get pc).op = 4 ∨ ((p.get pc).op = 5 ∧ (bg = true ∨ (p.get pc).at_ ≠ 1)) then comeR p bg n (p.get pc).out ⟨pc :: s.seen, s.l, s.mt, s.tw⟩ else
    ⟨pc :: s.seen, s.l, s.mt, s.tw⟩
theorem comeR_new {p : Pg} {bg : Bool} {n : Nat} {pc : Int} {s : Rw} {x : In} (hs : s.seen.contains pc = false) (hx : p.get pc = x) : comeR p bg (n + 1) pc s =
    if x.op = 1 then ⟨pc :: s.seen, s.l, s.mt + 1, s.tw⟩ else
    if x.op = 2 then ⟨pc :: s.seen, s.l ++ [pc], s.mt, s.tw⟩ else
    if x.op = 3 then comeR p bg n x.arg (comeR p bg n x.out ⟨pc :: s.seen, s.l, s.mt, s.tw⟩) else
    if x.op = 4 ∨ (x.op = 5 ∧ (bg = true ∨ x.at_ ≠ 1)) then comeR p bg n x.out ⟨pc :: s.seen, s.l, s.mt, s.tw⟩ else
    ⟨pc :: s.seen, s.l, s.mt, s.tw⟩ := by
  subst hx
  rw [comeR, if_neg (by rw [hs]; simp)]
def fromR (p : Pg) (bg : Bool) (pc : Int) : Rw := comeR p bg (p.ins.length + 1) pc ⟨[], [], 0, false⟩
def apartB (me : List Rg → List Rg → Bool) (p : Pg) (l : List Int) : Bool := decide (l.Pairwise fun a b => me (p.get b).set (p.get a).set = false)
def fineR (me : List Rg → List Rg → Bool) (p : Pg) (w : Rw) : Bool := !w.tw && decide (w.mt ≤ 1) && apartB me p w.l
/-- What holds and is kept by a step holds behind all. -/
theorem comeR_keep (p : Pg) (bg : Bool) (hl : Leads p) (P : Rw → Prop) (h1 : ∀ s, P s → P ⟨s.seen, s.l, s.mt, true⟩) (h2 : ∀ s pc, P s → Pc p pc → P ⟨pc :: s.seen, s.l, s.mt + 1, s.tw⟩)
    (h3 : ∀ s pc, P s → Pc p pc → (p.get pc).op = 2 → P ⟨pc :: s.seen, s.l ++ [pc], s.mt, s.tw⟩) (h4 : ∀ s pc, P s → Pc p pc → P ⟨pc :: s.seen, s.l, s.mt, s.tw⟩) : ∀ (n : Nat) (pc : Int) (s : Rw), Pc p pc → P s → P (comeR p bg n pc s)
  | 0, _, s, _, h => h
  | n + 1, pc, s, hp, h => by
    have ih := comeR_keep p bg hl P h1 h2 h3 h4 n
    have hx := hl pc hp
    rw [comeR]
    by_cases c0 : s.seen.contains pc = true
    · rw [if_pos c0]; exact h1 s h
    rw [if_neg c0]
    by_cases c1 : (p.get pc).op = 1
    · rw [if_pos c1]; exact h2 s pc h hp
    rw [if_neg c1]
    by_cases c2 : (p.get pc).op = 2
    · rw [if_pos c2]; exact h3 s pc h hp c2
    rw [if_neg c2]
    by_cases c3 : (p.get pc).op = 3
    · rw [if_pos c3]; exact ih _ _ (hx.2 c3) (ih _ _ (hx.1 (by omega)) (h4 s pc h hp))
    rw [if_neg c3]
    by_cases c4 : (p.get pc).op = 4 ∨ ((p.get pc).op = 5 ∧ (bg = true ∨ (p.get pc).at_ ≠ 1))
    · rw [if_pos c4]; exact ih _ _ (hx.1 (by omega)) (h4 s pc h hp)
    rw [if_neg c4]; exact h4 s pc h hp
theorem comeR_seen (p : Pg) (bg : Bool) (hl : Leads p) (n : Nat) (pc : Int) (s : Rw) (hp : Pc p pc) : ∀ x ∈ s.seen, x ∈ (comeR p bg n pc s).seen :=
  comeR_keep p bg hl (fun t => ∀ x ∈ s.seen, x ∈ t.seen) (fun t h => h) (fun t q h _ x hx => List.mem_cons_of_mem _ (h x hx)) (fun t q h _ _ x hx => List.mem_cons_of_mem _ (h x hx)) (fun t q h _ x hx => List.mem_cons_of_mem _ (h x hx)) n pc s hp (fun x h => h)
theorem comeR_list (p : Pg) (bg : Bool) (hl : Leads p) (n : Nat) (pc : Int) (s : Rw) (hp : Pc p pc) (h : ∀ x ∈ s.l, Pc p x ∧ (p.get x).op = 2) : ∀ x ∈ (comeR p bg n pc s).l, Pc p x ∧ (p.get x).op = 2 :=
  comeR_keep p bg hl (fun t => ∀ x ∈ t.l, Pc p x ∧ (p.get x).op = 2) (fun t h => h) (fun t q h _ => h) (fun t q h hq ho x hx => by
    rcases List.mem_append.1 hx with hx | hx
    · exact h x hx
    · rw [List.mem_singleton.1 hx]; exact ⟨hq, ho⟩) (fun t q h _ => h) n pc s hp h
theorem comeR_mt (p : Pg) (bg : Bool) (hl : Leads p) (n : Nat) (pc : Int) (s : Rw) (hp : Pc p pc) (h : 0 ≤ s.mt) : 0 ≤ (comeR p bg n pc s).mt :=
  comeR_keep p bg hl (fun t => 0 ≤ t.mt) (fun t h => h) (fun t q h _ => by show 0 ≤ t.mt + 1; omega) (fun t q h _ _ => h) (fun t q h _ => h) n pc s hp h
section
variable (me : List Rg → List Rg → Bool) (un : List Rg → List Rg → List Rg) (p : Pg)
def Bad (t : Rw) : Prop := t.tw = true ∨ 2 ≤ t.mt ∨ ¬ t.l.Pairwise fun a b => me (p.get b).set (p.get a).set = false
theorem comeR_bad (bg : Bool) (hl : Leads p) (n : Nat) (pc : Int) (s : Rw) (hp : Pc p pc) (h : Bad me p s) : Bad me p (comeR p bg n pc s) :=
  comeR_keep p bg hl (Bad me p) (fun t h => .inl rfl) (fun t q h _ => by
      rcases h with h | h | h
      · exact .inl h
      · exact .inr (.inl (by show 2 ≤ t.mt + 1; omega))
      · exact .inr (.inr h))
    (fun t q h _ _ => by
      rcases h with h | h | h
      · exact .inl h
      · exact .inr (.inl h)
      · exact .inr (.inr fun hp => h (List.pairwise_append.1 hp).1))
    (fun t q h _ => h) n pc s hp h
theorem waysW_seen (hl : Leads p) : ∀ (n : Nat) (pc : Int) (s : Ow), Pc p pc → ∀ x ∈ s.seen, x ∈ (waysW me un p n pc s).2.seen
  | 0, _, s, _, x, h => h
  | n + 1, pc, s, hp, x, h => by
    have ih := waysW_seen hl n
    have hx := hl pc hp
    have h1 : x ∈ (onW me un p pc s).2.seen := by
      unfold onW
      repeat' split
      all_goals first | exact h | exact List.mem_cons_of_mem _ h
    rw [waysW]
    by_cases c0 : (onW me un p pc s).1 = false
    · rw [if_pos c0]; exact h1
    rw [if_neg c0]
    by_cases c3 : (p.get pc).op = 3
    · rw [if_pos c3]
      have h2 := ih _ _ (hx.1 (by omega)) x h1
      split
      · exact h2
      · exact ih _ _ (hx.2 c3) x h2
    rw [if_neg c3]
    by_cases c4 : (p.get pc).op = 4 ∨ (p.get pc).op = 5
    · rw [if_pos c4]; exact ih _ _ (hx.1 (by omega)) x h1
    rw [if_neg c4]; exact h1
/-- What both tell so far. -/
structure Sim (has : List Rg → Int → Bool) (s : Ow) (t : Rw) : Prop where
  seen : t.seen = s.seen
  l : t.l = s.l
  mt : t.mt = s.mt
  tw : t.tw = false
  few : s.mt < 2
  apart : s.l.Pairwise fun a b => me (p.get b).set (p.get a).set = false
  all : ∀ c, has s.all c = true ↔ ∃ a ∈ s.l, has (p.get a).set c = true
variable {me un p} {me' : List Rg → List Rg → Bool} {has : List Rg → Int → Bool}
theorem sim_ways (hl : Leads p) (hm : ∀ a b, me a b = true ↔ ∃ c, has a c = true ∧ has b c = true) (hm' : ∀ a b, me' a b = true ↔ ∃ c, has a c = true ∧ has b c = true) (hu : ∀ a b c, has (un a b) c = (has a c || has b c)) :
    ∀ (n : Nat) (pc : Int) (s : Ow) (t : Rw), Pc p pc → leftN p.ins.length s.seen < n → Sim me' p has s t →
      ((waysW me un p n pc s).1 = true → Sim me' p has (waysW me un p n pc s).2 (comeR p true n pc t)) ∧ ((waysW me un p n pc s).1 = false → Bad me' p (comeR p true n pc t)) := by
  intro n
  induction n with
  | zero => intro pc s t _ h _; omega
  | succ n ih =>
    intro pc s t hp hn h
    have hx := hl pc hp
    have hn1 : s.seen.contains pc = false → leftN p.ins.length (pc :: s.seen) < n := fun hc => by have := leftN_cons hp hc; omega
    rw [waysW, comeR, h.seen]
    by_cases c0 : s.seen.contains pc = true
    · have e : onW me un p pc s = (false, s) := by unfold onW; rw [if_pos c0]
      rw [e, if_pos rfl, if_pos c0]
      exact ⟨(fun e => by cases e), fun _ => .inl rfl⟩
    have c0' : s.seen.contains pc = false := by simpa using c0
    rw [if_neg c0]
    by_cases c1 : (p.get pc).op = 1
    · rw [if_pos c1]
      have e : onW me un p pc s = (decide (s.mt + 1 < 2), ⟨pc :: s.seen, s.l, s.all, s.mt + 1⟩) := by unfold onW; rw [if_neg c0, if_pos c1]
      rw [e, if_neg (show ¬ (p.get pc).op = 3 by omega), if_neg (show ¬ ((p.get pc).op = 4 ∨ (p.get pc).op = 5) by omega)]
      by_cases hd : s.mt + 1 < 2
      · rw [if_neg (by simp [hd])]
        exact ⟨fun _ => ⟨rfl, h.l, by rw [h.mt], h.tw, hd, h.apart, h.all⟩, fun e => by cases e⟩
      · rw [if_pos (by simp [hd])]
        exact ⟨(fun e => by cases e), fun _ => .inr (.inl (by rw [h.mt]; show 2 ≤ s.mt + 1; omega))⟩
    rw [if_neg c1]
    by_cases c2 : (p.get pc).op = 2
    · rw [if_pos c2]
      by_cases hmm : me s.all (p.get pc).set = true
      · have e : onW me un p pc s = (false, ⟨pc :: s.seen, s.l, s.all, s.mt⟩) := by unfold onW; rw [if_neg c0, if_neg c1, if_pos c2, if_pos hmm]
        rw [e, if_pos rfl]
        refine ⟨(fun e => by cases e), fun _ => .inr (.inr ?_)⟩
        rw [h.l]
        intro hpw
        obtain ⟨c, hc1, hc2⟩ := (hm _ _).1 hmm
        obtain ⟨a, ha, hac⟩ := (h.all c).1 hc1
        have := (List.pairwise_append.1 hpw).2.2 a ha pc (by simp)
        rw [(hm' _ _).2 ⟨c, hc2, hac⟩] at this
        cases this
      · have e : onW me un p pc s = (decide (s.mt < 2), ⟨pc :: s.seen, s.l ++ [pc], un s.all (p.get pc).set, s.mt⟩) := by unfold onW; rw [if_neg c0, if_neg c1, if_pos c2, if_neg hmm]
        rw [e, if_neg (show ¬ (p.get pc).op = 3 by omega), if_neg (show ¬ ((p.get pc).op = 4 ∨ (p.get pc).op = 5) by omega), if_neg (by simp [h.few])]
        refine ⟨fun _ => ⟨rfl, by rw [h.l], h.mt, h.tw, h.few, ?_, fun c => ?_⟩, fun e => by cases e⟩
        · refine List.pairwise_append.2 ⟨h.apart, List.pairwise_singleton _ _, fun a ha b hb => ?_⟩
          rw [List.mem_singleton.1 hb]
          rw [Bool.eq_false_iff]
          intro e
          obtain ⟨c, hc1, hc2⟩ := (hm' _ _).1 e
          exact hmm ((hm _ _).2 ⟨c, (h.all c).2 ⟨a, ha, hc2⟩, hc1⟩)
        · show has (un s.all (p.get pc).set) c = true ↔ _
          rw [hu, Bool.or_eq_true, h.all c]
          constructor
          · rintro (⟨a, ha, hc⟩ | hc)
            · exact ⟨a, by simp [ha], hc⟩
            · exact ⟨pc, by simp, hc⟩
          · rintro ⟨a, ha, hc⟩
            rcases List.mem_append.1 ha with ha | ha
            · exact .inl ⟨a, ha, hc⟩
            · rw [List.mem_singleton.1 ha] at hc; exact .inr hc
    rw [if_neg c2]
    have e : onW me un p pc s = (decide (s.mt < 2), ⟨pc :: s.seen, s.l, s.all, s.mt⟩) := by unfold onW; rw [if_neg c0, if_neg c1, if_neg c2]
    have e2 : onW me un p pc s = (true, ⟨pc :: s.seen, s.l, s.all, s.mt⟩) := by rw [e, decide_eq_true h.few]
    have h1 : Sim me' p has ⟨pc :: s.seen, s.l, s.all, s.mt⟩ ⟨pc :: s.seen, t.l, t.mt, t.tw⟩ := ⟨rfl, h.l, h.mt, h.tw, h.few, h.apart, h.all⟩
    rw [e2, if_neg (by simp)]
    by_cases c3 : (p.get pc).op = 3
    · rw [if_pos c3, if_pos c3]
      have k1 := ih (p.get pc).out _ _ (hx.1 (by omega)) (hn1 c0') h1
      by_cases hw : (waysW me un p n (p.get pc).out ⟨pc :: s.seen, s.l, s.all, s.mt⟩).1 = false
      · rw [if_pos hw]
        exact ⟨(fun e => by cases e), fun _ => comeR_bad me' p true hl n _ _ (hx.2 c3) (k1.2 hw)⟩
      · rw [if_neg hw]
        have h2 := k1.1 (by simpa using hw)
        exact ih (p.get pc).arg _ _ (hx.2 c3) (by show leftN p.ins.length (waysW me un p n (p.get pc).out ⟨pc :: s.seen, s.l, s.all, s.mt⟩).2.seen < n; have : leftN _ _ ≤ leftN p.ins.length (pc :: s.seen) := leftN_sub (N := p.ins.length) (waysW_seen me un p hl n (p.get pc).out ⟨pc :: s.seen, s.l, s.all, s.mt⟩ (hx.1 (by omega))); have := hn1 c0'; omega) h2
    rw [if_neg c3, if_neg c3]
    by_cases c4 : (p.get pc).op = 4 ∨ (p.get pc).op = 5
    · rw [if_pos c4, if_pos (c4.elim .inl fun c4 => .inr ⟨c4, .inl rfl⟩)]
      exact ih (p.get pc).out _ _ (hx.1 (by omega)) (hn1 c0') h1
    · rw [if_neg c4, if_neg (by omega)]
      exact ⟨fun _ => h1, fun e => by cases e⟩
theorem simple_from (hl : Leads p) (hm : ∀ a b, me a b = true ↔ ∃ c, has a c = true ∧ has b c = true) (hm' : ∀ a b, me' a b = true ↔ ∃ c, has a c = true ∧ has b c = true) (hu : ∀ a b c, has (un a b) c = (has a c || has b c)) (h0 : ∀ c, has [] c = false) (pc : Int) (hp : Pc p pc) :
    (simpleW me un p pc).2 = fineR me' p (fromR p true pc) ∧ ((simpleW me un p pc).2 = true → (simpleW me un p pc).1 = (fromR p true pc).l) := by
  have h := sim_ways hl hm hm' hu (p.ins.length + 1) pc ⟨[], [], [], 0⟩ ⟨[], [], 0, false⟩ hp (Nat.lt_succ_of_le (leftN_le _ _)) ⟨rfl, rfl, rfl, rfl, by show (0 : Int) < 2; omega, List.Pairwise.nil, fun c => by simp [h0]⟩
  unfold simpleW fromR
  dsimp only
  cases hw : (waysW me un p (p.ins.length + 1) pc ⟨[], [], [], 0⟩).1 with
  | true =>
    have k := h.1 hw
    refine ⟨?_, fun _ => k.l.symm⟩
    unfold fineR apartB
    rw [k.tw, k.l, k.mt, decide_eq_true k.apart, decide_eq_true (by have := k.few; omega)]
    rfl
  | false =>
    refine ⟨?_, fun e => by cases e⟩
    unfold fineR apartB
    rcases h.2 hw with e | e | e
    · rw [e]; rfl
    · rw [decide_eq_false (by omega), Bool.and_false, Bool.false_and]
    · rw [decide_eq_false e, Bool.and_false]
end
def putOuts (p : Pg) (l : List Int) (td : List Int) : List Int := l.foldl (fun td pc => if td.contains (p.get pc).out = true then td else td ++ [(p.get pc).out]) td
def admG (p : Pg) (ask : Int → List Int × Bool) : Nat → Nat → List Int → Bool
  | 0, _, _ => true
  | n + 1, i, td => match td[i]? with
    | none => true
    | some pc => if (ask pc).2 = false then false else admG p ask n (i + 1) (putOuts p (ask pc).1 td)
theorem putOuts_mem (p : Pg) (Q : Int → Prop) : ∀ (l td : List Int), (∀ x ∈ td, Q x) → (∀ x ∈ l, Q (p.get x).out) → ∀ x ∈ putOuts p l td, Q x
  | [], td, h, _ => h
  | y :: l, td, h, h2 => by
    show ∀ x ∈ putOuts p l (if td.contains (p.get y).out = true then td else td ++ [(p.get y).out]), Q x
    refine putOuts_mem p Q l _ ?_ (fun x hx => h2 x (by simp [hx]))
    split
    · exact h
    · intro x hx
      rcases List.mem_append.1 hx with hx | hx
      · exact h x hx
      · rw [List.mem_singleton.1 hx]; exact h2 y (by simp)
theorem admG_same (p : Pg) (hl : Leads p) (ask ask' : Int → List Int × Bool) (h : ∀ pc, Pc p pc → (ask pc).2 = (ask' pc).2 ∧ ((ask pc).2 = true → (ask pc).1 = (ask' pc).1)) (hq : ∀ pc, Pc p pc → ∀ x ∈ (ask' pc).1, Pc p x ∧ (p.get x).op = 2) :
    ∀ (n i : Nat) (td : List Int), (∀ x ∈ td, Pc p x) → admG p ask n i td = admG p ask' n i td
  | 0, _, _, _ => rfl
  | n + 1, i, td, ht => by
    rw [admG, admG]
    cases hi : td[i]? with
    | none => rfl
    | some pc =>
      dsimp only
      have hp := ht pc (List.mem_of_getElem? hi)
      obtain ⟨h1, h2⟩ := h pc hp
      rw [← h1]
      by_cases c : (ask pc).2 = false
      · rw [if_pos c, if_pos c]
      · rw [if_neg c, if_neg c, h2 (by simpa using c)]
        exact admG_same p hl ask ask' h hq n (i + 1) _ (putOuts_mem p (Pc p) _ _ ht (fun x hx => (hl x (hq pc hp x hx).1).1 (.inl (hq pc hp x hx).2)))
/-- Does one come to nothing but at the beginning? -/
def anchR (p : Pg) : Bool := decide ((fromR p false p.start).mt ≤ 0) && decide ((fromR p false p.start).l = [])
def admW (me : List Rg → List Rg → Bool) (un : List Rg → List Rg → List Rg) (p : Pg) : Bool := anchR p && admG p (simpleW me un p) (p.ins.length + 1) 0 [p.start]
def admR (me : List Rg → List Rg → Bool) (p : Pg) : Bool := anchR p && admG p (fun pc => ((fromR p true pc).l, fineR me p (fromR p true pc))) (p.ins.length + 1) 0 [p.start]
theorem adm_same {me me' : List Rg → List Rg → Bool} {un : List Rg → List Rg → List Rg} {p : Pg} {has : List Rg → Int → Bool} (hl : Leads p) (hs : Pc p p.start) (hm : ∀ a b, me a b = true ↔ ∃ c, has a c = true ∧ has b c = true) (hm' : ∀ a b, me' a b = true ↔ ∃ c, has a c = true ∧ has b c = true)
    (hu : ∀ a b c, has (un a b) c = (has a c || has b c)) (h0 : ∀ c, has [] c = false) : admW me un p = admR me' p := by
  unfold admW admR
  rw [admG_same p hl _ (fun pc => ((fromR p true pc).l, fineR me' p (fromR p true pc))) (fun pc hp => simple_from hl hm hm' hu h0 pc hp) (fun pc hp => comeR_list p true hl _ pc _ hp (fun x hx => by simp at hx)) _ _ _ (fun x hx => by rw [List.mem_singleton.1 hx]; exact hs)]
end Go.Proofs.YthclpabmbhpohaaDoor
namespace Go.Proofs.YthclpabmbhpohaaDoor
open Go.RowKit Go.Maps
set_option linter.unusedVariables false
theorem get_eq (p : Pg) (i : Nat) (hi : i < p.ins.length) : p.get (i : Int) = p.ins[i] := by simp [Pg.get, hi]
def freeB (t : Rw) : Bool := decide (0 < t.mt) || decide (0 < t.l.length)
structure AnAt (W : World) (b : Nat) (ps : List Value) (t : Rw) : Prop where
  blk : W.heap[b]? = some (.cells ps.toArray 28 (0, 0))
  map : IntsAt W (b + 1) t.seen.length t.seen
  seen : W.heap[b + 2]? = some (.cells #[.map (some (b + 1))] 116 (0, 0))
  free : W.heap[b + 3]? = some (.cells #[.bool (freeB t)] 4 (0, 0))
  go1 : W.heap[b + 4]? = some (.cells #[.func (.func 55) #[] #[.pointer (some ⟨b + 2, 0, none⟩), .pointer (some ⟨b, 0, none⟩), .pointer (some ⟨b + 3, 0, none⟩), .pointer (some ⟨b + 4, 0, none⟩)]] 117 (0, 0))
theorem AnAt.below {W W' : World} {b : Nat} {ps : List Value} {t : Rw} (h : AnAt W b ps t) (hb : Below W.heap.size W W') : AnAt W' b ps t :=
  ⟨(hb.block _ (heap_lt h.blk)).trans h.blk, h.map.blk (hb.block _ h.map.lt), (hb.block _ (heap_lt h.seen)).trans h.seen, (hb.block _ (heap_lt h.free)).trans h.free, (hb.block _ (heap_lt h.go1)).trans h.go1⟩
theorem AnAt.tw {W : World} {b : Nat} {ps : List Value} {t : Rw} (h : AnAt W b ps t) : AnAt W b ps ⟨t.seen, t.l, t.mt, true⟩ := ⟨h.blk, h.map, h.seen, h.free, h.go1⟩
theorem AnAt.mark {W W' : World} {b : Nat} {ps : List Value} {t : Rw} {pc : Int} (h : AnAt W b ps t) (hm : IntsAt W' (b + 1) (t.seen.length + 1) (pc :: t.seen)) (hg : W.grownBy W' (some (b + 1))) : AnAt W' b ps ⟨pc :: t.seen, t.l, t.mt, t.tw⟩ :=
  ⟨(grown_ne0 hg (heap_lt h.blk) (by omega)).trans h.blk, hm, (grown_ne0 hg (heap_lt h.seen) (by omega)).trans h.seen, (grown_ne0 hg (heap_lt h.free) (by omega)).trans h.free, (grown_ne0 hg (heap_lt h.go1) (by omega)).trans h.go1⟩
theorem AnAt.set {W : World} {b : Nat} {ps : List Value} {t t' : Rw} (h : AnAt W b ps t) (hs : t'.seen = t.seen) (hf : freeB t' = true) : AnAt (W.setCell ⟨b + 3, 0, none⟩ (.bool true)) b ps t' :=
  ⟨(Below.heap_setCell _ _ _ _ (by show b ≠ b + 3; omega)).trans h.blk, by rw [hs]; exact h.map.blk (Below.heap_setCell _ _ _ _ (by show b + 1 ≠ b + 3; omega)), (Below.heap_setCell _ _ _ _ (by show b + 2 ≠ b + 3; omega)).trans h.seen,
    by rw [hf]; have := heap_set0 h.free 0 (.bool true); simpa using this, (Below.heap_setCell _ _ _ _ (by show b + 4 ≠ b + 3; omega)).trans h.go1⟩
def AnPost (p : Pg) (b : Nat) (ps : List Value) (t' : Rw) (W : World) (e : Ending) (W' : World) : Prop := e = .returned (.tuple #[]) ∧ AnAt W' b ps t' ∧ Kept b 5 3 W W' ∧ t'.seen.length + leftN p.ins.length t'.seen ≤ p.ins.length
theorem in_cases (x : In) : x.op = 1 ∨ x.op = 2 ∨ x.op = 3 ∨ x.op = 4 ∨ x.op = 5 ∨ (x.op ≠ 1 ∧ x.op ≠ 2 ∧ x.op ≠ 3 ∧ x.op ≠ 4 ∧ x.op ≠ 5) := by omega
theorem AnAt.lt {W : World} {b : Nat} {ps : List Value} {t : Rw} (h : AnAt W b ps t) : b + 4 < W.heap.size := heap_lt h.go1
theorem fit_cons {p : Pg} {pc : Int} {s : List Int} (hp : Pc p pc) (hs : s.contains pc = false) (h : s.length + leftN p.ins.length s ≤ p.ins.length) : (pc :: s).length + leftN p.ins.length (pc :: s) ≤ p.ins.length := by
  have := leftN_cons hp hs; simp only [List.length_cons]; omega
/-- What the walk asks of the cells. -/
structure AnCells (W : World) (b : Nat) (v : Value) (N : Nat) (t : Rw) : Prop where
  c0 : W.cell? ⟨b, 0, none⟩ = some v
  c3 : W.cell? ⟨b + 3, 0, none⟩ = some (.bool (freeB t))
  f3 : W.frozen? ⟨b + 3, 0, none⟩ = false
  c4 : W.cell? ⟨b + 4, 0, none⟩ = some (.func (.func 55) #[] #[.pointer (some ⟨b + 2, 0, none⟩), .pointer (some ⟨b, 0, none⟩), .pointer (some ⟨b + 3, 0, none⟩), .pointer (some ⟨b + 4, 0, none⟩)])
  n0 : b < W.heap.size
  n3 : b + 3 < W.heap.size
  n4 : b + 4 < W.heap.size
theorem AnAt.cells {W : World} {b : Nat} {v u z : Value} {t : Rw} (h : AnAt W b [v, u, z] t) (N : Nat) : AnCells W b v N t :=
  ⟨by rw [cell_of_blk h.blk]; rfl, by rw [cell_of_blk h.free]; rfl, by simp [World.frozen?, h.free], by rw [cell_of_blk h.go1]; rfl, heap_lt h.blk, heap_lt h.free, heap_lt h.go1⟩
set_option maxRecDepth 100000 in
set_option maxHeartbeats 4000000 in
theorem anch1_any (p : Pg) (b : Nat) (ps : List Value) (w0 : World) (hpg : PgC (fun k => k < b) w0 p ps) (hb0 : b ≤ w0.heap.size) (hl : Leads p) (hN : p.ins.length ≤ 100000) :
    ∀ (n : Nat) (pc : Int) (t : Rw) (W : World), AnAt W b ps t → Below b w0 W → Pc p pc → leftN p.ins.length t.seen < n → t.seen.length + leftN p.ins.length t.seen ≤ p.ins.length → 0 ≤ t.mt →
      Calls Tryd.prog 55 #[.int .i64 pc, .pointer (some ⟨b + 2, 0, none⟩), .pointer (some ⟨b, 0, none⟩), .pointer (some ⟨b + 3, 0, none⟩), .pointer (some ⟨b + 4, 0, none⟩)] W (AnPost p b ps (comeR p false n pc t) W) := by
  intro n
  induction n with
  | zero => intro pc t W _ _ _ h; omega
  | succ n ih =>
    intro pc t W h hB hp hn hfit hmt
    obtain ⟨i, rfl⟩ := Int.eq_ofNat_of_zero_le hp.1
    have hi : i < p.ins.length := by have := hp.2; omega
    have hwf : (Lit.int .i64 (i : Int)).wf = true := wf_small (by omega) (by omega)
    have hlk := ints_look h.map i hwf
    have hc2 : W.cell? ⟨b + 2, 0, none⟩ = some (.map (some (b + 1))) := by rw [cell_of_blk h.seen]; rfl
    by_cases hs : t.seen.contains (i : Int) = true
    · have e : comeR p false (n + 1) i t = ⟨t.seen, t.l, t.mt, true⟩ := by rw [comeR, if_pos hs]
      rw [e]
      rw [hs] at hlk
      have HA := Lib.hid (And.intro h hfit)
      clear h hpg hB ih e hs hn hfit
      go_enter Tryd.func55, Tryd.ntmps55
      go_wp2_with fail
      go_end0
      exact ⟨rfl, HA.out.1.tw, Kept.refl _ _ _ _, HA.out.2⟩
    · have hs' : t.seen.contains (i : Int) = false := by simpa using hs
      rw [hs'] at hlk
      have hle := leftN_cons hp hs'
      have hfit1 := fit_cons hp hs' hfit
      have hx := hl i hp
      rw [get_eq p i hi] at hx
      obtain ⟨ad, c, B3, d3, rfl, hc1, hcm, _, _, hadb, hins⟩ := ins_at hpg hb0 i hi
      have hcm := comeR_new (bg := false) (n := n) hs' (get_eq p i hi)
      clear hs
      have hmx : t.seen.length < maxLen := by unfold maxLen; omega
      have HA := Lib.hid (And.intro h (And.intro hB (And.intro hins (And.intro hfit1 hx))))
      have HI := Lib.hid ih
      have HM := Lib.hid hmt
      have HN := Lib.hid (And.intro hn (And.intro hle (And.intro hfit hc1)))
      clear h hB hins hfit1 hx ih hn hle hfit hmt hpg hc1 hs'
      generalize p.ins[i] = x at *
      rcases in_cases x with ho | ho | ho | ho | ho | ho
      · have o1 : (x.op == 1) = true := by rw [ho]; rfl
        have o2 : (x.op == 2) = false := by rw [ho]; rfl
        have o3 : (x.op == 3) = false := by rw [ho]; rfl
        have o4 : (x.op == 4) = false := by rw [ho]; rfl
        have o5 : (x.op == 5) = false := by rw [ho]; rfl
        rw [if_pos ho] at hcm
        rw [hcm]
        have HO := Lib.hid ho
        clear ho hcm
        go_enter Tryd.func55, Tryd.ntmps55
        go_wp2_with (at_mapUpdate; refine wpList_ints rfl _ _ _ rfl (b + 1) _ _ rfl HA.out.1.map hmx i hwf rfl rfl ?_; intro w1 hm1 hg1; have h1 := HA.out.1.mark hm1 hg1; have hK1 := (Kept.refl b 5 3 W).grown hg1 (fun k e => by cases e; exact ⟨by omega, .inl (by omega)⟩); have hB1 := HA.out.2.1.trans (hK1.below (by have := HA.out.1.lt; omega)); obtain ⟨ha, g0, g1, g2, g3, g4⟩ := HA.out.2.2.1 w1 hB1; obtain ⟨q0, q3, f3, q4, n0, n3, n4⟩ := h1.cells 0; have H1 := Lib.hid (And.intro h1 (And.intro hK1 hB1)); clear h1 hK1 hB1 ha hm1 hg1)
        go_end0
        obtain ⟨h1, hK1, hB1⟩ := H1.out
        exact ⟨rfl, (h1.set (t' := ⟨(i : Int) :: t.seen, t.l, t.mt + 1, t.tw⟩) rfl (by have := HM.out; simp [freeB]; omega)).below (below_al (Below.refl _ _) _), (hK1.set (a := ⟨b + 3, 0, none⟩) (by show b ≤ b + 3; omega) (by show b + 3 < b + 5; omega) _).alloc _, HA.out.2.2.2.1⟩
      · have o1 : (x.op == 1) = false := by rw [ho]; rfl
        have o2 : (x.op == 2) = true := by rw [ho]; rfl
        have o3 : (x.op == 3) = false := by rw [ho]; rfl
        have o4 : (x.op == 4) = false := by rw [ho]; rfl
        have o5 : (x.op == 5) = false := by rw [ho]; rfl
        rw [if_neg (by omega), if_pos ho] at hcm
        rw [hcm]
        have HO := Lib.hid ho
        clear ho hcm
        go_enter Tryd.func55, Tryd.ntmps55
        go_wp2_with (at_mapUpdate; refine wpList_ints rfl _ _ _ rfl (b + 1) _ _ rfl HA.out.1.map hmx i hwf rfl rfl ?_; intro w1 hm1 hg1; have h1 := HA.out.1.mark hm1 hg1; have hK1 := (Kept.refl b 5 3 W).grown hg1 (fun k e => by cases e; exact ⟨by omega, .inl (by omega)⟩); have hB1 := HA.out.2.1.trans (hK1.below (by have := HA.out.1.lt; omega)); obtain ⟨ha, g0, g1, g2, g3, g4⟩ := HA.out.2.2.1 w1 hB1; obtain ⟨q0, q3, f3, q4, n0, n3, n4⟩ := h1.cells 0; have H1 := Lib.hid (And.intro h1 (And.intro hK1 hB1)); clear h1 hK1 hB1 ha hm1 hg1)
        go_end0
        obtain ⟨h1, hK1, hB1⟩ := H1.out
        exact ⟨rfl, (h1.set (t' := ⟨(i : Int) :: t.seen, t.l ++ [(i : Int)], t.mt, t.tw⟩) rfl (by simp [freeB])).below (below_al (Below.refl _ _) _), (hK1.set (a := ⟨b + 3, 0, none⟩) (by show b ≤ b + 3; omega) (by show b + 3 < b + 5; omega) _).alloc _, HA.out.2.2.2.1⟩
      · have o1 : (x.op == 1) = false := by rw [ho]; rfl
        have o2 : (x.op == 2) = false := by rw [ho]; rfl
        have o3 : (x.op == 3) = true := by rw [ho]; rfl
        have o4 : (x.op == 4) = false := by rw [ho]; rfl
        have o5 : (x.op == 5) = false := by rw [ho]; rfl
        rw [if_neg (by omega), if_neg (by omega), if_pos ho] at hcm
        rw [hcm]
        have HO := Lib.hid ho
        clear ho hcm
        go_enter Tryd.func55, Tryd.ntmps55
        go_wp2_with (at_mapUpdate; refine wpList_ints rfl _ _ _ rfl (b + 1) _ _ rfl HA.out.1.map hmx i hwf rfl rfl ?_; intro w1 hm1 hg1; have h1 := HA.out.1.mark hm1 hg1; have hK1 := (Kept.refl b 5 3 W).grown hg1 (fun k e => by cases e; exact ⟨by omega, .inl (by omega)⟩); have hB1 := HA.out.2.1.trans (hK1.below (by have := HA.out.1.lt; omega)); obtain ⟨ha, g0, g1, g2, g3, g4⟩ := HA.out.2.2.1 w1 hB1; obtain ⟨q0, q3, f3, q4, n0, n3, n4⟩ := h1.cells 0; have H1 := Lib.hid (And.intro h1 (And.intro hK1 hB1)); clear h1 hK1 hB1 ha hm1 hg1)
        refine (HI.out x.out ⟨(i : Int) :: t.seen, t.l, t.mt, t.tw⟩ _ (H1.out.1.below (below_al (Below.refl _ _) _)) (H1.out.2.2.alloc (by have := hb0; have := H1.out.2.2.size; omega) _) (HA.out.2.2.2.2.1 (by have := HO.out; omega)) (by have := HN.out; show leftN p.ins.length ((i : Int) :: t.seen) < n; omega) HA.out.2.2.2.1 HM.out).mono ?_
        rintro e w3 ⟨rfl, h3, hK3, hf3⟩
        dsimp only
        obtain ⟨r0, r3, rf3, r4, m0, m3, m4⟩ := h3.cells 0
        have hbx := (hK3.block w1.heap.size (by simp) (.inr ⟨by have := H1.out.1.lt; omega, fun ht => ht.ne (heap_new1 w1 _) (by decide) rfl⟩)).trans (heap_new1 w1 _)
        obtain ⟨x0, x1, x2, x3, x4⟩ := cells5 hbx
        have nx := heap_lt hbx
        have H3 := Lib.hid (And.intro h3 (And.intro hK3 hf3))
        clear h3 hK3 hf3 hbx
        go_wp2_with fail
        refine (HI.out x.arg _ _ H3.out.1 (H1.out.2.2.trans (((Kept.refl b 5 3 w1).alloc _).trans H3.out.2.1 |>.below (by omega))) (HA.out.2.2.2.2.2 HO.out) (by have := HN.out; have := leftN_sub (N := p.ins.length) (comeR_seen p false hl n x.out ⟨(i : Int) :: t.seen, t.l, t.mt, t.tw⟩ (HA.out.2.2.2.2.1 (by have := HO.out; omega))); show leftN p.ins.length _ < n; simp only at this; omega) H3.out.2.2 (comeR_mt p false hl n x.out ⟨(i : Int) :: t.seen, t.l, t.mt, t.tw⟩ (HA.out.2.2.2.2.1 (by have := HO.out; omega)) HM.out)).mono ?_
        rintro e w4 ⟨rfl, h4, hK4, hf4⟩
        dsimp only
        have H4 := Lib.hid (And.intro h4 (And.intro hK4 hf4))
        clear h4 hK4 hf4
        go_wp2_with fail
        go_end0
        exact ⟨rfl, H4.out.1, (H1.out.2.1.alloc _).trans (H3.out.2.1.trans H4.out.2.1), H4.out.2.2⟩
      · have o1 : (x.op == 1) = false := by rw [ho]; rfl
        have o2 : (x.op == 2) = false := by rw [ho]; rfl
        have o3 : (x.op == 3) = false := by rw [ho]; rfl
        have o4 : (x.op == 4) = true := by rw [ho]; rfl
        have o5 : (x.op == 5) = false := by rw [ho]; rfl
        rw [if_neg (by omega), if_neg (by omega), if_neg (by omega), if_pos (.inl ho)] at hcm
        rw [hcm]
        have HO := Lib.hid ho
        clear ho hcm
        go_enter Tryd.func55, Tryd.ntmps55
        go_wp2_with (at_mapUpdate; refine wpList_ints rfl _ _ _ rfl (b + 1) _ _ rfl HA.out.1.map hmx i hwf rfl rfl ?_; intro w1 hm1 hg1; have h1 := HA.out.1.mark hm1 hg1; have hK1 := (Kept.refl b 5 3 W).grown hg1 (fun k e => by cases e; exact ⟨by omega, .inl (by omega)⟩); have hB1 := HA.out.2.1.trans (hK1.below (by have := HA.out.1.lt; omega)); obtain ⟨ha, g0, g1, g2, g3, g4⟩ := HA.out.2.2.1 w1 hB1; obtain ⟨q0, q3, f3, q4, n0, n3, n4⟩ := h1.cells 0; have H1 := Lib.hid (And.intro h1 (And.intro hK1 hB1)); clear h1 hK1 hB1 ha hm1 hg1)
        refine (HI.out x.out ⟨(i : Int) :: t.seen, t.l, t.mt, t.tw⟩ _ (H1.out.1.below (below_al (Below.refl _ _) _)) (H1.out.2.2.alloc (by have := hb0; have := H1.out.2.2.size; omega) _) (HA.out.2.2.2.2.1 (by have := HO.out; omega)) (by have := HN.out; show leftN p.ins.length ((i : Int) :: t.seen) < n; omega) HA.out.2.2.2.1 HM.out).mono ?_
        rintro e w3 ⟨rfl, h3, hK3, hf3⟩
        dsimp only
        have H3 := Lib.hid (And.intro h3 (And.intro hK3 hf3))
        clear h3 hK3 hf3
        go_wp2_with fail
        go_end0
        exact ⟨rfl, H3.out.1, (H1.out.2.1.alloc _).trans H3.out.2.1, H3.out.2.2⟩
      · by_cases ha : x.at_ = 1
        · have o1 : (x.op == 1) = false := by rw [ho]; rfl
          have o2 : (x.op == 2) = false := by rw [ho]; rfl
          have o3 : (x.op == 3) = false := by rw [ho]; rfl
          have o4 : (x.op == 4) = false := by rw [ho]; rfl
          have o5 : (x.op == 5) = true := by rw [ho]; rfl
          rw [if_neg (by omega), if_neg (by omega), if_neg (by omega), if_neg (fun h => h.elim (fun h => by omega) (fun h => h.2.elim (fun h => by cases h) (fun h => h ha)))] at hcm
          have o6 : (x.at_ == 1) = true := by simpa using ha
          have o7 : (x.at_ != 1) = false := by simpa using ha
          rw [hcm]
          have HO := Lib.hid ho
          clear ho hcm ha
          go_enter Tryd.func55, Tryd.ntmps55
          go_wp2_with (at_mapUpdate; refine wpList_ints rfl _ _ _ rfl (b + 1) _ _ rfl HA.out.1.map hmx i hwf rfl rfl ?_; intro w1 hm1 hg1; have h1 := HA.out.1.mark hm1 hg1; have hK1 := (Kept.refl b 5 3 W).grown hg1 (fun k e => by cases e; exact ⟨by omega, .inl (by omega)⟩); have hB1 := HA.out.2.1.trans (hK1.below (by have := HA.out.1.lt; omega)); obtain ⟨ha, g0, g1, g2, g3, g4⟩ := HA.out.2.2.1 w1 hB1; obtain ⟨q0, q3, f3, q4, n0, n3, n4⟩ := h1.cells 0; have H1 := Lib.hid (And.intro h1 (And.intro hK1 hB1)); clear h1 hK1 hB1 ha hm1 hg1)
          go_end0
          obtain ⟨h1, hK1, hB1⟩ := H1.out
          exact ⟨rfl, h1.below (below_al (Below.refl _ _) _), hK1.alloc _, HA.out.2.2.2.1⟩
        · have o1 : (x.op == 1) = false := by rw [ho]; rfl
          have o2 : (x.op == 2) = false := by rw [ho]; rfl
          have o3 : (x.op == 3) = false := by rw [ho]; rfl
          have o4 : (x.op == 4) = false := by rw [ho]; rfl
          have o5 : (x.op == 5) = true := by rw [ho]; rfl
          rw [if_neg (by omega), if_neg (by omega), if_neg (by omega), if_pos (.inr ⟨ho, .inr ha⟩)] at hcm
          have o6 : (x.at_ == 1) = false := by simpa using ha
          have o7 : (x.at_ != 1) = true := by simpa using ha
          rw [hcm]
          have HO := Lib.hid ho
          clear ho hcm ha
          go_enter Tryd.func55, Tryd.ntmps55
          go_wp2_with (at_mapUpdate; refine wpList_ints rfl _ _ _ rfl (b + 1) _ _ rfl HA.out.1.map hmx i hwf rfl rfl ?_; intro w1 hm1 hg1; have h1 := HA.out.1.mark hm1 hg1; have hK1 := (Kept.refl b 5 3 W).grown hg1 (fun k e => by cases e; exact ⟨by omega, .inl (by omega)⟩); have hB1 := HA.out.2.1.trans (hK1.below (by have := HA.out.1.lt; omega)); obtain ⟨ha, g0, g1, g2, g3, g4⟩ := HA.out.2.2.1 w1 hB1; obtain ⟨q0, q3, f3, q4, n0, n3, n4⟩ := h1.cells 0; have H1 := Lib.hid (And.intro h1 (And.intro hK1 hB1)); clear h1 hK1 hB1 ha hm1 hg1)
          refine (HI.out x.out ⟨(i : Int) :: t.seen, t.l, t.mt, t.tw⟩ _ (H1.out.1.below (below_al (Below.refl _ _) _)) (H1.out.2.2.alloc (by have := hb0; have := H1.out.2.2.size; omega) _) (HA.out.2.2.2.2.1 (by have := HO.out; omega)) (by have := HN.out; show leftN p.ins.length ((i : Int) :: t.seen) < n; omega) HA.out.2.2.2.1 HM.out).mono ?_
          rintro e w3 ⟨rfl, h3, hK3, hf3⟩
          dsimp only
          have H3 := Lib.hid (And.intro h3 (And.intro hK3 hf3))
          clear h3 hK3 hf3
          go_wp2_with fail
          go_end0
          exact ⟨rfl, H3.out.1, (H1.out.2.1.alloc _).trans H3.out.2.1, H3.out.2.2⟩
      · have o1 : (x.op == 1) = false := by simp; omega
        have o2 : (x.op == 2) = false := by simp; omega
        have o3 : (x.op == 3) = false := by simp; omega
        have o4 : (x.op == 4) = false := by simp; omega
        have o5 : (x.op == 5) = false := by simp; omega
        rw [if_neg (by omega), if_neg (by omega), if_neg (by omega), if_neg (by omega)] at hcm
        rw [hcm]
        have HO := Lib.hid ho
        clear ho hcm
        go_enter Tryd.func55, Tryd.ntmps55
        go_wp2_with (at_mapUpdate; refine wpList_ints rfl _ _ _ rfl (b + 1) _ _ rfl HA.out.1.map hmx i hwf rfl rfl ?_; intro w1 hm1 hg1; have h1 := HA.out.1.mark hm1 hg1; have hK1 := (Kept.refl b 5 3 W).grown hg1 (fun k e => by cases e; exact ⟨by omega, .inl (by omega)⟩); have hB1 := HA.out.2.1.trans (hK1.below (by have := HA.out.1.lt; omega)); obtain ⟨ha, g0, g1, g2, g3, g4⟩ := HA.out.2.2.1 w1 hB1; obtain ⟨q0, q3, f3, q4, n0, n3, n4⟩ := h1.cells 0; have H1 := Lib.hid (And.intro h1 (And.intro hK1 hB1)); clear h1 hK1 hB1 ha hm1 hg1)
        go_end0
        obtain ⟨h1, hK1, hB1⟩ := H1.out
        exact ⟨rfl, h1.below (below_al (Below.refl _ _) _), hK1.alloc _, HA.out.2.2.2.1⟩
theorem free_iff (p : Pg) : (!freeB (fromR p false p.start)) = anchR p := by
  unfold freeB anchR
  rw [Bool.eq_iff_iff]
  simp only [Bool.not_eq_true', Bool.or_eq_false_iff, decide_eq_false_iff_not, Bool.and_eq_true, decide_eq_true_eq, ← List.length_eq_zero_iff]
  omega
theorem heap_new5 (w : World) (o1 o2 o3 o4 o5 : Obj) : (((((w.alloc o1).alloc o2).alloc o3).alloc o4).alloc o5).heap[w.heap.size + 1 + 1 + 1 + 1]? = some o5 := by
  have := World.alloc_heap_new ((((w.alloc o1).alloc o2).alloc o3).alloc o4) o5; rwa [World.size_alloc, World.size_alloc, World.size_alloc, World.size_alloc] at this
set_option maxRecDepth 100000 in
set_option maxHeartbeats 1000000 in
theorem anchored_any (ok : Nat → Prop) (w : World) (p : Pg) (ps : List Value) (hp : PgC ok w p ps) (hl : Leads p) (hs : Pc p p.start) (hN : p.ins.length ≤ 100000) :
    Calls Tryd.prog 36 #[.agg ps.toArray] w fun e w' => e = .returned (.bool (anchR p)) ∧ Below w.heap.size w w' := by
  have hpg : PgC (fun k => k < w.heap.size) w p ps := hp.old.move fun b hb hlt => ⟨rfl, hb.2⟩
  have hq := fun W hA hB => anch1_any p w.heap.size ps w hpg (Nat.le_refl _) hl hN (p.ins.length + 1) p.start ⟨[], [], 0, false⟩ W hA hB hs (Nat.lt_succ_of_le (leftN_le _ _)) (by rw [List.length_nil, Nat.zero_add]; exact leftN_le _ _) (Int.le_refl _)
  have hr := free_iff p
  unfold fromR at hr
  have hmm := @run_makeMap Tryd.prog
  obtain ⟨A, c, rfl, p1, p2, _⟩ := hp
  obtain ⟨W5, hW5⟩ : ∃ W5, W5 = (((((w.alloc (.cells #[.slice A p.ins.length c, .int .i64 p.start, .int .i64 p.caps] 28)).alloc (.map #[] 0)).alloc (.cells #[.map (some (w.heap.size + 1))] 116)).alloc (.cells #[.bool false] 4)).alloc (.cells #[.func (.func 55) #[] #[.pointer (some ⟨w.heap.size + 1 + 1, 0, none⟩), .pointer (some ⟨w.heap.size, 0, none⟩), .pointer (some ⟨w.heap.size + 1 + 1 + 1, 0, none⟩), .pointer (some ⟨w.heap.size + 1 + 1 + 1 + 1, 0, none⟩)]] 117)) := ⟨_, rfl⟩
  have hB5 : Below w.heap.size w W5 := by subst hW5; exact below_al (below_al (below_al (below_al (below_al (Below.refl _ _) _) _) _) _) _
  have hA5 : AnAt W5 w.heap.size [.slice A p.ins.length c, .int .i64 p.start, .int .i64 p.caps] ⟨[], [], 0, false⟩ := by
    subst hW5
    refine ⟨?_, ?_, ?_, ?_, ?_⟩
    · rw [Below.heap_alloc _ _ _ (by simp only [World.size_alloc]; omega), Below.heap_alloc _ _ _ (by simp only [World.size_alloc]; omega), Below.heap_alloc _ _ _ (by simp only [World.size_alloc]; omega), Below.heap_alloc _ _ _ (by simp only [World.size_alloc]; omega)]; exact heap_new1 _ _
    · have h := IntsAt.made (w.alloc (.cells #[.slice A p.ins.length c, .int .i64 p.start, .int .i64 p.caps] 28))
      rw [World.size_alloc] at h
      exact h.blk (by rw [Below.heap_alloc _ _ _ (by simp only [World.size_alloc]; omega), Below.heap_alloc _ _ _ (by simp only [World.size_alloc]; omega), Below.heap_alloc _ _ _ (by simp only [World.size_alloc]; omega)])
    · rw [Below.heap_alloc _ _ _ (by simp only [World.size_alloc]; omega), Below.heap_alloc _ _ _ (by simp only [World.size_alloc]; omega)]; exact heap_new3 _ _ _ _
    · rw [Below.heap_alloc _ _ _ (by simp only [World.size_alloc]; omega)]; exact heap_new4 _ _ _ _ _
    · exact heap_new5 _ _ _ _ _ _
  have hq := hq W5 hA5 hB5
  obtain ⟨q0, q3, f3, q4, n0, n3, n4⟩ := hA5.cells 0
  have q1 : W5.cell? ⟨w.heap.size, 1, none⟩ = some (.int .i64 p.start) := by rw [cell_of_blk hA5.blk]; rfl
  subst hW5
  have HQ := Lib.hid (And.intro hr hB5)
  clear hr hpg hB5 hA5 hl hs
  generalize anchR p = r at *
  go_enter Tryd.func36, Tryd.ntmps36
  go_wp2_with fail
  refine hq.mono ?_
  rintro e w1 ⟨rfl, h1, hK1, _⟩
  dsimp only
  clear q0 q3 f3 q4 n0 n3 n4 q1 hq
  obtain ⟨q0, q3, f3, q4, n0, n3, n4⟩ := h1.cells 0
  have HB := Lib.hid (HQ.out.2.trans (hK1.below HQ.out.2.size))
  have HR := Lib.hid HQ.out.1
  clear h1 hK1 HQ
  generalize freeB (comeR p false (p.ins.length + 1) p.start ⟨[], [], 0, false⟩) = fr at *
  go_wp2_with fail
  go_ret
  exact ⟨ret_bool HR.out, HB.out⟩
end Go.Proofs.YthclpabmbhpohaaDoor
namespace Go.Proofs.YthclpabmbhpohaaDoor
open Go.RowKit Go.Maps
set_option linter.unusedVariables false
/-- Which of the first N numbers are in a list. -/
def boolsOf (N : Nat) (l : List Int) : Array Value := ((List.range N).map fun (i : Nat) => Value.bool (l.contains (i : Int))).toArray
theorem bools_at {N : Nat} {l : List Int} {i : Nat} (hi : i < N) : (boolsOf N l)[i]? = some (.bool (l.contains (i : Int))) := by
  simp [boolsOf, hi]
theorem bools_set (N : Nat) (l : List Int) (i : Nat) : (boolsOf N l).setIfInBounds i (.bool true) = boolsOf N ((i : Int) :: l) := by
  apply Array.ext_getElem?
  intro j
  rw [Array.getElem?_setIfInBounds]
  by_cases hj : j < N
  · rw [bools_at hj, bools_at hj]
    by_cases e : i = j
    · subst e
      rw [if_pos rfl, if_pos (by simpa [boolsOf] using hj)]
      simp
    · rw [if_neg e]
      congr 2
      simp only [List.contains_cons]
      rw [beq_eq_false_iff_ne.2 (by omega), Bool.false_or]
  · have h1 : ∀ l, (boolsOf N l)[j]? = none := fun l => by simp [boolsOf]; omega
    rw [h1, h1]
    split <;> simp [boolsOf]; omega
structure RwAt (W : World) (b N : Nat) (u0 u1 u2 : Value) (bg : Bool) (lv : Value) (t : Rw) : Prop where
  blk : W.heap[b + 1]? = some (.cells #[u0, u1, u2, .bool bg, .slice (some ⟨b, 0, none⟩) N N, lv, .int .i64 t.mt, .bool t.tw] 88 (0, 0))
  seen : W.heap[b]? = some (.cells (boolsOf N t.seen) 4 (0, 0))
  l : Owns W (b + 2) 3 1 lv (t.l.map i64C)
variable {W W' : World} {b N : Nat} {u0 u1 u2 : Value} {bg : Bool} {lv lv' : Value} {t t' : Rw}
theorem RwAt.below (h : RwAt W b N u0 u1 u2 bg lv t) (hb : Below W.heap.size W W') : RwAt W' b N u0 u1 u2 bg lv t :=
  ⟨(hb.block _ (heap_lt h.blk)).trans h.blk, (hb.block _ (heap_lt h.seen)).trans h.seen, h.l.below hb⟩
theorem RwAt.mark (h : RwAt W b N u0 u1 u2 bg lv t) (i : Nat) : RwAt (W.setCell ⟨b, i, none⟩ (.bool true)) b N u0 u1 u2 bg lv ⟨(i : Int) :: t.seen, t.l, t.mt, t.tw⟩ :=
  ⟨(set_ne0 W _ (by show b + 1 ≠ b; omega)).trans h.blk, by rw [heap_set0 h.seen i, bools_set], owns_grown0 h.l (grown_set0 W b i _) (by omega)⟩
theorem RwAt.setTw (h : RwAt W b N u0 u1 u2 bg lv t) : RwAt (W.setCell ⟨b + 1, 7, none⟩ (.bool true)) b N u0 u1 u2 bg lv ⟨t.seen, t.l, t.mt, true⟩ :=
  ⟨by rw [heap_set0 h.blk 7]; simp, (set_ne0 W _ (by show b ≠ b + 1; omega)).trans h.seen, owns_grown0 h.l (grown_set0 W (b + 1) 7 _) (by omega)⟩
theorem RwAt.setMt (h : RwAt W b N u0 u1 u2 bg lv t) (m : Int) : RwAt (W.setCell ⟨b + 1, 6, none⟩ (.int .i64 m)) b N u0 u1 u2 bg lv ⟨t.seen, t.l, m, t.tw⟩ :=
  ⟨by rw [heap_set0 h.blk 6]; simp, (set_ne0 W _ (by show b ≠ b + 1; omega)).trans h.seen, owns_grown0 h.l (grown_set0 W (b + 1) 6 _) (by omega)⟩
theorem RwAt.app {x : Int} (h : RwAt W b N u0 u1 u2 bg lv t) (hown : Owns W' (b + 2) 3 1 lv' (t.l.map i64C ++ [i64C x])) (hg : W.grownBy W' lv.ownBlock) :
    W'.heap[b + 1]? = W.heap[b + 1]? ∧ RwAt (W'.setCell ⟨b + 1, 5, none⟩ lv') b N u0 u1 u2 bg lv' ⟨t.seen, t.l ++ [x], t.mt, t.tw⟩ := by
  have key : ∀ k, k < W.heap.size → k < b + 2 → W'.heap[k]? = W.heap[k]? := fun k hk hc => hg.block k hk fun e => by
    have := (h.l.lt k e.symm).1; omega
  have h1 := key (b + 1) (heap_lt h.blk) (by omega)
  refine ⟨h1, by rw [heap_set0 (h1.trans h.blk) 5]; simp, (set_ne0 W' _ (by show b ≠ b + 1; omega)).trans ((key b (heap_lt h.seen) (by omega)).trans h.seen), ?_⟩
  rw [List.map_append]; exact owns_grown0 hown (grown_set0 W' (b + 1) 5 lv') (by omega)
structure RwCells (W : World) (b N : Nat) (u0 : Value) (bg : Bool) (lv : Value) (t : Rw) (i : Nat) : Prop where
  s : W.cell? ⟨b, i, none⟩ = some (.bool (t.seen.contains (i : Int)))
  sf : W.frozen? ⟨b, i, none⟩ = false
  c0 : W.cell? ⟨b + 1, 0, none⟩ = some u0
  c3 : W.cell? ⟨b + 1, 3, none⟩ = some (.bool bg)
  c4 : W.cell? ⟨b + 1, 4, none⟩ = some (.slice (some ⟨b, 0, none⟩) N N)
  c5 : W.cell? ⟨b + 1, 5, none⟩ = some lv
  c6 : W.cell? ⟨b + 1, 6, none⟩ = some (.int .i64 t.mt)
  c7 : W.cell? ⟨b + 1, 7, none⟩ = some (.bool t.tw)
  f : ∀ j, W.frozen? ⟨b + 1, j, none⟩ = false
  n0 : b < W.heap.size
  n1 : b + 1 < W.heap.size
theorem RwAt.cells (h : RwAt W b N u0 u1 u2 bg lv t) {i : Nat} (hi : i < N) : RwCells W b N u0 bg lv t i :=
  ⟨by rw [cell_of_blk h.seen, bools_at hi], by simp [World.frozen?, h.seen], by rw [cell_of_blk h.blk]; rfl, by rw [cell_of_blk h.blk]; rfl, by rw [cell_of_blk h.blk]; rfl, by rw [cell_of_blk h.blk]; rfl, by rw [cell_of_blk h.blk]; rfl, by rw [cell_of_blk h.blk]; rfl, fun j => by simp [World.frozen?, h.blk], heap_lt h.seen, heap_lt h.blk⟩
def RwPost (b N : Nat) (u0 u1 u2 : Value) (bg : Bool) (t' : Rw) (W : World) (e : Ending) (W' : World) : Prop := e = .returned (.tuple #[]) ∧ (∃ lv, RwAt W' b N u0 u1 u2 bg lv t') ∧ Kept b 2 3 W W'
structure FitR (p : Pg) (t : Rw) : Prop where
  few : t.seen.length + leftN p.ins.length t.seen ≤ p.ins.length
  l : t.l.length ≤ t.seen.length
  m0 : 0 ≤ t.mt
  m1 : t.mt ≤ t.seen.length
theorem fitR_mark {p : Pg} {pc : Int} {t : Rw} (hp : Pc p pc) (hs : t.seen.contains pc = false) (h : FitR p t) : FitR p ⟨pc :: t.seen, t.l, t.mt, t.tw⟩ :=
  ⟨fit_cons hp hs h.few, by have := h.l; simp; omega, h.m0, by have := h.m1; simp; omega⟩
theorem comeR_fit (p : Pg) (bg : Bool) (hl : Leads p) : ∀ (n : Nat) (pc : Int) (s : Rw), Pc p pc → FitR p s → FitR p (comeR p bg n pc s)
  | 0, _, s, _, h => h
  | n + 1, pc, s, hp, h => by
    have ih := comeR_fit p bg hl n
    have hx := hl pc hp
    by_cases c0 : s.seen.contains pc = true
    · rw [comeR, if_pos c0]; exact ⟨h.few, h.l, h.m0, h.m1⟩
    have c0' : s.seen.contains pc = false := by simpa using c0
    have h1 := fitR_mark hp c0' h
    have hlc : (pc :: s.seen).length = s.seen.length + 1 := rfl
    rw [comeR_new c0' rfl]
    by_cases c1 : (p.get pc).op = 1
    · rw [if_pos c1]; exact ⟨h1.few, h1.l, by have := h.m0; show 0 ≤ s.mt + 1; omega, by have := h.m1; simp; omega⟩
    rw [if_neg c1]
    by_cases c2 : (p.get pc).op = 2
    · rw [if_pos c2]; exact ⟨h1.few, by have := h.l; simp; omega, h1.m0, h1.m1⟩
    rw [if_neg c2]
    by_cases c3 : (p.get pc).op = 3
    · rw [if_pos c3]; exact ih _ _ (hx.2 c3) (ih _ _ (hx.1 (by omega)) h1)
    rw [if_neg c3]
    by_cases c4 : (p.get pc).op = 4 ∨ ((p.get pc).op = 5 ∧ (bg = true ∨ (p.get pc).at_ ≠ 1))
    · rw [if_pos c4]; exact ih _ _ (hx.1 (by omega)) h1
    rw [if_neg c4]; exact h1
set_option maxRecDepth 100000 in
set_option maxHeartbeats 8000000 in
theorem come15_any (p : Pg) (b : Nat) (ps : List Value) (w0 : World) (hpg : PgC (fun k => k < b) w0 p ps) (hb0 : b ≤ w0.heap.size) (hl : Leads p) (hN : p.ins.length ≤ 100000) (u0 u1 u2 : Value) (hps : ps = [u0, u1, u2]) (bg : Bool) :
    ∀ (n : Nat) (pc : Int) (t : Rw) (lv : Value) (W : World), RwAt W b p.ins.length u0 u1 u2 bg lv t → Below b w0 W → Pc p pc → leftN p.ins.length t.seen < n → FitR p t →
      Calls Tryd.prog 61 #[.pointer (some ⟨b + 1, 0, none⟩), .int .i64 pc] W (RwPost b p.ins.length u0 u1 u2 bg (comeR p bg n pc t) W) := by
  intro n
  induction n with
  | zero => intro pc t lv W _ _ _ h; omega
  | succ n ih =>
    intro pc t lv W h hB hp hn hfit
    obtain ⟨i, rfl⟩ := Int.eq_ofNat_of_zero_le hp.1
    have hi : i < p.ins.length := by have := hp.2; omega
    obtain ⟨cs, sf, c0, c3, c4, c5, c6, c7, f, n0, n1⟩ := h.cells hi
    by_cases hs : t.seen.contains (i : Int) = true
    · have e : comeR p bg (n + 1) i t = ⟨t.seen, t.l, t.mt, true⟩ := by rw [comeR, if_pos hs]
      rw [e]
      rw [hs] at cs
      have f7 := f 7
      have HA := Lib.hid h
      clear h hpg hB ih e hs hn hfit hps f
      go_enter Tryd.func61, Tryd.ntmps61
      go_wp2_with fail
      go_end0
      exact ⟨rfl, ⟨lv, HA.out.setTw⟩, (Kept.refl b 2 3 W).set (a := ⟨b + 1, 7, none⟩) (by show b ≤ b + 1; omega) (by show b + 1 < b + 2; omega) _⟩
    · have hs' : t.seen.contains (i : Int) = false := by simpa using hs
      rw [hs'] at cs
      have hle := leftN_cons hp hs'
      have hfit1 := fitR_mark hp hs' hfit
      have hx := hl i hp
      rw [get_eq p i hi] at hx
      obtain ⟨ad, c, B3, d3, hps2, hc1, hcm, hd3, hd3m, hadb, hins⟩ := ins_at hpg hb0 i hi
      rw [hps] at hps2
      simp only [List.cons.injEq, and_true] at hps2
      obtain ⟨rfl, rfl, rfl⟩ := hps2
      have hcm2 := comeR_new (bg := bg) (n := n) hs' (get_eq p i hi)
      clear hs
      have h1 := h.mark i
      have hK1 := (Kept.refl b 2 3 W).set (a := ⟨b, i, none⟩) (Nat.le_refl _) (by show b < b + 2; omega) (.bool true)
      have hB1 := hB.trans (hK1.below (by omega))
      obtain ⟨ha, g0, g1, g2, g3, g4⟩ := hins _ hB1
      obtain ⟨_, k0, k1, k2, k3, k4⟩ := hins _ hB
      have hnb : ((ad.add (i * 5)).block = b) = False := by rw [add_block]; simp; omega
      obtain ⟨qs, qf, q0, q3, q4, q5, q6, q7, qq, m0, m1⟩ := h1.cells hi
      have q6f := qq 6
      have q5f := qq 5
      have hmN : t.mt ≤ 100000 := by have := hfit.few; have := hfit.m1; omega
      have hm0 := hfit.m0
      have hlN : t.l.length ≤ 100000 := by have := hfit.few; have := hfit.l; omega
      have H1 := Lib.hid (And.intro h1 (And.intro hK1 (And.intro hB1 (And.intro hx hfit1))))
      have HI := Lib.hid ih
      have HN := Lib.hid (And.intro hn hle)
      clear h hB hins hfit1 hx ih hn hle hfit hpg hs' hps h1 hK1 hB1 ha f qs qf qq
      generalize p.ins[i] = x at *
      rcases in_cases x with ho | ho | ho | ho | ho | ho
      · have o1 : (x.op == 1) = true := by rw [ho]; rfl
        have o2 : (x.op == 2) = false := by rw [ho]; rfl
        have o3 : (x.op == 3) = false := by rw [ho]; rfl
        have o4 : (x.op == 4) = false := by rw [ho]; rfl
        have o5 : (x.op == 5) = false := by rw [ho]; rfl
        rw [if_pos ho] at hcm2
        rw [hcm2]
        have HO := Lib.hid ho
        clear ho hcm2
        go_enter Tryd.func61, Tryd.ntmps61
        go_wp2_with fail
        go_end0
        exact ⟨rfl, ⟨lv, (H1.out.1.setMt (t.mt + 1)).below (below_al (Below.refl _ _) _)⟩, (H1.out.2.1.set (a := ⟨b + 1, 6, none⟩) (by show b ≤ b + 1; omega) (by show b + 1 < b + 2; omega) _).alloc _⟩
      · have o1 : (x.op == 1) = false := by rw [ho]; rfl
        have o2 : (x.op == 2) = true := by rw [ho]; rfl
        have o3 : (x.op == 3) = false := by rw [ho]; rfl
        have o4 : (x.op == 4) = false := by rw [ho]; rfl
        have o5 : (x.op == 5) = false := by rw [ho]; rfl
        rw [if_neg (by omega), if_pos ho] at hcm2
        rw [hcm2]
        have HO := Lib.hid ho
        clear ho hcm2
        go_enter Tryd.func61, Tryd.ntmps61
        obtain ⟨i0, hi0, hz0, hz1, hz2⟩ := info_parts infoI
        have K3 := Lib.hid (show (t.l.map i64C).length + 1 ≤ maxLen by rw [List.length_map]; unfold maxLen; omega)
        have K4 := Lib.hid (show ((t.l.map i64C).length + 1) * 8 ≤ 140737488355328 by rw [List.length_map]; omega)
        have K5 := Lib.hid (show ∀ o o' : Obj, b + 2 ≤ (((W.setCell ⟨b, i, none⟩ (.bool true)).alloc o).alloc o').heap.size from fun o o' => by simp [World.setCell]; omega)
        go_wp2_with (at_builtin; refine wpList_app1 rfl _ _ 35 rfl (b + 2) 3 i0 (.int .i64 0) 1 8 Tryd.underlying35 hi0 hz0 hz1 hz2 rfl (by decide) lv _ rfl ((H1.out.1.l.alloc _).alloc _) _ [.int .i64 (i : Int)] rfl rfl (heap_newX (by simp [World.setCell])) (one_i64 _) K3.out K4.out (K5.out _ _) ?_)
        intro v' w4 hown' hgrow
        obtain ⟨e1, h4⟩ := ((H1.out.1.below (below_al (Below.refl _ _) _)).below (below_al (Below.refl _ _) _)).app hown' hgrow
        have hb4 := e1.trans ((H1.out.1.below (below_al (Below.refl _ _) _)).below (below_al (Below.refl _ _) _)).blk
        have z5 : w4.cell? ⟨b + 1, 5, none⟩ = some lv := by rw [cell_of_blk hb4]; rfl
        have zf := frozenOf hb4 5
        have zn := heap_lt hb4
        have hown9 := hown'
        obtain ⟨A9, c9, rfl, _, _⟩ := Owns.shape hown9
        have hK4 := Kept.app hgrow ((H1.out.2.1.alloc _).alloc _) ((H1.out.1.l.alloc _).alloc _) (by omega)
        simp only [List.length_append, List.length_map, List.length_cons, List.length_nil, Nat.zero_add] at h4
        have H4 := Lib.hid (And.intro h4 hK4)
        clear e1 h4 hb4 hK4 hown' hown9 hgrow
        go_wp2_with fail
        go_end0
        exact ⟨rfl, ⟨_, H4.out.1⟩, H4.out.2.set (a := ⟨b + 1, 5, none⟩) (by show b ≤ b + 1; omega) (by show b + 1 < b + 2; omega) _⟩
      · have o1 : (x.op == 1) = false := by rw [ho]; rfl
        have o2 : (x.op == 2) = false := by rw [ho]; rfl
        have o3 : (x.op == 3) = true := by rw [ho]; rfl
        have o4 : (x.op == 4) = false := by rw [ho]; rfl
        have o5 : (x.op == 5) = false := by rw [ho]; rfl
        rw [if_neg (by omega), if_neg (by omega), if_pos ho] at hcm2
        rw [hcm2]
        have HO := Lib.hid ho
        clear ho hcm2
        go_enter Tryd.func61, Tryd.ntmps61
        go_wp2_with fail
        refine (HI.out x.out ⟨(i : Int) :: t.seen, t.l, t.mt, t.tw⟩ lv _ (H1.out.1.below (below_al (Below.refl _ _) _)) (H1.out.2.2.1.alloc (by have := H1.out.2.2.1.size; omega) _) (H1.out.2.2.2.1.1 (by have := HO.out; omega)) (by have := HN.out; show leftN p.ins.length ((i : Int) :: t.seen) < n; omega) H1.out.2.2.2.2).mono ?_
        rintro e w3 ⟨rfl, ⟨lv3, h3⟩, hK3⟩
        dsimp only
        have hbx := (hK3.block (W.setCell ⟨b, i, none⟩ (.bool true)).heap.size (by simp) (.inr ⟨by have := heap_lt H1.out.1.blk; omega, fun ht => ht.ne (heap_new1 _ _) (by decide) rfl⟩)).trans (heap_new1 _ _)
        rw [show (W.setCell ⟨b, i, none⟩ (.bool true)).heap.size = W.heap.size by simp [World.setCell]] at hbx
        obtain ⟨x0, x1, x2, x3, x4⟩ := cells5 hbx
        have nx := heap_lt hbx
        have H3 := Lib.hid (And.intro h3 hK3)
        clear h3 hK3 hbx
        go_wp2_with fail
        refine (HI.out x.arg _ lv3 _ H3.out.1 (H1.out.2.2.1.trans (((Kept.refl b 2 3 _).alloc _).trans H3.out.2 |>.below (by omega))) (H1.out.2.2.2.1.2 HO.out) (by have := HN.out; have := leftN_sub (N := p.ins.length) (comeR_seen p bg hl n x.out ⟨(i : Int) :: t.seen, t.l, t.mt, t.tw⟩ (H1.out.2.2.2.1.1 (by have := HO.out; omega))); show leftN p.ins.length _ < n; simp only at this; omega) (comeR_fit p bg hl n x.out ⟨(i : Int) :: t.seen, t.l, t.mt, t.tw⟩ (H1.out.2.2.2.1.1 (by have := HO.out; omega)) H1.out.2.2.2.2)).mono ?_
        rintro e w4 ⟨rfl, ⟨lv4, h4⟩, hK4⟩
        dsimp only
        have H4 := Lib.hid (And.intro h4 hK4)
        clear h4 hK4
        go_wp2_with fail
        go_end0
        exact ⟨rfl, ⟨lv4, H4.out.1⟩, (H1.out.2.1.alloc _).trans (H3.out.2.trans H4.out.2)⟩
      · have o1 : (x.op == 1) = false := by rw [ho]; rfl
        have o2 : (x.op == 2) = false := by rw [ho]; rfl
        have o3 : (x.op == 3) = false := by rw [ho]; rfl
        have o4 : (x.op == 4) = true := by rw [ho]; rfl
        have o5 : (x.op == 5) = false := by rw [ho]; rfl
        rw [if_neg (by omega), if_neg (by omega), if_neg (by omega), if_pos (.inl ho)] at hcm2
        rw [hcm2]
        have HO := Lib.hid ho
        clear ho hcm2
        go_enter Tryd.func61, Tryd.ntmps61
        go_wp2_with fail
        refine (HI.out x.out ⟨(i : Int) :: t.seen, t.l, t.mt, t.tw⟩ lv _ (H1.out.1.below (below_al (Below.refl _ _) _)) (H1.out.2.2.1.alloc (by have := H1.out.2.2.1.size; omega) _) (H1.out.2.2.2.1.1 (by have := HO.out; omega)) (by have := HN.out; show leftN p.ins.length ((i : Int) :: t.seen) < n; omega) H1.out.2.2.2.2).mono ?_
        rintro e w3 ⟨rfl, ⟨lv3, h3⟩, hK3⟩
        dsimp only
        have H3 := Lib.hid (And.intro h3 hK3)
        clear h3 hK3
        go_wp2_with fail
        go_end0
        exact ⟨rfl, ⟨lv3, H3.out.1⟩, (H1.out.2.1.alloc _).trans H3.out.2⟩
      · by_cases hbg : bg = true
        · have o1 : (x.op == 1) = false := by rw [ho]; rfl
          have o2 : (x.op == 2) = false := by rw [ho]; rfl
          have o3 : (x.op == 3) = false := by rw [ho]; rfl
          have o4 : (x.op == 4) = false := by rw [ho]; rfl
          have o5 : (x.op == 5) = true := by rw [ho]; rfl
          rw [if_neg (by omega), if_neg (by omega), if_neg (by omega), if_pos (.inr ⟨ho, .inl hbg⟩)] at hcm2
          rw [hcm2]
          have HO := Lib.hid ho
          clear ho hcm2
          subst hbg
          go_enter Tryd.func61, Tryd.ntmps61
          go_wp2_with fail
          refine (HI.out x.out ⟨(i : Int) :: t.seen, t.l, t.mt, t.tw⟩ lv _ (H1.out.1.below (below_al (Below.refl _ _) _)) (H1.out.2.2.1.alloc (by have := H1.out.2.2.1.size; omega) _) (H1.out.2.2.2.1.1 (by have := HO.out; omega)) (by have := HN.out; show leftN p.ins.length ((i : Int) :: t.seen) < n; omega) H1.out.2.2.2.2).mono ?_
          rintro e w3 ⟨rfl, ⟨lv3, h3⟩, hK3⟩
          dsimp only
          have H3 := Lib.hid (And.intro h3 hK3)
          clear h3 hK3
          go_wp2_with fail
          go_end0
          exact ⟨rfl, ⟨lv3, H3.out.1⟩, (H1.out.2.1.alloc _).trans H3.out.2⟩
        · have hbg : bg = false := by simpa using hbg
          by_cases ha : x.at_ = 1
          · have o1 : (x.op == 1) = false := by rw [ho]; rfl
            have o2 : (x.op == 2) = false := by rw [ho]; rfl
            have o3 : (x.op == 3) = false := by rw [ho]; rfl
            have o4 : (x.op == 4) = false := by rw [ho]; rfl
            have o5 : (x.op == 5) = true := by rw [ho]; rfl
            rw [if_neg (by omega), if_neg (by omega), if_neg (by omega), if_neg (fun h => h.elim (fun h => by omega) (fun h => h.2.elim (fun h => by rw [hbg] at h; cases h) (fun h => h ha)))] at hcm2
            have o6 : (x.at_ == 1) = true := by simpa using ha
            have o7 : (x.at_ != 1) = false := by simpa using ha
            rw [hcm2]
            have HO := Lib.hid ho
            clear ho hcm2 ha
            subst hbg
            go_enter Tryd.func61, Tryd.ntmps61
            go_wp2_with fail
            go_end0
            exact ⟨rfl, ⟨lv, H1.out.1.below (below_al (Below.refl _ _) _)⟩, H1.out.2.1.alloc _⟩
          · have o1 : (x.op == 1) = false := by rw [ho]; rfl
            have o2 : (x.op == 2) = false := by rw [ho]; rfl
            have o3 : (x.op == 3) = false := by rw [ho]; rfl
            have o4 : (x.op == 4) = false := by rw [ho]; rfl
            have o5 : (x.op == 5) = true := by rw [ho]; rfl
            rw [if_neg (by omega), if_neg (by omega), if_neg (by omega), if_pos (.inr ⟨ho, .inr ha⟩)] at hcm2
            have o6 : (x.at_ == 1) = false := by simpa using ha
            have o7 : (x.at_ != 1) = true := by simpa using ha
            rw [hcm2]
            have HO := Lib.hid ho
            clear ho hcm2 ha
            subst hbg
            go_enter Tryd.func61, Tryd.ntmps61
            go_wp2_with fail
            refine (HI.out x.out ⟨(i : Int) :: t.seen, t.l, t.mt, t.tw⟩ lv _ (H1.out.1.below (below_al (Below.refl _ _) _)) (H1.out.2.2.1.alloc (by have := H1.out.2.2.1.size; omega) _) (H1.out.2.2.2.1.1 (by have := HO.out; omega)) (by have := HN.out; show leftN p.ins.length ((i : Int) :: t.seen) < n; omega) H1.out.2.2.2.2).mono ?_
            rintro e w3 ⟨rfl, ⟨lv3, h3⟩, hK3⟩
            dsimp only
            have H3 := Lib.hid (And.intro h3 hK3)
            clear h3 hK3
            go_wp2_with fail
            go_end0
            exact ⟨rfl, ⟨lv3, H3.out.1⟩, (H1.out.2.1.alloc _).trans H3.out.2⟩
      · have o1 : (x.op == 1) = false := by simp; omega
        have o2 : (x.op == 2) = false := by simp; omega
        have o3 : (x.op == 3) = false := by simp; omega
        have o4 : (x.op == 4) = false := by simp; omega
        have o5 : (x.op == 5) = false := by simp; omega
        rw [if_neg (by omega), if_neg (by omega), if_neg (by omega), if_neg (by omega)] at hcm2
        rw [hcm2]
        have HO := Lib.hid ho
        clear ho hcm2
        go_enter Tryd.func61, Tryd.ntmps61
        go_wp2_with fail
        go_end0
        exact ⟨rfl, ⟨lv, H1.out.1.below (below_al (Below.refl _ _) _)⟩, H1.out.2.1.alloc _⟩
end Go.Proofs.YthclpabmbhpohaaDoor
