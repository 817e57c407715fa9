/-
  sets.edges: where the ranges of lists begin and end, in order. No condition but a bound on the lists.
  Words of this seat's own for ranges over functions. No condition.
  The stretches between edges, in plain words; the order among edges at one place does not matter. No condition. sets.spans: what is handed on. No condition.
  A region without a deferral, inside a round of a range over a function: it may be walked as outside. No condition.
  sets.those: the set of the stretches whose number is right. No condition.
  sets.Union with nil, sets.Norm, slices.Equal over ranges, sets.Right. No condition but a bound on the list.
  A list of ranges is the union of itself just where its ranges are runes', rise and do not touch. Plain; no condition.
  What a right program is good for; lists of instructions that are come to are short. No condition.
  sets.Has: is a rune in a list? No condition.
  The walk of a program that needs no choice, in plain words. No condition.
  The walk of a program over a text as a graph: an instruction, a place. No condition.
  The machine with bits in plain words: a try from a place, tries one behind the other, what is found; its laws. No program here, no condition.
-/
import Derived.Test.YthclpabmbhpohaaDoorBOneG2
import Derived.WalkKit
import Derived.Deep.LoopGhost
import Derived.Deep.QuietTactic
import Derived.BigQuiet
import Derived.Test.YthclpabmbhpohaaDoorProg
import Derived.RangeFuncNested
import Derived.RangeFuncBound
import Derived.RangeFuncCalls
import Derived.RangeFuncLeaves
import Derived.Shelf.Abstract
import Derived.Shelf.RegionOpen
import Derived.OwnWalkIn
import Derived.TacticsInMore
import Derived.LoopNIn
import Derived.LoopIn
import Derived.RangeFuncBox
import Derived.OrdersIn
import Derived.Sort.QuietIn
import Derived.StillTail
import Derived.StillTactics
import Derived.Deep.RegionHeld3
import Derived.Lib.OwnKind
import Derived.Lib.SmallJoins
import Derived.Laws.StructEq
set_option linter.unusedVariables false
set_option linter.unusedSimpArgs false
namespace Go.Proofs.YthclpabmbhpohaaDoor
open Go.RowKit Go.Shelf Go.Lib Go.Sort
set_option linter.unusedVariables false
def edge1 (r : Rg) : List (Int × Int) := if max r.lo 0 ≤ min r.hi 1114111 then [(max r.lo 0, 1), (min r.hi 1114111 + 1, -1)] else []
def edgesOf (ls : List (List Rg)) : List (Int × Int) := ls.flatMap fun l => l.flatMap edge1
/-- A list of ranges, as one value. -/
def RgsC (ok : Nat → Prop) (w : World) (l : List Rg) (cs : List Value) : Prop := ∃ B d, cs = [.slice B l.length d] ∧ Arr ok w 2 RgC B l
theorem infoEdge : (Tryd.prog.info? 151).map (fun i => (i.zero, i.size, i.bytes)) = some (some (.agg #[.int .i32 0, .int .i64 0]), 2, 16) := by kernel_rfl
def EdgesPost (ls : List (List Rg)) (w : World) (e : Ending) (w' : World) : Prop :=
  ∃ v es, e = .returned v ∧ es.Perm (edgesOf ls) ∧ es.Pairwise (fun x y => x.1 ≤ y.1) ∧ OwnE w' w.heap.size v es ∧ Below w.heap.size w w'
theorem edge1_len (r : Rg) : (edge1 r).length ≤ 2 := by unfold edge1; split <;> simp
theorem flat_len (l : List Rg) : (l.flatMap edge1).length ≤ 2 * l.length := by
  induction l with
  | nil => simp
  | cons x l ih => rw [List.flatMap_cons, List.length_append, List.length_cons]; have := edge1_len x; omega
theorem flat_size {sz : Nat} : ∀ {l : List (List Value)}, (∀ c ∈ l, c.length = sz) → l.flatten.length = l.length * sz
  | [], _ => by simp
  | x :: l, h => by rw [List.flatten_cons, List.length_append, flat_size (fun c hc => h c (by simp [hc])), h x (by simp), List.length_cons, Nat.add_mul]; omega
/-- An append of a block of elements. -/
theorem wpList_appM {P : Program} {ops : Array Oper} {rest : List Oper} {o : Oper} {a : Act} {Q : Exit → Act → World → Prop} {w : World} (hgd : o.guard = none) (s x : Operand) (t : TypeId)
    (ho : o.op = .call { callee := .builtin .append, args := #[s, x], argTypes := #[t, t] }) (base : Nat) (e : TypeId) (i : TypeInfo) (z : Value) (sz bytes : Nat) (ht : P.underlying t = some (.slice e)) (hi : P.info? e = some i) (hz : i.zero = some z)
    (hsize : i.size = sz) (hby : i.bytes = bytes) (hzs : z.cells.size = sz) (hsz : 0 < sz) (v : Value) (css : List (List Value)) (hs : a.eval s = v) (hown : Owns w base e sz v css)
    (g : Nat) (cs2 : List (List Value)) (m : Nat) (arr : Array Value) (hx : a.eval x = .slice (some ⟨g, 0, none⟩) m m) (hm : cs2.length = m) (hc : ∀ c ∈ cs2, c.length = sz) (hg : w.heap[g]? = some (.cells arr e (0, 0))) (harr : arr = cs2.flatten.toArray) (h1 : ∀ c ∈ cs2, ∀ u ∈ c, u.oneCell' = true)
    (hmax : css.length + m ≤ maxLen) (hbytes : (css.length + m) * bytes ≤ 140737488355328) (hbase : base ≤ w.heap.size)
    (h : ∀ v' w', Owns w' base e sz v' (css ++ cs2) → w.grownBy w' v.ownBlock → wpList P ops Q rest (a.put o.dst v') w') : wpList P ops Q (o :: rest) a w :=
  wpList_append_own w hgd s x t ho base e i z sz bytes ht hi hz hsize hby hzs hsz v css.length css.flatten hs hown.1 ⟨g, 0, none⟩ m m cs2.flatten hx (by rw [flat_size hc, hm])
    (fun j u hj => by
      have : (⟨g, 0, none⟩ : Addr).add j = ⟨g, j, none⟩ := by unfold Addr.add; split <;> simp_all
      rw [this, cell_of_blk hg, harr]; simpa using hj) (fun u hu => by obtain ⟨c, hc', hu'⟩ := List.mem_flatten.1 hu; exact h1 c hc' u hu') hmax hbytes hbase
    (fun v' w' h2 h3 _ => h v' w' ⟨by rw [List.length_append, List.flatten_append, hm]; exact h2, fun c' hc' => (List.mem_append.1 hc').elim (hown.2 c') (hc c')⟩ h3)
theorem take_next {l : List Rg} {j : Nat} (h : j < l.length) : (l.take (j + 1)).flatMap edge1 = (l.take j).flatMap edge1 ++ edge1 l[j] := by
  rw [List.take_succ_eq_append_getElem h, List.flatMap_append]; simp
theorem heap_newE {W : World} {o : Obj} {n : Nat} (h : n = W.heap.size) : (W.alloc o).heap[n]? = some o := by subst h; exact World.alloc_heap_new _ _
theorem rg_at {ok : Nat → Prop} {w wr : World} {B : Option Addr} {l : List Rg} (h : Arr ok w 2 RgC B l) (hb : RowKit.Below w.heap.size w wr) (j : Nat) (hj : j < l.length) :
    ∃ ad, B = some ad ∧ wr.cell? (ad.add (j * 2)) = some (.int .i32 l[j].lo) ∧ wr.cell? ⟨(ad.add (j * 2)).block, (ad.add (j * 2)).off + 1, none⟩ = some (.int .i32 l[j].hi) := by
  obtain ⟨ad, cs, rfl, _, hr, _, hc⟩ := h j _ (List.getElem?_eq_getElem hj)
  rw [hr] at hc
  have h0 := hc 0 _ rfl
  have h1 := hc 1 _ rfl
  rw [add_field _ _ _ (by omega)] at h1
  exact ⟨ad, rfl, (hb.cell (World.block_lt_of_cell? w _ h0)).trans h0, (hb.cell (World.block_lt_of_cell? w _ h1)).trans h1⟩
set_option maxRecDepth 100000 in
set_option maxHeartbeats 4000000 in
theorem edges_any (ok : Nat → Prop) (w : World) (A : Addr) (c : Nat) (ls : List (List Rg)) (h : Arr ok w 1 (RgsC ok w) (some A) ls) (hn : ls.length ≤ 2) (hN : ∀ l ∈ ls, l.length ≤ 1000000000) :
    Calls Tryd.prog 76 #[.slice (some A) ls.length c] w (EdgesPost ls w) := by
  obtain ⟨i0, hi, hx⟩ := Option.map_eq_some_iff.1 infoEdge
  simp only [Prod.mk.injEq] at hx
  obtain ⟨hz0, hz1, hz2⟩ := hx
  have HA := Lib.hid h
  clear h
  go_enter Tryd.func76, Tryd.ntmps76
  go_wp2_with fail
  go_loopg [3, 12] ls.length (fun g v i wr => ∃ k : Nat, k + g = ls.length ∧ i = .int .i64 k ∧ OwnE wr w.heap.size v (edgesOf (ls.take k)) ∧ Below w.heap.size w wr ∧ (edgesOf (ls.take k)).length ≤ 2000000000 * k)
  case atStart => exact ⟨0, by omega, rfl, Owns.nil _ _ _ _, Below.refl _ _, by simp [edgesOf]⟩
  case round =>
    obtain ⟨k, hk, rfl, hown, hBr, hel⟩ := hrel
    obtain ⟨G, hG⟩ : ∃ G, G = gk := ⟨_, rfl⟩
    by_cases hlt : k < ls.length
    · obtain ⟨ad, cs, hA', _, ⟨B, d, rfl, harr⟩, _, hc⟩ := HA.out k _ (List.getElem?_eq_getElem hlt)
      injection hA' with hA'
      subst hA'
      have hcw := hc 0 _ rfl
      rw [Nat.mul_one, Nat.add_zero] at hcw
      have hcr : wr.cell? (A.add k) = some (.slice B ls[k].length d) := (hBr.cell (World.block_lt_of_cell? w _ hcw)).trans hcw
      have HR := Lib.hid harr
      have HO := Lib.hid (And.intro hown hBr)
      clear hc hcw harr hown hBr
      have hll := hN _ (List.getElem_mem hlt)
      obtain ⟨l, hl⟩ : ∃ l, l = ls[k] := ⟨_, rfl⟩
      obtain ⟨E0, hE0⟩ : ∃ E0, E0 = edgesOf (ls.take k) := ⟨_, rfl⟩
      rw [← hl] at hcr HR hll
      rw [← hE0] at HO hel
      have HL := Lib.hid (And.intro hl hE0)
      clear hl hE0
      go_wp2_with fail
      go_loopg [3, 18] l.length (fun g2 v i wy => ∃ j : Nat, j + g2 = l.length ∧ i = .int .i64 j ∧ OwnE wy w.heap.size v (E0 ++ (l.take j).flatMap edge1) ∧ RowKit.Below w.heap.size w wy)
      case atStart => exact ⟨0, by omega, rfl, by simpa using HO.out.1, HO.out.2⟩
      case round =>
        obtain ⟨j, hj, rfl, hown, hBy⟩ := hrel
        by_cases hjl : j < l.length
        · obtain ⟨bd, rfl, hlo, hhi⟩ := rg_at HR.out hBy j hjl
          obtain ⟨lo, hlo'⟩ : ∃ z, z = l[j].lo := ⟨_, rfl⟩
          obtain ⟨hi', hhi'⟩ : ∃ z, z = l[j].hi := ⟨_, rfl⟩
          rw [← hlo'] at hlo
          rw [← hhi'] at hhi
          have HX := Lib.hid (And.intro hlo' hhi')
          have HO2 := Lib.hid (And.intro hown hBy)
          clear hlo' hhi' hown hBy
          by_cases hle : max lo 0 ≤ min hi' 1114111
          · have he : edge1 l[j] = [(max lo 0, 1), (min hi' 1114111 + 1, -1)] := by unfold edge1; rw [← HX.out.1, ← HX.out.2, if_pos hle]
            have HE := Lib.hid he
            clear he
            go_wp2_with fail
            go_quiet (fail)
            generalize hmx : max lo 0 = mx at *
            generalize hmn : min hi' 1114111 = mm at *
            have hmm : mm ≤ 1114111 := by omega
            have hm0 : 0 ≤ mx := by omega
            clear hmx hmn
            have hlen : ((E0 ++ (l.take j).flatMap edge1).map edgeC).length ≤ 6000000000 := by
              rw [List.length_map, List.length_append]
              have h5 := flat_len (l.take j)
              rw [List.length_take] at h5
              have h6 : 2000000000 * k ≤ 4000000000 := by omega
              omega
            go_wp2_with (at_builtin; refine wpList_appM rfl _ _ 131 rfl w.heap.size 151 i0 _ 2 16 Tryd.underlying131 hi hz0 hz1 hz2 rfl (by decide) _ _ rfl (Owns.alloc (show Owns ((wr.alloc _).drewN _) _ _ _ _ _ from HO2.out.1.alloc _) _) _ [edgeC (mx, 1), edgeC (mm + 1, -1)] 2 _ rfl rfl ?c1 (heap_newE (by simp)) rfl ?c2 ?c3 ?c4 ?c5 ?_)
            case c1 => intro cc hcc; simp at hcc; rcases hcc with rfl | rfl <;> rfl
            case c2 => intro cc hcc u hu; simp [edgeC] at hcc; rcases hcc with rfl | rfl <;> simp at hu <;> rcases hu with rfl | rfl <;> rfl
            case c3 => unfold maxLen; omega
            case c4 => omega
            case c5 => have := HO2.out.2.size; simp; omega
            intro v' w2 hown' hgrow
            have hb2 := below_app (below_al (below_drewN (below_al HO2.out.2 _) _) _) (by have := HO2.out.2.size; simp; omega) (Owns.alloc (show Owns ((wr.alloc (.cells #[.int .i32 lo, .int .i32 hi'] 66)).drewN nq) _ _ _ _ _ from HO2.out.1.alloc _) _) hgrow
            have H2 := Lib.hid (And.intro hown' hb2)
            clear hown' hgrow hb2 hlen
            go_wp2_with fail
            go_roundg (gk - 1)
            case measure => omega
            case rel =>
              refine ⟨j + 1, by omega, by go_num, ?_, H2.out.2⟩
              rw [take_next hjl, HE.out]
              have h5 := H2.out.1
              unfold OwnE
              rw [List.map_append, List.map_append]
              exact h5
          · have he : edge1 l[j] = [] := by unfold edge1; rw [← HX.out.1, ← HX.out.2, if_neg hle]
            have HE := Lib.hid he
            clear he
            go_wp2_with fail
            go_quiet (fail)
            go_wp2_with fail
            go_roundg (gk - 1)
            case measure => omega
            case rel =>
              refine ⟨j + 1, by omega, by go_num, ?_, below_drewN (below_al HO2.out.2 _) _⟩
              rw [take_next hjl, HE.out, List.append_nil]
              exact HO2.out.1.alloc _
        · obtain rfl : j = l.length := by omega
          rw [List.take_length] at hown
          have HO3 := Lib.hid (And.intro hown hBy)
          clear hown hBy
          go_wp2_with fail
          go_roundg (G - 1)
          case measure => omega
          case rel =>
            have h5 : edgesOf (ls.take (k + 1)) = E0 ++ l.flatMap edge1 := by
              unfold edgesOf
              rw [List.take_succ_eq_append_getElem hlt, List.flatMap_append, HL.out.2, HL.out.1]
              simp [edgesOf]
            refine ⟨k + 1, by omega, by go_num, by rw [h5]; exact HO3.out.1, HO3.out.2, ?_⟩
            rw [h5, List.length_append]
            have := flat_len l
            omega
    · obtain rfl : k = ls.length := by omega
      rw [List.take_length] at hown hel
      have hso := sort_own wr w.heap.size _ _ hown (by omega)
      have HO3 := Lib.hid hBr
      clear hown hBr
      go_wp2_with (go_at_call 89; refine hso.mono ?_; rintro e w2 ⟨rfl, es', hp, hpw, ho2, hb2⟩)
      go_ret
      exact ⟨_, es', rfl, hp, hpw, ho2, HO3.out.trans hb2⟩
end Go.Proofs.YthclpabmbhpohaaDoor
namespace Go.Proofs.YthclpabmbhpohaaDoor
open Go.RowKit Go.Shelf
set_option linter.unusedVariables false
theorem keepsFrom_below {B : Nat} {W W' : World} (h : Below W.heap.size W W') : KeepsFrom B W W' := ⟨h.size, fun k o _ hk _ => (h.block k (heap_lt hk)).trans hk⟩
theorem blk_own {β : Type} (b : Nat) (cs : Array Value) (ty : TypeId) : Own (fun (_ : β) W => W.heap[b]? = some (Obj.cells cs ty (0, 0))) := by
  intro s W W' row h hg hr
  refine (hg.block b (heap_lt h) (fun e => ?_)).trans h
  obtain ⟨o, ho, hc⟩ := hr b e.symm
  rw [h] at ho; cases ho; simp [Obj.isCells] at hc
end Go.Proofs.YthclpabmbhpohaaDoor
namespace Go.Proofs.YthclpabmbhpohaaDoor
set_option linter.unusedVariables false
/-- The stretches between edges, each with how many ranges are there. -/
def spansOf : Int → Int → List (Int × Int) → List (Rg × Int)
  | f, n, [] => if f ≤ 1114111 then [(⟨f, 1114111⟩, n)] else []
  | f, n, x :: es => if f < x.1 then (⟨f, x.1 - 1⟩, n) :: spansOf x.1 (n + x.2) es else spansOf f (n + x.2) es
theorem spans_move (x : Int × Int) (v : List (Int × Int)) : ∀ (u : List (Int × Int)) (f n : Int), (∀ y ∈ u, y.1 = x.1) → spansOf f n (u ++ x :: v) = spansOf f n (x :: (u ++ v))
  | [], f, n, _ => rfl
  | y :: u, f, n, h => by
    have hy := h y (by simp)
    have ih := fun f n => spans_move x v u f n (fun z hz => h z (by simp [hz]))
    rw [List.cons_append, spansOf]
    by_cases h1 : f < y.1
    · rw [if_pos h1, ih, spansOf, if_neg (by omega), spansOf, if_pos (by omega), List.cons_append, spansOf, if_neg (by omega), hy, Int.add_right_comm]
    · rw [if_neg h1, ih, spansOf, spansOf]
      rw [if_neg (by omega), if_neg (by omega), List.cons_append, spansOf, if_neg (by omega), Int.add_right_comm]
theorem spans_perm : ∀ (es es' : List (Int × Int)) (f n : Int), es.Perm es' → es.Pairwise (fun x y => x.1 ≤ y.1) → es'.Pairwise (fun x y => x.1 ≤ y.1) → spansOf f n es = spansOf f n es'
  | [], es', f, n, hp, _, _ => by rw [List.nil_perm.1 hp]
  | x :: es, es', f, n, hp, h1, h2 => by
    obtain ⟨u, v, rfl⟩ := List.append_of_mem (hp.subset (by simp : x ∈ x :: es))
    have hu : ∀ y ∈ u, y.1 = x.1 := fun y hy => by
      have h3 := (List.pairwise_append.1 h2).2.2 y hy x (by simp)
      have h4 : y ∈ x :: es := hp.symm.subset (by simp [hy])
      rcases List.mem_cons.1 h4 with rfl | h4
      · rfl
      · have := (List.pairwise_cons.1 h1).1 y h4
        omega
    rw [spans_move x v u f n hu]
    have hp2 : es.Perm (u ++ v) := (List.perm_cons x).1 (hp.trans List.perm_middle)
    have h5 : (u ++ v).Pairwise (fun x y => x.1 ≤ y.1) := h2.sublist (List.Sublist.append (List.Sublist.refl u) (List.sublist_cons_self x v))
    have ih := fun f n => spans_perm es (u ++ v) f n hp2 (List.pairwise_cons.1 h1).2 h5
    rw [spansOf, spansOf]
    split <;> rw [ih]
/-- A stretch is put behind those that are there already. -/
def putSpan (out : List Rg) (x : Rg) : List Rg :=
  match out.getLast? with
  | some y => if y.hi + 1 = x.lo then out.dropLast ++ [⟨y.lo, x.hi⟩] else out ++ [x]
  | none => [x]
/-- The set of the stretches whose number is right. -/
def thoseOf (is : Int → Bool) (ss : List (Rg × Int)) : List Rg := ss.foldl (fun out s => if is s.2 then putSpan out s.1 else out) []
/-- The union of lists. -/
def normOf (ls : List (List Rg)) : List Rg := thoseOf (fun n => decide (0 < n)) (spansOf 0 0 ((edgesOf ls).mergeSort fun x y => decide (x.1 ≤ y.1)))
theorem norm_any (ls : List (List Rg)) (es : List (Int × Int)) (hp : es.Perm (edgesOf ls)) (hs : es.Pairwise (fun x y => x.1 ≤ y.1)) : thoseOf (fun n => decide (0 < n)) (spansOf 0 0 es) = normOf ls := by
  unfold normOf
  rw [spans_perm es _ 0 0 (hp.trans (List.mergeSort_perm _ _).symm) hs]
  have h := List.pairwise_mergeSort (le := fun x y : Int × Int => decide (x.1 ≤ y.1)) (fun a b c h1 h2 => by simp at *; omega) (fun a b => by simp; omega) (edgesOf ls)
  exact h.imp (fun h => by simpa using h)
end Go.Proofs.YthclpabmbhpohaaDoor
namespace Go.Proofs.YthclpabmbhpohaaDoor
open Go.RowKit Go.Shelf
set_option linter.unusedVariables false
attribute [local go_sem] Oper.semAt_some
/-- What a round of the ranging code keeps: what lay there ahead of the call; each edge. -/
def KeepsE (B0 : Nat) (W W' : World) : Prop := Below B0 W W' ∧ ∀ (b : Nat) (cs : Array Value) (fr : Nat × Nat), W.heap[b]? = some (.cells cs 151 fr) → W'.heap[b]? = some (.cells cs 151 fr)
theorem KeepsE.trans {B0 : Nat} {A B C : World} (h : KeepsE B0 A B) (k : KeepsE B0 B C) : KeepsE B0 A C := ⟨h.1.trans k.1, fun b cs fr hb => k.2 b cs fr (h.2 b cs fr hb)⟩
theorem KeepsE.of_below {B0 : Nat} {A B : World} (h : Below A.heap.size A B) (hB : B0 ≤ A.heap.size) : KeepsE B0 A B := ⟨h.mono hB, fun b cs fr hb => (h.block b (heap_lt hb)).trans hb⟩
def spanA (s : Rg × Int) : Array Value := #[.agg #[.int .i32 s.1.lo, .int .i32 s.1.hi], .int .i64 s.2]
theorem spans_len : ∀ (es : List (Int × Int)) (f n : Int), (spansOf f n es).length ≤ es.length + 1
  | [], f, n => by rw [spansOf]; split <;> simp
  | x :: es, f, n => by
    have ih := fun f n => spans_len es f n
    rw [spansOf]
    split
    · have := ih x.1 (n + x.2); simp; omega
    · have := ih f (n + x.2); simp; omega
theorem edge_at {ok : Nat → Prop} {w wr : World} {B : Option Addr} {l : List (Int × Int)} (h : Arr ok w 2 (fun x cs => cs = edgeC x) B l) (hb : ∀ b, ok b → wr.heap[b]? = w.heap[b]?) (j : Nat) (hj : j < l.length) :
    ∃ ad, B = some ad ∧ wr.cell? (ad.add (j * 2)) = some (.int .i32 l[j].1) ∧ wr.cell? ⟨(ad.add (j * 2)).block, (ad.add (j * 2)).off + 1, none⟩ = some (.int .i64 l[j].2) := by
  obtain ⟨ad, cs, rfl, hok, hr, _, hc⟩ := h j _ (List.getElem?_eq_getElem hj)
  rw [hr] at hc
  have h0 := hc 0 _ rfl
  have h1 := hc 1 _ rfl
  rw [add_field _ _ _ (by omega)] at h1
  refine ⟨ad, rfl, ?_, ?_⟩
  · rw [← h0]; exact World.cell?_of_block (by rw [add_block]; exact hb _ hok)
  · rw [← h1]; exact World.cell?_of_block (by show wr.heap[(ad.add (j * 2)).block]? = _; rw [add_block]; exact hb _ hok)
set_option maxRecDepth 100000 in
set_option maxHeartbeats 4000000 in
theorem spans_stops (n B0 Bt : Nat) (w : World) (A : Option Addr) (cap : Nat) (es : List (Int × Int)) (hB0 : B0 ≤ w.heap.size) (hbt : w.heap[Bt]? = some (.cells #[.slice A es.length cap] 131 (0, 0)))
    (hes : Arr (fun b => b < B0) w 2 (fun x cs => cs = edgeC x) A es) (hN : es.length ≤ 1000000000000) (hv : ∀ x ∈ es, (0 ≤ x.1 ∧ x.1 ≤ 1114112) ∧ (-1 ≤ x.2 ∧ x.2 ≤ 1)) :
    SeqStopsK Fence.wide n Tryd.prog 93 #[.pointer (some ⟨Bt, 0, none⟩)] spanA (KeepsE B0) (fun ys => ys = spansOf 0 0 es) (fun pre => pre <+: spansOf 0 0 es) (spansOf 0 0 es).length w := by
  intro l J Jx W hW hJ hJx hY h0
  have hc0 : W.cell? ⟨Bt, 0, none⟩ = some (.slice A es.length cap) := by rw [hW.cell (p := ⟨Bt, 0, none⟩) (heap_lt hbt), cell_of_blk hbt]; rfl
  have hJa : ∀ s W o, J s W → J s (W.alloc o) := fun s W o hs => hJ s W _ none hs (World.grownBy_alloc W o none) (fun r e => by cases e)
  have hdd : ∀ k : Nat, (Fence.wide.depth.isSome = true → 1 ≤ k) := fun k h => by simp [Fence.wide] at h
  have HE := Lib.hid (And.intro hes (And.intro hv (And.intro hW hbt)))
  have HY := Lib.hid hY
  have hsn := spans_len es 0 0
  clear hes hv hbt hY
  refine callsIn_of_wp Tryd.func93 rfl trivial ?_ rfl
  simp only [Tryd.ntmps93, List.size_toArray, List.length_cons, List.length_nil, Nat.reduceAdd, Nat.reduceSub, Array.replicate_succ, Array.replicate_zero, List.push_toArray, List.append_toArray, List.nil_append, List.cons_append]
  gi_wp2_with fail
  gi_loopw [3, 4, 9] (fun s3 s4 s9 wr => ∃ (i : Nat) (f m : Int) (ys : List (Rg × Int)), s9 = .int .i64 i ∧ s3 = .int .i32 f ∧ s4 = .int .i64 m ∧ i ≤ es.length ∧ (0 ≤ f ∧ f ≤ 1114112) ∧ (-(i : Int) ≤ m ∧ m ≤ i) ∧ Hid (ys ++ spansOf f m (es.drop i) = spansOf 0 0 es) ∧ J ys wr ∧ Below B0 W wr) (fun _ _ v _ => es.length - (intOf v).toNat)
  case atStart => exact ⟨0, 0, 0, [], rfl, rfl, rfl, Nat.zero_le _, by omega, by omega, Lib.hid rfl, h0, Below.refl _ _⟩
  case round =>
    obtain ⟨i, f, m, ys, rfl, rfl, rfl, hi, hf, hm, HS, hJi, hBr⟩ := hrel
    by_cases hlt : i < es.length
    · obtain ⟨ad, rfl, hc1, hc2⟩ := edge_at HE.out.1 (fun b hb => (hBr.block b hb).trans (HE.out.2.2.1.block b (by omega))) i hlt
      have hvv := HE.out.2.1 _ (List.getElem_mem hlt)
      obtain ⟨a, ha⟩ : ∃ a, a = es[i].1 := ⟨_, rfl⟩
      obtain ⟨b, hb⟩ : ∃ b, b = es[i].2 := ⟨_, rfl⟩
      rw [← ha] at hc1 hvv
      rw [← hb] at hc2 hvv
      have hdrop : es.drop i = (a, b) :: es.drop (i + 1) := by
        rw [List.drop_eq_getElem_cons hlt, ha, hb]
      have HD := Lib.hid (And.intro hdrop hBr)
      clear ha hb hdrop
      have hJ1 := hJa _ _ (.cells #[.int .i32 a, .int .i64 b] 151) hJi
      by_cases hfa : f < a
      · have hS2 : (ys ++ [((⟨f, a - 1⟩ : Rg), m)]) ++ spansOf a (m + b) (es.drop (i + 1)) = spansOf 0 0 es := by
          rw [← HS.out, HD.out.1, spansOf, if_pos hfa]; simp
        have hpl : ys.length < (spansOf 0 0 es).length := by rw [← hS2]; simp
        obtain ⟨fn, tmps, assign, body, hy1, hR⟩ := HY.out ys (⟨f, a - 1⟩, m) _ hJ1 hpl
        have hR1 := hR.mono (R' := fun e W2 => (e = .returned (.bool true) ∧ J (ys ++ [((⟨f, a - 1⟩ : Rg), m)]) W2 ∧ Below B0 W W2 ∧ W2.cell? ⟨wr.heap.size, 0, none⟩ = some (.int .i32 a) ∧ W2.cell? ⟨wr.heap.size, 1, none⟩ = some (.int .i64 b)) ∨ (e = .returned (.bool false) ∧ Jx (ys ++ [((⟨f, a - 1⟩ : Rg), m)]) W2))
          (fun e W2 h => h.elim (fun ⟨he, hj, hk2⟩ => .inl ⟨he, hj, (hBr.alloc (Nat.le_trans hB0 (Nat.le_trans HE.out.2.2.1.size hBr.size)) _).trans hk2.1, by rw [cell_of_blk (hk2.2 _ _ _ (heap_new1 _ _))]; rfl, by rw [cell_of_blk (hk2.2 _ _ _ (heap_new1 _ _))]; rfl⟩) .inr)
        dsimp only [spanA] at hy1 hR1
        have HS2 := Lib.hid hS2
        have hpre : (ys ++ [((⟨f, a - 1⟩ : Rg), m)]) <+: spansOf 0 0 es := by rw [← hS2]; exact List.prefix_append _ _
        have HP := Lib.hid hpre
        clear hR hS2 hpl hJ1 hJi hBr hpre
        gi_wp2_with ((try refine ⟨hdd _, ?_⟩); refine hR1.mono ?_; clear hR1; rintro e W2 (⟨rfl, hJ2, hk2, q0, q1⟩ | ⟨rfl, hx2⟩))
        · go_roundw
          case rel => exact ⟨i + 1, a, m + b, _, by go_num, rfl, rfl, by omega, by omega, by omega, HS2, hJ2, hk2⟩
          case measure => simp [intOf]; omega
        · refine bodyPost_ret (results_none rfl _ _ _) rfl ?_
          exact ⟨⟨_, rfl⟩, .inr ⟨_, HP.out, hx2⟩⟩
      · have hS2 : ys ++ spansOf f (m + b) (es.drop (i + 1)) = spansOf 0 0 es := by
          rw [← HS.out, HD.out.1, spansOf, if_neg hfa]
        have HS2 := Lib.hid hS2
        have hB2 := hBr.alloc (Nat.le_trans hB0 (Nat.le_trans HE.out.2.2.1.size hBr.size)) (.cells #[.int .i32 a, .int .i64 b] 151)
        have HB2 := Lib.hid (And.intro hJ1 hB2)
        clear hS2 hJ1 hJi hBr hB2
        gi_wp2
        go_roundw
        case rel => exact ⟨i + 1, f, m + b, _, by go_num, rfl, by go_num, by omega, by omega, by omega, HS2, HB2.out.1, HB2.out.2⟩
        case measure => simp [intOf]; omega
    · obtain rfl : i = es.length := by omega
      by_cases hff : f ≤ 1114111
      · have hS2 : ys ++ [((⟨f, 1114111⟩ : Rg), m)] = spansOf 0 0 es := by
          rw [← HS.out, List.drop_length, spansOf, if_pos hff]
        have hpl : ys.length < (spansOf 0 0 es).length := by rw [← hS2]; simp
        obtain ⟨fn, tmps, assign, body, hy1, hR1⟩ := HY.out ys (⟨f, 1114111⟩, m) _ hJi hpl
        dsimp only [spanA] at hy1 hR1
        have HS2 := Lib.hid hS2
        clear hS2 hpl hJi hBr
        gi_wp2_with ((try refine ⟨hdd _, ?_⟩); refine hR1.mono ?_; clear hR1; rintro e W2 (⟨rfl, hJ2, hk2⟩ | ⟨rfl, hx2⟩))
        · go_end0
          exact ⟨⟨_, rfl⟩, .inl ⟨_, HS2.out, hJ2⟩⟩
        · go_end0
          exact ⟨⟨_, rfl⟩, .inr ⟨_, by rw [HS2.out]; exact List.prefix_rfl, hx2⟩⟩
      · have hS2 : ys = spansOf 0 0 es := by
          have := HS.out
          rw [List.drop_length, spansOf, if_neg hff, List.append_nil] at this
          exact this
        have HS2 := Lib.hid hS2
        clear hS2
        gi_wp2
        go_end0
        refine ⟨⟨_, rfl⟩, .inl ?_⟩
        first | exact HS2.out ▸ hJi | exact ⟨ys, HS2.out, hJi⟩
end Go.Proofs.YthclpabmbhpohaaDoor
namespace Go.Proofs.YthclpabmbhpohaaDoor
open Go
set_option linter.unusedVariables false
theorem wpOpIn_round {F : Fence} {n : Nat} {P : Program} {ops : Array Oper} {Q : Exit → Act → World → Prop} (l : Nat) (hnd : ∀ o ∈ ops, ∀ c, o.op ≠ .defer c) {i : Nat} {K : Act → World → Prop} {a : Act} {w : World} (h : wpOpIn F n P ops Q i K a w) : wpOpIn (F.inRound l) n P ops Q i K a w := by
  unfold wpOpIn at *
  split
  · rename_i ho
    simpa [ho] using h
  · rename_i o ho
    simp only [ho] at h
    have hm : o ∈ ops := Array.mem_of_getElem? ho
    split
    · rename_i hw
      simp only [hw, if_true] at h
      unfold Oper.wpIn at *
      rw [Oper.semAt_plain _ _ _ (hnd o hm)] at *
      exact h
    · rename_i hw
      simp only [hw] at h
      exact h
theorem wpAnyIn_round {F : Fence} {n : Nat} {P : Program} {md : Region.Mode} {ops : Array Oper} {Q : Exit → Act → World → Prop} (l : Nat) (hnd : ∀ o ∈ ops, ∀ c, o.op ≠ .defer c) : ∀ (fuel : Nat) (listed : Array Bool) (a : Act) (w : World), wpAnyIn F n P md ops Q fuel listed a w → wpAnyIn (F.inRound l) n P md ops Q fuel listed a w
  | 0, _, _, _, h => h
  | fuel + 1, listed, a, w, h => ⟨h.1, fun i hi => wpOpIn_mono (fun a w hh => wpAnyIn_round l hnd fuel _ a w hh) (wpOpIn_round l hnd (h.2 i hi))⟩
theorem region_quiet_round {n : Nat} {P : Program} {ops : Array Oper} {id : Nat} {Q : Exit → Act → World → Prop} {a : Act} {w : World} {C : World → Prop} (l : Nat) (hnd : ∀ o ∈ ops, ∀ c, o.op ≠ .defer c) (hm : P.follows .mixedOrders = true) (hB : Region.lexB .any ops = true) (hC : C { w with drawn := w.drawn + 1 })
    (h : wpQuietIn Fence.wide n P ops C (fun a' => ∀ w', C w' → Q .normal a' w') ops.toList a) : (Code.region id ops true).wpIn (Fence.wide.inRound l) n P Q a w := by
  simp only [Region.lexB, Bool.and_eq_true] at hB
  refine wpIn_region_any hm (wpAnyIn_round l hnd _ _ _ _ (wpAnyIn_of_quiet (Q := fun a' => ∀ w', C w' → Q .normal a' w') rfl (fun _ w' hw' h => h w' hw') _ _ _ _ hC ?_))
  have := wpAnyQIn_lex (F := Fence.wide) (n := n) (C := C) (md := .any) hB.1 ops.toList 0 (Array.replicate ops.size false) a (by simp) (by simpa using hB.2) h
  simpa using this
/-- The same for a region whose operations are written out. -/
theorem region_quiet_lit_round {n : Nat} {P : Program} {id : Nat} {Q : Exit → Act → World → Prop} {a : Act} {w : World} {os : List Oper} {l : Nat} (hnd : os.all (fun o => match o.op with | .defer _ => false | _ => true) = true) (hm : P.follows .mixedOrders = true) (hB : Region.lexB .any os.toArray = true)
    (h : wpQuietIn Fence.wide n P os.toArray (fun w' => ∃ n, w' = w.drewN n) (fun a' => ∀ w', (∃ n, w' = w.drewN n) → Q .normal a' w') os a) : (Code.region id os.toArray true).wpIn (Fence.wide.inRound l) n P Q a w :=
  region_quiet_round (C := fun w' => ∃ n, w' = w.drewN n) l (fun o ho c hc => by have := List.all_eq_true.1 hnd o (by simpa using ho); rw [hc] at this; cases this) hm hB ⟨1, rfl⟩ (by simpa using h)
end Go.Proofs.YthclpabmbhpohaaDoor
namespace Go.Proofs.YthclpabmbhpohaaDoor
open Go.RowKit Go.Shelf
set_option linter.unusedVariables false
attribute [local go_sem] Oper.semAt_some
def rgC (r : Rg) : List Value := [.int .i32 r.lo, .int .i32 r.hi]
/-- A list of ranges of one's own. -/
def OwnR (w : World) (base : Nat) (v : Value) (l : List Rg) : Prop := Owns w base 66 2 v (l.map rgC)
def SpansPost (v : Value) (w : World) (e : Ending) (w' : World) : Prop := e = .returned (.func (.func 93) #[] #[.pointer (some ⟨w.heap.size, 0, none⟩)]) ∧ w.alloc (.cells #[v] 131) = w'
set_option maxHeartbeats 400000 in
theorem spans_any (w : World) (A : Option Addr) (n c : Nat) : Calls Tryd.prog 88 #[.slice A n c] w (SpansPost (.slice A n c) w) := by
  go_enter Tryd.func88, Tryd.ntmps88
  go_wp2
  go_ret
  exact ⟨rfl, rfl⟩
theorem isSome_any (w : World) (n : Int) : Calls Tryd.prog 79 #[.int .i64 n] w fun e w' => e = .returned (.bool (decide (0 < n))) ∧ w = w' := by
  go_enter Tryd.func79, Tryd.ntmps79
  go_wp2
  go_ret
  exact ⟨rfl, rfl⟩
theorem infoRg : (Tryd.prog.info? 66).map (fun i => (i.zero, i.size, i.bytes)) = some (some (.agg #[.int .i32 0, .int .i32 0]), 2, 8) := by kernel_rfl
theorem wpListIn_app1 {F : Fence} {n : Nat} {P : Program} {ops : Array Oper} {rest : List Oper} {o : Oper} {a : Act} {Q : Exit → Act → World → Prop} {w : World} (hgd : o.guard = none) (s x : Operand) (t : TypeId)
    (ho : o.op = .call { callee := .builtin .append, args := #[s, x], argTypes := #[t, t] }) (base : Nat) (e : TypeId) (i : TypeInfo) (z : Value) (sz bytes : Nat) (ht : P.underlying t = some (.slice e)) (hi : P.info? e = some i) (hz : i.zero = some z)
    (hsize : i.size = sz) (hby : i.bytes = bytes) (hzs : z.cells.size = sz) (hsz : 0 < sz) (v : Value) (css : List (List Value)) (hs : a.eval s = v) (hown : Owns w base e sz v css)
    (g : Nat) (c : List Value) (hx : a.eval x = .slice (some ⟨g, 0, none⟩) 1 1) (hc : c.length = sz) (hg : w.heap[g]? = some (.cells c.toArray e (0, 0))) (h1 : ∀ u ∈ c, u.oneCell' = true)
    (hmax : css.length + 1 ≤ maxLen) (hbytes : (css.length + 1) * bytes ≤ 140737488355328) (hbase : base ≤ w.heap.size)
    (h : ∀ v' w', Owns w' base e sz v' (css ++ [c]) → w.grownBy w' v.ownBlock → wpListIn F n P ops Q rest (a.put o.dst v') w') : wpListIn F n P ops Q (o :: rest) a w :=
  wpListIn_append_own w hgd s x t ho base e i z sz bytes ht hi hz hsize hby hzs hsz v css.length css.flatten hs hown.1 ⟨g, 0, none⟩ 1 1 c hx (by rw [hc, Nat.one_mul])
    (fun j u hj => by
      have : (⟨g, 0, none⟩ : Addr).add j = ⟨g, j, none⟩ := by unfold Addr.add; split <;> simp_all
      rw [this, cell_of_blk hg]; simpa using hj) h1 hmax hbytes hbase
    (fun v' w' h2 h3 _ => h v' w' ⟨by rw [List.length_append, List.flatten_append]; simpa using h2, fun c' hc' => (List.mem_append.1 hc').elim (hown.2 c') (fun e => by rw [List.mem_singleton.1 e]; exact hc)⟩ h3)
theorem owns_other {w : World} {B : Nat} {e : TypeId} {sz : Nat} {v : Value} {css : List (List Value)} (h : Owns w B e sz v css) {b : Nat} {cs : Array Value} {ty : TypeId} {fr : Nat × Nat} (hb : w.heap[b]? = some (.cells cs ty fr)) (hne : ty ≠ e) : v.ownBlock ≠ some b := by
  intro hv
  obtain ⟨c, fz, hc⟩ := Lib.ownsRow_kind h.1 b hv
  rw [hb] at hc
  injection hc with hc
  injection hc with _ h2 _
  exact hne h2
theorem keepsE_grown {B0 B : Nat} {X W2 : World} {v : Value} {css : List (List Value)} (hv : Owns X B 66 2 v css) (hB : B0 ≤ B) (hs : B0 ≤ X.heap.size) (hg : X.grownBy W2 v.ownBlock) : KeepsE B0 X W2 :=
  ⟨(Below.refl _ _).grown hg hs (fun k e => by have := (hv.lt k e).1; omega), fun b cs fr hb => (hg.block b (heap_lt hb) (fun e => owns_other hv hb (by decide) e.symm)).trans hb⟩
theorem others_grown {B : Nat} {X W2 : World} {v : Value} {css : List (List Value)} (hv : Owns X B 66 2 v css) (hg : X.grownBy W2 v.ownBlock) : KeepsOthers X W2 :=
  KeepsOthers.of_grownBy hg (fun j o hj ho => by
    obtain ⟨c, fz, hc⟩ := Lib.ownsRow_kind hv.1 j hj
    rw [hc] at ho; cases ho; rfl)
theorem keepsE_set {B0 : Nat} {W : World} {a : Addr} {cs : Array Value} {ty : TypeId} {fr : Nat × Nat} (hb : W.heap[a.block]? = some (.cells cs ty fr)) (hne : ty ≠ 151) (hB : B0 ≤ a.block) (u : Value) : KeepsE B0 W (W.setCell a u) :=
  ⟨(Below.refl _ _).setCell hB u, fun b cs' fr' hb' => (Below.heap_setCell _ _ _ _ (fun e => by subst e; rw [hb] at hb'; cases hb'; exact hne rfl)).trans hb'⟩
theorem set_here {W : World} {b : Nat} {cs : Array Value} {ty : TypeId} {fr : Nat × Nat} (h : W.heap[b]? = some (.cells cs ty fr)) (j : Nat) (v : Value) : (W.setCell ⟨b, j, none⟩ v).heap[b]? = some (.cells (cs.setIfInBounds j v) ty fr) := by
  obtain ⟨hlt, hk⟩ := Array.getElem?_eq_some_iff.1 h
  show (W.heap.modify b _)[b]? = _
  rw [Array.getElem?_eq_getElem (by rw [Array.size_modify]; exact hlt), Array.getElem_modify_self, hk]
  rfl
/-- A stretch is put behind others, as the machine's numbers have it. -/
def putW (out : List Rg) (x : Rg) : List Rg :=
  match out.getLast? with
  | some y => if IntKind.i32.wrap (y.hi + 1) = x.lo then out.dropLast ++ [⟨y.lo, x.hi⟩] else out ++ [x]
  | none => [x]
def thoseW (is : Int → Bool) (ss : List (Rg × Int)) : List Rg := ss.foldl (fun out s => if is s.2 then putW out s.1 else out) []
theorem thoseW_next (is : Int → Bool) (ss : List (Rg × Int)) (s : Rg × Int) : thoseW is (ss ++ [s]) = if is s.2 then putW (thoseW is ss) s.1 else thoseW is ss := by
  simp [thoseW, List.foldl_append]
theorem putW_snoc (fr : List Rg) (y x : Rg) : putW (fr ++ [y]) x = if IntKind.i32.wrap (y.hi + 1) = x.lo then fr ++ [⟨y.lo, x.hi⟩] else fr ++ [y] ++ [x] := by
  simp [putW]
theorem thoseW_len (is : Int → Bool) (ss : List (Rg × Int)) : ∀ (out : List Rg), (ss.foldl (fun out s => if is s.2 then putW out s.1 else out) out).length ≤ out.length + ss.length := by
  induction ss with
  | nil => intro out; simp
  | cons s ss ih =>
    intro out
    rw [List.foldl_cons, List.length_cons]
    have h1 := ih (if is s.2 = true then putW out s.1 else out)
    have h2 : (if is s.2 = true then putW out s.1 else out).length ≤ out.length + 1 := by
      split
      · unfold putW
        split
        · split
          · simp [List.length_dropLast]
            try omega
          · simp
        · simp
      · omega
    omega
theorem wrap32_in (n : Int) (h0 : -2147483648 ≤ n) (h1 : n ≤ 2147483647) : IntKind.i32.wrap n = n := by
  unfold IntKind.wrap; simp [IntKind.bits, IntKind.signed]; omega
theorem put_same (out : List Rg) (x : Rg) (h : ∀ y ∈ out, 0 ≤ y.hi ∧ y.hi ≤ 1114111) : putW out x = putSpan out x := by
  unfold putW putSpan
  cases hl : out.getLast? with
  | none => rfl
  | some y => 
    have := h y (List.mem_of_getLast? hl)
    simp only [wrap32_in (y.hi + 1) (by omega) (by omega)]
theorem put_his (out : List Rg) (x : Rg) (h : ∀ y ∈ out, 0 ≤ y.hi ∧ y.hi ≤ 1114111) (hx : 0 ≤ x.hi ∧ x.hi ≤ 1114111) : ∀ y ∈ putSpan out x, 0 ≤ y.hi ∧ y.hi ≤ 1114111 := by
  unfold putSpan
  intro y hy
  split at hy
  · split at hy
    · rcases List.mem_append.1 hy with h1 | h1
      · exact h y (List.dropLast_subset _ h1)
      · rw [List.mem_singleton.1 h1]; exact hx
    · rcases List.mem_append.1 hy with h1 | h1
      · exact h y h1
      · rw [List.mem_singleton.1 h1]; exact hx
  · rw [List.mem_singleton.1 hy]; exact hx
theorem those_same (is : Int → Bool) : ∀ (ss : List (Rg × Int)) (out : List Rg), (∀ s ∈ ss, 0 ≤ s.1.hi ∧ s.1.hi ≤ 1114111) → (∀ y ∈ out, 0 ≤ y.hi ∧ y.hi ≤ 1114111) →
    ss.foldl (fun out s => if is s.2 then putW out s.1 else out) out = ss.foldl (fun out s => if is s.2 then putSpan out s.1 else out) out
  | [], _, _, _ => rfl
  | s :: ss, out, h, ho => by
    simp only [List.foldl_cons]
    by_cases hi : is s.2 = true
    · simp only [hi, if_true, put_same out s.1 ho]
      exact those_same is ss _ (fun s' hs => h s' (by simp [hs])) (put_his out s.1 ho (h s (by simp)))
    · simp only [hi]
      exact those_same is ss _ (fun s' hs => h s' (by simp [hs])) ho
theorem spans_his : ∀ (es : List (Int × Int)) (f n : Int), 0 ≤ f → (∀ x ∈ es, 0 ≤ x.1 ∧ x.1 ≤ 1114112) → ∀ s ∈ spansOf f n es, 0 ≤ s.1.hi ∧ s.1.hi ≤ 1114111
  | [], f, n, hf, _, s, hs => by
    rw [spansOf] at hs
    split at hs
    · rw [List.mem_singleton.1 hs]; simp
    · simp at hs
  | x :: es, f, n, hf, h, s, hs => by
    have hx := h x (by simp)
    rw [spansOf] at hs
    split at hs
    · rcases List.mem_cons.1 hs with rfl | hs
      · simp; omega
      · exact spans_his es _ _ (by omega) (fun y hy => h y (by simp [hy])) s hs
    · exact spans_his es _ _ hf (fun y hy => h y (by simp [hy])) s hs
theorem thoseW_eq (is : Int → Bool) (es : List (Int × Int)) (h : ∀ x ∈ es, 0 ≤ x.1 ∧ x.1 ≤ 1114112) : thoseW is (spansOf 0 0 es) = thoseOf is (spansOf 0 0 es) :=
  those_same is _ [] (spans_his es 0 0 (by omega) h) (fun y hy => by simp at hy)
/-- What lies in memory while stretches are gathered. -/
def Gather (w W : World) (v : Value) (out : List Rg) : Prop :=
  W.heap[w.heap.size]? = some (Obj.cells #[.func (.func 79) #[] #[]] 106 (0, 0)) ∧ W.heap[w.heap.size + 1]? = some (Obj.cells #[v] 61 (0, 0)) ∧ OwnR W (w.heap.size + 2) v out ∧ Below w.heap.size w W
/-- Behind an append, and the store of its slice. -/
theorem gather_app {w W w4 : World} {v v' : Value} {out : List Rg} {x : Rg} {q : Nat} (h : Gather w W v out) (hown : Owns w4 (w.heap.size + 2) 66 2 v' (out.map rgC ++ [rgC x])) (hg : ((W.drewN q).alloc (.cells (rgC x).toArray 66)).grownBy w4 v.ownBlock) (B : Nat) :
    w4.heap[w.heap.size + 1]? = some (Obj.cells #[v] 61 (0, 0)) ∧ Gather w (w4.setCell ⟨w.heap.size + 1, 0, none⟩ v') v' (out ++ [x]) ∧ KeepsFrom B W (w4.setCell ⟨w.heap.size + 1, 0, none⟩ v') ∧ KeepsE w.heap.size W (w4.setCell ⟨w.heap.size + 1, 0, none⟩ v') := by
  obtain ⟨h0, h1, h2, hB⟩ := h
  have hX : Owns ((W.drewN q).alloc (.cells (rgC x).toArray 66)) (w.heap.size + 2) 66 2 v (out.map rgC) := Owns.alloc (show Owns (W.drewN q) _ _ _ _ _ from h2) _
  have e0 := (Below.heap_alloc (W.drewN q) (.cells (rgC x).toArray 66) _ (heap_lt h0)).trans h0
  have e1 := (Below.heap_alloc (W.drewN q) (.cells (rgC x).toArray 66) _ (heap_lt h1)).trans h1
  have k0 := (hg.block _ (heap_lt e0) (fun e => owns_other hX e0 (by decide) e.symm)).trans e0
  have k1 := (hg.block _ (heap_lt e1) (fun e => owns_other hX e1 (by decide) e.symm)).trans e1
  have hWX : Below W.heap.size W ((W.drewN q).alloc (.cells (rgC x).toArray 66)) := (below_drewN (Below.refl _ _) q).alloc (Nat.le_refl _) _
  have hXs : w.heap.size ≤ ((W.drewN q).alloc (.cells (rgC x).toArray 66)).heap.size := Nat.le_trans hB.size hWX.size
  have kE := (KeepsE.of_below hWX hB.size).trans (keepsE_grown hX (by omega) hXs hg)
  refine ⟨k1, ⟨?_, set_here k1 0 v', ?_, ?_⟩, ((keepsFrom_below hWX).trans ((others_grown hX hg).from B)).trans ((KeepsOthers.setCell _ _ _).from B), kE.trans (keepsE_set (a := ⟨w.heap.size + 1, 0, none⟩) k1 (by decide) (by show w.heap.size ≤ w.heap.size + 1; omega) v')⟩
  · rw [Below.heap_setCell _ _ _ _ (by show w.heap.size ≠ w.heap.size + 1; omega)]; exact k0
  · show Owns _ _ _ _ _ ((out ++ [x]).map rgC)
    rw [List.map_append]
    exact ⟨ownsRow_setCell_other hown.1 (owns_other hown k1 (by decide)) _, hown.2⟩
  · exact (hB.trans kE.1).setCell (p := ⟨w.heap.size + 1, 0, none⟩) (by show w.heap.size ≤ w.heap.size + 1; omega) _
theorem rg_flat (fr : List Rg) : (fr.map rgC).flatten.length = fr.length * 2 := by
  induction fr with
  | nil => rfl
  | cons x fr ih => rw [List.map_cons, List.flatten_cons, List.length_append, ih]; simp [rgC]; omega
theorem rg_set (fr : List Rg) (y : Rg) (hi : Int) : ((fr ++ [y]).map rgC).flatten.set (fr.length * 2 + 1) (.int .i32 hi) = ((fr ++ [(⟨y.lo, hi⟩ : Rg)]).map rgC).flatten := by
  rw [List.map_append, List.map_append, List.flatten_append, List.flatten_append, List.set_append_right _ _ (by rw [rg_flat]; omega), rg_flat]
  simp [rgC]
theorem own_last {W : World} {b g c : Nat} {fr : List Rg} {y : Rg} (h : OwnR W b (.slice (some ⟨g, 0, none⟩) (fr.length + 1) c) (fr ++ [y])) : W.ownsRow b 66 2 (.slice (some ⟨g, 0, none⟩) (fr.length + 1) c) (fr.length + 1) ((fr ++ [y]).map rgC).flatten := by
  have h1 := h.1
  rwa [show ((fr ++ [y]).map rgC).length = fr.length + 1 by simp] at h1
/-- Behind the store of the last one's end. -/
theorem gather_set {w W : World} {g c : Nat} {fr : List Rg} {y : Rg} (h : Gather w W (.slice (some ⟨g, 0, none⟩) (fr.length + 1) c) (fr ++ [y])) (q : Nat) (hi : Int) (B : Nat) :
    Gather w ((W.drewN q).setCell ⟨g, fr.length * 2 + 1, none⟩ (.int .i32 hi)) (.slice (some ⟨g, 0, none⟩) (fr.length + 1) c) (fr ++ [⟨y.lo, hi⟩]) ∧ KeepsFrom B W ((W.drewN q).setCell ⟨g, fr.length * 2 + 1, none⟩ (.int .i32 hi)) ∧ KeepsE w.heap.size W ((W.drewN q).setCell ⟨g, fr.length * 2 + 1, none⟩ (.int .i32 hi)) := by
  obtain ⟨h0, h1, h2, hB⟩ := h
  have hg := (Owns.lt h2 g rfl).1
  obtain ⟨cs, fz, hc⟩ := Lib.ownsRow_kind h2.1 g rfl
  have hWX : Below W.heap.size W (W.drewN q) := below_drewN (Below.refl _ _) q
  have hst := (World.ownsRow.stored (show World.ownsRow (W.drewN q) _ _ _ _ _ _ from own_last h2) (fr.length * 2 + 1) (.int .i32 hi)).1
  rw [rg_set] at hst
  refine ⟨⟨?_, ?_, ⟨by simpa using hst, fun c hc => ?_⟩, ?_⟩, ?_, ?_⟩
  · rw [Below.heap_setCell _ _ _ _ (by show w.heap.size ≠ g; omega)]; exact h0
  · rw [Below.heap_setCell _ _ _ _ (by show w.heap.size + 1 ≠ g; omega)]; exact h1
  · obtain ⟨r, _, rfl⟩ := List.mem_map.1 hc; rfl
  · exact (below_drewN hB q).setCell (p := ⟨g, fr.length * 2 + 1, none⟩) (by show w.heap.size ≤ g; omega) _
  · exact (keepsFrom_below hWX).trans ((KeepsOthers.setCell _ _ _).from B)
  · exact (KeepsE.of_below hWX hB.size).trans (keepsE_set (W := W.drewN q) (a := ⟨g, fr.length * 2 + 1, none⟩) hc (by decide) (by show w.heap.size ≤ g; omega) _)
set_option maxRecDepth 100000 in
set_option maxHeartbeats 4000000 in
theorem those_in (w : World) (A : Option Addr) (c : Nat) (es : List (Int × Int)) (hes : Arr (fun b => b < w.heap.size) w 2 (fun x cs => cs = edgeC x) A es) (hN : es.length ≤ 5000000000) (hv : ∀ x ∈ es, (0 ≤ x.1 ∧ x.1 ≤ 1114112) ∧ (-1 ≤ x.2 ∧ x.2 ≤ 1)) :
    CallsIn Fence.wide 9 Tryd.prog 75 #[.slice A es.length c, .func (.func 79) #[] #[]] w fun e w' => ∃ v, e = .returned v ∧ OwnR w' w.heap.size v (thoseOf (fun n => decide (0 < n)) (spansOf 0 0 es)) ∧ Below w.heap.size w w' := by
  have hF1 : Fence.wide.fn 88 := trivial
  have hF2 : Fence.wide.fn 93 := trivial
  have hF3 : Fence.wide.fn 79 := trivial
  have hdd : ∀ k : Nat, (Fence.wide.depth.isSome = true → 1 ≤ k) := fun k h => by simp [Fence.wide] at h
  have HE := Lib.hid (And.intro hes hv)
  clear hes hv
  refine callsIn_of_wp_marks Tryd.func75 rfl trivial ?_ rfl
  simp only [Tryd.ntmps75, List.size_toArray, List.length_cons, List.length_nil, Nat.reduceAdd, Nat.reduceSub, Array.replicate_succ, Array.replicate_zero, List.push_toArray, List.append_toArray, List.nil_append, List.cons_append]
  gi_wp2_with ((try refine ⟨hdd _, ?_⟩); gi_at_call 88; refine (callsIn_wide.2 (spans_any _ _ _ _)).mono ?_; rintro e w' ⟨rfl, rfl⟩)
  have b0 : (((w.alloc (.cells #[.func (.func 79) #[] #[]] 106)).alloc (.cells #[.slice none 0 0] 61)).alloc (.cells #[.slice A es.length c] 131)).heap[w.heap.size]? = some (.cells #[.func (.func 79) #[] #[]] 106 (0, 0)) := by
    rw [Below.heap_alloc _ _ _ (by simp; omega), Below.heap_alloc _ _ _ (by simp)]; exact heap_new1 _ _
  have b1 : (((w.alloc (.cells #[.func (.func 79) #[] #[]] 106)).alloc (.cells #[.slice none 0 0] 61)).alloc (.cells #[.slice A es.length c] 131)).heap[w.heap.size + 1]? = some (.cells #[.slice none 0 0] 61 (0, 0)) := by
    rw [Below.heap_alloc _ _ _ (by simp)]; exact heap_new2 _ _ _
  have b2 : (((w.alloc (.cells #[.func (.func 79) #[] #[]] 106)).alloc (.cells #[.slice none 0 0] 61)).alloc (.cells #[.slice A es.length c] 131)).heap[w.heap.size + 1 + 1]? = some (.cells #[.slice A es.length c] 131 (0, 0)) := heap_new3 _ _ _ _
  have hB0 : Below w.heap.size w (((w.alloc (.cells #[.func (.func 79) #[] #[]] 106)).alloc (.cells #[.slice none 0 0] 61)).alloc (.cells #[.slice A es.length c] 131)) := below_al (below_al (below_al (Below.refl _ _) _) _) _
  have hsz : (((w.alloc (.cells #[.func (.func 79) #[] #[]] 106)).alloc (.cells #[.slice none 0 0] 61)).alloc (.cells #[.slice A es.length c] 131)).heap.size = w.heap.size + 3 := by simp
  obtain ⟨W0, hW0⟩ : ∃ W0, (((w.alloc (.cells #[.func (.func 79) #[] #[]] 106)).alloc (.cells #[.slice none 0 0] 61)).alloc (.cells #[.slice A es.length c] 131)) = W0 := ⟨_, rfl⟩
  rw [hW0] at b0 b1 b2 hB0 hsz ⊢
  clear hW0
  refine wpIn_rangeFunc_ownH rfl (by omega) (gf := 93) (lb := #[.pointer (some ⟨w.heap.size + 1 + 1, 0, none⟩)]) rfl trivial (enters_of Tryd.func93 (by kernel_rfl) rfl)
    (spans_stops _ w.heap.size (w.heap.size + 1 + 1) W0 A c es (by omega) b2 (HE.out.1.move (fun b hb _ => ⟨hB0.block b hb, hb⟩) (by omega)) (by omega) HE.out.2) KeepsE.trans
    (fun W l o o' hl ho hc _ => ?kb) (Below.refl _ _) (fun _ => rfl)
    (fun pre W => ∃ v, W.heap[w.heap.size]? = some (Obj.cells #[.func (.func 79) #[] #[]] 106 (0, 0)) ∧ W.heap[w.heap.size + 1]? = some (Obj.cells #[v] 61 (0, 0)) ∧ OwnR W (w.heap.size + 2) v (thoseW (fun n => decide (0 < n)) pre) ∧ Below w.heap.size w W)
    (fun c pre W => False) ?own (fun _ _ _ _ _ h => h.elim) ⟨_, b0, b1, Owns.nil _ _ _ _, hB0⟩
    (fun (x : Rg × Int) a' (W : World) => ∃ Bx : Nat, W.heap[Bx]? = some (Obj.cells #[.int .i32 x.1.lo, .int .i32 x.1.hi] 66 (0, 0)) ∧ a' = { tmps := #[.slice A es.length c, .func (.func 79) #[] #[], undef, .pointer (some ⟨w.heap.size, 0, none⟩), .slice none 0 0, .pointer (some ⟨w.heap.size + 1, 0, none⟩), .pointer (some ⟨Bx, 0, none⟩), .int .i64 x.2, undef, .slice A es.length c, .func (.func 93) #[] #[.pointer (some ⟨w.heap.size + 1 + 1, 0, none⟩)], .agg #[.int .i32 x.1.lo, .int .i32 x.1.hi], .int .i64 x.2, undef, undef, undef, undef, undef, undef, undef, undef, undef, undef, undef, undef, undef, undef, undef, undef, undef, undef, undef, undef, undef, undef, undef, undef, undef, undef, undef, undef, undef, undef, undef, undef, undef, undef], defers := [] })
    ?ownx ?assign ?body ?done ?stop
  case kb =>
    have hk := Keeps.putObj (B0 := w.heap.size) (B1 := 0) (w := W0) (by omega) (Nat.zero_le _) W l o o' hl ho hc
    exact ⟨hk.below, fun b cs fr hb => (hk.cells b _ _ _ (Nat.zero_le _) hb).trans hb⟩
  case own =>
    rintro s X Y row ⟨v, h0, h1, h2, hB⟩ hg hr
    refine ⟨v, blk_own _ _ _ () X Y row h0 hg (fun r e => (hr r e).2), blk_own _ _ _ () X Y row h1 hg (fun r e => (hr r e).2), h2.kept hg ?_, (ownFrom_below (Nat.le_refl _) (by omega)) s X Y row hB hg hr⟩
    cases hv : v.ownBlock with
    | none => exact .inl rfl
    | some g =>
      refine .inr fun e => ?_
      obtain ⟨o, ho, hc⟩ := (hr g e.symm).2
      obtain ⟨cs, fz, hk⟩ := Lib.ownsRow_kind h2.1 g hv
      rw [hk] at ho; cases ho; simp [Obj.isCells] at hc
  case ownx =>
    rintro x a' _ X Y row ⟨Bx, h2, h3⟩ hg hr
    exact ⟨Bx, blk_own Bx _ _ () X Y row h2 hg (fun r e => (hr r e).2), h3⟩
  case assign =>
    rintro l pre ⟨⟨lo, hi⟩, n⟩ W K ⟨v, h0, h1, h2, hB⟩ hK
    have hK1 := hK _ _ (keepsFrom_below (below_al (Below.refl _ _) (.cells #[.int .i32 lo, .int .i32 hi] 66))) (KeepsE.of_below (below_al (Below.refl _ _) _) hB.size) ⟨v, (Below.heap_alloc _ _ _ (heap_lt h0)).trans h0, (Below.heap_alloc _ _ _ (heap_lt h1)).trans h1, h2.alloc _, below_al hB _⟩ ⟨W.heap.size, heap_new1 _ _, rfl⟩
    clear hK h0 h1 h2 hB
    dsimp only [spanA]
    gi_wp2
    exact hK1
  case body =>
    rintro l pre ⟨⟨lo, hi⟩, n⟩ a' W hl _ ⟨v, h0, h1, h2, hB⟩ ⟨Bx, hbx, rfl⟩ hlen
    obtain ⟨A1, c1, rfl, hk1, hk2⟩ := Owns.shape h2
    rw [List.length_map] at h1 h2 hk1
    have g0 : W.cell? ⟨w.heap.size, 0, none⟩ = some (.func (.func 79) #[] #[]) := by rw [cell_of_blk h0]; rfl
    have g1 : W.cell? ⟨w.heap.size + 1, 0, none⟩ = some (.slice A1 (thoseW (fun n => decide (0 < n)) pre).length c1) := by rw [cell_of_blk h1]; rfl
    have hnx := thoseW_next (fun n => decide (0 < n)) pre (⟨lo, hi⟩, n)
    have hln : (thoseW (fun n => decide (0 < n)) pre).length ≤ 9223372036854775807 := by unfold maxLen at hk2; omega
    have hob : (thoseW (fun n => decide (0 < n)) pre).length ≤ 5000000001 := by
      have h5 := thoseW_len (fun n => decide (0 < n)) pre []
      have h6 := spans_len es 0 0
      simp only [List.length_nil, Nat.zero_add] at h5
      refine Nat.le_trans (show (thoseW (fun n => decide (0 < n)) pre).length ≤ pre.length from h5) (by omega)
    by_cases hn : 0 < n
    · have hd : decide (0 < n) = true := by simpa using hn
      simp only [hd, if_true] at hnx
      have hui : ∀ W', Calls Tryd.prog 79 #[.int .i64 n] W' fun e w' => e = .returned (.bool true) ∧ W' = w' := fun W' => by rw [← hd]; exact isSome_any W' n
      generalize thoseW (fun n => decide (0 < n)) pre = out at *
      have gx0 : W.cell? ⟨Bx, 0, none⟩ = some (.int .i32 lo) := by rw [cell_of_blk hbx]; rfl
      have gx1 : W.cell? ⟨Bx, 1, none⟩ = some (.int .i32 hi) := by rw [cell_of_blk hbx]; rfl
      have HH := Lib.hid (And.intro h0 (And.intro h1 (And.intro h2 (And.intro hB hnx))))
      clear h0 h1 h2 hB hnx hd
      by_cases hout : out = []
      · subst hout
        gi_wp2_with ((try refine ⟨hdd _, ?_⟩); gi_at_call 79; refine (CallsIn.inRound l (callsIn_wide.2 (hui _))).mono ?_; rintro e W2 ⟨rfl, rfl⟩)
        refine region_quiet_lit_round (by kernel_rfl) (by kernel_rfl) (by kernel_rfl) ?_
        repeat (gi_big_quiet_step (fail))
        refine wpQuietIn_nil ?_
        intro _ hw'
        obtain ⟨nq, hw''⟩ := hw'
        subst hw''
        have hIr := infoRg
        obtain ⟨i0, hi0, hxx⟩ := Option.map_eq_some_iff.1 hIr
        simp only [Prod.mk.injEq] at hxx
        obtain ⟨hz0, hz1, hz2⟩ := hxx
        gi_wp2_with (gi_at_builtin; refine wpListIn_app1 rfl _ _ 61 rfl (w.heap.size + 2) 66 i0 _ 2 8 Tryd.underlying61 hi0 hz0 hz1 hz2 rfl (by decide) _ _ rfl (Owns.alloc (show Owns (W.drewN _) _ _ _ _ _ from HH.out.2.2.1) _) _ (rgC ⟨lo, hi⟩) rfl rfl (heap_newE (by simp)) ?c2 ?c3 ?c4 ?c5 ?_)
        case c2 => intro u hu; simp [rgC] at hu; rcases hu with rfl | rfl <;> rfl
        case c3 => simp; unfold maxLen; omega
        case c4 => simp
        case c5 => have := heap_lt HH.out.2.1; simp; omega
        intro v' w4 hown' hgrow
        obtain ⟨h0, h1, h2, hB, hnx⟩ := HH.out
        obtain ⟨k1, hG, kF, kE⟩ := gather_app (x := ⟨lo, hi⟩) ⟨h0, h1, h2, hB⟩ hown' hgrow W0.heap.size
        obtain ⟨A5, c5, rfl, _, _⟩ := hown'.shape
        have q1 : w4.cell? ⟨w.heap.size + 1, 0, none⟩ = some (.slice A1 0 c1) := by rw [cell_of_blk k1]; rfl
        have q2 : w4.frozen? ⟨w.heap.size + 1, 0, none⟩ = false := by simp [World.frozen?, k1]
        have HG := Lib.hid (And.intro hG (And.intro kF (And.intro kE hnx)))
        clear h0 h1 h2 hB hnx hG kF kE k1 hown' hgrow
        gi_wp2
        obtain ⟨hG, kF, kE, hnx⟩ := HG.out
        exact ⟨kF, kE, _, hG.1, hG.2.1, by rw [hnx]; exact hG.2.2.1, hG.2.2.2⟩
      · obtain ⟨fr, y, rfl⟩ : ∃ fr y, out = fr ++ [y] := ⟨_, _, (List.dropLast_concat_getLast hout).symm⟩
        clear hout
        obtain ⟨h0, h1, h2, hB, hnx⟩ := HH.out
        clear HH
        have e1 : (fr ++ [y]).length = fr.length + 1 := by simp
        rw [e1] at h1 h2 g1 hk1 hln hob
        rw [putW_snoc] at hnx
        obtain ⟨g, rfl⟩ : ∃ g, A1 = some ⟨g, 0, none⟩ := by
          rcases h2.1.2 with ⟨e, _⟩ | ⟨g, _, _, e, _⟩
          · injection e with e1 e2; omega
          · injection e with e1; exact ⟨g, e1⟩
        have hcy : W.cell? ⟨g, fr.length * 2 + 1, none⟩ = some (.int .i32 y.hi) := by
          rw [World.ownsRow.cellAt (own_last h2) _ (by omega), List.map_append, List.flatten_append, List.getElem?_append_right (by rw [rg_flat]; omega), rg_flat]
          simp [rgC]
        have hfy : W.frozen? ⟨g, fr.length * 2 + 1, none⟩ = false := World.ownsRow.frozenAt (own_last h2) _
        have HH := Lib.hid (And.intro (show Gather w W _ _ from ⟨h0, h1, h2, hB⟩) hnx)
        clear h0 h1 h2 hB hnx e1
        by_cases hm : IntKind.i32.wrap (y.hi + 1) = lo
        · gi_wp2_with ((try refine ⟨hdd _, ?_⟩); gi_at_call 79; refine (CallsIn.inRound l (callsIn_wide.2 (hui _))).mono ?_; rintro e W2 ⟨rfl, rfl⟩)
          refine region_quiet_lit_round (by kernel_rfl) (by kernel_rfl) (by kernel_rfl) ?_
          repeat (gi_big_quiet_step (fail))
          refine wpQuietIn_nil ?_
          intro _ hw'
          obtain ⟨nq, hw''⟩ := hw'
          subst hw''
          have HM := Lib.hid hm
          clear hm
          gi_wp2
          obtain ⟨hG, hnx⟩ := HH.out
          rw [if_pos HM.out] at hnx
          obtain ⟨hG2, kF, kE⟩ := gather_set hG nq hi W0.heap.size
          exact ⟨kF, kE, _, hG2.1, hG2.2.1, by rw [hnx]; exact hG2.2.2.1, hG2.2.2.2⟩
        · have hmb : (IntKind.i32.wrap (y.hi + 1) == lo) = false := by simpa using hm
          have hmb2 : (wrap32 (y.hi + 1) == lo) = false := by rw [← IntWalk.i32_left]; exact hmb
          have HM := Lib.hid hm
          clear hm
          gi_wp2_with ((try refine ⟨hdd _, ?_⟩); gi_at_call 79; refine (CallsIn.inRound l (callsIn_wide.2 (hui _))).mono ?_; rintro e W2 ⟨rfl, rfl⟩)
          refine region_quiet_lit_round (by kernel_rfl) (by kernel_rfl) (by kernel_rfl) ?_
          repeat (gi_big_quiet_step (fail))
          refine wpQuietIn_nil ?_
          intro _ hw'
          obtain ⟨nq, hw''⟩ := hw'
          subst hw''
          clear hmb hmb2
          have hIr := infoRg
          obtain ⟨i0, hi0, hxx⟩ := Option.map_eq_some_iff.1 hIr
          simp only [Prod.mk.injEq] at hxx
          obtain ⟨hz0, hz1, hz2⟩ := hxx
          gi_wp2_with (gi_at_builtin; refine wpListIn_app1 rfl _ _ 61 rfl (w.heap.size + 2) 66 i0 _ 2 8 Tryd.underlying61 hi0 hz0 hz1 hz2 rfl (by decide) _ _ rfl (Owns.alloc (show Owns (W.drewN _) _ _ _ _ _ from HH.out.1.2.2.1) _) _ (rgC ⟨lo, hi⟩) rfl rfl (heap_newE (by simp)) ?c2 ?c3 ?c4 ?c5 ?_)
          case c2 => intro u hu; simp [rgC] at hu; rcases hu with rfl | rfl <;> rfl
          case c3 => simp; unfold maxLen; omega
          case c4 => simp; omega
          case c5 => have := heap_lt HH.out.1.2.1; simp; omega
          intro v' w4 hown' hgrow
          obtain ⟨hG0, hnx⟩ := HH.out
          obtain ⟨k1, hG, kF, kE⟩ := gather_app (x := ⟨lo, hi⟩) hG0 (by simpa using hown') hgrow W0.heap.size
          obtain ⟨A5, c5, hv5, _, _⟩ := hown'.shape
          rw [show (List.map rgC fr ++ [rgC y, rgC ⟨lo, hi⟩]).length = fr.length + 2 by simp] at hv5
          subst hv5
          have q1 : w4.cell? ⟨w.heap.size + 1, 0, none⟩ = some (.slice (some ⟨g, 0, none⟩) (fr.length + 1) c1) := by rw [cell_of_blk k1]; rfl
          have q2 : w4.frozen? ⟨w.heap.size + 1, 0, none⟩ = false := by simp [World.frozen?, k1]
          have HG := Lib.hid (And.intro hG (And.intro kF (And.intro kE hnx)))
          clear hG0 hnx hG kF kE k1 hown' hgrow
          gi_wp2
          obtain ⟨hG, kF, kE, hnx⟩ := HG.out
          rw [if_neg HM.out] at hnx
          exact ⟨kF, kE, _, hG.1, hG.2.1, by rw [hnx]; exact hG.2.2.1, hG.2.2.2⟩
    · have hd : decide (0 < n) = false := by simpa using hn
      simp only [hd, Bool.false_eq_true, if_false] at hnx
      have HH := Lib.hid (And.intro h0 (And.intro h1 (And.intro h2 (And.intro hB hnx))))
      have hui : ∀ W', Calls Tryd.prog 79 #[.int .i64 n] W' fun e w' => e = .returned (.bool false) ∧ W' = w' := fun W' => by rw [← hd]; exact isSome_any W' n
      clear h0 h1 h2 hB hnx hd
      generalize thoseW (fun n => decide (0 < n)) pre = out at *
      gi_wp2_with ((try refine ⟨hdd _, ?_⟩); gi_at_call 79; refine (CallsIn.inRound l (callsIn_wide.2 (hui _))).mono ?_; rintro e W2 ⟨rfl, rfl⟩)
      obtain ⟨h0, h1, h2, hB, hnx⟩ := HH.out
      exact ⟨keepsFrom_below (Below.refl _ _), KeepsE.of_below (Below.refl _ _) hB.size, _, h0, h1, by rw [hnx]; exact h2, hB⟩
  case done =>
    rintro D ys W hD rfl ⟨v, h0, h1, h2, hB⟩ hK
    have hcr : W.cell? ⟨w.heap.size + 1, 0, none⟩ = some v := by rw [cell_of_blk h1]; rfl
    have HH := Lib.hid (And.intro h2 hB)
    clear h0 h1 h2 hB
    gi_wp2
    obtain ⟨h2, hB⟩ := HH.out
    refine ⟨by simp, .inl ⟨_, _, rfl, run_takeDeferred hK, ?_⟩⟩
    have hne : v.ownBlock = none ∨ v.ownBlock ≠ some D := by
      cases hv : v.ownBlock with
      | none => exact .inl rfl
      | some g =>
        refine .inr fun e => ?_
        cases e
        obtain ⟨cs, fz, hk⟩ := Lib.ownsRow_kind h2.1 D hv
        rw [hk] at hK; cases hK
    have h3 : Owns (W.putObj D (.deferred none)) w.heap.size 66 2 v ((thoseOf (fun n => decide (0 < n)) (spansOf 0 0 es)).map rgC) := by
      have h4 := h2.kept (grownBy_putObj' W D (.deferred none)) hne
      rw [thoseW_eq _ _ (fun x hx => (HE.out.2 x hx).1)] at h4
      exact ⟨Joins.ownsRow_le h4.1 (by omega), h4.2⟩
    refine ⟨v, ?_, v, rfl, h3, hB.trans (belowK_b (w := w) (Nat.le_refl _) W D _ _ (by omega) hK rfl rfl)⟩
    simp [results, Tryd.f75, go_sem]
  case stop => exact fun _ _ _ _ _ _ h => h.elim
end Go.Proofs.YthclpabmbhpohaaDoor
namespace Go.Proofs.YthclpabmbhpohaaDoor
open Go.RowKit Go.Shelf Go.Lib Go.Sort
set_option linter.unusedVariables false
theorem edges_one (l : List Rg) : edgesOf [l, []] = edgesOf [l] := by simp [edgesOf]
def NormPost (l : List Rg) (w : World) (e : Ending) (w' : World) : Prop := ∃ v, e = .returned v ∧ OwnR w' w.heap.size v (normOf [l]) ∧ Below w.heap.size w w'
theorem edges_vals (l : List Rg) : ∀ x ∈ edgesOf [l], (0 ≤ x.1 ∧ x.1 ≤ 1114112) ∧ (-1 ≤ x.2 ∧ x.2 ≤ 1) := by
  intro x hx
  simp only [edgesOf, List.flatMap_cons, List.flatMap_nil, List.append_nil, List.mem_flatMap] at hx
  obtain ⟨r, _, hx⟩ := hx
  unfold edge1 at hx
  split at hx
  · simp only [List.mem_cons, List.not_mem_nil, or_false] at hx
    rcases hx with rfl | rfl <;> simp <;> omega
  · simp at hx
theorem those_norm (w1 : World) (B0 : Nat) (v : Value) (l : List Rg) (es : List (Int × Int)) (hp : es.Perm (edgesOf [l])) (hs : es.Pairwise (fun x y => x.1 ≤ y.1)) (ho : OwnE w1 B0 v es) (hN : l.length ≤ 1000000000) :
    Calls Tryd.prog 75 #[v, .func (.func 79) #[] #[]] w1 fun e w' => ∃ v, e = .returned v ∧ OwnR w' w1.heap.size v (normOf [l]) ∧ Below w1.heap.size w1 w' := by
  obtain ⟨A, c, rfl, h1, h2⟩ := Owns.shape ho
  rw [List.length_map]
  have hl : es.length ≤ 5000000000 := by
    have h3 := hp.length_eq
    have h4 := flat_len l
    simp only [edgesOf, List.flatMap_cons, List.flatMap_nil, List.append_nil] at h3
    omega
  have h := callsIn_wide.1 (those_in w1 A c es (Owns.arr (css := es.map edgeC) (xs := es) (show Owns _ _ _ _ _ _ from (by have h5 := ho; unfold OwnE at h5; simpa using h5)) (by simp) (fun i x cc hi hc => by
    rw [List.getElem?_map, hi] at hc; simpa using hc.symm) (fun a ha => by subst ha; exact (Owns.lt ho a.block rfl).2)) hl (fun x hx => edges_vals l x (hp.subset hx)))
  refine h.mono fun e w' ⟨v, h1, h2, h3⟩ => ⟨v, h1, ?_, h3⟩
  rwa [norm_any [l] es hp hs] at h2
theorem two_le {l : List Rg} (hN : l.length ≤ 1000000000) : ∀ x ∈ [l, []], x.length ≤ 1000000000 := by
  intro x hx
  rcases List.mem_cons.1 hx with rfl | hx
  · exact hN
  · rw [List.mem_singleton.1 hx]; simp
set_option maxHeartbeats 400000 in
theorem union_nil (ok : Nat → Prop) (w : World) (A : Option Addr) (c : Nat) (l : List Rg) (h : Arr ok w 2 RgC A l) (hN : l.length ≤ 1000000000) :
    Calls Tryd.prog 59 #[.slice A l.length c, .slice none 0 0] w (NormPost l w) := by
  have hb : Arr (fun b => ok b ∨ b = w.heap.size) (w.alloc (.cells #[.slice A l.length c, .slice none 0 0] 61)) 1 (RgsC (fun b => ok b ∨ b = w.heap.size) (w.alloc (.cells #[.slice A l.length c, .slice none 0 0] 61))) (some ⟨w.heap.size, 0, none⟩) [l, []] := by
    have hm := h.move (ok' := fun b => ok b ∨ b = w.heap.size) (w' := w.alloc (.cells #[.slice A l.length c, .slice none 0 0] 61)) (fun b hb hlt => ⟨Below.heap_alloc _ _ _ hlt, .inl hb⟩) (by omega)
    have hn := heap_new1 w (.cells #[.slice A l.length c, .slice none 0 0] 61)
    intro i x hx
    match i, hx with
    | 0, hx =>
      simp at hx; subst hx
      refine ⟨_, [.slice A l.length c], rfl, .inr rfl, ⟨A, c, rfl, hm⟩, rfl, fun j u hu => ?_⟩
      match j, hu with
      | 0, hu => simp at hu; subst hu; rw [Nat.zero_mul]; exact (cell_of_blk hn 0).trans rfl
    | 1, hx =>
      simp at hx; subst hx
      refine ⟨_, [.slice none 0 0], rfl, .inr rfl, ⟨none, 0, rfl, Arr.nil⟩, rfl, fun j u hu => ?_⟩
      match j, hu with
      | 0, hu => simp at hu; subst hu; exact (cell_of_blk hn 1).trans rfl
  have hed := edges_any _ _ _ 2 [l, []] hb (by simp) (two_le hN)
  have hth := those_norm
  have HH := Lib.hid hth
  clear hb h hth
  go_enter Tryd.func59, Tryd.ntmps59
  go_wp2_with (go_at_call 76; refine hed.mono ?_; clear hed; rintro e w1 ⟨v, es, rfl, hp, hs, ho, hb⟩)
  rw [edges_one] at hp
  have hth := HH.out w1 _ v l es hp hs ho hN
  have hb1 := below_and hb (below_al (Below.refl _ _) _)
  have HB := Lib.hid hb1
  clear hp hs ho hb hb1
  go_wp2_with (go_at_call 75; refine hth.mono ?_; clear hth; rintro e w2 ⟨v2, rfl, ho2, hb2⟩)
  go_ret
  exact ⟨v2, rfl, ⟨Joins.ownsRow_le ho2.1 HB.out.size, ho2.2⟩, below_and hb2 HB.out⟩
theorem norm_of (ok : Nat → Prop) (w : World) (A : Option Addr) (c : Nat) (l : List Rg) (h : Arr ok w 2 RgC A l) (hN : l.length ≤ 1000000000) :
    Calls Tryd.prog 77 #[.slice A l.length c] w (NormPost l w) := by
  have hed := union_nil ok w A c l h hN
  clear h
  go_enter Tryd.func77, Tryd.ntmps77
  go_wp2_with (go_at_call 59; refine hed.mono ?_; clear hed; rintro e w1 ⟨v, rfl, ho, hb⟩)
  go_ret
  exact ⟨v, rfl, ho, hb⟩
def eqR : List Rg → List Rg → Bool
  | [], [] => true
  | x :: xs, y :: ys => (x.lo == y.lo && x.hi == y.hi) && eqR xs ys
  | _, _ => false
theorem eqR_iff : ∀ (xs ys : List Rg), eqR xs ys = true ↔ xs.length = ys.length ∧ ∀ j (h1 : j < xs.length) (h2 : j < ys.length), xs[j].lo = ys[j].lo ∧ xs[j].hi = ys[j].hi
  | [], [] => by simp [eqR]
  | [], y :: ys => by simp [eqR]
  | x :: xs, [] => by simp [eqR]
  | x :: xs, y :: ys => by
    simp only [eqR, Bool.and_eq_true, beq_iff_eq, eqR_iff xs ys, List.length_cons]
    constructor
    · rintro ⟨h0, h1, h2⟩
      refine ⟨by omega, fun j ha hb => ?_⟩
      cases j with
      | zero => exact h0
      | succ j => exact h2 j (by simpa using ha) (by simpa using hb)
    · rintro ⟨h1, h2⟩
      exact ⟨h2 0 (by simp) (by simp), by omega, fun j ha hb => h2 (j + 1) (by simp; omega) (by simp; omega)⟩
theorem eqR_eq (xs ys : List Rg) : eqR xs ys = true ↔ xs = ys := by
  rw [eqR_iff]
  constructor
  · rintro ⟨h1, h2⟩
    refine List.ext_getElem h1 fun j ha hb => ?_
    obtain ⟨h3, h4⟩ := h2 j ha hb
    cases hx : xs[j]; cases hy : ys[j]; rw [hx, hy] at h3 h4; simp_all
  · rintro rfl; exact ⟨rfl, fun _ _ _ => ⟨rfl, rfl⟩⟩
theorem eqR_no {xs ys : List Rg} (h : ¬ (xs.length = ys.length)) : eqR xs ys = false := by
  rw [Bool.eq_false_iff]; exact fun e => h ((eqR_iff _ _).1 e).1
theorem eq_rg (w : World) (x1 x2 y1 y2 : Int) : (Op.equalIn 10000 66 (.agg #[.int .i32 x1, .int .i32 x2]) (.agg #[.int .i32 y1, .int .i32 y2])).run Tryd.prog w = .ok (x1 == y1 && x2 == y2) w := by
  have hS : Tryd.prog.underlying 66 = some (.struct (Tryd.prog.fieldsOf 66)) := by kernel_rfl
  have hp : Tryd.prog.stoodInHeld 66 = false := by kernel_rfl
  rw [show (10000 : Nat) = 9999 + 1 from rfl, run_equalIn_struct w 9999 66 _ _ hS hp]
  simp only [Program.fieldsOf, Tryd.underlying66]
  simp only [Op.eqFields]
  go_simp
  by_cases h1 : x1 = y1 <;> by_cases h2 : x2 = y2 <;> simp [h1, h2]
attribute [local go_sem high] eq_rg
theorem rg_cells {ok : Nat → Prop} {w : World} {B : Option Addr} {l : List Rg} (h : Arr ok w 2 RgC B l) (j : Nat) (hj : j < l.length) :
    ∃ ad, B = some ad ∧ w.cell? (ad.add (j * 2)) = some (.int .i32 l[j].lo) ∧ w.cell? ⟨(ad.add (j * 2)).block, (ad.add (j * 2)).off + 1, none⟩ = some (.int .i32 l[j].hi) :=
  rg_at h (Below.refl _ _) j hj
set_option maxHeartbeats 1000000 in
theorem equal_any (ok ok2 : Nat → Prop) (w : World) (A B : Option Addr) (c d : Nat) (xs ys : List Rg) (hx : Arr ok w 2 RgC A xs) (hy : Arr ok2 w 2 RgC B ys) (hN : xs.length ≤ 9223372036854775807) :
    Calls Tryd.prog 86 #[.slice A xs.length c, .slice B ys.length d] w fun e w' => e = .returned (.bool (eqR xs ys)) ∧ ∃ n, w' = w.drewN n := by
  have HX := Lib.hid hx
  have HY := Lib.hid hy
  clear hx hy
  have hu84 := Tryd.underlying66
  by_cases hl : xs.length = ys.length
  · have HL := Lib.hid hl
    have hlb : ((xs.length : Int) != (ys.length : Int)) = false := by rw [hl]; simp
    have hlb2 : ((xs.length : Int) == (ys.length : Int)) = true := by rw [hl]; simp
    clear hl
    go_enter Tryd.func86, Tryd.ntmps86
    go_wp2_with fail
    clear hlb hlb2
    go_loopw [13] (fun i wr => ∃ k : Nat, k ≤ xs.length ∧ i = .int .i64 k ∧ (∃ q, wr = w.drewN q) ∧ Hid (∀ j (h1 : j < xs.length) (h2 : j < ys.length), j < k → xs[j].lo = ys[j].lo ∧ xs[j].hi = ys[j].hi)) (fun i _ => xs.length - (intOf i).toNat)
    case atStart => exact ⟨0, Nat.zero_le _, rfl, ⟨0, rfl⟩, Lib.hid (fun j _ _ h => by omega)⟩
    case round =>
      obtain ⟨k, hk, rfl, ⟨q, rfl⟩, HB⟩ := hrel
      by_cases hlt : k < xs.length
      · have hlt2 : k < ys.length := by have := HL.out; omega
        obtain ⟨ad, rfl, hc1, hc2⟩ := rg_cells HX.out k hlt
        obtain ⟨bd, rfl, hd1, hd2⟩ := rg_cells HY.out k hlt2
        obtain ⟨a1, ha1⟩ : ∃ z, z = xs[k].lo := ⟨_, rfl⟩
        obtain ⟨a2, ha2⟩ : ∃ z, z = xs[k].hi := ⟨_, rfl⟩
        obtain ⟨b1, hb1⟩ : ∃ z, z = ys[k].lo := ⟨_, rfl⟩
        obtain ⟨b2, hb2⟩ : ∃ z, z = ys[k].hi := ⟨_, rfl⟩
        rw [← ha1] at hc1
        rw [← ha2] at hc2
        rw [← hb1] at hd1
        rw [← hb2] at hd2
        have HE := Lib.hid (And.intro ha1 (And.intro ha2 (And.intro hb1 hb2)))
        clear ha1 ha2 hb1 hb2
        by_cases hq : (a1 == b1 && a2 == b2) = true
        rotate_left
        · have hq1 : (a1 == b1 && a2 == b2) = false := by simpa using hq
          have he : (!(a1 == b1) || !(a2 == b2)) = true := by cases h1 : (a1 == b1) <;> cases h2 : (a2 == b2) <;> simp_all
          clear hq
          go_wp2
          go_quiet (fail)
          go_wp2
          go_ret
          refine ⟨ret_bool ?_, _, by first | rfl | (simp; rfl)⟩
          rw [eq_comm, Bool.eq_false_iff]
          intro h
          obtain ⟨h1, h2⟩ := ((eqR_iff _ _).1 h).2 k hlt hlt2
          rw [← HE.out.1, ← HE.out.2.2.1] at h1
          rw [← HE.out.2.1, ← HE.out.2.2.2] at h2
          simp [h1, h2] at he
        · have he2 : (!(a1 == b1) || !(a2 == b2)) = false := by simpa using hq
          go_wp2
          repeat (go_quiet (fail); try go_wp2)
          go_roundw
          case measure => simp [intOf]; omega
          case rel =>
            refine ⟨k + 1, by omega, by go_num, ⟨_, by first | rfl | (simp; rfl)⟩, Lib.hid fun j h1 h2 hj => ?_⟩
            rcases Nat.lt_or_ge j k with h3 | h3
            · exact HB.out j h1 h2 h3
            · obtain rfl : j = k := by omega
              rw [← HE.out.1, ← HE.out.2.1, ← HE.out.2.2.1, ← HE.out.2.2.2]
              simpa using he2
      · go_wp2
        go_ret
        refine ⟨ret_bool ((eqR_iff _ _).2 ⟨HL.out, fun j h1 h2 => HB.out j h1 h2 (by omega)⟩).symm, _, by first | rfl | (simp; rfl)⟩
  · have hlb : ((xs.length : Int) != (ys.length : Int)) = true := by simp; omega
    have hlb2 : ((xs.length : Int) == (ys.length : Int)) = false := by simp; omega
    go_enter Tryd.func86, Tryd.ntmps86
    go_wp2_with fail
    go_ret
    exact ⟨ret_bool (eqR_no hl).symm, 0, rfl⟩
def rightR (l : List Rg) : Bool := eqR l (normOf [l])
theorem right_ok (l : List Rg) (hN : l.length ≤ 1000000000) : RightOK rightR l := by
  intro ok W B d h h1 h2
  have hno := norm_of ok W B d l h hN
  have HA := Lib.hid h
  clear h
  go_enter Tryd.func73, Tryd.ntmps73
  go_wp2_with (go_at_call 77; refine hno.mono ?_; clear hno; rintro e w1 ⟨v, rfl, ho, hb⟩)
  obtain ⟨A2, c2, rfl, h3, h4⟩ := Owns.shape ho
  rw [List.length_map]
  have hx := HA.out.move (ok' := ok) (w' := w1) (fun b hok hlt => ⟨hb.block b hlt, hok⟩) (by omega)
  have hy : Arr (fun _ => True) w1 2 RgC A2 (normOf [l]) := Owns.arr (css := (normOf [l]).map rgC) (xs := normOf [l]) (by have h5 := ho; unfold OwnR at h5; simpa using h5) (by simp) (fun i x cc hi hc => by
    rw [List.getElem?_map, hi] at hc; simpa [RgC, rgC] using hc.symm) (fun _ _ => trivial)
  have heq := equal_any _ _ w1 B A2 d c2 l (normOf [l]) hx hy (by omega)
  have HB := Lib.hid hb
  clear hx hy ho hb h3
  go_wp2_with (go_at_call 86; refine heq.mono ?_; clear heq; rintro e w2 ⟨rfl, q, rfl⟩)
  go_ret
  exact ⟨rfl, below_drewN HB.out _⟩
end Go.Proofs.YthclpabmbhpohaaDoor
namespace Go.Proofs.YthclpabmbhpohaaDoor
set_option linter.unusedVariables false
def RgOK (x : Rg) : Prop := 0 ≤ x.lo ∧ x.lo ≤ x.hi ∧ x.hi ≤ 1114111
/-- A set, as the document has it. -/
def SetOK (l : List Rg) : Prop := (∀ x ∈ l, RgOK x) ∧ l.Pairwise (fun x y => x.hi + 2 ≤ y.lo)
theorem put_snoc (fr : List Rg) (y x : Rg) : putSpan (fr ++ [y]) x = if y.hi + 1 = x.lo then fr ++ [⟨y.lo, x.hi⟩] else fr ++ [y] ++ [x] := by simp [putSpan]
theorem put_nil (x : Rg) : putSpan [] x = [x] := rfl
theorem setOK_put (out : List Rg) (x : Rg) (h : SetOK out) (hx : RgOK x) (hl : ∀ y ∈ out, y.hi < x.lo) : SetOK (putSpan out x) ∧ ∀ y ∈ putSpan out x, y.hi ≤ x.hi := by
  rcases List.eq_nil_or_concat out with rfl | ⟨fr, y, rfl⟩
  · rw [put_nil]; exact ⟨⟨by simpa using hx, by simp⟩, by simp⟩
  · rw [List.concat_eq_append] at *
    rw [put_snoc]
    obtain ⟨h1, h2⟩ := h
    have hy := h1 y (by simp)
    have hyl := hl y (by simp)
    obtain ⟨hx0, hx1, hx2⟩ := hx
    obtain ⟨hy0, hy1, hy2⟩ := hy
    obtain ⟨p1, p2, p3⟩ := List.pairwise_append.1 h2
    split
    · refine ⟨⟨fun z hz => ?_, List.pairwise_append.2 ⟨p1, by simp, fun a ha b hb => ?_⟩⟩, fun z hz => ?_⟩
      · rcases List.mem_append.1 hz with hz | hz
        · exact h1 z (by simp [hz])
        · rw [List.mem_singleton.1 hz]; exact ⟨hy0, by simp; omega, hx2⟩
      · rw [List.mem_singleton.1 hb]; exact p3 a ha y (by simp)
      · rcases List.mem_append.1 hz with hz | hz
        · have := hl z (by simp [hz]); omega
        · rw [List.mem_singleton.1 hz]; simp
    · rename_i hne
      refine ⟨⟨fun z hz => ?_, List.pairwise_append.2 ⟨h2, by simp, fun a ha b hb => ?_⟩⟩, fun z hz => ?_⟩
      · rcases List.mem_append.1 hz with hz | hz
        · exact h1 z hz
        · rw [List.mem_singleton.1 hz]; exact ⟨hx0, hx1, hx2⟩
      · rw [List.mem_singleton.1 hb]
        rcases List.mem_append.1 ha with ha | ha
        · have := p3 a ha y (by simp); omega
        · rw [List.mem_singleton.1 ha]; omega
      · rcases List.mem_append.1 hz with hz | hz
        · have := hl z hz; omega
        · rw [List.mem_singleton.1 hz]; omega
theorem setOK_fold (is : Int → Bool) : ∀ (es : List (Int × Int)) (f n : Int) (out : List Rg), 0 ≤ f → (∀ x ∈ es, x.1 ≤ 1114112) → SetOK out → (∀ y ∈ out, y.hi < f) →
    SetOK ((spansOf f n es).foldl (fun out s => if is s.2 then putSpan out s.1 else out) out)
  | [], f, n, out, hf, _, ho, hl => by
    rw [spansOf]
    split
    · rw [List.foldl_cons, List.foldl_nil]
      split
      · exact (setOK_put out _ ho ⟨hf, by assumption, by simp⟩ hl).1
      · exact ho
    · exact ho
  | x :: es, f, n, out, hf, h, ho, hl => by
    have hx := h x (by simp)
    have hr := fun y hy => h y (List.mem_cons_of_mem _ hy)
    rw [spansOf]
    split
    · rw [List.foldl_cons]
      split
      · obtain ⟨h1, h2⟩ := setOK_put out ⟨f, x.1 - 1⟩ ho ⟨hf, by simp; omega, by simp; omega⟩ hl
        exact setOK_fold is es _ _ _ (by omega) hr h1 (fun y hy => by have := h2 y hy; simp at this; omega)
      · exact setOK_fold is es _ _ _ (by omega) hr ho (fun y hy => by have := hl y hy; omega)
    · exact setOK_fold is es _ _ _ hf hr ho hl
theorem edge1_ok {x : Rg} (h : RgOK x) : edge1 x = [(x.lo, 1), (x.hi + 1, -1)] := by
  obtain ⟨h0, h1, h2⟩ := h
  have e1 : max x.lo 0 = x.lo := by omega
  have e2 : min x.hi 1114111 = x.hi := by omega
  unfold edge1
  rw [e1, e2, if_pos h1]
theorem edges_sorted : ∀ {l : List Rg}, SetOK l → (l.flatMap edge1).Pairwise (fun x y => x.1 ≤ y.1)
  | [], _ => by simp
  | x :: l, ⟨h1, h2⟩ => by
    have hx := h1 x (by simp)
    have h3 : SetOK l := ⟨fun y hy => h1 y (by simp [hy]), (List.pairwise_cons.1 h2).2⟩
    rw [List.flatMap_cons, edge1_ok hx]
    refine List.pairwise_append.2 ⟨by have := hx.2.1; simp; omega, edges_sorted h3, fun a ha b hb => ?_⟩
    obtain ⟨y, hy, hb⟩ := List.mem_flatMap.1 hb
    rw [edge1_ok (h3.1 y hy)] at hb
    have h4 := (List.pairwise_cons.1 h2).1 y hy
    have h5 := hx.2.1
    have h6 := (h3.1 y hy).2.1
    simp only [List.mem_cons, List.not_mem_nil, or_false] at ha hb
    rcases ha with rfl | rfl <;> rcases hb with rfl | rfl <;> simp <;> omega
theorem fold_self : ∀ (l out : List Rg) (f : Int), SetOK l → 0 ≤ f → (∀ x ∈ l, f ≤ x.lo) → (∀ y ∈ out, ∀ x ∈ l, y.hi + 1 < x.lo) →
    (spansOf f 0 (l.flatMap edge1)).foldl (fun out s => if decide (0 < s.2) then putSpan out s.1 else out) out = out ++ l
  | [], out, f, _, hf, _, _ => by
    rw [List.flatMap_nil, spansOf]
    split <;> simp
  | x :: l, out, f, ⟨h1, h2⟩, hf, hlo, hg => by
    have hx := h1 x (by simp)
    have h3 : SetOK l := ⟨fun y hy => h1 y (by simp [hy]), (List.pairwise_cons.1 h2).2⟩
    have hfx := hlo x (by simp)
    have hp : putSpan out x = out ++ [x] := by
      rcases List.eq_nil_or_concat out with rfl | ⟨fr, y, rfl⟩
      · rfl
      · rw [List.concat_eq_append] at *
        rw [put_snoc, if_neg (by have := hg y (by simp) x (by simp); omega)]
    have ih := fold_self l (out ++ [x]) (x.hi + 1) h3 (by have := hx.1; have := hx.2.1; omega) (fun y hy => by have := (List.pairwise_cons.1 h2).1 y hy; omega)
      (fun y hy z hz => by
        rcases List.mem_append.1 hy with hy | hy
        · have h5 := hg y hy x (by simp)
          have h6 := (List.pairwise_cons.1 h2).1 z hz
          have h7 := hx.2.1
          omega
        · rw [List.mem_singleton.1 hy]; have h6 := (List.pairwise_cons.1 h2).1 z hz; omega)
    rw [List.append_assoc, List.singleton_append] at ih
    have h8 := hx.2.1
    have hbody : ∀ g : Int, g = x.lo → (spansOf g 1 ((x.hi + 1, -1) :: l.flatMap edge1)).foldl (fun out s => if decide (0 < s.2) then putSpan out s.1 else out) out = out ++ x :: l := by
      rintro g rfl
      rw [spansOf, if_pos (by show x.lo < x.hi + 1; omega), List.foldl_cons]
      simp only [show (1 : Int) + -1 = 0 by omega, Int.add_sub_cancel]
      rw [if_pos (by simp)]
      show List.foldl _ (putSpan out x) _ = _
      rw [hp]; exact ih
    rw [List.flatMap_cons, edge1_ok hx, List.cons_append, List.cons_append, List.nil_append, spansOf]
    by_cases hc : f < x.lo
    · rw [if_pos hc, List.foldl_cons, if_neg (by simp)]
      exact hbody x.lo rfl
    · rw [if_neg hc]
      exact hbody f (by omega)
theorem right_iff (l : List Rg) : rightR l = true ↔ SetOK l := by
  unfold rightR
  rw [eqR_eq]
  constructor
  · intro h
    rw [h]
    unfold normOf thoseOf
    refine setOK_fold (fun n => decide (0 < n)) _ 0 0 [] (by omega) (fun x hx => ?_) ⟨by simp, by simp⟩ (by simp)
    have hm : x ∈ edgesOf [l] := (List.mergeSort_perm _ _).subset hx
    exact (edges_vals l x hm).1.2
  · intro h
    have h1 := norm_any [l] (edgesOf [l]) (List.Perm.refl _) (by simpa [edgesOf] using edges_sorted h)
    rw [← h1]
    have h2 := fold_self l [] 0 h (by omega) (fun x hx => (h.1 x hx).1) (by simp)
    simp only [edgesOf, List.flatMap_cons, List.flatMap_nil, List.append_nil]
    unfold thoseOf
    rw [h2]; rfl
end Go.Proofs.YthclpabmbhpohaaDoor
namespace Go.Proofs.YthclpabmbhpohaaDoor
open Go.RowKit
set_option linter.unusedVariables false
theorem check_ok {R : List Rg → Bool} {p : Pg} (h : checkS R p = 0) : 1 ≤ p.ins.length ∧ p.ins.length ≤ 10000 ∧ Pc p p.start ∧ 2 ≤ p.caps ∧ p.caps ≤ 4002 ∧ p.caps % 2 = 0 ∧ ∀ x ∈ p.ins, rightI R p.ins.length p.caps x = true := by
  unfold checkS at h
  by_cases c1 : (p.ins.length = 0 ∨ 10000 < p.ins.length) ∨ (p.start < 0 ∨ (p.ins.length : Int) ≤ p.start) ∨ (p.caps < 2 ∨ 4002 < p.caps ∨ p.caps % 2 = 1)
  · rw [if_pos c1] at h; cases h
  rw [if_neg c1] at h
  by_cases c2 : p.ins.any (fun x => !rightI R p.ins.length p.caps x) = true
  · rw [if_pos c2] at h; cases h
  refine ⟨by omega, by omega, ⟨by omega, by omega⟩, by omega, by omega, by omega, fun x hx => ?_⟩
  have h9 : p.ins.any (fun x => !rightI R p.ins.length p.caps x) = false := by simpa using c2
  rw [List.any_eq_false] at h9
  simpa using h9 x hx
theorem get_mem {p : Pg} {pc : Int} (h : Pc p pc) : p.get pc ∈ p.ins := by
  obtain ⟨h0, h1⟩ := h
  have hi : pc.toNat < p.ins.length := by omega
  unfold Pg.get
  rw [List.getElem?_eq_getElem hi]
  exact List.getElem_mem hi
theorem here_pc {p : Pg} {pc : Int} (h : hereB p.ins.length pc = true) : Pc p pc := by
  unfold hereB at h
  simp only [Bool.and_eq_true, decide_eq_true_eq] at h
  exact h
/-- What is known of a right instruction. -/
structure GoodI (p : Pg) (x : In) : Prop where
  op : 1 ≤ x.op ∧ x.op ≤ 6
  out : x.op = 2 ∨ x.op = 3 ∨ x.op = 4 ∨ x.op = 5 → Pc p x.out
  arg : x.op = 3 → Pc p x.arg
  cap : x.op = 4 → 2 ≤ x.arg ∧ x.arg < p.caps
  set : x.op = 2 → SetOK x.set ∧ x.set ≠ []
  atv : x.op = 5 → atsB x.at_ = true
theorem good_of {p : Pg} {x : In} (h : rightI rightR p.ins.length p.caps x = true) : GoodI p x := by
  unfold rightI at h
  by_cases c1 : x.op = 1 ∨ x.op = 6
  · exact ⟨by omega, by omega, by omega, by omega, by omega, by omega⟩
  rw [if_neg c1] at h
  by_cases c2 : x.op = 2
  · rw [if_pos c2] at h
    simp only [Bool.and_eq_true, Bool.not_eq_true'] at h
    refine ⟨by omega, fun _ => here_pc h.1.1.1.1, by omega, by omega, fun _ => ⟨(right_iff _).1 h.1.1.2, fun e => ?_⟩, by omega⟩
    rw [e] at h
    exact absurd h.1.1.1.2 (by simp)
  rw [if_neg c2] at h
  by_cases c3 : x.op = 3
  · rw [if_pos c3] at h
    simp only [Bool.and_eq_true] at h
    exact ⟨by omega, fun _ => here_pc h.1.1.1, fun _ => here_pc h.1.1.2, by omega, by omega, by omega⟩
  rw [if_neg c3] at h
  by_cases c4 : x.op = 4
  · rw [if_pos c4] at h
    simp only [Bool.and_eq_true, Bool.not_eq_true', decide_eq_false_iff_not] at h
    exact ⟨by omega, fun _ => here_pc h.1.1.1.1, by omega, fun _ => ⟨by omega, by omega⟩, by omega, by omega⟩
  rw [if_neg c4] at h
  by_cases c5 : x.op = 5
  · rw [if_pos c5] at h
    simp only [Bool.and_eq_true] at h
    exact ⟨by omega, fun _ => here_pc h.1.1.1, by omega, by omega, by omega, fun _ => h.1.1.2⟩
  rw [if_neg c5] at h
  cases h
theorem check_good {p : Pg} (h : checkS rightR p = 0) {pc : Int} (hp : Pc p pc) : GoodI p (p.get pc) := good_of ((check_ok h).2.2.2.2.2.2 _ (get_mem hp))
theorem check_leads {p : Pg} (h : checkS rightR p = 0) : Leads p := fun pc hp => ⟨(check_good h hp).out, (check_good h hp).arg⟩
/-- A list of different instructions is no longer than the program. -/
theorem nodup_len {p : Pg} {l : List Int} (hn : l.Nodup) (hp : ∀ x ∈ l, Pc p x) : l.length ≤ p.ins.length := by
  have h : ∀ (l : List Int), l.Nodup → (∀ x ∈ l, Pc p x) → l.length + leftN p.ins.length l ≤ p.ins.length := by
    intro l
    induction l with
    | nil => intro _ _; rw [leftN_nil]; simp
    | cons x l ih =>
      intro hn hp
      obtain ⟨h1, h2⟩ := List.nodup_cons.1 hn
      have := ih h2 (fun y hy => hp y (by simp [hy]))
      have := leftN_cons (hp x (by simp)) (seen := l) (by simpa using h1)
      rw [List.length_cons]; omega
  have := h l hn hp
  omega
theorem putOuts_nodup (p : Pg) : ∀ (l td : List Int), td.Nodup → (putOuts p l td).Nodup
  | [], td, h => h
  | y :: l, td, h => by
    show (putOuts p l (if td.contains (p.get y).out = true then td else td ++ [(p.get y).out])).Nodup
    refine putOuts_nodup p l _ ?_
    split
    · exact h
    · rename_i hc
      refine List.nodup_append.2 ⟨h, by simp, fun a ha b hb => ?_⟩
      rw [List.mem_singleton.1 hb]
      rintro rfl
      exact hc (by simpa using ha)
theorem putOuts_le (p : Pg) : ∀ (l td : List Int), td.length ≤ (putOuts p l td).length
  | [], td => Nat.le_refl _
  | y :: l, td => by
    show td.length ≤ (putOuts p l (if td.contains (p.get y).out = true then td else td ++ [(p.get y).out])).length
    refine Nat.le_trans ?_ (putOuts_le p l _)
    split <;> simp
theorem putOuts_snoc (p : Pg) (l : List Int) (y : Int) (td : List Int) : putOuts p (l ++ [y]) td = if (putOuts p l td).contains (p.get y).out = true then putOuts p l td else putOuts p l td ++ [(p.get y).out] := by
  unfold putOuts; rw [List.foldl_append]; rfl
/-- What comes of the list that the program's own telling tells. -/
theorem waysW_list (me : List Rg → List Rg → Bool) (un : List Rg → List Rg → List Rg) (p : Pg) (hl : Leads p) : ∀ (n : Nat) (pc : Int) (s : Ow), Pc p pc → (∀ x ∈ s.l, Pc p x ∧ (p.get x).op = 2) → ∀ x ∈ (waysW me un p n pc s).2.l, Pc p x ∧ (p.get x).op = 2
  | 0, _, s, _, h => h
  | n + 1, pc, s, hp, h => by
    have ih := waysW_list me un p hl n
    have hx := hl pc hp
    have h1 : ∀ x ∈ (onW me un p pc s).2.l, Pc p x ∧ (p.get x).op = 2 := by
      unfold onW
      by_cases c0 : s.seen.contains pc = true
      · rw [if_pos c0]; exact h
      rw [if_neg c0]
      by_cases c1 : (p.get pc).op = 1
      · rw [if_pos c1]; exact h
      rw [if_neg c1]
      by_cases c2 : (p.get pc).op = 2
      · rw [if_pos c2]
        split
        · exact h
        · intro x hx
          rcases List.mem_append.1 hx with hx | hx
          · exact h x hx
          · rw [List.mem_singleton.1 hx]; exact ⟨hp, c2⟩
      rw [if_neg c2]; exact h
    rw [waysW_new rfl rfl]
    by_cases c0 : (onW me un p pc s).1 = false
    · rw [if_pos c0]; exact h1
    rw [if_neg c0]
    by_cases c3 : (p.get pc).op = 3
    · rw [if_pos c3]
      have h2 := ih _ _ (hx.1 (by omega)) h1
      split
      · exact h2
      · exact ih _ _ (hx.2 c3) h2
    rw [if_neg c3]
    by_cases c4 : (p.get pc).op = 4 ∨ (p.get pc).op = 5
    · rw [if_pos c4]; exact ih _ _ (hx.1 (by omega)) h1
    rw [if_neg c4]; exact h1
theorem simpleW_list (me : List Rg → List Rg → Bool) (un : List Rg → List Rg → List Rg) (p : Pg) (hl : Leads p) (pc : Int) (hp : Pc p pc) : ∀ x ∈ (simpleW me un p pc).1, Pc p x ∧ (p.get x).op = 2 := waysW_list me un p hl _ pc _ hp (fun x h => by simp at h)
end Go.Proofs.YthclpabmbhpohaaDoor
namespace Go.Proofs.YthclpabmbhpohaaDoor
open Go.RowKit
set_option linter.unusedVariables false
def inR (c : Int) (x : Rg) : Bool := decide (x.lo ≤ c) && decide (c ≤ x.hi)
def hasB (l : List Rg) (c : Int) : Bool := decide (0 ≤ c) && decide (c ≤ 1114111) && l.any (inR c)
theorem rg_at2 {ok : Nat → Prop} {w : World} {A : Option Addr} {xs : List Rg} (h : Arr ok w 2 RgC A xs) (wr : World) (hmv : Below w.heap.size w wr) (i : Nat) (hi : i < xs.length) :
    ∃ ad, A = some ad ∧ wr.cell? (ad.add (i * 2)) = some (.int .i32 xs[i].lo) ∧ wr.cell? ⟨(ad.add (i * 2)).block, (ad.add (i * 2)).off + 1, none⟩ = some (.int .i32 xs[i].hi) := by
  obtain ⟨ad, cs, rfl, hok, hE, hl, hc0⟩ := h i _ (List.getElem?_eq_getElem hi)
  have hb : ad.block < w.heap.size := by
    have := World.block_lt_of_cell? w _ (hc0 0 _ (List.getElem?_eq_getElem (by omega)))
    rwa [add_block] at this
  obtain rfl : cs = [.int .i32 xs[i].lo, .int .i32 xs[i].hi] := hE
  have hc : ∀ j u, [Value.int .i32 xs[i].lo, .int .i32 xs[i].hi][j]? = some u → wr.cell? (ad.add (i * 2 + j)) = some u := fun j u hu => by
    rw [← hc0 j u hu]; exact World.cell?_of_block (by rw [add_block]; exact hmv.block _ hb)
  exact ⟨ad, rfl, hc 0 _ rfl, by rw [← add_field _ _ 1 (by omega)]; exact hc 1 _ rfl⟩
set_option maxRecDepth 100000 in
theorem has1_any (w : World) (b0 : Nat) (c : Int) (x : Rg) (hb : w.cell? ⟨b0, 0, none⟩ = some (.int .i32 c)) :
    Calls Tryd.prog 69 #[.agg #[.int .i32 x.lo, .int .i32 x.hi], .pointer (some ⟨b0, 0, none⟩)] w fun e w' => e = .returned (.bool (inR c x)) ∧ Below w.heap.size w w' := by
  go_enter Tryd.func69, Tryd.ntmps69
  have h1 := heap_new1 w (.cells #[.int .i32 x.lo, .int .i32 x.hi] 66)
  have h2 := below_al (Below.refl w.heap.size w) (.cells #[.int .i32 x.lo, .int .i32 x.hi] 66)
  have h3 := (h2.block b0 (World.block_lt_of_cell? w _ hb))
  have h4 : (w.alloc (.cells #[.int .i32 x.lo, .int .i32 x.hi] 66)).cell? ⟨b0, 0, none⟩ = some (.int .i32 c) := by rw [← hb]; exact World.cell?_of_block h3
  go_wp2_with fail
  all_goals
    go_ret
    refine ⟨ret_bool ?_, h2⟩
    unfold inR
    simp_all <;> omega
set_option maxRecDepth 100000 in
set_option maxHeartbeats 1000000 in
theorem index_has (ok : Nat → Prop) (w : World) (b0 : Nat) (c : Int) (l : List Rg) (A : Option Addr) (d : Nat) (hb : w.cell? ⟨b0, 0, none⟩ = some (.int .i32 c)) (h6 : Arr ok w 2 RgC A l) (hN : l.length ≤ 140737488351232) :
    Calls Tryd.prog 85 #[.slice A l.length d, .func (.func 69) #[] #[.pointer (some ⟨b0, 0, none⟩)]] w fun e w' => (∃ r : Int, e = .returned (.int .i64 r) ∧ decide (0 ≤ r) = l.any (inR c)) ∧ Below w.heap.size w w' := by
  have HE := Lib.hid (And.intro h6 hb)
  have hb0 := World.block_lt_of_cell? w _ hb
  clear h6 hb
  go_enter Tryd.func85, Tryd.ntmps85
  go_wp2_with fail
  go_loopw [8] (fun s8 wr => ∃ j : Nat, s8 = .int .i64 j ∧ j ≤ l.length ∧ Hid ((l.take j).any (inR c) = false) ∧ Below w.heap.size w wr) (fun s8 _ => l.length - (intOf s8).toNat)
  case atStart => exact ⟨0, rfl, Nat.zero_le _, Lib.hid (by simp), by repeat (first | exact Below.refl _ _ | apply below_al)⟩
  case round =>
    obtain ⟨j, rfl, hj, HJ, hB⟩ := hrel
    by_cases hlt : j < l.length
    · obtain ⟨ad, rfl, k0, k1⟩ := rg_at2 HE.out.1 wr hB j hlt
      have hcall := has1_any wr b0 c l[j] ((World.cell?_of_block (hB.block _ hb0)).trans HE.out.2)
      have hnx : (l.take (j + 1)).any (inR c) = inR c l[j] := by
        rw [List.take_succ_eq_append_getElem hlt, List.any_append, HJ.out]; simp
      have hmem := List.getElem_mem hlt
      generalize l[j] = x at *
      cases hq : inR c x with
      | true =>
        rw [hq] at hcall
        have HQ := Lib.hid (And.intro hq (And.intro hB hmem))
        clear hq hB hnx
        go_wp2_with (go_at_call 69; refine hcall.mono ?_; clear hcall; rintro e w1 ⟨rfl, hb1⟩)
        go_ret
        refine ⟨⟨j, rfl, ?_⟩, below_and hb1 HQ.out.2.1⟩
        rw [List.any_eq_true.2 ⟨x, HQ.out.2.2, HQ.out.1⟩]
        simp
      | false =>
        rw [hq] at hcall hnx
        have HQ := Lib.hid (And.intro hnx hB)
        clear hq hB hnx
        go_wp2_with (go_at_call 69; refine hcall.mono ?_; clear hcall; rintro e w1 ⟨rfl, hb1⟩)
        go_roundw
        case rel => exact ⟨j + 1, by go_num, by omega, Lib.hid HQ.out.1, below_and hb1 HQ.out.2⟩
        case measure => simp [intOf]; omega
    · obtain rfl : j = l.length := by omega
      go_wp2_with fail
      go_ret
      refine ⟨⟨-1, rfl, ?_⟩, hB⟩
      have := HJ.out
      rw [List.take_length] at this
      rw [this]; rfl
set_option maxRecDepth 100000 in
set_option maxHeartbeats 1000000 in
theorem contains_has (ok : Nat → Prop) (w : World) (b0 : Nat) (c : Int) (l : List Rg) (A : Option Addr) (d : Nat) (hb : w.cell? ⟨b0, 0, none⟩ = some (.int .i32 c)) (h6 : Arr ok w 2 RgC A l) (hN : l.length ≤ 140737488351232) :
    Calls Tryd.prog 68 #[.slice A l.length d, .func (.func 69) #[] #[.pointer (some ⟨b0, 0, none⟩)]] w fun e w' => e = .returned (.bool (l.any (inR c))) ∧ Below w.heap.size w w' := by
  have hi := index_has ok w b0 c l A d hb h6 hN
  clear h6 hb
  generalize l.any (inR c) = rr at *
  go_enter Tryd.func68, Tryd.ntmps68
  go_wp2_with (go_at_call 85; refine hi.mono ?_; clear hi; rintro e w1 ⟨⟨r, rfl, hr⟩, hb1⟩)
  go_ret
  exact ⟨by rw [← hr]; rfl, hb1⟩
set_option maxRecDepth 100000 in
set_option maxHeartbeats 1000000 in
theorem has_any (ok : Nat → Prop) (w : World) (c : Int) (l : List Rg) (A : Option Addr) (d : Nat) (h6 : Arr ok w 2 RgC A l) (hN : l.length ≤ 140737488351232) :
    Calls Tryd.prog 48 #[.slice A l.length d, .int .i32 c] w fun e w' => e = .returned (.bool (hasB l c)) ∧ Below w.heap.size w w' := by
  have h1 := heap_new1 w (.cells #[.int .i32 c] 21)
  have h2 := below_al (Below.refl w.heap.size w) (.cells #[.int .i32 c] 21)
  have h4 : (w.alloc (.cells #[.int .i32 c] 21)).cell? ⟨w.heap.size, 0, none⟩ = some (.int .i32 c) := by rw [cell_of_blk h1]; rfl
  have hc := contains_has ok _ w.heap.size c l A d h4 ((h6.move (fun b hb hlt => ⟨h2.block b hlt, hb⟩) (by omega))) hN
  have HS := Lib.hid (show hasB l c = (decide (0 ≤ c) && decide (c ≤ 1114111) && l.any (inR c)) from rfl)
  generalize hasB l c = res at *
  generalize l.any (inR c) = rr at *
  have H2 := Lib.hid h2
  clear h1 h2 h6
  by_cases hr : 0 ≤ c ∧ c ≤ 1114111
  · obtain ⟨ha, hb⟩ := hr
    go_enter Tryd.func48, Tryd.ntmps48
    go_wp2_with (go_at_call 68; refine hc.mono ?_; clear hc; rintro e w1 ⟨rfl, hb1⟩; have HB := Lib.hid (below_and hb1 H2.out); clear hb1)
    all_goals
      go_ret
      refine ⟨ret_bool ?_, HB.out⟩
      rw [HS.out]
      simp_all
  · go_enter Tryd.func48, Tryd.ntmps48
    go_wp2_with fail
    all_goals
      go_ret
      refine ⟨ret_bool ?_, H2.out⟩
      rw [HS.out]
      simp_all <;> omega
end Go.Proofs.YthclpabmbhpohaaDoor
namespace Go.Proofs.YthclpabmbhpohaaDoor
open Go.RowKit
set_option linter.unusedVariables false
/-- Steps; the best match; where the rune leads, with its fit; is it over? -/
structure Rn where
  steps : Int
  best : Option (List Int)
  next : Int
  nf : List Int
  stop : Bool
def hitB (v a : Int) : Bool := (bits .and .i64 v a != 0)
section
variable (p : Pg) (rn av : Int → Int) (lg : Bool)
def walkS : Nat → Int → Int → List Int → Rn → Rn
  | 0, _, _, _, s => s
  | n + 1, pc, pl, fit, s =>
    if s.stop = true then ⟨s.steps + 1, s.best, s.next, s.nf, s.stop⟩ else
    if (p.get pc).op = 1 then ⟨s.steps + 1, some (fit.set 1 pl), s.next, s.nf, !lg⟩ else
    if (p.get pc).op = 2 then (if hasB (p.get pc).set (rn pl) = true then ⟨s.steps + 1, s.best, (p.get pc).out, fit, s.stop⟩ else ⟨s.steps + 1, s.best, s.next, s.nf, s.stop⟩) else
    if (p.get pc).op = 3 then walkS n (p.get pc).arg pl fit (walkS n (p.get pc).out pl fit ⟨s.steps + 1, s.best, s.next, s.nf, s.stop⟩) else
    if (p.get pc).op = 4 then walkS n (p.get pc).out pl (fit.set (p.get pc).arg.toNat pl) ⟨s.steps + 1 + fit.length, s.best, s.next, s.nf, s.stop⟩ else
    if (p.get pc).op = 5 then (if hitB (av pl) (p.get pc).at_ = true then walkS n (p.get pc).out pl fit ⟨s.steps + 1, s.best, s.next, s.nf, s.stop⟩ else ⟨s.steps + 1, s.best, s.next, s.nf, s.stop⟩) else
    ⟨s.steps + 1, s.best, s.next, s.nf, s.stop⟩
variable {p rn av lg}
theorem walkS_new {n : Nat} {pc pl : Int} {fit : List Int} {s : Rn} {x : In} (hs : s.stop = false) (hx : p.get pc = x) : walkS p rn av lg (n + 1) pc pl fit s =
    if x.op = 1 then ⟨s.steps + 1, some (fit.set 1 pl), s.next, s.nf, !lg⟩ else
    if x.op = 2 then (if hasB x.set (rn pl) = true then ⟨s.steps + 1, s.best, x.out, fit, s.stop⟩ else ⟨s.steps + 1, s.best, s.next, s.nf, s.stop⟩) else
    if x.op = 3 then walkS p rn av lg n x.arg pl fit (walkS p rn av lg n x.out pl fit ⟨s.steps + 1, s.best, s.next, s.nf, s.stop⟩) else
    if x.op = 4 then walkS p rn av lg n x.out pl (fit.set x.arg.toNat pl) ⟨s.steps + 1 + fit.length, s.best, s.next, s.nf, s.stop⟩ else
    if x.op = 5 then (if hitB (av pl) x.at_ = true then walkS p rn av lg n x.out pl fit ⟨s.steps + 1, s.best, s.next, s.nf, s.stop⟩ else ⟨s.steps + 1, s.best, s.next, s.nf, s.stop⟩) else
    ⟨s.steps + 1, s.best, s.next, s.nf, s.stop⟩ := by
  subst hx; rw [walkS, if_neg (by rw [hs]; simp)]
end
section
variable {me : List Rg → List Rg → Bool} {un : List Rg → List Rg → List Rg} {p : Pg}
theorem ways_on {n : Nat} {pc : Int} {s : Ow} (h : (waysW me un p (n + 1) pc s).1 = true) : (onW me un p pc s).1 = true := by
  rw [waysW_new rfl rfl] at h
  by_cases c : (onW me un p pc s).1 = false
  · rw [if_pos c] at h; cases h
  · simpa using c
theorem ways_alt {n : Nat} {pc : Int} {s : Ow} {x : In} (h : (waysW me un p (n + 1) pc s).1 = true) (hx : p.get pc = x) (ho : x.op = 3) :
    (waysW me un p n x.out (onW me un p pc s).2).1 = true ∧ (waysW me un p n x.arg (waysW me un p n x.out (onW me un p pc s).2).2).1 = true ∧ (waysW me un p (n + 1) pc s).2 = (waysW me un p n x.arg (waysW me un p n x.out (onW me un p pc s).2).2).2 := by
  have h1 := ways_on h
  have e := waysW_new (me := me) (un := un) (n := n) (s := s) (pc := pc) (p := p) rfl hx
  rw [if_neg (by rw [h1]; simp), if_pos ho] at e
  rw [e] at h ⊢
  by_cases c : (waysW me un p n x.out (onW me un p pc s).2).1 = false
  · rw [if_pos c] at h; cases h
  · rw [if_neg c] at h ⊢
    exact ⟨by simpa using c, h, rfl⟩
theorem ways_one {n : Nat} {pc : Int} {s : Ow} {x : In} (h : (waysW me un p (n + 1) pc s).1 = true) (hx : p.get pc = x) (ho : x.op = 4 ∨ x.op = 5) :
    (waysW me un p n x.out (onW me un p pc s).2).1 = true ∧ (waysW me un p (n + 1) pc s).2 = (waysW me un p n x.out (onW me un p pc s).2).2 := by
  have h1 := ways_on h
  have e := waysW_new (me := me) (un := un) (n := n) (s := s) (pc := pc) (p := p) rfl hx
  rw [if_neg (by rw [h1]; simp), if_neg (by omega), if_pos ho] at e
  rw [e] at h ⊢
  exact ⟨h, rfl⟩
theorem ways_none {n : Nat} {pc : Int} {s : Ow} {x : In} (h : (waysW me un p (n + 1) pc s).1 = true) (hx : p.get pc = x) (ho : x.op ≠ 3 ∧ x.op ≠ 4 ∧ x.op ≠ 5) : (waysW me un p (n + 1) pc s).2 = (onW me un p pc s).2 := by
  have h1 := ways_on h
  have e := waysW_new (me := me) (un := un) (n := n) (s := s) (pc := pc) (p := p) rfl hx
  rw [if_neg (by rw [h1]; simp), if_neg ho.1, if_neg (by omega)] at e
  rw [e]
/-- Steps, and what may still come. -/
def potR (p : Pg) (K : Nat) (s0 : Ow) (s : Rn) : Int := s.steps + ((leftN p.ins.length s0.seen * K : Nat) : Int)
theorem pot_mul {a b K : Nat} (h : a + 1 ≤ b) : a * K + K ≤ b * K := by
  have := Nat.mul_le_mul_right K h
  rwa [Nat.add_mul, Nat.one_mul] at this
theorem pot_mul0 {a b : Nat} (K : Nat) (h : a ≤ b) : a * K ≤ b * K := Nat.mul_le_mul_right K h
theorem walkS_pot (rn av : Int → Int) (lg : Bool) (hl : Leads p) (K : Nat) : ∀ (n : Nat) (pc pl : Int) (fit : List Int) (s : Rn) (s0 : Ow), Pc p pc → (waysW me un p n pc s0).1 = true → 1 + fit.length ≤ K →
    s.steps ≤ (walkS p rn av lg n pc pl fit s).steps ∧ potR p K (waysW me un p n pc s0).2 (walkS p rn av lg n pc pl fit s) ≤ potR p K s0 s := by
  intro n
  induction n with
  | zero => intro pc pl fit s s0 _ h; simp [waysW] at h
  | succ n ih =>
    intro pc pl fit s s0 hp h hK
    have hx := hl pc hp
    have h1 := ways_on h
    have hle := pot_mul (K := K) (onW_left hp h1)
    have hws := pot_mul0 K (leftN_sub (N := p.ins.length) (fun x hx => waysW_seen me un p hl (n + 1) pc s0 hp x hx))
    have hfin : (waysW me un p (n + 1) pc s0).2.seen.length = (waysW me un p (n + 1) pc s0).2.seen.length := rfl
    have hdone : leftN p.ins.length (waysW me un p (n + 1) pc s0).2.seen * K + K ≤ leftN p.ins.length s0.seen * K := by
      refine Nat.le_trans (Nat.add_le_add_right (pot_mul0 K (leftN_sub (N := p.ins.length) ?_)) K) hle
      intro x hxs
      rw [waysW_new rfl rfl, if_neg (by rw [h1]; simp)]
      by_cases c3 : (p.get pc).op = 3
      · rw [if_pos c3]
        have h2 := waysW_seen me un p hl n _ _ (hx.1 (by omega)) x hxs
        split
        · exact h2
        · exact waysW_seen me un p hl n _ _ (hx.2 c3) x h2
      rw [if_neg c3]
      by_cases c4 : (p.get pc).op = 4 ∨ (p.get pc).op = 5
      · rw [if_pos c4]; exact waysW_seen me un p hl n _ _ (hx.1 (by omega)) x hxs
      rw [if_neg c4]; exact hxs
    unfold potR at ih ⊢
    by_cases c0 : s.stop = true
    · rw [walkS, if_pos c0]; dsimp only; omega
    have hr := walkS_new (p := p) (rn := rn) (av := av) (lg := lg) (n := n) (pc := pc) (pl := pl) (fit := fit) (s := s) (by simpa using c0) rfl
    rw [hr]
    by_cases c1 : (p.get pc).op = 1
    · rw [if_pos c1]; dsimp only; omega
    rw [if_neg c1]
    by_cases c2 : (p.get pc).op = 2
    · rw [if_pos c2]; split <;> dsimp only <;> omega
    rw [if_neg c2]
    by_cases c3 : (p.get pc).op = 3
    · rw [if_pos c3]
      obtain ⟨a1, a2, a3⟩ := ways_alt h rfl c3
      rw [a3]
      have i1 := ih (p.get pc).out pl fit ⟨s.steps + 1, s.best, s.next, s.nf, s.stop⟩ _ (hx.1 (by omega)) a1 hK
      have i2 := ih (p.get pc).arg pl fit (walkS p rn av lg n (p.get pc).out pl fit ⟨s.steps + 1, s.best, s.next, s.nf, s.stop⟩) _ (hx.2 c3) a2 hK
      dsimp only at i1 i2
      omega
    rw [if_neg c3]
    by_cases c4 : (p.get pc).op = 4
    · rw [if_pos c4]
      obtain ⟨a1, a3⟩ := ways_one h rfl (.inl c4)
      rw [a3]
      have i1 := ih (p.get pc).out pl (fit.set (p.get pc).arg.toNat pl) ⟨s.steps + 1 + fit.length, s.best, s.next, s.nf, s.stop⟩ _ (hx.1 (by omega)) a1 (by rw [List.length_set]; exact hK)
      dsimp only at i1
      omega
    rw [if_neg c4]
    by_cases c5 : (p.get pc).op = 5
    · rw [if_pos c5]
      split
      · obtain ⟨a1, a3⟩ := ways_one h rfl (.inr c5)
        rw [a3]
        have i1 := ih (p.get pc).out pl fit ⟨s.steps + 1, s.best, s.next, s.nf, s.stop⟩ _ (hx.1 (by omega)) a1 hK
        dsimp only at i1
        omega
      · dsimp only; omega
    rw [if_neg c5]; dsimp only; omega
end
end Go.Proofs.YthclpabmbhpohaaDoor
namespace Go.Proofs.YthclpabmbhpohaaDoor
open Go.RowKit
set_option linter.unusedVariables false
section
variable (p : Pg) (rn av : Int → Int) (to : Int) (lg : Bool)
/-- What follows an instruction at a place. -/
def nextsP (q : Int × Int) : List (Int × Int) :=
  if (p.get q.1).op = 2 then (if hasB (p.get q.1).set (rn q.2) = true ∧ q.2 + 1 ≤ to then [((p.get q.1).out, q.2 + 1)] else []) else
  if (p.get q.1).op = 3 then [((p.get q.1).out, q.2), ((p.get q.1).arg, q.2)] else
  if (p.get q.1).op = 4 then [((p.get q.1).out, q.2)] else
  if (p.get q.1).op = 5 then (if hitB (av q.2) (p.get q.1).at_ = true then [((p.get q.1).out, q.2)] else []) else []
def updP (q : Int × Int) (c : List Int) : List Int := if (p.get q.1).op = 4 then c.set (p.get q.1).arg.toNat q.2 else c
def grP : Gr (Int × Int) where
  nexts := nextsP p rn av to
  mat q := (p.get q.1).op == 1
  pl q := q.2
  upd := updP p
  longest := lg
/-- All instructions at all places. -/
def allP (M : Nat) : List (Int × Int) := (List.range M).flatMap fun (j : Nat) => (List.range p.ins.length).map fun (i : Nat) => ((i : Int), (j : Int))
end
theorem allP_iff {p : Pg} {M : Nat} {q : Int × Int} : q ∈ allP p M ↔ Pc p q.1 ∧ 0 ≤ q.2 ∧ q.2 < M := by
  unfold allP
  simp only [List.mem_flatMap, List.mem_range, List.mem_map]
  constructor
  · rintro ⟨j, hj, i, hi, rfl⟩
    exact ⟨⟨by simp, by simpa using hi⟩, by simp, by simpa using hj⟩
  · rintro ⟨⟨h1, h2⟩, h3, h4⟩
    obtain ⟨a, b⟩ := q
    dsimp only at *
    exact ⟨b.toNat, by omega, a.toNat, by omega, by rw [Int.toNat_of_nonneg h1, Int.toNat_of_nonneg h3]⟩
theorem allP_len (p : Pg) (M : Nat) : (allP p M).length = M * p.ins.length := by
  unfold allP
  rw [List.length_flatMap]
  simp only [List.length_map, List.length_range]
  generalize p.ins.length = k
  induction M with
  | zero => simp
  | succ m ih => rw [List.range_succ, List.map_append, List.sum_append, ih, Nat.add_mul]; simp
theorem left_len {Q : Type} [DecidableEq Q] (U : List Q) (s : Wk Q) : left U s ≤ U.length := by
  unfold left; exact List.length_filter_le _ _
theorem within_P {p : Pg} (hl : Leads p) (rn av : Int → Int) {to : Int} (lg : Bool) {M : Nat} (hM : to < M) : Within (grP p rn av to lg) (allP p M) := by
  intro q hq r hr
  rw [allP_iff] at hq ⊢
  have h := hl q.1 hq.1
  have hr' : r ∈ nextsP p rn av to q := hr
  unfold nextsP at hr'
  by_cases c2 : (p.get q.1).op = 2
  · rw [if_pos c2] at hr'
    split at hr'
    · rename_i hh
      rw [List.mem_singleton.1 hr']
      exact ⟨h.1 (by omega), by dsimp only; omega, by dsimp only; omega⟩
    · cases hr'
  rw [if_neg c2] at hr'
  by_cases c3 : (p.get q.1).op = 3
  · rw [if_pos c3] at hr'
    rcases List.mem_cons.1 hr' with rfl | hr'
    · exact ⟨h.1 (by omega), hq.2⟩
    · rw [List.mem_singleton.1 hr']; exact ⟨h.2 c3, hq.2⟩
  rw [if_neg c3] at hr'
  by_cases c4 : (p.get q.1).op = 4
  · rw [if_pos c4] at hr'
    rw [List.mem_singleton.1 hr']; exact ⟨h.1 (by omega), hq.2⟩
  rw [if_neg c4] at hr'
  by_cases c5 : (p.get q.1).op = 5
  · rw [if_pos c5] at hr'
    split at hr'
    · rw [List.mem_singleton.1 hr']; exact ⟨h.1 (by omega), hq.2⟩
    · cases hr'
  rw [if_neg c5] at hr'; cases hr'
section
variable {p : Pg} {rn av : Int → Int} {to : Int} {lg : Bool} {n : Nat} {q : Int × Int} {c : List Int} {S : Wk (Int × Int)}
end
/-- The walk from a place. -/
def emptyW : Wk (Int × Int) := ⟨fun _ => false, none⟩
def fitP (p : Pg) (at_ : Int) : List Int := (List.replicate p.caps.toNat (-1)).set 0 at_
/-- martelloref12.Run in plain words; M places. -/
def runW (p : Pg) (rn av : Int → Int) (to : Int) (lg : Bool) (M : Nat) (at_ : Int) : Option (List Int) :=
  if to < at_ then none else (come (grP p rn av to lg) (M * p.ins.length + 1) (p.start, at_) (fitP p at_) emptyW).best
end Go.Proofs.YthclpabmbhpohaaDoor
namespace Go.Proofs.YthclpabmbhpohaaDoor
open Go.RowKit
set_option linter.unusedVariables false
section
variable (p : Pg) (rn av : Int → Int) (lg : Bool) (M : Nat)
/-- The walk's graph over M places. -/
def gB : Gr (Int × Int) := grP p rn av ((M : Int) - 1) lg
def tryW (a : Int) (S : Wk (Int × Int)) : Wk (Int × Int) := come (gB p rn av lg M) (M * p.ins.length + 1) (p.start, a) (fitP p a) S
def triesW : Nat → Int → Wk (Int × Int) → Wk (Int × Int)
  | 0, _, S => S
  | k + 1, a, S => if S.best.isSome = true then S else triesW k (a + 1) (tryW p rn av lg M a S)
def runB (a : Int) : Option (List Int) := (tryW p rn av lg M a emptyW).best
def firstB : Nat → Int → Option (List Int)
  | 0, _ => none
  | k + 1, a => (runB p rn av lg M a).or (firstB k (a + 1))
/-- What is found. -/
def findB (fr : Int) (anch : Bool) : Option (List Int) :=
  if anch = true then (if fr < 0 ∨ (M : Int) - 1 < fr then none else runB p rn av lg M fr) else firstB p rn av lg M ((M : Int) - max fr 0).toNat (max fr 0)
end
section
variable {p : Pg} {rn av : Int → Int} {lg : Bool} {M : Nat}
theorem tries_some {S : Wk (Int × Int)} (h : S.best.isSome = true) : ∀ (k : Nat) (a : Int), triesW p rn av lg M k a S = S
  | 0, _ => rfl
  | k + 1, a => by rw [triesW, if_pos h]
theorem within_B (hl : Leads p) : Within (gB p rn av lg M) (allP p M) := within_P hl rn av lg (by omega)
theorem left_B (S : Wk (Int × Int)) : left (allP p M) S < M * p.ins.length + 1 := by have := left_len (allP p M) S; rw [allP_len] at this; omega
theorem start_B (hs : Pc p p.start) {a : Int} (h0 : 0 ≤ a) (h1 : a < M) : (p.start, a) ∈ allP p M := allP_iff.2 ⟨hs, h0, h1⟩
theorem dead_empty (g : Gr (Int × Int)) : Dead g emptyW.seen := fun q h => by cases h
/-- What is dead may be seen: the best is the same. -/
theorem try_run (hl : Leads p) (hs : Pc p p.start) {a : Int} (h0 : 0 ≤ a) (h1 : a < M) {S : Wk (Int × Int)} (hb : S.best = none) (hd : Dead (gB p rn av lg M) S.seen) : (tryW p rn av lg M a S).best = runB p rn av lg M a := by
  have h := come_alike (gB p rn av lg M) (allP p M) (within_B hl) hd (M * p.ins.length + 1) (p.start, a) (fitP p a) emptyW S (start_B hs h0 h1) (left_B _)
    ⟨by rw [hb]; rfl, fun r hr => by rw [hr]; rfl, fun r hr => hr⟩
  exact h.best.symm
theorem tries_first (hl : Leads p) (hs : Pc p p.start) : ∀ (k : Nat) (a : Int) (S : Wk (Int × Int)), 0 ≤ a → a + k ≤ M → S.best = none → Dead (gB p rn av lg M) S.seen → (triesW p rn av lg M k a S).best = firstB p rn av lg M k a
  | 0, a, S, _, _, hb, _ => hb
  | k + 1, a, S, h0, h1, hb, hd => by
    have ht := try_run hl hs h0 (by omega) hb hd
    rw [triesW, if_neg (by rw [hb]; simp), firstB]
    cases hr : runB p rn av lg M a with
    | some b =>
      rw [hr] at ht
      rw [tries_some (by rw [ht]; rfl), ht]; rfl
    | none =>
      rw [hr] at ht
      have hdd := come_dead (gB p rn av lg M) (allP p M) (within_B hl) (c := fitP p a) (start_B hs h0 (by omega)) (left_B S) hd ht
      rw [tries_first hl hs k (a + 1) _ (by omega) (by omega) ht hdd.1]; rfl
theorem first_spec : ∀ (k : Nat) (a : Int) (b : List Int), firstB p rn av lg M k a = some b → ∃ i : Nat, i < k ∧ runB p rn av lg M (a + i) = some b ∧ ∀ j : Nat, j < i → runB p rn av lg M (a + j) = none
  | 0, a, b, h => by cases h
  | k + 1, a, b, h => by
    rw [firstB] at h
    cases hr : runB p rn av lg M a with
    | some b' =>
      rw [hr] at h
      exact ⟨0, by omega, by simp only [Int.natCast_zero, Int.add_zero]; rw [hr]; exact h, fun j hj => by omega⟩
    | none =>
      rw [hr] at h
      obtain ⟨i, h1, h2, h3⟩ := first_spec k (a + 1) b h
      refine ⟨i + 1, by omega, by rw [show a + ((i + 1 : Nat) : Int) = a + 1 + i by omega]; exact h2, fun j hj => ?_⟩
      cases j with
      | zero => simp only [Int.natCast_zero, Int.add_zero]; exact hr
      | succ j => rw [show a + ((j + 1 : Nat) : Int) = a + 1 + j by omega]; exact h3 j (by omega)
structure FitOK (p : Pg) (a : Int) (M : Nat) (b : List Int) : Prop where
  len : (b.length : Int) = p.caps
  fst : b.getD 0 0 = a
  lo : a ≤ b.getD 1 0
  hi : b.getD 1 0 ≤ (M : Int) - 1
structure OnB (p : Pg) (M : Nat) (a : Int) (q : Int × Int) (c : List Int) : Prop where
  mem : q ∈ allP p M
  len : (c.length : Int) = p.caps
  fst : c.getD 0 0 = a
  lo : a ≤ q.2
theorem nexts_lo {q r : Int × Int} {to : Int} (h : r ∈ nextsP p rn av to q) : q.2 ≤ r.2 := by
  unfold nextsP at h
  split at h
  · split at h
    · rw [List.mem_singleton.1 h]; dsimp only; omega
    · cases h
  split at h
  · rcases List.mem_cons.1 h with rfl | h
    · exact Int.le_refl _
    · rw [List.mem_singleton.1 h]; exact Int.le_refl _
  split at h
  · rw [List.mem_singleton.1 h]; exact Int.le_refl _
  split at h
  · split at h
    · rw [List.mem_singleton.1 h]; exact Int.le_refl _
    · cases h
  · cases h
theorem fitP_len (p : Pg) (hc : 2 ≤ p.caps) (a : Int) : ((fitP p a).length : Int) = p.caps := by unfold fitP; rw [List.length_set, List.length_replicate]; omega
theorem fitP_fst (p : Pg) (hc : 2 ≤ p.caps) (a : Int) : (fitP p a).getD 0 0 = a := by
  unfold fitP; rw [List.getD_eq_getElem?_getD, List.getElem?_set_self (by rw [List.length_replicate]; omega)]; rfl
theorem set_fst {l : List Int} {i : Nat} (h : 1 ≤ i) (x : Int) : (l.set i x).getD 0 0 = l.getD 0 0 := by
  rw [List.getD_eq_getElem?_getD, List.getD_eq_getElem?_getD, List.getElem?_set_ne (by omega)]
theorem set_snd {l : List Int} (h : 2 ≤ l.length) (x : Int) : (l.set 1 x).getD 1 0 = x := by
  rw [List.getD_eq_getElem?_getD, List.getElem?_set_self (by omega)]; rfl
theorem onB_step (hck : checkS rightR p = 0) {a : Int} (q : Int × Int) (c : List Int) (h : OnB p M a q c) (r : Int × Int) (hr : r ∈ (gB p rn av lg M).nexts q) : OnB p M a r ((gB p rn av lg M).upd q c) := by
  have hl := check_leads hck
  have hg := check_good hck (allP_iff.1 h.mem).1
  have hr' : r ∈ nextsP p rn av ((M : Int) - 1) q := hr
  refine ⟨within_B hl q h.mem r hr, ?_, ?_, Int.le_trans h.lo (nexts_lo hr')⟩
  · show ((updP p q c).length : Int) = _
    unfold updP
    split
    · rw [List.length_set]; exact h.len
    · exact h.len
  · show (updP p q c).getD 0 0 = _
    unfold updP
    split
    · rename_i h4
      have h5 := hg.cap h4
      rw [set_fst (by omega)]; exact h.fst
    · exact h.fst
theorem run_fit (hck : checkS rightR p = 0) {a : Int} (h0 : 0 ≤ a) (h1 : a < M) {b : List Int} (h : runB p rn av lg M a = some b) : FitOK p a M b ∧ ∃ r, Reach (gB p rn av lg M) (p.start, a) r ∧ (gB p rn av lg M).mat r = true ∧ b.getD 1 0 = r.2 := by
  have hk := check_ok hck
  obtain ⟨r, d, k1, k2, k3, rfl⟩ := come_best (gB p rn av lg M) (OnB p M a) (fun q c hq _ r hr => onB_step hck q c hq r hr) (n := M * p.ins.length + 1) (q := (p.start, a)) (c := fitP p a) (s := emptyW) rfl
    ⟨start_B hk.2.2.1 h0 h1, fitP_len p hk.2.2.2.1 a, fitP_fst p hk.2.2.2.1 a, Int.le_refl _⟩ b h
  have hd : 2 ≤ d.length := by have := k3.len; have := hk.2.2.2.1; omega
  have hpl : (gB p rn av lg M).pl r = r.2 := rfl
  refine ⟨⟨by rw [List.length_set]; exact k3.len, by rw [set_fst (by omega)]; exact k3.fst, ?_, ?_⟩, r, k1, k2, by rw [set_snd hd, hpl]⟩
  · rw [set_snd hd, hpl]; exact k3.lo
  · rw [set_snd hd, hpl]; have := (allP_iff.1 k3.mem).2.2; omega
end
end Go.Proofs.YthclpabmbhpohaaDoor
