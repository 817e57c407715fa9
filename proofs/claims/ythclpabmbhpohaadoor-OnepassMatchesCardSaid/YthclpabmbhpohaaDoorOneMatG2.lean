/-
  slices.Clone at each element type: a list of one's own, with the same elements. No condition but on the size.
  Words of this seat's own: a struct stored, loaded, copied as a whole; math/bits.Mul. No condition.
  Words of this seat's own: a region that draws its order, whose loads are taken first and whose other operations wait for one another; a struct stored into a list of one's own. No condition.
  Words of this seat's own: a region that draws its order, by a script: operations that yield are taken early, the others come one by one; guards too. No condition.
  martelloref15.from: all ways from an instruction, as the document tells it. No condition but that the program is right.
  The order of a list's edges: slices.SortFunc by the shelf's contract, its comparison by a walk. No condition.
  sets.edges: where the ranges of lists begin and end, in order. No condition but a bound on the lists.
  Words of this seat's own for ranges over functions. No condition.
  The stretches between edges, in plain words; the order among edges at one place does not matter. No condition. sets.spans: what is handed on. No condition.
  A region without a deferral, inside a round of a range over a function: it may be walked as outside. No condition.
  sets.those: the set of the stretches whose number is right. No condition.
-/
import Derived.Test.YthclpabmbhpohaaDoorOneMatG1
import Derived.Test.YthclpabmbhpohaaDoorProg
import Derived.Deep.MidRow
import Derived.Laws.CopyOwn
import Derived.Deep.RegionLaw
import Derived.Shelf.Bits.Mul64
import Derived.OrdersHeld
import Derived.Maps.AppendAt
import Derived.Shelf.SlSortCmp.WholeK
import Derived.Lib.Hide
import Derived.Lib.OwnBridge
import Derived.Lib.AppendIntMem
import Derived.Shelf.SlSortCmp.NoneTotal
import Derived.WalkKit
import Derived.Deep.LoopGhost
import Derived.Deep.QuietTactic
import Derived.BigQuiet
import Derived.RangeFuncNested
import Derived.RangeFuncBound
import Derived.RangeFuncCalls
import Derived.RangeFuncLeaves
import Derived.Shelf.Abstract
import Derived.Shelf.RegionOpen
import Derived.OwnWalkIn
import Derived.TacticsInMore
import Derived.LoopNIn
import Derived.LoopIn
import Derived.RangeFuncBox
import Derived.OrdersIn
import Derived.Sort.QuietIn
import Derived.StillTail
import Derived.StillTactics
import Derived.Deep.RegionHeld3
import Derived.Lib.OwnKind
import Derived.Lib.SmallJoins
namespace Go.Proofs.YthclpabmbhpohaaDoor
open Go.RowKit
set_option linter.unusedVariables false
theorem flatten_back {sz : Nat} : ∀ {css : List (List Value)} (h : ∀ c ∈ css, c.length = sz) {j : Nat} {u : Value}, css.flatten[j]? = some u → ∃ i c r, css[i]? = some c ∧ c[r]? = some u ∧ j = i * sz + r
  | [], _, j, u, h => by simp at h
  | x :: css, h, j, u, hj => by
    have h0 := h x (by simp)
    rw [List.flatten_cons] at hj
    rcases Nat.lt_or_ge j x.length with hl | hl
    · rw [List.getElem?_append_left hl] at hj
      exact ⟨0, x, j, rfl, hj, by omega⟩
    · rw [List.getElem?_append_right hl] at hj
      obtain ⟨i, c, r, hi, hr, he⟩ := flatten_back (fun c hc => h c (by simp [hc])) hj
      exact ⟨i + 1, c, r, by simpa using hi, hr, by rw [Nat.add_mul]; omega⟩
theorem Arr.css {α : Type} {ok : Nat → Prop} {w : World} {sz : Nat} {E : α → List Value → Prop} {A : Option Addr} {xs : List α} (h : Arr ok w sz E A xs) :
    ∃ css : List (List Value), css.length = xs.length ∧ (∀ (i : Nat) (x : α) (c : List Value), xs[i]? = some x → css[i]? = some c → E x c) ∧ (∀ c ∈ css, c.length = sz) ∧ ∀ ad, A = some ad → ∀ j u, css.flatten[j]? = some u → w.cell? (ad.add j) = some u := by
  have h1 : ∀ i : Nat, ∃ cs : List Value, ∀ x, xs[i]? = some x → E x cs ∧ cs.length = sz ∧ ∀ ad, A = some ad → ∀ j u, cs[j]? = some u → w.cell? (ad.add (i * sz + j)) = some u := fun i => by
    cases hx : xs[i]? with
    | none => exact ⟨[], fun x hx => by cases hx⟩
    | some x =>
      obtain ⟨ad, cs, rfl, _, hE, hl, hc⟩ := h i x hx
      exact ⟨cs, fun y hy => by cases hy; exact ⟨hE, hl, fun ad' e => by cases e; exact hc⟩⟩
  obtain ⟨f, hf⟩ := Classical.axiomOfChoice h1
  have hget : ∀ (i : Nat) (c : List Value), ((List.range xs.length).map f)[i]? = some c → i < xs.length ∧ c = f i := fun i c hc => by
    rw [List.getElem?_map] at hc
    rcases Nat.lt_or_ge i xs.length with hi | hi
    · rw [List.getElem?_range hi] at hc; exact ⟨hi, by simpa [eq_comm] using hc⟩
    · rw [List.getElem?_eq_none (by simpa using hi)] at hc; simp at hc
  have hlen : ∀ c ∈ (List.range xs.length).map f, c.length = sz := fun c hc => by
    obtain ⟨i, hi, rfl⟩ := List.mem_map.1 hc
    have hi := List.mem_range.1 hi
    exact (hf i _ (List.getElem?_eq_getElem hi)).2.1
  refine ⟨(List.range xs.length).map f, by simp, fun i x c hx hc => ?_, hlen, fun ad hA j u hu => ?_⟩
  · obtain ⟨_, rfl⟩ := hget i c hc
    exact (hf i x hx).1
  · obtain ⟨i, c, r, hi, hr, rfl⟩ := flatten_back hlen hu
    obtain ⟨hlt, rfl⟩ := hget i c hi
    exact (hf i _ (List.getElem?_eq_getElem hlt)).2.2 ad hA r u hr
def ClonePost {α : Type} (E : α → List Value → Prop) (e : TypeId) (sz : Nat) (xs : List α) (w : World) (en : Ending) (w' : World) : Prop :=
  ∃ v' css, en = .returned v' ∧ css.length = xs.length ∧ (∀ (i : Nat) (x : α) (c : List Value), xs[i]? = some x → css[i]? = some c → E x c) ∧ Owns w' w.heap.size e sz v' css ∧ Below w.heap.size w w'
theorem infoCByte : (Tryd.prog.info? 5).map (fun i => (i.zero, i.size, i.bytes)) = some (some (.int .u8 0), 1, 1) := by kernel_rfl
set_option maxRecDepth 100000 in
set_option maxHeartbeats 1000000 in
theorem cloneByte (α : Type) (E : α → List Value → Prop) (hE1 : ∀ x c, E x c → ∀ u ∈ c, u.oneCell' = true) (ok : Nat → Prop) (w : World) (A : Option Addr) (c : Nat) (xs : List α) (h : Arr ok w 1 E A xs) (hN : xs.length * 1 ≤ 140737488355328) :
    Calls Tryd.prog 44 #[.slice A xs.length c] w (ClonePost E 5 1 xs w) := by
  obtain ⟨css, hl, hE, hs, hc⟩ := h.css
  have HE := Lib.hid hE
  have hxs : A = none → xs = [] := fun hA => by
    cases xs with
    | nil => rfl
    | cons x xs => obtain ⟨ad, _, hA', _⟩ := h 0 x rfl; rw [hA] at hA'; cases hA'
  clear hE h
  cases A with
  | none =>
    have hnil := fun W => Go.Lib.run_eql_slice_nil (P := Tryd.prog) W 29 5 none 0 c 0 0 Tryd.underlying29
    obtain rfl := hxs rfl
    clear hxs
    obtain rfl : css = [] := List.eq_nil_of_length_eq_zero hl
    clear hl hs hc
    go_enter Tryd.func44, Tryd.ntmps44
    go_wp2_with fail
    go_ret
    exact ⟨_, [], rfl, rfl, HE.out, Owns.nil _ _ _ _, Below.refl _ _⟩
  | some ad =>
    have hnil := fun W => Go.Lib.run_eql_slice_nil (P := Tryd.prog) W 29 5 (some ad) xs.length c 0 0 Tryd.underlying29
    obtain ⟨i0, hi, hz0, hz1, hz2⟩ := info_parts infoCByte
    have HL := Lib.hid hl
    have HS := Lib.hid hs
    have HC := Lib.hid hc
    have hfl : css.flatten.length = xs.length * 1 := by
      rw [← hl]
      clear hl hc HE HL HS HC
      induction css with
      | nil => simp
      | cons c css ih => rw [List.flatten_cons, List.length_append, ih (fun c hc => hs c (by simp [hc])), hs c (by simp), List.length_cons, Nat.add_mul]; omega
    have HFL := Lib.hid hfl
    have hmax : xs.length ≤ maxLen := by unfold maxLen; omega
    have hone : ∀ u ∈ css.flatten, u.oneCell' = true := fun u hu => by
      obtain ⟨c', hc', hu'⟩ := List.mem_flatten.1 hu
      obtain ⟨k, hk, rfl⟩ := List.getElem_of_mem hc'
      exact hE1 _ _ (HE.out k _ _ (List.getElem?_eq_getElem (show k < xs.length by omega)) (List.getElem?_eq_getElem hk)) u hu'
    clear hl hs hc hxs hfl
    go_enter Tryd.func44, Tryd.ntmps44
    go_wp2_with (at_builtin; refine wpList_append_own _ rfl _ _ 29 rfl w.heap.size 5 i0 (.int .u8 0) 1 1 Tryd.underlying29 hi hz0 hz1 hz2 rfl (by decide) _ 0 [] rfl (World.ownsRow_made w #[] 0 (Nat.le_refl _) (Nat.zero_le _) rfl) ad xs.length c css.flatten rfl HFL.out ?c1 hone (by omega) (by omega) (by simp) ?_)
    case c1 =>
      intro j u hu
      have h1 := HC.out ad rfl j u hu
      rw [← h1]; exact World.cell?_alloc_lt _ _ _ (World.block_lt_of_cell? w _ h1)
    · intro v' w1 hown' hgrow _
      have hb1 : Below w.heap.size w w1 := (below_al (Below.refl _ _) _).grown hgrow (by simp) (fun k e => by simp [Value.ownBlock] at e; omega)
      have hown : Owns w1 w.heap.size 5 1 v' css := ⟨by rw [HL.out]; simpa using hown', HS.out⟩
      clear hown' hgrow
      have HH := Lib.hid (And.intro hown hb1)
      clear hown hb1
      go_wp2_with fail
      go_ret
      exact ⟨v', css, rfl, HL.out, HE.out, HH.out.1, HH.out.2⟩
theorem infoCInt : (Tryd.prog.info? 3).map (fun i => (i.zero, i.size, i.bytes)) = some (some (.int .i64 0), 1, 8) := by kernel_rfl
set_option maxRecDepth 100000 in
set_option maxHeartbeats 1000000 in
theorem cloneInt (α : Type) (E : α → List Value → Prop) (hE1 : ∀ x c, E x c → ∀ u ∈ c, u.oneCell' = true) (ok : Nat → Prop) (w : World) (A : Option Addr) (c : Nat) (xs : List α) (h : Arr ok w 1 E A xs) (hN : xs.length * 8 ≤ 140737488355328) :
    Calls Tryd.prog 30 #[.slice A xs.length c] w (ClonePost E 3 1 xs w) := by
  obtain ⟨css, hl, hE, hs, hc⟩ := h.css
  have HE := Lib.hid hE
  have hxs : A = none → xs = [] := fun hA => by
    cases xs with
    | nil => rfl
    | cons x xs => obtain ⟨ad, _, hA', _⟩ := h 0 x rfl; rw [hA] at hA'; cases hA'
  clear hE h
  cases A with
  | none =>
    have hnil := fun W => Go.Lib.run_eql_slice_nil (P := Tryd.prog) W 35 3 none 0 c 0 0 Tryd.underlying35
    obtain rfl := hxs rfl
    clear hxs
    obtain rfl : css = [] := List.eq_nil_of_length_eq_zero hl
    clear hl hs hc
    go_enter Tryd.func30, Tryd.ntmps30
    go_wp2_with fail
    go_ret
    exact ⟨_, [], rfl, rfl, HE.out, Owns.nil _ _ _ _, Below.refl _ _⟩
  | some ad =>
    have hnil := fun W => Go.Lib.run_eql_slice_nil (P := Tryd.prog) W 35 3 (some ad) xs.length c 0 0 Tryd.underlying35
    obtain ⟨i0, hi, hz0, hz1, hz2⟩ := info_parts infoCInt
    have HL := Lib.hid hl
    have HS := Lib.hid hs
    have HC := Lib.hid hc
    have hfl : css.flatten.length = xs.length * 1 := by
      rw [← hl]
      clear hl hc HE HL HS HC
      induction css with
      | nil => simp
      | cons c css ih => rw [List.flatten_cons, List.length_append, ih (fun c hc => hs c (by simp [hc])), hs c (by simp), List.length_cons, Nat.add_mul]; omega
    have HFL := Lib.hid hfl
    have hmax : xs.length ≤ maxLen := by unfold maxLen; omega
    have hone : ∀ u ∈ css.flatten, u.oneCell' = true := fun u hu => by
      obtain ⟨c', hc', hu'⟩ := List.mem_flatten.1 hu
      obtain ⟨k, hk, rfl⟩ := List.getElem_of_mem hc'
      exact hE1 _ _ (HE.out k _ _ (List.getElem?_eq_getElem (show k < xs.length by omega)) (List.getElem?_eq_getElem hk)) u hu'
    clear hl hs hc hxs hfl
    go_enter Tryd.func30, Tryd.ntmps30
    go_wp2_with (at_builtin; refine wpList_append_own _ rfl _ _ 35 rfl w.heap.size 3 i0 (.int .i64 0) 1 8 Tryd.underlying35 hi hz0 hz1 hz2 rfl (by decide) _ 0 [] rfl (World.ownsRow_made w #[] 0 (Nat.le_refl _) (Nat.zero_le _) rfl) ad xs.length c css.flatten rfl HFL.out ?c1 hone (by omega) (by omega) (by simp) ?_)
    case c1 =>
      intro j u hu
      have h1 := HC.out ad rfl j u hu
      rw [← h1]; exact World.cell?_alloc_lt _ _ _ (World.block_lt_of_cell? w _ h1)
    · intro v' w1 hown' hgrow _
      have hb1 : Below w.heap.size w w1 := (below_al (Below.refl _ _) _).grown hgrow (by simp) (fun k e => by simp [Value.ownBlock] at e; omega)
      have hown : Owns w1 w.heap.size 3 1 v' css := ⟨by rw [HL.out]; simpa using hown', HS.out⟩
      clear hown' hgrow
      have HH := Lib.hid (And.intro hown hb1)
      clear hown hb1
      go_wp2_with fail
      go_ret
      exact ⟨v', css, rfl, HL.out, HE.out, HH.out.1, HH.out.2⟩
end Go.Proofs.YthclpabmbhpohaaDoor
namespace Go.Proofs.YthclpabmbhpohaaDoor
open Go.RowKit
set_option linter.unusedVariables false
/-- copy, of elements of sz cells. -/
theorem run_copy_rowS {P : Program} (w : World) (dT sT ty elem : TypeId) (sz g o dLen dCap : Nat) (a : Addr) (sLen sCap : Nat) (cur : Array Value) (t : TypeId) (cs : List Value)
    (hu : P.underlying dT = some (.slice elem)) (hs : (P.info? elem).map (·.size) = some sz)
    (hg : w.heap[g]? = some (.cells cur t (0, 0))) (hn : cs.length = Nat.min sLen dLen * sz)
    (hsrc : ∀ j v, cs[j]? = some v → w.cell? (a.add j) = some v) (hfit : o + cs.length ≤ cur.size) (h1 : ∀ v ∈ cs, v.oneCell' = true) :
    (Builtin.copy_ #[dT, sT] ty #[.slice (some ⟨g, o, none⟩) dLen dCap, .slice (some a) sLen sCap]).run P w =
      .ok (goInt (Nat.min sLen dLen)) (w.setRow g (cur.toList.take o ++ cs ++ cur.toList.drop (o + cs.length)).toArray) := by
  have hl := run_loadCells_list (P := P) w a cs hsrc
  have hst := run_storeCells_at P g o t cs 0 cur w hg (by simpa using hfit) h1
  cases hq : P.info? elem with
  | none => simp [hq] at hs
  | some i =>
    have hi : i.size = sz := by simpa [hq] using hs
    simp [Builtin.copy_, run_underlying hu, Builtin.lenOf, Builtin.firstCells, sizeOf, typeInfo, hq, hi, ← hn, hl, hst]
theorem run_copy_noneS {P : Program} (w : World) (dT sT ty elem : TypeId) (sz : Nat) (d a : Option Addr) (dLen dCap sLen sCap : Nat) (hu : P.underlying dT = some (.slice elem)) (hs : (P.info? elem).map (·.size) = some sz) (hn : Nat.min sLen dLen = 0) :
    (Builtin.copy_ #[dT, sT] ty #[.slice d dLen dCap, .slice a sLen sCap]).run P w = .ok (goInt 0) w := by
  cases hq : P.info? elem with
  | none => simp [hq] at hs
  | some i =>
    have hl : ∀ (x : Addr), (loadCells x 0).run P w = .ok #[] w := fun x => by simpa using run_loadCells_list (P := P) w x [] (by simp)
    cases d <;> cases a <;> simp [Builtin.copy_, run_underlying hu, Builtin.lenOf, Builtin.firstCells, sizeOf, typeInfo, hq, hn, storeCells, hl]
/-- Into a block that is known whole; the world behind it is a letter. -/
theorem run_copy_any {P : Program} (w : World) (dT sT ty elem : TypeId) (sz : Nat) (hu : P.underlying dT = some (.slice elem)) (hs : (P.info? elem).map (·.size) = some sz) (dp sp : Option Addr) (dLen dCap sLen sCap : Nat)
    (g off : Nat) (cur : List Value) (t : TypeId) (hg : w.heap[g]? = some (.cells cur.toArray t (0, 0))) (cs : List Value) (hn : cs.length = Nat.min sLen dLen * sz)
    (hpos : 0 < cs.length → dp = some ⟨g, off, none⟩ ∧ ∃ ad, sp = some ad ∧ ∀ j v, cs[j]? = some v → w.cell? (ad.add j) = some v) (hsz : 0 < sz)
    (hfit : off + cs.length ≤ cur.length) (h1 : ∀ v ∈ cs, v.oneCell' = true) :
    ∃ w', (Builtin.copy_ #[dT, sT] ty #[.slice dp dLen dCap, .slice sp sLen sCap]).run P w = .ok (goInt (Nat.min sLen dLen)) w' ∧ w'.heap[g]? = some (.cells (splice cur off cs).toArray t (0, 0)) ∧ w.grownBy w' (some g) ∧ w'.heap.size = w.heap.size := by
  by_cases h0 : cs.length = 0
  · have hm : Nat.min sLen dLen = 0 := by
      rw [h0] at hn
      rcases Nat.mul_eq_zero.1 hn.symm with h | h
      · exact h
      · omega
    obtain rfl : cs = [] := List.eq_nil_of_length_eq_zero h0
    refine ⟨w, by rw [hm]; exact run_copy_noneS w dT sT ty elem sz dp sp dLen dCap sLen sCap hu hs hm, by simpa [splice] using hg, ⟨rfl, rfl, rfl, Nat.le_refl _, fun _ _ _ => rfl⟩, rfl⟩
  · obtain ⟨rfl, ad, rfl, hsrc⟩ := hpos (by omega)
    refine ⟨_, run_copy_rowS w dT sT ty elem sz g off dLen dCap ad sLen sCap cur.toArray t cs hu hs hg hn hsrc (by simpa using hfit) h1, ?_, ?_, by simp [World.setRow]⟩
    · have := setRow_heap w g cur.toArray (cur.toArray.toList.take off ++ cs ++ cur.toArray.toList.drop (off + cs.length)).toArray t (0, 0) hg
      simpa [splice] using this
    · exact ⟨rfl, rfl, rfl, by simp [World.setRow], fun k hk hne => setRow_other w g k _ (fun e => hne (by rw [e]))⟩
theorem wpList_copyS {P : Program} {ops : Array Oper} {rest : List Oper} {o : Oper} {a : Act} {Q : Exit → Act → World → Prop} {w : World} (hgd : o.guard = none) (d s : Operand) (dT sT : TypeId)
    (ho : o.op = .call { callee := .builtin .copy, args := #[d, s], argTypes := #[dT, sT] }) (elem : TypeId) (sz : Nat) (hu : P.underlying dT = some (.slice elem)) (hsi : (P.info? elem).map (·.size) = some sz)
    (dp sp : Option Addr) (dLen dCap sLen sCap : Nat) (hd : a.eval d = .slice dp dLen dCap) (hs : a.eval s = .slice sp sLen sCap)
    (g off : Nat) (cur : List Value) (t : TypeId) (hg : w.heap[g]? = some (.cells cur.toArray t (0, 0))) (cs : List Value) (hn : cs.length = Nat.min sLen dLen * sz)
    (hpos : 0 < cs.length → dp = some ⟨g, off, none⟩ ∧ ∃ ad, sp = some ad ∧ ∀ j v, cs[j]? = some v → w.cell? (ad.add j) = some v) (hsz : 0 < sz)
    (hfit : off + cs.length ≤ cur.length) (h1 : ∀ v ∈ cs, v.oneCell' = true) (m : Nat) (hm : Nat.min sLen dLen = m)
    (h : ∀ w', Hid (w'.heap[g]? = some (.cells (splice cur off cs).toArray t (0, 0))) → w.grownBy w' (some g) → w'.heap.size = w.heap.size → wpList P ops Q rest (a.put o.dst (.int .i64 m)) w') : wpList P ops Q (o :: rest) a w := by
  subst hm
  refine wpList_plain hgd fun K hK => ?_
  obtain ⟨w', hr, k1, k2, k3⟩ := run_copy_any (P := P) w dT sT o.type elem sz hu hsi dp sp dLen dCap sLen sCap g off cur t hg cs hn hpos hsz hfit h1
  unfold Oper.wp execOp
  simp only [ho, resolve, invoke, builtin, Sem.run_bind, Sem.run_pure, Result.andThen_ok, List.map_toArray, List.map_cons, List.map_nil, hs, hd, hr]
  exact hK _ _ (h w' (Lib.hid k1) k2 k3)
theorem step_copyS {P : Program} {ops : Array Oper} {o : Oper} {a : Act} {w : World} {K : Act → World → Prop} {Q : Exit → Act → World → Prop} {E : Prop} (hgd : o.guard = none) (d s : Operand) (dT sT : TypeId)
    (ho : o.op = .call { callee := .builtin .copy, args := #[d, s], argTypes := #[dT, sT] }) (elem : TypeId) (sz : Nat) (hu : P.underlying dT = some (.slice elem)) (hsi : (P.info? elem).map (·.size) = some sz)
    (dp sp : Option Addr) (dLen dCap sLen sCap : Nat) (hd : a.eval d = .slice dp dLen dCap) (hs : a.eval s = .slice sp sLen sCap)
    (g off : Nat) (cur : List Value) (t : TypeId) (hg : w.heap[g]? = some (.cells cur.toArray t (0, 0))) (cs : List Value) (hn : cs.length = Nat.min sLen dLen * sz)
    (hpos : 0 < cs.length → dp = some ⟨g, off, none⟩ ∧ ∃ ad, sp = some ad ∧ ∀ j v, cs[j]? = some v → w.cell? (ad.add j) = some v) (hsz : 0 < sz)
    (hfit : off + cs.length ≤ cur.length) (h1 : ∀ v ∈ cs, v.oneCell' = true) (m : Nat) (hm : Nat.min sLen dLen = m)
    (h : ∀ w', Hid (w'.heap[g]? = some (.cells (splice cur off cs).toArray t (0, 0))) → w.grownBy w' (some g) → w'.heap.size = w.heap.size → K (a.put o.dst (.int .i64 m)) w') :
    if Region.wanted o (yielded ops a.tmps) = true then Oper.wp P o a w K Q else E := by
  subst hm
  have hw : Region.wanted o (yielded ops a.tmps) = true := by simp [Region.wanted, hgd]
  rw [if_pos hw]
  obtain ⟨w', hr, k1, k2, k3⟩ := run_copy_any (P := P) w dT sT o.type elem sz hu hsi dp sp dLen dCap sLen sCap g off cur t hg cs hn hpos hsz hfit h1
  unfold Oper.wp execOp
  simp only [ho, resolve, invoke, builtin, Sem.run_bind, Sem.run_pure, Result.andThen_ok, List.map_toArray, List.map_cons, List.map_nil, hs, hd, hr]
  exact h w' (Lib.hid k1) k2 k3
set_option maxHeartbeats 1000000 in
theorem mul64_any (x y : Nat) (hx : x < 18446744073709551616) (hy : y < 18446744073709551616) (w : World) :
    Calls Tryd.prog 83 #[.int .u64 x, .int .u64 y] w fun e w' => e = .returned (.tuple #[.int .u64 ((x * y / 18446744073709551616 : Nat) : Int), .int .u64 ((x * y % 18446744073709551616 : Nat) : Int)]) ∧ w' = w := by
  obtain ⟨bd, bt, bw, hhi⟩ := Go.Lib.mul64_hi x y hx hy
  have ba := Go.Lib.half_mul_le (a := x / 4294967296) (b := y / 4294967296) (by omega) (by omega)
  have bb := Go.Lib.half_mul_le (a := x / 4294967296) (b := y % 4294967296) (by omega) (by omega)
  have bc := Go.Lib.half_mul_le (a := x % 4294967296) (b := y / 4294967296) (by omega) (by omega)
  have ba' : x / 4294967296 * (y / 4294967296) < 18446744073709551616 := by omega
  have bb' : x / 4294967296 * (y % 4294967296) < 18446744073709551616 := by omega
  have bc' : x % 4294967296 * (y / 4294967296) < 18446744073709551616 := by omega
  have bh1 : x / 4294967296 * (y / 4294967296) + (x / 4294967296 * (y % 4294967296) + x % 4294967296 * (y % 4294967296) / 4294967296) / 4294967296 < 18446744073709551616 := by omega
  have bh : x / 4294967296 * (y / 4294967296) + (x / 4294967296 * (y % 4294967296) + x % 4294967296 * (y % 4294967296) / 4294967296) / 4294967296 + ((x / 4294967296 * (y % 4294967296) + x % 4294967296 * (y % 4294967296) / 4294967296) % 4294967296 + x % 4294967296 * (y / 4294967296)) / 4294967296 < 18446744073709551616 := by omega
  go_enter Tryd.func83, Tryd.ntmps83
  go_wp2
  simp only [Mul64.maskN x hx, Mul64.maskN y hy, Mul64.divN, Mul64.mulN, Mul64.addN, Mul64.wrapN _ bd, Mul64.wrapN _ bb', Mul64.wrapN _ bt, Mul64.maskN _ bt, Mul64.wrapN _ bc', Mul64.wrapN _ bw, Mul64.wrapN _ ba', Mul64.wrapN _ bh1, Mul64.wrapN _ bh, Mul64.wrapM (x * y)]
  rw [hhi]
  go_ret2
  exact ⟨rfl, rfl⟩
set_option maxHeartbeats 1000000 in
theorem mul_one (n : Nat) (hn : n ≤ 1000000000) (w : World) :
    Calls Tryd.prog 63 #[.int .u64 1, .int .u64 n] w fun e w' => e = .returned (.tuple #[.int .u64 0, .int .u64 n]) ∧ w = w' := by
  have c64 := mul64_any 1 n (by omega) (by omega) w
  rw [show ((1 * n / 18446744073709551616 : Nat) : Int) = 0 by omega, show ((1 * n % 18446744073709551616 : Nat) : Int) = n by omega] at c64
  go_enter Tryd.func63, Tryd.ntmps63
  go_wp2_with (go_at_call 83; refine c64.mono ?_; clear c64; rintro e w' ⟨rfl, rfl⟩)
  go_ret2
  exact ⟨rfl, rfl⟩
end Go.Proofs.YthclpabmbhpohaaDoor
namespace Go.Proofs.YthclpabmbhpohaaDoor
open Go.RowKit
set_option linter.unusedVariables false
section
variable {P : Program} {ops : Array Oper} {Q : Exit → Act → World → Prop} {md : Region.Mode} {S : World → Prop}
/-- The operations that are left, one behind the other; behind each S holds. -/
def Seq (P : Program) (ops : Array Oper) (Q : Exit → Act → World → Prop) (S : World → Prop) : List Nat → Act → World → Prop
  | [], a, w => Q .normal a w
  | i :: is, a, w => wpOp P ops Q i (fun a' w' => S w' ∧ Seq P ops Q S is a' w') a w
theorem Seq.cons {i : Nat} {is : List Nat} {o : Oper} {a : Act} {w : World} (hi : ops[i]? = some o) (hg : o.guard = none) (h : ∀ K : Act → World → Prop, (∀ a' w', S w' → Seq P ops Q S is a' w' → K a' w') → Oper.wp P o a w K Q) : Seq P ops Q S (i :: is) a w := by
  unfold Seq wpOp
  simp only [hi]
  have hw : Region.wanted o (yielded ops a.tmps) = true := by simp [Region.wanted, hg]
  rw [if_pos hw]
  exact .inl (h _ fun a' w' h1 h2 => ⟨h1, h2⟩)
end
/-- An append of one element, at the operation. -/
theorem wp_app1 {P : Program} {o : Oper} {a : Act} {Q : Exit → Act → World → Prop} {K : Act → World → Prop} {w : World} (s x : Operand) (t : TypeId)
    (ho : o.op = .call { callee := .builtin .append, args := #[s, x], argTypes := #[t, t] }) (base : Nat) (e : TypeId) (z : Value) (sz bytes : Nat) (ht : P.underlying t = some (.slice e)) (hinfo : (P.info? e).map (fun i => (i.zero, i.size, i.bytes)) = some (some z, sz, bytes))
    (hzs : z.cells.size = sz) (hsz : 0 < sz) (v : Value) (css : List (List Value)) (hs : a.eval s = v) (hown : Owns w base e sz v css)
    (g : Nat) (c : List Value) (hx : a.eval x = .slice (some ⟨g, 0, none⟩) 1 1) (hc : c.length = sz) (hg : w.heap[g]? = some (.cells c.toArray e (0, 0))) (h1 : ∀ u ∈ c, u.oneCell' = true)
    (hmax : css.length + 1 ≤ maxLen) (hbytes : (css.length + 1) * bytes ≤ 140737488355328) (hbase : base ≤ w.heap.size)
    (h : ∀ v' w', Owns w' base e sz v' (css ++ [c]) → w.grownBy w' v.ownBlock → (v'.ownBlock = v.ownBlock ∨ v'.ownBlock = some w.heap.size) → K (a.put o.dst v') w') : o.wp P a w K Q := by
  obtain ⟨i0, hi, hz0, hz1, hz2⟩ := info_parts hinfo
  obtain ⟨v1, w1, hr, hown1, hg1, _, hat⟩ := run_append_own_at (P := P) w base t o.type e i0 z sz bytes ht hi hz0 hz1 hz2 hzs hsz v css.length css.flatten hown.1 ⟨g, 0, none⟩ 1 1 c (by rw [hc]; simp)
    (fun j u hj => by
      rw [Addr.add_mid, Nat.zero_add, cell_of_blk hg]; simpa using hj) h1 hmax hbytes hbase
  unfold Oper.wp execOp
  simp only [ho, resolve, invoke, builtin, Sem.run_bind, Sem.run_pure, Result.andThen_ok, List.map_toArray, List.map_cons, List.map_nil, hs, hx]
  rw [hr]
  exact h v1 w1 ⟨by rw [List.length_append, List.flatten_append]; simpa using hown1, fun c' hc' => (List.mem_append.1 hc').elim (hown.2 c') (fun e => by rw [List.mem_singleton.1 e]; exact hc)⟩ hg1 hat
/-- An append of one element, in a list of operations; where the row lies behind it. -/
theorem wpList_app1At {P : Program} {ops : Array Oper} {rest : List Oper} {o : Oper} {a : Act} {Q : Exit → Act → World → Prop} {w : World} (hgd : o.guard = none) (s x : Operand) (t : TypeId)
    (ho : o.op = .call { callee := .builtin .append, args := #[s, x], argTypes := #[t, t] }) (base : Nat) (e : TypeId) (z : Value) (sz bytes : Nat) (ht : P.underlying t = some (.slice e)) (hinfo : (P.info? e).map (fun i => (i.zero, i.size, i.bytes)) = some (some z, sz, bytes))
    (hzs : z.cells.size = sz) (hsz : 0 < sz) (v : Value) (css : List (List Value)) (hs : a.eval s = v) (hown : Owns w base e sz v css)
    (g : Nat) (c : List Value) (hx : a.eval x = .slice (some ⟨g, 0, none⟩) 1 1) (hc : c.length = sz) (hg : w.heap[g]? = some (.cells c.toArray e (0, 0))) (h1 : ∀ u ∈ c, u.oneCell' = true)
    (hmax : css.length + 1 ≤ maxLen) (hbytes : (css.length + 1) * bytes ≤ 140737488355328) (hbase : base ≤ w.heap.size)
    (h : ∀ v' w', Owns w' base e sz v' (css ++ [c]) → w.grownBy w' v.ownBlock → (v'.ownBlock = v.ownBlock ∨ v'.ownBlock = some w.heap.size) → wpList P ops Q rest (a.put o.dst v') w') : wpList P ops Q (o :: rest) a w :=
  wpList_plain hgd fun K hK => wp_app1 s x t ho base e z sz bytes ht hinfo hzs hsz v css hs hown g c hx hc hg h1 hmax hbytes hbase fun v' w' h1 h2 h3 => hK _ _ (h v' w' h1 h2 h3)
end Go.Proofs.YthclpabmbhpohaaDoor
namespace Go.Proofs.YthclpabmbhpohaaDoor
open Go.RowKit
set_option linter.unusedVariables false
section
variable {P : Program} {ops : Array Oper} {Q : Exit → Act → World → Prop} {md : Region.Mode} {S : World → Prop}
/-- true: taken; false: carried out; number, slot. -/
def Scr (P : Program) (ops : Array Oper) (Q : Exit → Act → World → Prop) (S : World → Prop) : List (Bool × Nat × Nat) → Act → World → Prop
  | [], a, w => Q .normal a w
  | (true, i, d) :: r, a, w => ∃ o v, ops[i]? = some o ∧ o.dst = some d ∧ YieldsIf P ops S o v a ∧ S w ∧ Scr P ops Q S r (a.put (some d) v) w
  | (false, i, _) :: r, a, w => wpOp P ops Q i (fun a' w' => S w' ∧ Scr P ops Q S r a' w') a w
def scrOK (md : Region.Mode) (ops : Array Oper) : Array Bool → List (Bool × Nat × Nat) → Bool
  | listed, [] => Region.ready md ops listed == []
  | listed, (true, i, _) :: r => Region.free md ops listed i && (Region.ready md ops listed).contains i && scrOK md ops (listed.setIfInBounds i true) r
  | listed, (false, i, _) :: r => (Region.ready md ops listed == [i]) && scrOK md ops (listed.setIfInBounds i true) r
theorem held_of_scr (hs : Region.noSelect ops = true) (hQ : ∀ c (d : Tmp) v a w, Q (.panic c) (a.put (some d) v) w → Q (.panic c) a w) : ∀ (r : List (Bool × Nat × Nat)) (listed : Array Bool) (a : Act) (w : World),
    scrOK md ops listed r = true → Scr P ops Q S r a w → wpAnyH P md ops Q S r.length listed a w
  | [], listed, a, w, hc, h => wpAnyH_done (by simpa [scrOK] using hc) h _
  | (true, i, d) :: r, listed, a, w, hc, h => by
    simp only [scrOK, Bool.and_eq_true] at hc
    obtain ⟨o, v, ho, hd, hy, hS, hr⟩ := h
    refine wpAnyH_take ho hs hc.1.1 hc.1.2 (fun c a w => by rw [hd]; exact hQ c d v a w) hy hS ?_
    rw [hd]
    exact held_of_scr hs hQ r _ _ w hc.2 hr
  | (false, i, _) :: r, listed, a, w, hc, h => by
    simp only [scrOK, Bool.and_eq_true, beq_iff_eq] at hc
    refine ⟨fun h0 => by rw [h0] at hc; exact absurd hc.1 (by simp), fun j hj => ?_⟩
    rw [hc.1] at hj
    rw [List.mem_singleton.1 hj]
    exact wpOp_mono (fun a' w' h' => ⟨h'.1, held_of_scr hs hQ r _ a' w' hc.2 h'.2⟩) h
theorem Scr.take {i d : Nat} {r : List (Bool × Nat × Nat)} {o : Oper} {v : Value} {a : Act} {w : World} (hi : ops[i]? = some o) (hd : o.dst = some d) (hy : YieldsIf P ops S o v a) (hS : S w) (h : Scr P ops Q S r (a.put (some d) v) w) : Scr P ops Q S ((true, i, d) :: r) a w :=
  ⟨o, v, hi, hd, hy, hS, h⟩
theorem Scr.run {i d : Nat} {r : List (Bool × Nat × Nat)} {o : Oper} {a : Act} {w : World} (hi : ops[i]? = some o) (hw : Region.wanted o (yielded ops a.tmps) = true) (h : ∀ K : Act → World → Prop, (∀ a' w', S w' → Scr P ops Q S r a' w' → K a' w') → Oper.wp P o a w K Q) : Scr P ops Q S ((false, i, d) :: r) a w := by
  unfold Scr wpOp
  simp only [hi]
  rw [if_pos hw]
  exact .inl (h _ fun a' w' h1 h2 => ⟨h1, h2⟩)
theorem Scr.skip {i d : Nat} {r : List (Bool × Nat × Nat)} {o : Oper} {a : Act} {w : World} (hi : ops[i]? = some o) (hd : o.dst = some d) (hw : Region.wanted o (yielded ops a.tmps) = false) (hS : S w) (h : Scr P ops Q S r (a.put (some d) undef) w) : Scr P ops Q S ((false, i, d) :: r) a w := by
  rw [← hd] at h
  unfold Scr wpOp
  simp only [hi]
  rw [if_neg (by rw [hw]; simp)]
  exact ⟨hS, h⟩
end
theorem wp_region_scr {P : Program} {ops : Array Oper} {Q : Exit → Act → World → Prop} (S : World → Prop) {id : Nat} {a : Act} {w : World} (r : List (Bool × Nat × Nat)) (hm : P.follows .mixedOrders = true) (hs : Region.noSelect ops = true)
    (hQ : ∀ c (d : Tmp) v a w, Q (.panic c) (a.put (some d) v) w → Q (.panic c) a w) (hl : r.length = ops.size)
    (hc : scrOK .any ops (Array.replicate ops.size false) r = true) (h : Scr P ops Q S r a w.drew) : (Code.region id ops true).wp P Q a w := by
  have h9 := held_of_scr (P := P) (md := .any) (S := S) hs hQ r (Array.replicate ops.size false) a w.drew hc h
  rw [hl] at h9
  exact wp_region_held hm h9
theorem yw_cell {P : Program} {ops : Array Oper} {S : World → Prop} {o : Oper} {a : Act} (ty : TypeId) (x : Operand) (ho : o.op = .load ty x) (p : Addr) (v : Value) (hx : a.eval x = .pointer (some p)) (hw : Region.wanted o (yielded ops a.tmps) = true)
    (d : TypeDesc) (hu : P.underlying ty = some d) (hd : d.isRow = false) (hc : ∀ w, S w → w.cell? p = some v) : YieldsIf P ops S o v a := by
  refine Or.inl ⟨hw, fun w hS => ?_⟩
  have h := hc w hS
  have hagg : (isAgg ty).run P w = .ok false w := by
    unfold isAgg
    rw [Sem.run_bind, run_underlying hu w]
    cases d <;> simp_all
  unfold execOp
  simp [ho, hx, Instr.loadAt, Instr.sureAddr, loadVar, hagg, h]
theorem yw_row {P : Program} {ops : Array Oper} {S : World → Prop} {o : Oper} {a : Act} (ty : TypeId) (x : Operand) (ho : o.op = .load ty x) (b : Nat) (cs : List Value) (T : TypeId) (hx : a.eval x = .pointer (some ⟨b, 0, none⟩)) (hw : Region.wanted o (yielded ops a.tmps) = true)
    (d : TypeDesc) (hu : P.underlying ty = some d) (hd : d.isRow = true) (hi : (P.info? ty).map (·.size) = some cs.length) (hc : ∀ w, S w → w.heap[b]? = some (.cells cs.toArray T (0, 0))) : YieldsIf P ops S o (.agg cs.toArray) a := by
  refine Or.inl ⟨hw, fun w hS => ?_⟩
  have h := hc w hS
  have h2 := run_loadAt_mid (P := P) w b 0 ty cs d (fun j v hv => by rw [Nat.zero_add, cell_of_blk h]; simpa using hv) hu hd hi
  unfold execOp
  simp [ho, hx, h2]
theorem yw_pure {P : Program} {ops : Array Oper} {S : World → Prop} {o : Oper} {a : Act} {v : Value} (hw : Region.wanted o (yielded ops a.tmps) = true) (h : ∀ w, (execOp a.eval o).run P w = .ok (.value v) w) : YieldsIf P ops S o v a := Or.inl ⟨hw, fun w _ => h w⟩
theorem yw_no {P : Program} {ops : Array Oper} {S : World → Prop} {o : Oper} {a : Act} (hw : Region.wanted o (yielded ops a.tmps) = false) : YieldsIf P ops S o undef a := Or.inr ⟨hw, rfl⟩
end Go.Proofs.YthclpabmbhpohaaDoor
namespace Go.Proofs.YthclpabmbhpohaaDoor
open Go.RowKit
set_option linter.unusedVariables false
def FromP (p : Pg) (bg : Bool) (pc : Int) (w : World) (e : Ending) (w' : World) : Prop :=
  ∃ b lv u0 u1 u2, e = .returned (.pointer (some ⟨b + 1, 0, none⟩)) ∧ w.heap.size ≤ b ∧ RwAt w' b p.ins.length u0 u1 u2 bg lv (fromR p bg pc) ∧ Below w.heap.size w w'
theorem infoBool : (Tryd.prog.info? 4).map (fun i => (i.zero, i.size, i.bytes)) = some (some (.bool false), 1, 1) := by kernel_rfl
theorem made_bools (N : Nat) : madeCells #[.bool false] (N * 1) = boolsOf N [] := by
  apply Array.ext_getElem?
  intro j
  by_cases hj : j < N
  · rw [bools_at hj]
    simp [madeCells, hj, Nat.mod_one]
  · simp [madeCells, boolsOf, hj]
theorem make_bools (w : World) (N : Nat) (hN : N ≤ 100000000) : (Instr.makeSlice 86 (.int .i64 N) (.int .i64 N)).run Tryd.prog w = .ok (.slice (some ⟨w.heap.size, 0, none⟩) N N) (w.alloc (.cells (boolsOf N []) 4)) := by
  obtain ⟨i, hi, hz0, hz1, hz2⟩ := info_parts infoBool
  have h := run_make (P := Tryd.prog) w 86 4 i _ Tryd.underlying86 hi hz0 .i64 .i64 (N : Int) (N : Int) (by omega) (Int.le_refl _) (by rw [hz2]; omega) (by omega)
  rw [Int.toNat_natCast, hz1] at h
  rw [h, ← made_bools]
  rfl
theorem fit_new (p : Pg) : FitR p ⟨[], [], 0, false⟩ := ⟨by simp only [List.length_nil]; have := leftN_le p.ins.length []; omega, by simp, by simp, by simp⟩
set_option maxRecDepth 100000 in
set_option maxHeartbeats 4000000 in
theorem from15_any (w : World) (p : Pg) (A : Option Addr) (c : Nat) (hp : PgC (fun k => k < w.heap.size) w p [.slice A p.ins.length c, .int .i64 p.start, .int .i64 p.caps]) (hl : Leads p) (hN : p.ins.length ≤ 100000) (pc : Int) (hpc : Pc p pc) (bg : Bool) :
    Calls Tryd.prog 39 #[.agg #[.slice A p.ins.length c, .int .i64 p.start, .int .i64 p.caps], .int .i64 pc, .bool bg] w (FromP p bg pc w) := by
  have hcm := fun (b : Nat) (w0 : World) (h0 : w.heap.size ≤ b) (h1 : b ≤ w0.heap.size) (h2 : Below w.heap.size w w0) => come15_any p b [.slice A p.ins.length c, .int .i64 p.start, .int .i64 p.caps] w0 (hp.move fun k hk _ => ⟨h2.block k hk, by omega⟩) h1 hl hN _ _ _ rfl bg (p.ins.length + 1) pc ⟨[], [], 0, false⟩ (.slice none 0 0) w0
  have HK := Lib.hid (And.intro hcm hp)
  clear hcm hp
  go_enter Tryd.func39, Tryd.ntmps39
  go_wp2_with fail
  obtain ⟨bx, hbx⟩ : ∃ bx, w.heap.size = bx := ⟨_, rfl⟩
  have hX : (w.alloc (.cells #[.slice A p.ins.length c, .int .i64 p.start, .int .i64 p.caps] 28)).heap[bx]? = some (.cells #[.slice A p.ins.length c, .int .i64 p.start, .int .i64 p.caps] 28 (0, 0)) := by rw [← hbx]; exact heap_new1 _ _
  have hBX : Below w.heap.size w (w.alloc (.cells #[.slice A p.ins.length c, .int .i64 p.start, .int .i64 p.caps] 28)) := below_al (Below.refl _ _) _
  have hXs : (w.alloc (.cells #[.slice A p.ins.length c, .int .i64 p.start, .int .i64 p.caps] 28)).heap.size = bx + 1 := by rw [World.size_alloc, hbx]
  obtain ⟨X, hXe⟩ : ∃ X, w.alloc (.cells #[.slice A p.ins.length c, .int .i64 p.start, .int .i64 p.caps] 28) = X := ⟨_, rfl⟩
  rw [hXe] at hX hBX hXs ⊢
  rw [hbx]
  have HX := Lib.hid (And.intro hBX (And.intro hXs hbx))
  clear hXe hBX hXs hbx
  refine wp_region_scr (fun W' => W'.heap[bx]? = some (.cells #[.slice A p.ins.length c, .int .i64 p.start, .int .i64 p.caps] 28 (0, 0))) [(true, 0, 8), (true, 1, 9), (true, 2, 10), (true, 3, 11), (true, 4, 12), (false, 5, 13), (false, 6, 14), (false, 7, 15), (false, 8, 7)] (by kernel_rfl) (by kernel_rfl) (fun _ _ _ _ _ h => h) rfl (by kernel_rfl) ?_
  have HV := Lib.hid (show X.drew.heap[bx]? = some (.cells #[.slice A p.ins.length c, .int .i64 p.start, .int .i64 p.caps] 28 (0, 0)) from hX)
  refine Scr.take (v := .agg #[.slice A p.ins.length c, .int .i64 p.start, .int .i64 p.caps]) rfl rfl (yw_row 28 _ rfl bx ([.slice A p.ins.length c, .int .i64 p.start, .int .i64 p.caps] : List Value) 28 rfl (by rfl) _ Tryd.underlying28 rfl (by rfl) (fun W hS => hS)) HV.out ?_
  simp only [Act.put, List.setIfInBounds_toArray, List.set_cons_zero, List.set_cons_succ]
  refine Scr.take (v := .bool bg) rfl rfl (yw_pure (by rfl) (fun _ => by go_simp)) HV.out ?_
  simp only [Act.put, List.setIfInBounds_toArray, List.set_cons_zero, List.set_cons_succ]
  refine Scr.take (v := .pointer (some ⟨bx, 0, none⟩)) rfl rfl (yw_pure (by rfl) (fun _ => by go_simp)) HV.out ?_
  simp only [Act.put, List.setIfInBounds_toArray, List.set_cons_zero, List.set_cons_succ]
  refine Scr.take (v := .slice A p.ins.length c) rfl rfl (yw_cell 26 _ rfl ⟨bx, 0, none⟩ (.slice A p.ins.length c) rfl (by rfl) _ Tryd.underlying26 rfl (fun W hS => by rw [cell_of_blk hS]; rfl)) HV.out ?_
  simp only [Act.put, List.setIfInBounds_toArray, List.set_cons_zero, List.set_cons_succ]
  refine Scr.take (v := .int .i64 p.ins.length) rfl rfl (yw_pure (by rfl) (fun _ => by go_simp)) HV.out ?_
  simp only [Act.put, List.setIfInBounds_toArray, List.set_cons_zero, List.set_cons_succ]

  refine Scr.run rfl (by rfl) (fun K hK => ?_)
  go_simp
  rw [make_bools _ _ (by omega)]
  dsimp only [Result.andThen_ok]
  have hV1 : (X.drew.alloc (.cells (boolsOf p.ins.length []) 4)).heap[bx]? = some (.cells #[.slice A p.ins.length c, .int .i64 p.start, .int .i64 p.caps] 28 (0, 0)) := (Below.heap_alloc _ _ _ (by show bx < X.heap.size; have := HX.out.2.1; omega)).trans hX
  refine hK _ _ hV1 ?_
  clear hK K HV
  have hs1 : X.drew.heap.size = bx + 1 := HX.out.2.1
  rw [hs1]
  obtain ⟨Y, hY⟩ : ∃ Y, X.drew.alloc (.cells (boolsOf p.ins.length []) 4) = Y := ⟨_, rfl⟩
  have hYB : Below X.heap.size X Y := by rw [← hY]; exact below_al (w := X) (Below.refl _ _).drew _
  have hY1 : Y.heap[bx + 1]? = some (.cells (boolsOf p.ins.length []) 4 (0, 0)) := by rw [← hY]; exact heap_newX hs1.symm
  have hYs : Y.heap.size = bx + 2 := by rw [← hY, World.size_alloc, hs1]
  rw [hY] at hV1 ⊢
  have HY := Lib.hid (And.intro hYB (And.intro hY1 (And.intro hYs hV1)))
  clear hY hYB hY1 hV1 hs1 hX
  refine Scr.run rfl (by rfl) (fun K hK => ?_)
  go_simp
  refine hK _ _ HY.out.2.2.2 ?_
  clear hK K
  refine Scr.run rfl (by rfl) (fun K hK => ?_)
  go_simp
  have hZ1 : (Y.alloc (.cells #[.slice A p.ins.length c, .int .i64 p.start, .int .i64 p.caps, .bool bg, .slice (some ⟨bx + 1, 0, none⟩) p.ins.length p.ins.length, .slice none 0 0, .int .i64 0, .bool false] 88)).heap[bx + 2]? = some (.cells #[.slice A p.ins.length c, .int .i64 p.start, .int .i64 p.caps, .bool bg, .slice (some ⟨bx + 1, 0, none⟩) p.ins.length p.ins.length, .slice none 0 0, .int .i64 0, .bool false] 88 (0, 0)) := heap_newX HY.out.2.2.1.symm
  have hZ2 : (Y.alloc (.cells #[.slice A p.ins.length c, .int .i64 p.start, .int .i64 p.caps, .bool bg, .slice (some ⟨bx + 1, 0, none⟩) p.ins.length p.ins.length, .slice none 0 0, .int .i64 0, .bool false] 88)).heap[bx + 1]? = some (.cells (boolsOf p.ins.length []) 4 (0, 0)) := (Below.heap_alloc _ _ _ (by have := HY.out.2.2.1; omega)).trans HY.out.2.1
  have hZ3 : (Y.alloc (.cells #[.slice A p.ins.length c, .int .i64 p.start, .int .i64 p.caps, .bool bg, .slice (some ⟨bx + 1, 0, none⟩) p.ins.length p.ins.length, .slice none 0 0, .int .i64 0, .bool false] 88)).heap[bx]? = some (.cells #[.slice A p.ins.length c, .int .i64 p.start, .int .i64 p.caps] 28 (0, 0)) := (Below.heap_alloc _ _ _ (by have := HY.out.2.2.1; omega)).trans HY.out.2.2.2
  refine hK _ _ hZ3 ?_
  clear hK K
  have hZB : Below w.heap.size w (Y.alloc (.cells #[.slice A p.ins.length c, .int .i64 p.start, .int .i64 p.caps, .bool bg, .slice (some ⟨bx + 1, 0, none⟩) p.ins.length p.ins.length, .slice none 0 0, .int .i64 0, .bool false] 88)) := (HX.out.1.trans (HY.out.1.mono HX.out.1.size)).alloc (HX.out.1.trans (HY.out.1.mono HX.out.1.size)).size _
  have hZs : (Y.alloc (.cells #[.slice A p.ins.length c, .int .i64 p.start, .int .i64 p.caps, .bool bg, .slice (some ⟨bx + 1, 0, none⟩) p.ins.length p.ins.length, .slice none 0 0, .int .i64 0, .bool false] 88)).heap.size = bx + 3 := by rw [World.size_alloc, HY.out.2.2.1]
  generalize Y.alloc (.cells #[.slice A p.ins.length c, .int .i64 p.start, .int .i64 p.caps, .bool bg, .slice (some ⟨bx + 1, 0, none⟩) p.ins.length p.ins.length, .slice none 0 0, .int .i64 0, .bool false] 88) = Z at *
  have HZ := Lib.hid hZ3
  have hR : RwAt Z (bx + 1) p.ins.length (.slice A p.ins.length c) (.int .i64 p.start) (.int .i64 p.caps) bg (.slice none 0 0) ⟨[], [], 0, false⟩ := ⟨hZ1, hZ2, Owns.nil _ _ _ _⟩
  have hcall := HK.out.1 (bx + 1) Z (by have := HX.out.2.2; omega) (by omega) hZB hR (Below.refl _ _) hpc (Nat.lt_succ_of_le (leftN_le _ _)) (fit_new p)
  have HQ := Lib.hid (And.intro hZB hZs)
  clear hZ1 hZ2 hZ3 hZB hZs hR
  refine Scr.run rfl (by rfl) (fun K hK => ?_)
  go_simp
  refine hK _ _ HZ.out ?_
  clear hK K
  simp only [Scr]
  go_wp2_with (go_at_call 61; refine hcall.mono ?_; clear hcall; rintro e w4 ⟨rfl, ⟨lv, hR4⟩, hkp⟩)
  go_ret
  have hB4 := HQ.out.1.trans ((hkp.below (by have := HQ.out.2; omega)).mono (by have := HX.out.2.2; omega))
  exact ⟨bx + 1, lv, _, _, _, rfl, by have := HX.out.2.2; omega, hR4, hB4⟩
end Go.Proofs.YthclpabmbhpohaaDoor
namespace Go.Proofs.YthclpabmbhpohaaDoor
open Go.RowKit Go.Shelf Go.Lib Go.Sort
set_option linter.unusedVariables false
def layEdgeSortNums : Go.Shelf.Ren := ⟨fun | 6 => 89 | 15 => 95 | 14 => 94 | 28 => 105 | 29 => 106 | 20 => 97 | 21 => 98 | 22 => 99 | 23 => 100 | 24 => 101 | 25 => 102 | 26 => 103 | 27 => 104 | 46 => 107 | 47 => 108 | 48 => 109 | 49 => 110 | 50 => 111 | 57 => 112 | n => n, fun | 22 => 131 | 24 => 151 | 25 => 154 | 3 => 3 | 39 => 121 | 0 => 0 | 53 => 134 | 55 => 74 | 4 => 4 | 46 => 160 | 45 => 159 | 50 => 164 | 5 => 5 | 9 => 9 | 66 => 168 | 70 => 172 | 76 => 174 | 77 => 175 | n => n, fun n => n⟩
theorem layEdgeSort : Go.Proofs.SlLaysF0.n6 Tryd.prog layEdgeSortNums := {
  mixed := by kernel_rfl
  f6 := ⟨Tryd.f89.name, by decide, Tryd.func89.trans (congrArg some (by kernel_rfl))⟩
  f14 := ⟨Tryd.f94.name, by decide, Tryd.func94.trans (congrArg some (by kernel_rfl))⟩
  f15 := Tryd.func95.trans (congrArg some (by kernel_rfl))
  f20 := ⟨Tryd.f97.name, by decide, Tryd.func97.trans (congrArg some (by kernel_rfl))⟩
  f21 := ⟨Tryd.f98.name, by decide, Tryd.func98.trans (congrArg some (by kernel_rfl))⟩
  f22 := ⟨Tryd.f99.name, by decide, Tryd.func99.trans (congrArg some (by kernel_rfl))⟩
  f23 := ⟨Tryd.f100.name, by decide, Tryd.func100.trans (congrArg some (by kernel_rfl))⟩
  f24 := ⟨Tryd.f101.name, by decide, Tryd.func101.trans (congrArg some (by kernel_rfl))⟩
  f25 := ⟨Tryd.f102.name, by decide, Tryd.func102.trans (congrArg some (by kernel_rfl))⟩
  f26 := ⟨Tryd.f103.name, by decide, Tryd.func103.trans (congrArg some (by kernel_rfl))⟩
  f27 := ⟨Tryd.f104.name, by decide, Tryd.func104.trans (congrArg some (by kernel_rfl))⟩
  f28 := Tryd.func105.trans (congrArg some (by kernel_rfl))
  f29 := Tryd.func106.trans (congrArg some (by kernel_rfl))
  f46 := ⟨Tryd.f107.name, by decide, Tryd.func107.trans (congrArg some (by kernel_rfl))⟩
  f47 := Tryd.func108.trans (congrArg some (by kernel_rfl))
  f48 := Tryd.func109.trans (congrArg some (by kernel_rfl))
  f49 := ⟨Tryd.f110.name, by decide, Tryd.func110.trans (congrArg some (by kernel_rfl))⟩
  f50 := ⟨Tryd.f111.name, by decide, Tryd.func111.trans (congrArg some (by kernel_rfl))⟩
  f57 := ⟨Tryd.f112.name, by decide, Tryd.func112.trans (congrArg some (by kernel_rfl))⟩
  t0 := Tryd.underlying0
  a0 := Tryd.isAgg0
  z0 := Tryd.sizeOf0
  v0 := Tryd.zeroValue0
  t3 := Tryd.underlying3
  a3 := Tryd.isAgg3
  z3 := Tryd.sizeOf3
  v3 := Tryd.zeroValue3
  t4 := Tryd.underlying4
  a4 := Tryd.isAgg4
  z4 := Tryd.sizeOf4
  v4 := Tryd.zeroValue4
  t5 := Tryd.underlying5
  a5 := Tryd.isAgg5
  z5 := Tryd.sizeOf5
  v5 := Tryd.zeroValue5
  t9 := Tryd.underlying9
  a9 := Tryd.isAgg9
  z9 := Tryd.sizeOf9
  v9 := Tryd.zeroValue9
  t22 := Tryd.underlying131
  a22 := Tryd.isAgg131
  z22 := Tryd.sizeOf131
  v22 := Tryd.zeroValue131
  t25 := Tryd.underlying154
  a25 := Tryd.isAgg154
  z25 := Tryd.sizeOf154
  v25 := Tryd.zeroValue154
  t39 := Tryd.underlying121
  a39 := Tryd.isAgg121
  z39 := Tryd.sizeOf121
  v39 := Tryd.zeroValue121
  t45 := Tryd.underlying159
  a45 := Tryd.isAgg159
  z45 := Tryd.sizeOf159
  v45 := Tryd.zeroValue159
  t46 := Tryd.underlying160
  a46 := Tryd.isAgg160
  z46 := Tryd.sizeOf160
  v46 := Tryd.zeroValue160
  t50 := Tryd.underlying164
  a50 := Tryd.isAgg164
  z50 := Tryd.sizeOf164
  v50 := Tryd.zeroValue164
  t53 := Tryd.underlying134
  a53 := Tryd.isAgg134
  z53 := Tryd.sizeOf134
  v53 := Tryd.zeroValue134
  t55 := Tryd.underlying74
  a55 := Tryd.isAgg74
  z55 := Tryd.sizeOf74
  v55 := Tryd.zeroValue74
  t66 := Tryd.underlying168
  a66 := Tryd.isAgg168
  z66 := Tryd.sizeOf168
  v66 := Tryd.zeroValue168
  t70 := Tryd.underlying172
  a70 := Tryd.isAgg172
  z70 := Tryd.sizeOf172
  v70 := Tryd.zeroValue172
  t76 := Tryd.underlying174
  a76 := Tryd.isAgg174
  z76 := Tryd.sizeOf174
  v76 := Tryd.zeroValue174
  t77 := Tryd.underlying175
  a77 := Tryd.isAgg175
  z77 := Tryd.sizeOf175
  v77 := Tryd.zeroValue175 }
/-- An edge: where; how many more. -/
def edgeC (x : Int × Int) : List Value := [.int .i32 x.1, .int .i64 x.2]
def cmpE (x y : Int × Int) : Int := if x.1 < y.1 then -1 else if x.1 = y.1 then 0 else 1
theorem ltE (x y : Int × Int) : ltOf cmpE x y = decide (x.1 < y.1) := by
  unfold ltOf cmpE
  by_cases h1 : x.1 < y.1
  · simp [h1]
  · by_cases h2 : x.1 = y.1 <;> simp [h1, h2]
theorem swoE : SWO (ltOf cmpE) where
  irrefl x := by rw [ltE]; simp
  trans x y z h1 h2 := by rw [ltE] at *; simp at *; omega
  ntrans x y z h1 h2 := by rw [ltE] at *; simp at *; omega
set_option maxHeartbeats 400000 in
theorem isNaN_any (a : Int) (W : World) : Calls Tryd.prog 96 #[.int .i32 a] W fun e w' => e = .returned (.bool false) ∧ W = w' := by
  have h : (a != a) = false := by simp
  go_enter Tryd.func96, Tryd.ntmps96
  go_wp2
  go_ret
  exact ⟨by simp, rfl⟩
set_option maxHeartbeats 400000 in
theorem compare_any (a b : Int) (W : World) : Calls Tryd.prog 91 #[.int .i32 a, .int .i32 b] W fun e w' => e = .returned (.int .i64 (cmpE (a, 0) (b, 0))) ∧ W = w' := by
  have hn := fun x W => isNaN_any x W
  by_cases h1 : a < b
  · have hr : cmpE (a, 0) (b, 0) = -1 := by simp [cmpE, h1]
    rw [hr]
    clear hr
    go_enter Tryd.func91, Tryd.ntmps91
    go_wp2_with (go_at_call 96; refine (hn _ _).mono ?_; rintro e w2 ⟨rfl, rfl⟩)
    go_ret
    exact ⟨rfl, rfl⟩
  · by_cases h2 : b < a
    · have hr : cmpE (a, 0) (b, 0) = 1 := by simp [cmpE, h1]; omega
      rw [hr]
      clear hr
      go_enter Tryd.func91, Tryd.ntmps91
      go_wp2_with (go_at_call 96; refine (hn _ _).mono ?_; rintro e w2 ⟨rfl, rfl⟩)
      go_ret
      exact ⟨rfl, rfl⟩
    · have hr : cmpE (a, 0) (b, 0) = 0 := by simp [cmpE, h1]; omega
      rw [hr]
      clear hr
      go_enter Tryd.func91, Tryd.ntmps91
      go_wp2_with (go_at_call 96; refine (hn _ _).mono ?_; rintro e w2 ⟨rfl, rfl⟩)
      go_ret
      exact ⟨rfl, rfl⟩
set_option maxHeartbeats 1000000 in
theorem closureE (x y : Int × Int) (W : World) : Calls Tryd.prog 90 #[.agg #[.int .i32 x.1, .int .i64 x.2], .agg #[.int .i32 y.1, .int .i64 y.2]] W fun e w' => e = .returned (.int .i64 (cmpE x y)) ∧ ∃ q os', w' = grow (W.drewN q) os' := by
  have hcon := fun W' => compare_any x.1 y.1 W'
  have hr : cmpE (x.1, 0) (y.1, 0) = cmpE x y := rfl
  rw [hr] at hcon
  generalize cmpE x y = r at hcon ⊢
  go_enter Tryd.func90, Tryd.ntmps90
  go_wp2_with (go_at_call 91; refine (hcon _).mono ?_; rintro e w' ⟨rfl, rfl⟩)
  go_ret
  exact ⟨rfl, 0, _, by rw [alloc_eq_grow, alloc_eq_grow, grow_grow]; rfl⟩
/-- A list of edges of one's own. -/
def OwnE (w : World) (base : Nat) (v : Value) (es : List (Int × Int)) : Prop := Owns w base 151 2 v (es.map edgeC)
def SortPost (base : Nat) (v : Value) (es : List (Int × Int)) (w : World) (e : Ending) (w' : World) : Prop := e = .returned (.tuple #[]) ∧ ∃ es' : List (Int × Int), es'.Perm es ∧ es'.Pairwise (fun x y => x.1 ≤ y.1) ∧ OwnE w' base v es' ∧ Below base w w'
theorem flat_eq (es : List (Int × Int)) : flatK edgeC 2 es.toArray = ((es.map edgeC).flatten).toArray := by
  have hl : ((es.map edgeC).flatten).length = es.length * 2 := by
    induction es with
    | nil => rfl
    | cons x es ih => rw [List.map_cons, List.flatten_cons, List.length_append, ih]; simp [edgeC]; omega
  apply ext_get!
  · simp [hl]
  · intro t ht
    rw [size_flatK] at ht
    have ht' : t < es.length * 2 := by simpa using ht
    rw [get_flatK _ _ _ _ ht]
    have hq : t / 2 < es.length := by omega
    have h1 : (es.map edgeC)[t / 2]? = some (edgeC es[t / 2]) := by rw [List.getElem?_map, List.getElem?_eq_getElem hq]; rfl
    have h2 : (edgeC es[t / 2])[t % 2]? = some ((edgeC es[t / 2])[t % 2]!) := by
      have hlt : t % 2 < (edgeC es[t / 2]).length := by simp [edgeC]; omega
      rw [List.getElem?_eq_getElem hlt, getElem!_pos (edgeC es[t / 2]) (t % 2) hlt]
    have h3 := flatten_at (sz := 2) (fun c hc => by obtain ⟨x, _, rfl⟩ := List.mem_map.1 hc; rfl) h1 h2
    rw [show t / 2 * 2 + t % 2 = t by omega] at h3
    rw [getElem!_pos es.toArray (t / 2) (by simpa using hq)]
    have h4 : ((es.map edgeC).flatten.toArray)[t]! = (edgeC es[t / 2])[t % 2]! := by
      have hlt : t < ((es.map edgeC).flatten).length := by omega
      rw [getElem!_pos ((es.map edgeC).flatten.toArray) t (by simpa using hlt)]
      rw [List.getElem?_eq_getElem hlt] at h3
      simpa using h3
    rw [h4]
    simp
/-- A row of one's own that is written anew, draws and new blocks behind it. -/
theorem own_put {w : World} {base : Nat} {e : TypeId} {sz g n cap q : Nat} {css css' : List (List Value)} (h : Owns w base e sz (.slice (some ⟨g, 0, none⟩) n cap) css) (hl : css'.length = css.length) (hc : ∀ c ∈ css', c.length = sz) (os : Array Obj) :
    Owns (grow (putRow id (Sort.ahead w q) g 0 css'.flatten.toArray) os) base e sz (.slice (some ⟨g, 0, none⟩) n cap) css' := by
  have hlen : ∀ {l : List (List Value)}, (∀ c ∈ l, c.length = sz) → l.flatten.length = l.length * sz := by
    intro l hl
    induction l with
    | nil => simp
    | cons x l ih => rw [List.flatten_cons, List.length_append, ih (fun c hc => hl c (by simp [hc])), hl x (by simp), List.length_cons, Nat.add_mul]; omega
  have h1 := hlen hc
  refine ⟨⟨h1, ?_⟩, hc⟩
  rcases h.1.2 with ⟨e0, _⟩ | ⟨g', cap', cur, e0, hb, hg, hn, hm, hs, ht⟩
  · cases e0
  · injection e0 with e1 e2 e3
    injection e1 with e1
    injection e1 with e1
    subst e1; subst e2; subst e3
    refine .inr ⟨g, cap, putCells id 0 css'.flatten.toArray cur, by rw [hl], hb, ?_, by omega, hm, by simpa [putCells] using hs, ?_⟩
    · have hlt := heap_lt hg
      show ((putRow id (Sort.ahead w q) g 0 css'.flatten.toArray).heap ++ os)[g]? = _
      rw [Array.getElem?_append_left (by simpa [putRow, mapBlock, Sort.ahead] using hlt)]
      simp [putRow, mapBlock, Sort.ahead, Array.getElem?_modify, hg, onCells]
    · apply List.ext_getElem?
      intro j
      rw [List.getElem?_take]
      by_cases hj : j < css'.length * sz
      · have hjc : j < cur.size := by
          have : css'.length * sz ≤ cap * sz := Nat.mul_le_mul_right _ (by omega)
          omega
        rw [if_pos hj, Array.getElem?_toList]
        simp only [putCells, Array.getElem?_mapIdx, Array.getElem?_eq_getElem hjc, Option.map_some]
        rw [if_pos (by simp only [List.size_toArray]; omega), List.getElem?_eq_getElem (by omega)]
        simp [getElem!_pos, h1, hj]
      · rw [if_neg hj, List.getElem?_eq_none (by omega)]
theorem addr_at (g j : Nat) : (⟨g, 0, none⟩ : Addr).add j = ⟨g, 0 + j, none⟩ := by unfold Addr.add; split <;> simp_all
theorem sort_own (w : World) (base : Nat) (v : Value) (es : List (Int × Int)) (ho : OwnE w base v es) (hN : es.length < 4611686018427387904) : Calls Tryd.prog 89 #[v, .func (.func 90) #[] #[]] w (SortPost base v es w) := by
  have eg : ∀ args w, (callFunc 90 args).run Tryd.prog w = .ok (.enter 90 args) w := enters_of Tryd.func90 (by kernel_rfl) rfl
  obtain ⟨A, cap, rfl, h1, h2⟩ := Owns.shape ho
  rw [List.length_map] at ho h1 ⊢
  by_cases hz : es = []
  · subst hz
    refine (AnyF.slices_SortFunc_none layEdgeSort A cap (.func (.func 90) #[] #[]) w).mono ?_
    rintro e w' ⟨rfl, rfl⟩
    exact ⟨rfl, [], List.Perm.refl _, List.Pairwise.nil, ho, Below.refl _ _⟩
  · have hpos : 0 < es.length := List.length_pos_iff.2 hz
    obtain ⟨g, rfl⟩ : ∃ g, A = some ⟨g, 0, none⟩ := by
      rcases ho.1.2 with ⟨e0, h0⟩ | ⟨g', cap', cur, e0, _⟩
      · injection e0 with e1 e2 e3
        omega
      · injection e0 with e1 e2 e3
        exact ⟨g', e1⟩
    have hlt := ho.lt g rfl
    have hH : HoldsK edgeC 2 w g 0 es.toArray := by
      unfold HoldsK
      rw [flat_eq]
      intro j hj
      have hj' : j < (es.map edgeC).flatten.length := by simpa using hj
      rcases ho.1.2 with ⟨e0, h0⟩ | ⟨g', cap', cur, e0, _, hg, hn, _, hs, ht⟩
      · cases e0
      · injection e0 with e1 e2 e3
        injection e1 with e1
        injection e1 with e1
        subst e1
        have hu := ho.1.cells rfl j _ (List.getElem?_eq_getElem hj')
        have hadd : (⟨g, 0, none⟩ : Addr).add j = ⟨g, 0 + j, none⟩ := addr_at g j
        rw [hadd] at hu
        refine ⟨?_, by simp [World.frozen?, hg]⟩
        rw [hu, getElem!_pos ((es.map edgeC).flatten.toArray) j hj]
        simp
    have hcon := AnyQ.slices_SortFunc layEdgeSort 2 Tryd.isAgg151 Tryd.sizeOf151 edgeC (fun _ => rfl) (fun x v hv => by simp [edgeC] at hv; rcases hv with rfl | rfl <;> rfl) cmpE swoE 90 #[] g 0 cap es.toArray w eg (fun _ _ _ _ x y => closureE x y _) hH hlt.2 (by simpa using hN)
    change Calls Tryd.prog 89 _ _ _ at hcon
    simp only [List.size_toArray] at hcon
    refine hcon.mono ?_
    rintro e w' ⟨rfl, d', n, os, hp, hs, rfl⟩
    have hsz : d'.size = es.length := by simpa using hp.1
    have hex : ∀ (d : Array (Int × Int)) (k : Nat), d.size = k → (d.extract 0 k).toList = d.toList := fun d k hk => by subst hk; simp
    have hperm : d'.toList.Perm es := by
      have h3 := hp.2.2
      rw [hex d' _ hsz, hex es.toArray _ (by simp)] at h3
      simpa using h3
    refine ⟨rfl, d'.toList, hperm, ?_, ?_, ?_⟩
    · rw [List.pairwise_iff_getElem]
      intro i j hi hj hij
      have h4 := hs i j (Nat.zero_le _) hij (by simp at hj; omega)
      rw [ltE] at h4
      simp at hi hj
      rw [getElem!_pos d' i hi, getElem!_pos d' j hj] at h4
      simpa using h4
    · unfold OwnE sortWorldK putRowK
      rw [show d' = d'.toList.toArray by simp, flat_eq]
      have h5 := own_put (q := n) ho (css' := d'.toList.map edgeC) (by simp [hsz]) (fun c hc => by obtain ⟨x, _, rfl⟩ := List.mem_map.1 hc; rfl) os
      simpa using h5
    · unfold sortWorldK putRowK
      have h6 := Lib.below_putRow (enc := (id : Value → Value)) (q := n) (g := g) (d := flatK edgeC 2 d') (Below.refl base w) hlt.1
      exact h6.trans (below_grow base _ (by simp [putRow, mapBlock, Sort.ahead]; omega) 0 os)
end Go.Proofs.YthclpabmbhpohaaDoor
namespace Go.Proofs.YthclpabmbhpohaaDoor
open Go.RowKit Go.Shelf Go.Lib Go.Sort
set_option linter.unusedVariables false
def edge1 (r : Rg) : List (Int × Int) := if max r.lo 0 ≤ min r.hi 1114111 then [(max r.lo 0, 1), (min r.hi 1114111 + 1, -1)] else []
def edgesOf (ls : List (List Rg)) : List (Int × Int) := ls.flatMap fun l => l.flatMap edge1
/-- A list of ranges, as one value. -/
def RgsC (ok : Nat → Prop) (w : World) (l : List Rg) (cs : List Value) : Prop := ∃ B d, cs = [.slice B l.length d] ∧ Arr ok w 2 RgC B l
theorem infoEdge : (Tryd.prog.info? 151).map (fun i => (i.zero, i.size, i.bytes)) = some (some (.agg #[.int .i32 0, .int .i64 0]), 2, 16) := by kernel_rfl
def EdgesPost (ls : List (List Rg)) (w : World) (e : Ending) (w' : World) : Prop :=
  ∃ v es, e = .returned v ∧ es.Perm (edgesOf ls) ∧ es.Pairwise (fun x y => x.1 ≤ y.1) ∧ OwnE w' w.heap.size v es ∧ Below w.heap.size w w'
theorem edge1_len (r : Rg) : (edge1 r).length ≤ 2 := by unfold edge1; split <;> simp
theorem flat_len (l : List Rg) : (l.flatMap edge1).length ≤ 2 * l.length := by
  induction l with
  | nil => simp
  | cons x l ih => rw [List.flatMap_cons, List.length_append, List.length_cons]; have := edge1_len x; omega
theorem flat_size {sz : Nat} : ∀ {l : List (List Value)}, (∀ c ∈ l, c.length = sz) → l.flatten.length = l.length * sz
  | [], _ => by simp
  | x :: l, h => by rw [List.flatten_cons, List.length_append, flat_size (fun c hc => h c (by simp [hc])), h x (by simp), List.length_cons, Nat.add_mul]; omega
/-- An append of a block of elements. -/
theorem wpList_appM {P : Program} {ops : Array Oper} {rest : List Oper} {o : Oper} {a : Act} {Q : Exit → Act → World → Prop} {w : World} (hgd : o.guard = none) (s x : Operand) (t : TypeId)
    (ho : o.op = .call { callee := .builtin .append, args := #[s, x], argTypes := #[t, t] }) (base : Nat) (e : TypeId) (i : TypeInfo) (z : Value) (sz bytes : Nat) (ht : P.underlying t = some (.slice e)) (hi : P.info? e = some i) (hz : i.zero = some z)
    (hsize : i.size = sz) (hby : i.bytes = bytes) (hzs : z.cells.size = sz) (hsz : 0 < sz) (v : Value) (css : List (List Value)) (hs : a.eval s = v) (hown : Owns w base e sz v css)
    (g : Nat) (cs2 : List (List Value)) (m : Nat) (arr : Array Value) (hx : a.eval x = .slice (some ⟨g, 0, none⟩) m m) (hm : cs2.length = m) (hc : ∀ c ∈ cs2, c.length = sz) (hg : w.heap[g]? = some (.cells arr e (0, 0))) (harr : arr = cs2.flatten.toArray) (h1 : ∀ c ∈ cs2, ∀ u ∈ c, u.oneCell' = true)
    (hmax : css.length + m ≤ maxLen) (hbytes : (css.length + m) * bytes ≤ 140737488355328) (hbase : base ≤ w.heap.size)
    (h : ∀ v' w', Owns w' base e sz v' (css ++ cs2) → w.grownBy w' v.ownBlock → wpList P ops Q rest (a.put o.dst v') w') : wpList P ops Q (o :: rest) a w :=
  wpList_append_own w hgd s x t ho base e i z sz bytes ht hi hz hsize hby hzs hsz v css.length css.flatten hs hown.1 ⟨g, 0, none⟩ m m cs2.flatten hx (by rw [flat_size hc, hm])
    (fun j u hj => by
      have : (⟨g, 0, none⟩ : Addr).add j = ⟨g, j, none⟩ := by unfold Addr.add; split <;> simp_all
      rw [this, cell_of_blk hg, harr]; simpa using hj) (fun u hu => by obtain ⟨c, hc', hu'⟩ := List.mem_flatten.1 hu; exact h1 c hc' u hu') hmax hbytes hbase
    (fun v' w' h2 h3 _ => h v' w' ⟨by rw [List.length_append, List.flatten_append, hm]; exact h2, fun c' hc' => (List.mem_append.1 hc').elim (hown.2 c') (hc c')⟩ h3)
theorem take_next {l : List Rg} {j : Nat} (h : j < l.length) : (l.take (j + 1)).flatMap edge1 = (l.take j).flatMap edge1 ++ edge1 l[j] := by
  rw [List.take_succ_eq_append_getElem h, List.flatMap_append]; simp
theorem heap_newE {W : World} {o : Obj} {n : Nat} (h : n = W.heap.size) : (W.alloc o).heap[n]? = some o := by subst h; exact World.alloc_heap_new _ _
theorem rg_at {ok : Nat → Prop} {w wr : World} {B : Option Addr} {l : List Rg} (h : Arr ok w 2 RgC B l) (hb : RowKit.Below w.heap.size w wr) (j : Nat) (hj : j < l.length) :
    ∃ ad, B = some ad ∧ wr.cell? (ad.add (j * 2)) = some (.int .i32 l[j].lo) ∧ wr.cell? ⟨(ad.add (j * 2)).block, (ad.add (j * 2)).off + 1, none⟩ = some (.int .i32 l[j].hi) := by
  obtain ⟨ad, cs, rfl, _, hr, _, hc⟩ := h j _ (List.getElem?_eq_getElem hj)
  rw [hr] at hc
  have h0 := hc 0 _ rfl
  have h1 := hc 1 _ rfl
  rw [add_field _ _ _ (by omega)] at h1
  exact ⟨ad, rfl, (hb.cell (World.block_lt_of_cell? w _ h0)).trans h0, (hb.cell (World.block_lt_of_cell? w _ h1)).trans h1⟩
set_option maxRecDepth 100000 in
set_option maxHeartbeats 4000000 in
theorem edges_any (ok : Nat → Prop) (w : World) (A : Addr) (c : Nat) (ls : List (List Rg)) (h : Arr ok w 1 (RgsC ok w) (some A) ls) (hn : ls.length ≤ 2) (hN : ∀ l ∈ ls, l.length ≤ 1000000000) :
    Calls Tryd.prog 76 #[.slice (some A) ls.length c] w (EdgesPost ls w) := by
  obtain ⟨i0, hi, hx⟩ := Option.map_eq_some_iff.1 infoEdge
  simp only [Prod.mk.injEq] at hx
  obtain ⟨hz0, hz1, hz2⟩ := hx
  have HA := Lib.hid h
  clear h
  go_enter Tryd.func76, Tryd.ntmps76
  go_wp2_with fail
  go_loopg [3, 12] ls.length (fun g v i wr => ∃ k : Nat, k + g = ls.length ∧ i = .int .i64 k ∧ OwnE wr w.heap.size v (edgesOf (ls.take k)) ∧ Below w.heap.size w wr ∧ (edgesOf (ls.take k)).length ≤ 2000000000 * k)
  case atStart => exact ⟨0, by omega, rfl, Owns.nil _ _ _ _, Below.refl _ _, by simp [edgesOf]⟩
  case round =>
    obtain ⟨k, hk, rfl, hown, hBr, hel⟩ := hrel
    obtain ⟨G, hG⟩ : ∃ G, G = gk := ⟨_, rfl⟩
    by_cases hlt : k < ls.length
    · obtain ⟨ad, cs, hA', _, ⟨B, d, rfl, harr⟩, _, hc⟩ := HA.out k _ (List.getElem?_eq_getElem hlt)
      injection hA' with hA'
      subst hA'
      have hcw := hc 0 _ rfl
      rw [Nat.mul_one, Nat.add_zero] at hcw
      have hcr : wr.cell? (A.add k) = some (.slice B ls[k].length d) := (hBr.cell (World.block_lt_of_cell? w _ hcw)).trans hcw
      have HR := Lib.hid harr
      have HO := Lib.hid (And.intro hown hBr)
      clear hc hcw harr hown hBr
      have hll := hN _ (List.getElem_mem hlt)
      obtain ⟨l, hl⟩ : ∃ l, l = ls[k] := ⟨_, rfl⟩
      obtain ⟨E0, hE0⟩ : ∃ E0, E0 = edgesOf (ls.take k) := ⟨_, rfl⟩
      rw [← hl] at hcr HR hll
      rw [← hE0] at HO hel
      have HL := Lib.hid (And.intro hl hE0)
      clear hl hE0
      go_wp2_with fail
      go_loopg [3, 18] l.length (fun g2 v i wy => ∃ j : Nat, j + g2 = l.length ∧ i = .int .i64 j ∧ OwnE wy w.heap.size v (E0 ++ (l.take j).flatMap edge1) ∧ RowKit.Below w.heap.size w wy)
      case atStart => exact ⟨0, by omega, rfl, by simpa using HO.out.1, HO.out.2⟩
      case round =>
        obtain ⟨j, hj, rfl, hown, hBy⟩ := hrel
        by_cases hjl : j < l.length
        · obtain ⟨bd, rfl, hlo, hhi⟩ := rg_at HR.out hBy j hjl
          obtain ⟨lo, hlo'⟩ : ∃ z, z = l[j].lo := ⟨_, rfl⟩
          obtain ⟨hi', hhi'⟩ : ∃ z, z = l[j].hi := ⟨_, rfl⟩
          rw [← hlo'] at hlo
          rw [← hhi'] at hhi
          have HX := Lib.hid (And.intro hlo' hhi')
          have HO2 := Lib.hid (And.intro hown hBy)
          clear hlo' hhi' hown hBy
          by_cases hle : max lo 0 ≤ min hi' 1114111
          · have he : edge1 l[j] = [(max lo 0, 1), (min hi' 1114111 + 1, -1)] := by unfold edge1; rw [← HX.out.1, ← HX.out.2, if_pos hle]
            have HE := Lib.hid he
            clear he
            go_wp2_with fail
            go_quiet (fail)
            generalize hmx : max lo 0 = mx at *
            generalize hmn : min hi' 1114111 = mm at *
            have hmm : mm ≤ 1114111 := by omega
            have hm0 : 0 ≤ mx := by omega
            clear hmx hmn
            have hlen : ((E0 ++ (l.take j).flatMap edge1).map edgeC).length ≤ 6000000000 := by
              rw [List.length_map, List.length_append]
              have h5 := flat_len (l.take j)
              rw [List.length_take] at h5
              have h6 : 2000000000 * k ≤ 4000000000 := by omega
              omega
            go_wp2_with (at_builtin; refine wpList_appM rfl _ _ 131 rfl w.heap.size 151 i0 _ 2 16 Tryd.underlying131 hi hz0 hz1 hz2 rfl (by decide) _ _ rfl (Owns.alloc (show Owns ((wr.alloc _).drewN _) _ _ _ _ _ from HO2.out.1.alloc _) _) _ [edgeC (mx, 1), edgeC (mm + 1, -1)] 2 _ rfl rfl ?c1 (heap_newE (by simp)) rfl ?c2 ?c3 ?c4 ?c5 ?_)
            case c1 => intro cc hcc; simp at hcc; rcases hcc with rfl | rfl <;> rfl
            case c2 => intro cc hcc u hu; simp [edgeC] at hcc; rcases hcc with rfl | rfl <;> simp at hu <;> rcases hu with rfl | rfl <;> rfl
            case c3 => unfold maxLen; omega
            case c4 => omega
            case c5 => have := HO2.out.2.size; simp; omega
            intro v' w2 hown' hgrow
            have hb2 := below_app (below_al (below_drewN (below_al HO2.out.2 _) _) _) (by have := HO2.out.2.size; simp; omega) (Owns.alloc (show Owns ((wr.alloc (.cells #[.int .i32 lo, .int .i32 hi'] 66)).drewN nq) _ _ _ _ _ from HO2.out.1.alloc _) _) hgrow
            have H2 := Lib.hid (And.intro hown' hb2)
            clear hown' hgrow hb2 hlen
            go_wp2_with fail
            go_roundg (gk - 1)
            case measure => omega
            case rel =>
              refine ⟨j + 1, by omega, by go_num, ?_, H2.out.2⟩
              rw [take_next hjl, HE.out]
              have h5 := H2.out.1
              unfold OwnE
              rw [List.map_append, List.map_append]
              exact h5
          · have he : edge1 l[j] = [] := by unfold edge1; rw [← HX.out.1, ← HX.out.2, if_neg hle]
            have HE := Lib.hid he
            clear he
            go_wp2_with fail
            go_quiet (fail)
            go_wp2_with fail
            go_roundg (gk - 1)
            case measure => omega
            case rel =>
              refine ⟨j + 1, by omega, by go_num, ?_, below_drewN (below_al HO2.out.2 _) _⟩
              rw [take_next hjl, HE.out, List.append_nil]
              exact HO2.out.1.alloc _
        · obtain rfl : j = l.length := by omega
          rw [List.take_length] at hown
          have HO3 := Lib.hid (And.intro hown hBy)
          clear hown hBy
          go_wp2_with fail
          go_roundg (G - 1)
          case measure => omega
          case rel =>
            have h5 : edgesOf (ls.take (k + 1)) = E0 ++ l.flatMap edge1 := by
              unfold edgesOf
              rw [List.take_succ_eq_append_getElem hlt, List.flatMap_append, HL.out.2, HL.out.1]
              simp [edgesOf]
            refine ⟨k + 1, by omega, by go_num, by rw [h5]; exact HO3.out.1, HO3.out.2, ?_⟩
            rw [h5, List.length_append]
            have := flat_len l
            omega
    · obtain rfl : k = ls.length := by omega
      rw [List.take_length] at hown hel
      have hso := sort_own wr w.heap.size _ _ hown (by omega)
      have HO3 := Lib.hid hBr
      clear hown hBr
      go_wp2_with (go_at_call 89; refine hso.mono ?_; rintro e w2 ⟨rfl, es', hp, hpw, ho2, hb2⟩)
      go_ret
      exact ⟨_, es', rfl, hp, hpw, ho2, HO3.out.trans hb2⟩
end Go.Proofs.YthclpabmbhpohaaDoor
namespace Go.Proofs.YthclpabmbhpohaaDoor
open Go.RowKit Go.Shelf
set_option linter.unusedVariables false
theorem keepsFrom_below {B : Nat} {W W' : World} (h : Below W.heap.size W W') : KeepsFrom B W W' := ⟨h.size, fun k o _ hk _ => (h.block k (heap_lt hk)).trans hk⟩
theorem blk_own {β : Type} (b : Nat) (cs : Array Value) (ty : TypeId) : Own (fun (_ : β) W => W.heap[b]? = some (Obj.cells cs ty (0, 0))) := by
  intro s W W' row h hg hr
  refine (hg.block b (heap_lt h) (fun e => ?_)).trans h
  obtain ⟨o, ho, hc⟩ := hr b e.symm
  rw [h] at ho; cases ho; simp [Obj.isCells] at hc
end Go.Proofs.YthclpabmbhpohaaDoor
namespace Go.Proofs.YthclpabmbhpohaaDoor
set_option linter.unusedVariables false
/-- The stretches between edges, each with how many ranges are there. -/
def spansOf : Int → Int → List (Int × Int) → List (Rg × Int)
  | f, n, [] => if f ≤ 1114111 then [(⟨f, 1114111⟩, n)] else []
  | f, n, x :: es => if f < x.1 then (⟨f, x.1 - 1⟩, n) :: spansOf x.1 (n + x.2) es else spansOf f (n + x.2) es
theorem spans_move (x : Int × Int) (v : List (Int × Int)) : ∀ (u : List (Int × Int)) (f n : Int), (∀ y ∈ u, y.1 = x.1) → spansOf f n (u ++ x :: v) = spansOf f n (x :: (u ++ v))
  | [], f, n, _ => rfl
  | y :: u, f, n, h => by
    have hy := h y (by simp)
    have ih := fun f n => spans_move x v u f n (fun z hz => h z (by simp [hz]))
    rw [List.cons_append, spansOf]
    by_cases h1 : f < y.1
    · rw [if_pos h1, ih, spansOf, if_neg (by omega), spansOf, if_pos (by omega), List.cons_append, spansOf, if_neg (by omega), hy, Int.add_right_comm]
    · rw [if_neg h1, ih, spansOf, spansOf]
      rw [if_neg (by omega), if_neg (by omega), List.cons_append, spansOf, if_neg (by omega), Int.add_right_comm]
theorem spans_perm : ∀ (es es' : List (Int × Int)) (f n : Int), es.Perm es' → es.Pairwise (fun x y => x.1 ≤ y.1) → es'.Pairwise (fun x y => x.1 ≤ y.1) → spansOf f n es = spansOf f n es'
  | [], es', f, n, hp, _, _ => by rw [List.nil_perm.1 hp]
  | x :: es, es', f, n, hp, h1, h2 => by
    obtain ⟨u, v, rfl⟩ := List.append_of_mem (hp.subset (by simp : x ∈ x :: es))
    have hu : ∀ y ∈ u, y.1 = x.1 := fun y hy => by
      have h3 := (List.pairwise_append.1 h2).2.2 y hy x (by simp)
      have h4 : y ∈ x :: es := hp.symm.subset (by simp [hy])
      rcases List.mem_cons.1 h4 with rfl | h4
      · rfl
      · have := (List.pairwise_cons.1 h1).1 y h4
        omega
    rw [spans_move x v u f n hu]
    have hp2 : es.Perm (u ++ v) := (List.perm_cons x).1 (hp.trans List.perm_middle)
    have h5 : (u ++ v).Pairwise (fun x y => x.1 ≤ y.1) := h2.sublist (List.Sublist.append (List.Sublist.refl u) (List.sublist_cons_self x v))
    have ih := fun f n => spans_perm es (u ++ v) f n hp2 (List.pairwise_cons.1 h1).2 h5
    rw [spansOf, spansOf]
    split <;> rw [ih]
/-- A stretch is put behind those that are there already. -/
def putSpan (out : List Rg) (x : Rg) : List Rg :=
  match out.getLast? with
  | some y => if y.hi + 1 = x.lo then out.dropLast ++ [⟨y.lo, x.hi⟩] else out ++ [x]
  | none => [x]
/-- The set of the stretches whose number is right. -/
def thoseOf (is : Int → Bool) (ss : List (Rg × Int)) : List Rg := ss.foldl (fun out s => if is s.2 then putSpan out s.1 else out) []
/-- The union of lists. -/
def normOf (ls : List (List Rg)) : List Rg := thoseOf (fun n => decide (0 < n)) (spansOf 0 0 ((edgesOf ls).mergeSort fun x y => decide (x.1 ≤ y.1)))
theorem norm_any (ls : List (List Rg)) (es : List (Int × Int)) (hp : es.Perm (edgesOf ls)) (hs : es.Pairwise (fun x y => x.1 ≤ y.1)) : thoseOf (fun n => decide (0 < n)) (spansOf 0 0 es) = normOf ls := by
  unfold normOf
  rw [spans_perm es _ 0 0 (hp.trans (List.mergeSort_perm _ _).symm) hs]
  have h := List.pairwise_mergeSort (le := fun x y : Int × Int => decide (x.1 ≤ y.1)) (fun a b c h1 h2 => by simp at *; omega) (fun a b => by simp; omega) (edgesOf ls)
  exact h.imp (fun h => by simpa using h)
end Go.Proofs.YthclpabmbhpohaaDoor
namespace Go.Proofs.YthclpabmbhpohaaDoor
open Go.RowKit Go.Shelf
set_option linter.unusedVariables false
attribute [local go_sem] Oper.semAt_some
/-- What a round of the ranging code keeps: what lay there ahead of the call; each edge. -/
def KeepsE (B0 : Nat) (W W' : World) : Prop := Below B0 W W' ∧ ∀ (b : Nat) (cs : Array Value) (fr : Nat × Nat), W.heap[b]? = some (.cells cs 151 fr) → W'.heap[b]? = some (.cells cs 151 fr)
theorem KeepsE.trans {B0 : Nat} {A B C : World} (h : KeepsE B0 A B) (k : KeepsE B0 B C) : KeepsE B0 A C := ⟨h.1.trans k.1, fun b cs fr hb => k.2 b cs fr (h.2 b cs fr hb)⟩
theorem KeepsE.of_below {B0 : Nat} {A B : World} (h : Below A.heap.size A B) (hB : B0 ≤ A.heap.size) : KeepsE B0 A B := ⟨h.mono hB, fun b cs fr hb => (h.block b (heap_lt hb)).trans hb⟩
def spanA (s : Rg × Int) : Array Value := #[.agg #[.int .i32 s.1.lo, .int .i32 s.1.hi], .int .i64 s.2]
theorem spans_len : ∀ (es : List (Int × Int)) (f n : Int), (spansOf f n es).length ≤ es.length + 1
  | [], f, n => by rw [spansOf]; split <;> simp
  | x :: es, f, n => by
    have ih := fun f n => spans_len es f n
    rw [spansOf]
    split
    · have := ih x.1 (n + x.2); simp; omega
    · have := ih f (n + x.2); simp; omega
theorem edge_at {ok : Nat → Prop} {w wr : World} {B : Option Addr} {l : List (Int × Int)} (h : Arr ok w 2 (fun x cs => cs = edgeC x) B l) (hb : ∀ b, ok b → wr.heap[b]? = w.heap[b]?) (j : Nat) (hj : j < l.length) :
    ∃ ad, B = some ad ∧ wr.cell? (ad.add (j * 2)) = some (.int .i32 l[j].1) ∧ wr.cell? ⟨(ad.add (j * 2)).block, (ad.add (j * 2)).off + 1, none⟩ = some (.int .i64 l[j].2) := by
  obtain ⟨ad, cs, rfl, hok, hr, _, hc⟩ := h j _ (List.getElem?_eq_getElem hj)
  rw [hr] at hc
  have h0 := hc 0 _ rfl
  have h1 := hc 1 _ rfl
  rw [add_field _ _ _ (by omega)] at h1
  refine ⟨ad, rfl, ?_, ?_⟩
  · rw [← h0]; exact World.cell?_of_block (by rw [add_block]; exact hb _ hok)
  · rw [← h1]; exact World.cell?_of_block (by show wr.heap[(ad.add (j * 2)).block]? = _; rw [add_block]; exact hb _ hok)
set_option maxRecDepth 100000 in
set_option maxHeartbeats 4000000 in
theorem spans_stops (n B0 Bt : Nat) (w : World) (A : Option Addr) (cap : Nat) (es : List (Int × Int)) (hB0 : B0 ≤ w.heap.size) (hbt : w.heap[Bt]? = some (.cells #[.slice A es.length cap] 131 (0, 0)))
    (hes : Arr (fun b => b < B0) w 2 (fun x cs => cs = edgeC x) A es) (hN : es.length ≤ 1000000000000) (hv : ∀ x ∈ es, (0 ≤ x.1 ∧ x.1 ≤ 1114112) ∧ (-1 ≤ x.2 ∧ x.2 ≤ 1)) :
    SeqStopsK Fence.wide n Tryd.prog 93 #[.pointer (some ⟨Bt, 0, none⟩)] spanA (KeepsE B0) (fun ys => ys = spansOf 0 0 es) (fun pre => pre <+: spansOf 0 0 es) (spansOf 0 0 es).length w := by
  intro l J Jx W hW hJ hJx hY h0
  have hc0 : W.cell? ⟨Bt, 0, none⟩ = some (.slice A es.length cap) := by rw [hW.cell (p := ⟨Bt, 0, none⟩) (heap_lt hbt), cell_of_blk hbt]; rfl
  have hJa : ∀ s W o, J s W → J s (W.alloc o) := fun s W o hs => hJ s W _ none hs (World.grownBy_alloc W o none) (fun r e => by cases e)
  have hdd : ∀ k : Nat, (Fence.wide.depth.isSome = true → 1 ≤ k) := fun k h => by simp [Fence.wide] at h
  have HE := Lib.hid (And.intro hes (And.intro hv (And.intro hW hbt)))
  have HY := Lib.hid hY
  have hsn := spans_len es 0 0
  clear hes hv hbt hY
  refine callsIn_of_wp Tryd.func93 rfl trivial ?_ rfl
  simp only [Tryd.ntmps93, List.size_toArray, List.length_cons, List.length_nil, Nat.reduceAdd, Nat.reduceSub, Array.replicate_succ, Array.replicate_zero, List.push_toArray, List.append_toArray, List.nil_append, List.cons_append]
  gi_wp2_with fail
  gi_loopw [3, 4, 9] (fun s3 s4 s9 wr => ∃ (i : Nat) (f m : Int) (ys : List (Rg × Int)), s9 = .int .i64 i ∧ s3 = .int .i32 f ∧ s4 = .int .i64 m ∧ i ≤ es.length ∧ (0 ≤ f ∧ f ≤ 1114112) ∧ (-(i : Int) ≤ m ∧ m ≤ i) ∧ Hid (ys ++ spansOf f m (es.drop i) = spansOf 0 0 es) ∧ J ys wr ∧ Below B0 W wr) (fun _ _ v _ => es.length - (intOf v).toNat)
  case atStart => exact ⟨0, 0, 0, [], rfl, rfl, rfl, Nat.zero_le _, by omega, by omega, Lib.hid rfl, h0, Below.refl _ _⟩
  case round =>
    obtain ⟨i, f, m, ys, rfl, rfl, rfl, hi, hf, hm, HS, hJi, hBr⟩ := hrel
    by_cases hlt : i < es.length
    · obtain ⟨ad, rfl, hc1, hc2⟩ := edge_at HE.out.1 (fun b hb => (hBr.block b hb).trans (HE.out.2.2.1.block b (by omega))) i hlt
      have hvv := HE.out.2.1 _ (List.getElem_mem hlt)
      obtain ⟨a, ha⟩ : ∃ a, a = es[i].1 := ⟨_, rfl⟩
      obtain ⟨b, hb⟩ : ∃ b, b = es[i].2 := ⟨_, rfl⟩
      rw [← ha] at hc1 hvv
      rw [← hb] at hc2 hvv
      have hdrop : es.drop i = (a, b) :: es.drop (i + 1) := by
        rw [List.drop_eq_getElem_cons hlt, ha, hb]
      have HD := Lib.hid (And.intro hdrop hBr)
      clear ha hb hdrop
      have hJ1 := hJa _ _ (.cells #[.int .i32 a, .int .i64 b] 151) hJi
      by_cases hfa : f < a
      · have hS2 : (ys ++ [((⟨f, a - 1⟩ : Rg), m)]) ++ spansOf a (m + b) (es.drop (i + 1)) = spansOf 0 0 es := by
          rw [← HS.out, HD.out.1, spansOf, if_pos hfa]; simp
        have hpl : ys.length < (spansOf 0 0 es).length := by rw [← hS2]; simp
        obtain ⟨fn, tmps, assign, body, hy1, hR⟩ := HY.out ys (⟨f, a - 1⟩, m) _ hJ1 hpl
        have hR1 := hR.mono (R' := fun e W2 => (e = .returned (.bool true) ∧ J (ys ++ [((⟨f, a - 1⟩ : Rg), m)]) W2 ∧ Below B0 W W2 ∧ W2.cell? ⟨wr.heap.size, 0, none⟩ = some (.int .i32 a) ∧ W2.cell? ⟨wr.heap.size, 1, none⟩ = some (.int .i64 b)) ∨ (e = .returned (.bool false) ∧ Jx (ys ++ [((⟨f, a - 1⟩ : Rg), m)]) W2))
          (fun e W2 h => h.elim (fun ⟨he, hj, hk2⟩ => .inl ⟨he, hj, (hBr.alloc (Nat.le_trans hB0 (Nat.le_trans HE.out.2.2.1.size hBr.size)) _).trans hk2.1, by rw [cell_of_blk (hk2.2 _ _ _ (heap_new1 _ _))]; rfl, by rw [cell_of_blk (hk2.2 _ _ _ (heap_new1 _ _))]; rfl⟩) .inr)
        dsimp only [spanA] at hy1 hR1
        have HS2 := Lib.hid hS2
        have hpre : (ys ++ [((⟨f, a - 1⟩ : Rg), m)]) <+: spansOf 0 0 es := by rw [← hS2]; exact List.prefix_append _ _
        have HP := Lib.hid hpre
        clear hR hS2 hpl hJ1 hJi hBr hpre
        gi_wp2_with ((try refine ⟨hdd _, ?_⟩); refine hR1.mono ?_; clear hR1; rintro e W2 (⟨rfl, hJ2, hk2, q0, q1⟩ | ⟨rfl, hx2⟩))
        · go_roundw
          case rel => exact ⟨i + 1, a, m + b, _, by go_num, rfl, rfl, by omega, by omega, by omega, HS2, hJ2, hk2⟩
          case measure => simp [intOf]; omega
        · refine bodyPost_ret (results_none rfl _ _ _) rfl ?_
          exact ⟨⟨_, rfl⟩, .inr ⟨_, HP.out, hx2⟩⟩
      · have hS2 : ys ++ spansOf f (m + b) (es.drop (i + 1)) = spansOf 0 0 es := by
          rw [← HS.out, HD.out.1, spansOf, if_neg hfa]
        have HS2 := Lib.hid hS2
        have hB2 := hBr.alloc (Nat.le_trans hB0 (Nat.le_trans HE.out.2.2.1.size hBr.size)) (.cells #[.int .i32 a, .int .i64 b] 151)
        have HB2 := Lib.hid (And.intro hJ1 hB2)
        clear hS2 hJ1 hJi hBr hB2
        gi_wp2
        go_roundw
        case rel => exact ⟨i + 1, f, m + b, _, by go_num, rfl, by go_num, by omega, by omega, by omega, HS2, HB2.out.1, HB2.out.2⟩
        case measure => simp [intOf]; omega
    · obtain rfl : i = es.length := by omega
      by_cases hff : f ≤ 1114111
      · have hS2 : ys ++ [((⟨f, 1114111⟩ : Rg), m)] = spansOf 0 0 es := by
          rw [← HS.out, List.drop_length, spansOf, if_pos hff]
        have hpl : ys.length < (spansOf 0 0 es).length := by rw [← hS2]; simp
        obtain ⟨fn, tmps, assign, body, hy1, hR1⟩ := HY.out ys (⟨f, 1114111⟩, m) _ hJi hpl
        dsimp only [spanA] at hy1 hR1
        have HS2 := Lib.hid hS2
        clear hS2 hpl hJi hBr
        gi_wp2_with ((try refine ⟨hdd _, ?_⟩); refine hR1.mono ?_; clear hR1; rintro e W2 (⟨rfl, hJ2, hk2⟩ | ⟨rfl, hx2⟩))
        · go_end0
          exact ⟨⟨_, rfl⟩, .inl ⟨_, HS2.out, hJ2⟩⟩
        · go_end0
          exact ⟨⟨_, rfl⟩, .inr ⟨_, by rw [HS2.out]; exact List.prefix_rfl, hx2⟩⟩
      · have hS2 : ys = spansOf 0 0 es := by
          have := HS.out
          rw [List.drop_length, spansOf, if_neg hff, List.append_nil] at this
          exact this
        have HS2 := Lib.hid hS2
        clear hS2
        gi_wp2
        go_end0
        refine ⟨⟨_, rfl⟩, .inl ?_⟩
        first | exact HS2.out ▸ hJi | exact ⟨ys, HS2.out, hJi⟩
end Go.Proofs.YthclpabmbhpohaaDoor
namespace Go.Proofs.YthclpabmbhpohaaDoor
open Go
set_option linter.unusedVariables false
theorem wpOpIn_round {F : Fence} {n : Nat} {P : Program} {ops : Array Oper} {Q : Exit → Act → World → Prop} (l : Nat) (hnd : ∀ o ∈ ops, ∀ c, o.op ≠ .defer c) {i : Nat} {K : Act → World → Prop} {a : Act} {w : World} (h : wpOpIn F n P ops Q i K a w) : wpOpIn (F.inRound l) n P ops Q i K a w := by
  unfold wpOpIn at *
  split
  · rename_i ho
    simpa [ho] using h
  · rename_i o ho
    simp only [ho] at h
    have hm : o ∈ ops := Array.mem_of_getElem? ho
    split
    · rename_i hw
      simp only [hw, if_true] at h
      unfold Oper.wpIn at *
      rw [Oper.semAt_plain _ _ _ (hnd o hm)] at *
      exact h
    · rename_i hw
      simp only [hw] at h
      exact h
theorem wpAnyIn_round {F : Fence} {n : Nat} {P : Program} {md : Region.Mode} {ops : Array Oper} {Q : Exit → Act → World → Prop} (l : Nat) (hnd : ∀ o ∈ ops, ∀ c, o.op ≠ .defer c) : ∀ (fuel : Nat) (listed : Array Bool) (a : Act) (w : World), wpAnyIn F n P md ops Q fuel listed a w → wpAnyIn (F.inRound l) n P md ops Q fuel listed a w
  | 0, _, _, _, h => h
  | fuel + 1, listed, a, w, h => ⟨h.1, fun i hi => wpOpIn_mono (fun a w hh => wpAnyIn_round l hnd fuel _ a w hh) (wpOpIn_round l hnd (h.2 i hi))⟩
theorem region_quiet_round {n : Nat} {P : Program} {ops : Array Oper} {id : Nat} {Q : Exit → Act → World → Prop} {a : Act} {w : World} {C : World → Prop} (l : Nat) (hnd : ∀ o ∈ ops, ∀ c, o.op ≠ .defer c) (hm : P.follows .mixedOrders = true) (hB : Region.lexB .any ops = true) (hC : C { w with drawn := w.drawn + 1 })
    (h : wpQuietIn Fence.wide n P ops C (fun a' => ∀ w', C w' → Q .normal a' w') ops.toList a) : (Code.region id ops true).wpIn (Fence.wide.inRound l) n P Q a w := by
  simp only [Region.lexB, Bool.and_eq_true] at hB
  refine wpIn_region_any hm (wpAnyIn_round l hnd _ _ _ _ (wpAnyIn_of_quiet (Q := fun a' => ∀ w', C w' → Q .normal a' w') rfl (fun _ w' hw' h => h w' hw') _ _ _ _ hC ?_))
  have := wpAnyQIn_lex (F := Fence.wide) (n := n) (C := C) (md := .any) hB.1 ops.toList 0 (Array.replicate ops.size false) a (by simp) (by simpa using hB.2) h
  simpa using this
/-- The same for a region whose operations are written out. -/
theorem region_quiet_lit_round {n : Nat} {P : Program} {id : Nat} {Q : Exit → Act → World → Prop} {a : Act} {w : World} {os : List Oper} {l : Nat} (hnd : os.all (fun o => match o.op with | .defer _ => false | _ => true) = true) (hm : P.follows .mixedOrders = true) (hB : Region.lexB .any os.toArray = true)
    (h : wpQuietIn Fence.wide n P os.toArray (fun w' => ∃ n, w' = w.drewN n) (fun a' => ∀ w', (∃ n, w' = w.drewN n) → Q .normal a' w') os a) : (Code.region id os.toArray true).wpIn (Fence.wide.inRound l) n P Q a w :=
  region_quiet_round (C := fun w' => ∃ n, w' = w.drewN n) l (fun o ho c hc => by have := List.all_eq_true.1 hnd o (by simpa using ho); rw [hc] at this; cases this) hm hB ⟨1, rfl⟩ (by simpa using h)
end Go.Proofs.YthclpabmbhpohaaDoor
namespace Go.Proofs.YthclpabmbhpohaaDoor
open Go.RowKit Go.Shelf
set_option linter.unusedVariables false
attribute [local go_sem] Oper.semAt_some
def rgC (r : Rg) : List Value := [.int .i32 r.lo, .int .i32 r.hi]
/-- A list of ranges of one's own. -/
def OwnR (w : World) (base : Nat) (v : Value) (l : List Rg) : Prop := Owns w base 66 2 v (l.map rgC)
def SpansPost (v : Value) (w : World) (e : Ending) (w' : World) : Prop := e = .returned (.func (.func 93) #[] #[.pointer (some ⟨w.heap.size, 0, none⟩)]) ∧ w.alloc (.cells #[v] 131) = w'
set_option maxHeartbeats 400000 in
theorem spans_any (w : World) (A : Option Addr) (n c : Nat) : Calls Tryd.prog 88 #[.slice A n c] w (SpansPost (.slice A n c) w) := by
  go_enter Tryd.func88, Tryd.ntmps88
  go_wp2
  go_ret
  exact ⟨rfl, rfl⟩
theorem isSome_any (w : World) (n : Int) : Calls Tryd.prog 79 #[.int .i64 n] w fun e w' => e = .returned (.bool (decide (0 < n))) ∧ w = w' := by
  go_enter Tryd.func79, Tryd.ntmps79
  go_wp2
  go_ret
  exact ⟨rfl, rfl⟩
theorem infoRg : (Tryd.prog.info? 66).map (fun i => (i.zero, i.size, i.bytes)) = some (some (.agg #[.int .i32 0, .int .i32 0]), 2, 8) := by kernel_rfl
theorem wpListIn_app1 {F : Fence} {n : Nat} {P : Program} {ops : Array Oper} {rest : List Oper} {o : Oper} {a : Act} {Q : Exit → Act → World → Prop} {w : World} (hgd : o.guard = none) (s x : Operand) (t : TypeId)
    (ho : o.op = .call { callee := .builtin .append, args := #[s, x], argTypes := #[t, t] }) (base : Nat) (e : TypeId) (i : TypeInfo) (z : Value) (sz bytes : Nat) (ht : P.underlying t = some (.slice e)) (hi : P.info? e = some i) (hz : i.zero = some z)
    (hsize : i.size = sz) (hby : i.bytes = bytes) (hzs : z.cells.size = sz) (hsz : 0 < sz) (v : Value) (css : List (List Value)) (hs : a.eval s = v) (hown : Owns w base e sz v css)
    (g : Nat) (c : List Value) (hx : a.eval x = .slice (some ⟨g, 0, none⟩) 1 1) (hc : c.length = sz) (hg : w.heap[g]? = some (.cells c.toArray e (0, 0))) (h1 : ∀ u ∈ c, u.oneCell' = true)
    (hmax : css.length + 1 ≤ maxLen) (hbytes : (css.length + 1) * bytes ≤ 140737488355328) (hbase : base ≤ w.heap.size)
    (h : ∀ v' w', Owns w' base e sz v' (css ++ [c]) → w.grownBy w' v.ownBlock → wpListIn F n P ops Q rest (a.put o.dst v') w') : wpListIn F n P ops Q (o :: rest) a w :=
  wpListIn_append_own w hgd s x t ho base e i z sz bytes ht hi hz hsize hby hzs hsz v css.length css.flatten hs hown.1 ⟨g, 0, none⟩ 1 1 c hx (by rw [hc, Nat.one_mul])
    (fun j u hj => by
      have : (⟨g, 0, none⟩ : Addr).add j = ⟨g, j, none⟩ := by unfold Addr.add; split <;> simp_all
      rw [this, cell_of_blk hg]; simpa using hj) h1 hmax hbytes hbase
    (fun v' w' h2 h3 _ => h v' w' ⟨by rw [List.length_append, List.flatten_append]; simpa using h2, fun c' hc' => (List.mem_append.1 hc').elim (hown.2 c') (fun e => by rw [List.mem_singleton.1 e]; exact hc)⟩ h3)
theorem owns_other {w : World} {B : Nat} {e : TypeId} {sz : Nat} {v : Value} {css : List (List Value)} (h : Owns w B e sz v css) {b : Nat} {cs : Array Value} {ty : TypeId} {fr : Nat × Nat} (hb : w.heap[b]? = some (.cells cs ty fr)) (hne : ty ≠ e) : v.ownBlock ≠ some b := by
  intro hv
  obtain ⟨c, fz, hc⟩ := Lib.ownsRow_kind h.1 b hv
  rw [hb] at hc
  injection hc with hc
  injection hc with _ h2 _
  exact hne h2
theorem keepsE_grown {B0 B : Nat} {X W2 : World} {v : Value} {css : List (List Value)} (hv : Owns X B 66 2 v css) (hB : B0 ≤ B) (hs : B0 ≤ X.heap.size) (hg : X.grownBy W2 v.ownBlock) : KeepsE B0 X W2 :=
  ⟨(Below.refl _ _).grown hg hs (fun k e => by have := (hv.lt k e).1; omega), fun b cs fr hb => (hg.block b (heap_lt hb) (fun e => owns_other hv hb (by decide) e.symm)).trans hb⟩
theorem others_grown {B : Nat} {X W2 : World} {v : Value} {css : List (List Value)} (hv : Owns X B 66 2 v css) (hg : X.grownBy W2 v.ownBlock) : KeepsOthers X W2 :=
  KeepsOthers.of_grownBy hg (fun j o hj ho => by
    obtain ⟨c, fz, hc⟩ := Lib.ownsRow_kind hv.1 j hj
    rw [hc] at ho; cases ho; rfl)
theorem keepsE_set {B0 : Nat} {W : World} {a : Addr} {cs : Array Value} {ty : TypeId} {fr : Nat × Nat} (hb : W.heap[a.block]? = some (.cells cs ty fr)) (hne : ty ≠ 151) (hB : B0 ≤ a.block) (u : Value) : KeepsE B0 W (W.setCell a u) :=
  ⟨(Below.refl _ _).setCell hB u, fun b cs' fr' hb' => (Below.heap_setCell _ _ _ _ (fun e => by subst e; rw [hb] at hb'; cases hb'; exact hne rfl)).trans hb'⟩
theorem set_here {W : World} {b : Nat} {cs : Array Value} {ty : TypeId} {fr : Nat × Nat} (h : W.heap[b]? = some (.cells cs ty fr)) (j : Nat) (v : Value) : (W.setCell ⟨b, j, none⟩ v).heap[b]? = some (.cells (cs.setIfInBounds j v) ty fr) := by
  obtain ⟨hlt, hk⟩ := Array.getElem?_eq_some_iff.1 h
  show (W.heap.modify b _)[b]? = _
  rw [Array.getElem?_eq_getElem (by rw [Array.size_modify]; exact hlt), Array.getElem_modify_self, hk]
  rfl
/-- A stretch is put behind others, as the machine's numbers have it. -/
def putW (out : List Rg) (x : Rg) : List Rg :=
  match out.getLast? with
  | some y => if IntKind.i32.wrap (y.hi + 1) = x.lo then out.dropLast ++ [⟨y.lo, x.hi⟩] else out ++ [x]
  | none => [x]
def thoseW (is : Int → Bool) (ss : List (Rg × Int)) : List Rg := ss.foldl (fun out s => if is s.2 then putW out s.1 else out) []
theorem thoseW_next (is : Int → Bool) (ss : List (Rg × Int)) (s : Rg × Int) : thoseW is (ss ++ [s]) = if is s.2 then putW (thoseW is ss) s.1 else thoseW is ss := by
  simp [thoseW, List.foldl_append]
theorem putW_snoc (fr : List Rg) (y x : Rg) : putW (fr ++ [y]) x = if IntKind.i32.wrap (y.hi + 1) = x.lo then fr ++ [⟨y.lo, x.hi⟩] else fr ++ [y] ++ [x] := by
  simp [putW]
theorem thoseW_len (is : Int → Bool) (ss : List (Rg × Int)) : ∀ (out : List Rg), (ss.foldl (fun out s => if is s.2 then putW out s.1 else out) out).length ≤ out.length + ss.length := by
  induction ss with
  | nil => intro out; simp
  | cons s ss ih =>
    intro out
    rw [List.foldl_cons, List.length_cons]
    have h1 := ih (if is s.2 = true then putW out s.1 else out)
    have h2 : (if is s.2 = true then putW out s.1 else out).length ≤ out.length + 1 := by
      split
      · unfold putW
        split
        · split
          · simp [List.length_dropLast]
            try omega
          · simp
        · simp
      · omega
    omega
theorem wrap32_in (n : Int) (h0 : -2147483648 ≤ n) (h1 : n ≤ 2147483647) : IntKind.i32.wrap n = n := by
  unfold IntKind.wrap; simp [IntKind.bits, IntKind.signed]; omega
theorem put_same (out : List Rg) (x : Rg) (h : ∀ y ∈ out, 0 ≤ y.hi ∧ y.hi ≤ 1114111) : putW out x = putSpan out x := by
  unfold putW putSpan
  cases hl : out.getLast? with
  | none => rfl
  | some y => 
    have := h y (List.mem_of_getLast? hl)
    simp only [wrap32_in (y.hi + 1) (by omega) (by omega)]
theorem put_his (out : List Rg) (x : Rg) (h : ∀ y ∈ out, 0 ≤ y.hi ∧ y.hi ≤ 1114111) (hx : 0 ≤ x.hi ∧ x.hi ≤ 1114111) : ∀ y ∈ putSpan out x, 0 ≤ y.hi ∧ y.hi ≤ 1114111 := by
  unfold putSpan
  intro y hy
  split at hy
  · split at hy
    · rcases List.mem_append.1 hy with h1 | h1
      · exact h y (List.dropLast_subset _ h1)
      · rw [List.mem_singleton.1 h1]; exact hx
    · rcases List.mem_append.1 hy with h1 | h1
      · exact h y h1
      · rw [List.mem_singleton.1 h1]; exact hx
  · rw [List.mem_singleton.1 hy]; exact hx
theorem those_same (is : Int → Bool) : ∀ (ss : List (Rg × Int)) (out : List Rg), (∀ s ∈ ss, 0 ≤ s.1.hi ∧ s.1.hi ≤ 1114111) → (∀ y ∈ out, 0 ≤ y.hi ∧ y.hi ≤ 1114111) →
    ss.foldl (fun out s => if is s.2 then putW out s.1 else out) out = ss.foldl (fun out s => if is s.2 then putSpan out s.1 else out) out
  | [], _, _, _ => rfl
  | s :: ss, out, h, ho => by
    simp only [List.foldl_cons]
    by_cases hi : is s.2 = true
    · simp only [hi, if_true, put_same out s.1 ho]
      exact those_same is ss _ (fun s' hs => h s' (by simp [hs])) (put_his out s.1 ho (h s (by simp)))
    · simp only [hi]
      exact those_same is ss _ (fun s' hs => h s' (by simp [hs])) ho
theorem spans_his : ∀ (es : List (Int × Int)) (f n : Int), 0 ≤ f → (∀ x ∈ es, 0 ≤ x.1 ∧ x.1 ≤ 1114112) → ∀ s ∈ spansOf f n es, 0 ≤ s.1.hi ∧ s.1.hi ≤ 1114111
  | [], f, n, hf, _, s, hs => by
    rw [spansOf] at hs
    split at hs
    · rw [List.mem_singleton.1 hs]; simp
    · simp at hs
  | x :: es, f, n, hf, h, s, hs => by
    have hx := h x (by simp)
    rw [spansOf] at hs
    split at hs
    · rcases List.mem_cons.1 hs with rfl | hs
      · simp; omega
      · exact spans_his es _ _ (by omega) (fun y hy => h y (by simp [hy])) s hs
    · exact spans_his es _ _ hf (fun y hy => h y (by simp [hy])) s hs
theorem thoseW_eq (is : Int → Bool) (es : List (Int × Int)) (h : ∀ x ∈ es, 0 ≤ x.1 ∧ x.1 ≤ 1114112) : thoseW is (spansOf 0 0 es) = thoseOf is (spansOf 0 0 es) :=
  those_same is _ [] (spans_his es 0 0 (by omega) h) (fun y hy => by simp at hy)
/-- What lies in memory while stretches are gathered. -/
def Gather (w W : World) (v : Value) (out : List Rg) : Prop :=
  W.heap[w.heap.size]? = some (Obj.cells #[.func (.func 79) #[] #[]] 106 (0, 0)) ∧ W.heap[w.heap.size + 1]? = some (Obj.cells #[v] 61 (0, 0)) ∧ OwnR W (w.heap.size + 2) v out ∧ Below w.heap.size w W
/-- Behind an append, and the store of its slice. -/
theorem gather_app {w W w4 : World} {v v' : Value} {out : List Rg} {x : Rg} {q : Nat} (h : Gather w W v out) (hown : Owns w4 (w.heap.size + 2) 66 2 v' (out.map rgC ++ [rgC x])) (hg : ((W.drewN q).alloc (.cells (rgC x).toArray 66)).grownBy w4 v.ownBlock) (B : Nat) :
    w4.heap[w.heap.size + 1]? = some (Obj.cells #[v] 61 (0, 0)) ∧ Gather w (w4.setCell ⟨w.heap.size + 1, 0, none⟩ v') v' (out ++ [x]) ∧ KeepsFrom B W (w4.setCell ⟨w.heap.size + 1, 0, none⟩ v') ∧ KeepsE w.heap.size W (w4.setCell ⟨w.heap.size + 1, 0, none⟩ v') := by
  obtain ⟨h0, h1, h2, hB⟩ := h
  have hX : Owns ((W.drewN q).alloc (.cells (rgC x).toArray 66)) (w.heap.size + 2) 66 2 v (out.map rgC) := Owns.alloc (show Owns (W.drewN q) _ _ _ _ _ from h2) _
  have e0 := (Below.heap_alloc (W.drewN q) (.cells (rgC x).toArray 66) _ (heap_lt h0)).trans h0
  have e1 := (Below.heap_alloc (W.drewN q) (.cells (rgC x).toArray 66) _ (heap_lt h1)).trans h1
  have k0 := (hg.block _ (heap_lt e0) (fun e => owns_other hX e0 (by decide) e.symm)).trans e0
  have k1 := (hg.block _ (heap_lt e1) (fun e => owns_other hX e1 (by decide) e.symm)).trans e1
  have hWX : Below W.heap.size W ((W.drewN q).alloc (.cells (rgC x).toArray 66)) := (below_drewN (Below.refl _ _) q).alloc (Nat.le_refl _) _
  have hXs : w.heap.size ≤ ((W.drewN q).alloc (.cells (rgC x).toArray 66)).heap.size := Nat.le_trans hB.size hWX.size
  have kE := (KeepsE.of_below hWX hB.size).trans (keepsE_grown hX (by omega) hXs hg)
  refine ⟨k1, ⟨?_, set_here k1 0 v', ?_, ?_⟩, ((keepsFrom_below hWX).trans ((others_grown hX hg).from B)).trans ((KeepsOthers.setCell _ _ _).from B), kE.trans (keepsE_set (a := ⟨w.heap.size + 1, 0, none⟩) k1 (by decide) (by show w.heap.size ≤ w.heap.size + 1; omega) v')⟩
  · rw [Below.heap_setCell _ _ _ _ (by show w.heap.size ≠ w.heap.size + 1; omega)]; exact k0
  · show Owns _ _ _ _ _ ((out ++ [x]).map rgC)
    rw [List.map_append]
    exact ⟨ownsRow_setCell_other hown.1 (owns_other hown k1 (by decide)) _, hown.2⟩
  · exact (hB.trans kE.1).setCell (p := ⟨w.heap.size + 1, 0, none⟩) (by show w.heap.size ≤ w.heap.size + 1; omega) _
theorem rg_flat (fr : List Rg) : (fr.map rgC).flatten.length = fr.length * 2 := by
  induction fr with
  | nil => rfl
  | cons x fr ih => rw [List.map_cons, List.flatten_cons, List.length_append, ih]; simp [rgC]; omega
theorem rg_set (fr : List Rg) (y : Rg) (hi : Int) : ((fr ++ [y]).map rgC).flatten.set (fr.length * 2 + 1) (.int .i32 hi) = ((fr ++ [(⟨y.lo, hi⟩ : Rg)]).map rgC).flatten := by
  rw [List.map_append, List.map_append, List.flatten_append, List.flatten_append, List.set_append_right _ _ (by rw [rg_flat]; omega), rg_flat]
  simp [rgC]
theorem own_last {W : World} {b g c : Nat} {fr : List Rg} {y : Rg} (h : OwnR W b (.slice (some ⟨g, 0, none⟩) (fr.length + 1) c) (fr ++ [y])) : W.ownsRow b 66 2 (.slice (some ⟨g, 0, none⟩) (fr.length + 1) c) (fr.length + 1) ((fr ++ [y]).map rgC).flatten := by
  have h1 := h.1
  rwa [show ((fr ++ [y]).map rgC).length = fr.length + 1 by simp] at h1
/-- Behind the store of the last one's end. -/
theorem gather_set {w W : World} {g c : Nat} {fr : List Rg} {y : Rg} (h : Gather w W (.slice (some ⟨g, 0, none⟩) (fr.length + 1) c) (fr ++ [y])) (q : Nat) (hi : Int) (B : Nat) :
    Gather w ((W.drewN q).setCell ⟨g, fr.length * 2 + 1, none⟩ (.int .i32 hi)) (.slice (some ⟨g, 0, none⟩) (fr.length + 1) c) (fr ++ [⟨y.lo, hi⟩]) ∧ KeepsFrom B W ((W.drewN q).setCell ⟨g, fr.length * 2 + 1, none⟩ (.int .i32 hi)) ∧ KeepsE w.heap.size W ((W.drewN q).setCell ⟨g, fr.length * 2 + 1, none⟩ (.int .i32 hi)) := by
  obtain ⟨h0, h1, h2, hB⟩ := h
  have hg := (Owns.lt h2 g rfl).1
  obtain ⟨cs, fz, hc⟩ := Lib.ownsRow_kind h2.1 g rfl
  have hWX : Below W.heap.size W (W.drewN q) := below_drewN (Below.refl _ _) q
  have hst := (World.ownsRow.stored (show World.ownsRow (W.drewN q) _ _ _ _ _ _ from own_last h2) (fr.length * 2 + 1) (.int .i32 hi)).1
  rw [rg_set] at hst
  refine ⟨⟨?_, ?_, ⟨by simpa using hst, fun c hc => ?_⟩, ?_⟩, ?_, ?_⟩
  · rw [Below.heap_setCell _ _ _ _ (by show w.heap.size ≠ g; omega)]; exact h0
  · rw [Below.heap_setCell _ _ _ _ (by show w.heap.size + 1 ≠ g; omega)]; exact h1
  · obtain ⟨r, _, rfl⟩ := List.mem_map.1 hc; rfl
  · exact (below_drewN hB q).setCell (p := ⟨g, fr.length * 2 + 1, none⟩) (by show w.heap.size ≤ g; omega) _
  · exact (keepsFrom_below hWX).trans ((KeepsOthers.setCell _ _ _).from B)
  · exact (KeepsE.of_below hWX hB.size).trans (keepsE_set (W := W.drewN q) (a := ⟨g, fr.length * 2 + 1, none⟩) hc (by decide) (by show w.heap.size ≤ g; omega) _)
set_option maxRecDepth 100000 in
set_option maxHeartbeats 4000000 in
theorem those_in (w : World) (A : Option Addr) (c : Nat) (es : List (Int × Int)) (hes : Arr (fun b => b < w.heap.size) w 2 (fun x cs => cs = edgeC x) A es) (hN : es.length ≤ 5000000000) (hv : ∀ x ∈ es, (0 ≤ x.1 ∧ x.1 ≤ 1114112) ∧ (-1 ≤ x.2 ∧ x.2 ≤ 1)) :
    CallsIn Fence.wide 9 Tryd.prog 75 #[.slice A es.length c, .func (.func 79) #[] #[]] w fun e w' => ∃ v, e = .returned v ∧ OwnR w' w.heap.size v (thoseOf (fun n => decide (0 < n)) (spansOf 0 0 es)) ∧ Below w.heap.size w w' := by
  have hF1 : Fence.wide.fn 88 := trivial
  have hF2 : Fence.wide.fn 93 := trivial
  have hF3 : Fence.wide.fn 79 := trivial
  have hdd : ∀ k : Nat, (Fence.wide.depth.isSome = true → 1 ≤ k) := fun k h => by simp [Fence.wide] at h
  have HE := Lib.hid (And.intro hes hv)
  clear hes hv
  refine callsIn_of_wp_marks Tryd.func75 rfl trivial ?_ rfl
  simp only [Tryd.ntmps75, List.size_toArray, List.length_cons, List.length_nil, Nat.reduceAdd, Nat.reduceSub, Array.replicate_succ, Array.replicate_zero, List.push_toArray, List.append_toArray, List.nil_append, List.cons_append]
  gi_wp2_with ((try refine ⟨hdd _, ?_⟩); gi_at_call 88; refine (callsIn_wide.2 (spans_any _ _ _ _)).mono ?_; rintro e w' ⟨rfl, rfl⟩)
  have b0 : (((w.alloc (.cells #[.func (.func 79) #[] #[]] 106)).alloc (.cells #[.slice none 0 0] 61)).alloc (.cells #[.slice A es.length c] 131)).heap[w.heap.size]? = some (.cells #[.func (.func 79) #[] #[]] 106 (0, 0)) := by
    rw [Below.heap_alloc _ _ _ (by simp; omega), Below.heap_alloc _ _ _ (by simp)]; exact heap_new1 _ _
  have b1 : (((w.alloc (.cells #[.func (.func 79) #[] #[]] 106)).alloc (.cells #[.slice none 0 0] 61)).alloc (.cells #[.slice A es.length c] 131)).heap[w.heap.size + 1]? = some (.cells #[.slice none 0 0] 61 (0, 0)) := by
    rw [Below.heap_alloc _ _ _ (by simp)]; exact heap_new2 _ _ _
  have b2 : (((w.alloc (.cells #[.func (.func 79) #[] #[]] 106)).alloc (.cells #[.slice none 0 0] 61)).alloc (.cells #[.slice A es.length c] 131)).heap[w.heap.size + 1 + 1]? = some (.cells #[.slice A es.length c] 131 (0, 0)) := heap_new3 _ _ _ _
  have hB0 : Below w.heap.size w (((w.alloc (.cells #[.func (.func 79) #[] #[]] 106)).alloc (.cells #[.slice none 0 0] 61)).alloc (.cells #[.slice A es.length c] 131)) := below_al (below_al (below_al (Below.refl _ _) _) _) _
  have hsz : (((w.alloc (.cells #[.func (.func 79) #[] #[]] 106)).alloc (.cells #[.slice none 0 0] 61)).alloc (.cells #[.slice A es.length c] 131)).heap.size = w.heap.size + 3 := by simp
  obtain ⟨W0, hW0⟩ : ∃ W0, (((w.alloc (.cells #[.func (.func 79) #[] #[]] 106)).alloc (.cells #[.slice none 0 0] 61)).alloc (.cells #[.slice A es.length c] 131)) = W0 := ⟨_, rfl⟩
  rw [hW0] at b0 b1 b2 hB0 hsz ⊢
  clear hW0
  refine wpIn_rangeFunc_ownH rfl (by omega) (gf := 93) (lb := #[.pointer (some ⟨w.heap.size + 1 + 1, 0, none⟩)]) rfl trivial (enters_of Tryd.func93 (by kernel_rfl) rfl)
    (spans_stops _ w.heap.size (w.heap.size + 1 + 1) W0 A c es (by omega) b2 (HE.out.1.move (fun b hb _ => ⟨hB0.block b hb, hb⟩) (by omega)) (by omega) HE.out.2) KeepsE.trans
    (fun W l o o' hl ho hc _ => ?kb) (Below.refl _ _) (fun _ => rfl)
    (fun pre W => ∃ v, W.heap[w.heap.size]? = some (Obj.cells #[.func (.func 79) #[] #[]] 106 (0, 0)) ∧ W.heap[w.heap.size + 1]? = some (Obj.cells #[v] 61 (0, 0)) ∧ OwnR W (w.heap.size + 2) v (thoseW (fun n => decide (0 < n)) pre) ∧ Below w.heap.size w W)
    (fun c pre W => False) ?own (fun _ _ _ _ _ h => h.elim) ⟨_, b0, b1, Owns.nil _ _ _ _, hB0⟩
    (fun (x : Rg × Int) a' (W : World) => ∃ Bx : Nat, W.heap[Bx]? = some (Obj.cells #[.int .i32 x.1.lo, .int .i32 x.1.hi] 66 (0, 0)) ∧ a' = { tmps := #[.slice A es.length c, .func (.func 79) #[] #[], undef, .pointer (some ⟨w.heap.size, 0, none⟩), .slice none 0 0, .pointer (some ⟨w.heap.size + 1, 0, none⟩), .pointer (some ⟨Bx, 0, none⟩), .int .i64 x.2, undef, .slice A es.length c, .func (.func 93) #[] #[.pointer (some ⟨w.heap.size + 1 + 1, 0, none⟩)], .agg #[.int .i32 x.1.lo, .int .i32 x.1.hi], .int .i64 x.2, undef, undef, undef, undef, undef, undef, undef, undef, undef, undef, undef, undef, undef, undef, undef, undef, undef, undef, undef, undef, undef, undef, undef, undef, undef, undef, undef, undef, undef, undef, undef, undef, undef, undef], defers := [] })
    ?ownx ?assign ?body ?done ?stop
  case kb =>
    have hk := Keeps.putObj (B0 := w.heap.size) (B1 := 0) (w := W0) (by omega) (Nat.zero_le _) W l o o' hl ho hc
    exact ⟨hk.below, fun b cs fr hb => (hk.cells b _ _ _ (Nat.zero_le _) hb).trans hb⟩
  case own =>
    rintro s X Y row ⟨v, h0, h1, h2, hB⟩ hg hr
    refine ⟨v, blk_own _ _ _ () X Y row h0 hg (fun r e => (hr r e).2), blk_own _ _ _ () X Y row h1 hg (fun r e => (hr r e).2), h2.kept hg ?_, (ownFrom_below (Nat.le_refl _) (by omega)) s X Y row hB hg hr⟩
    cases hv : v.ownBlock with
    | none => exact .inl rfl
    | some g =>
      refine .inr fun e => ?_
      obtain ⟨o, ho, hc⟩ := (hr g e.symm).2
      obtain ⟨cs, fz, hk⟩ := Lib.ownsRow_kind h2.1 g hv
      rw [hk] at ho; cases ho; simp [Obj.isCells] at hc
  case ownx =>
    rintro x a' _ X Y row ⟨Bx, h2, h3⟩ hg hr
    exact ⟨Bx, blk_own Bx _ _ () X Y row h2 hg (fun r e => (hr r e).2), h3⟩
  case assign =>
    rintro l pre ⟨⟨lo, hi⟩, n⟩ W K ⟨v, h0, h1, h2, hB⟩ hK
    have hK1 := hK _ _ (keepsFrom_below (below_al (Below.refl _ _) (.cells #[.int .i32 lo, .int .i32 hi] 66))) (KeepsE.of_below (below_al (Below.refl _ _) _) hB.size) ⟨v, (Below.heap_alloc _ _ _ (heap_lt h0)).trans h0, (Below.heap_alloc _ _ _ (heap_lt h1)).trans h1, h2.alloc _, below_al hB _⟩ ⟨W.heap.size, heap_new1 _ _, rfl⟩
    clear hK h0 h1 h2 hB
    dsimp only [spanA]
    gi_wp2
    exact hK1
  case body =>
    rintro l pre ⟨⟨lo, hi⟩, n⟩ a' W hl _ ⟨v, h0, h1, h2, hB⟩ ⟨Bx, hbx, rfl⟩ hlen
    obtain ⟨A1, c1, rfl, hk1, hk2⟩ := Owns.shape h2
    rw [List.length_map] at h1 h2 hk1
    have g0 : W.cell? ⟨w.heap.size, 0, none⟩ = some (.func (.func 79) #[] #[]) := by rw [cell_of_blk h0]; rfl
    have g1 : W.cell? ⟨w.heap.size + 1, 0, none⟩ = some (.slice A1 (thoseW (fun n => decide (0 < n)) pre).length c1) := by rw [cell_of_blk h1]; rfl
    have hnx := thoseW_next (fun n => decide (0 < n)) pre (⟨lo, hi⟩, n)
    have hln : (thoseW (fun n => decide (0 < n)) pre).length ≤ 9223372036854775807 := by unfold maxLen at hk2; omega
    have hob : (thoseW (fun n => decide (0 < n)) pre).length ≤ 5000000001 := by
      have h5 := thoseW_len (fun n => decide (0 < n)) pre []
      have h6 := spans_len es 0 0
      simp only [List.length_nil, Nat.zero_add] at h5
      refine Nat.le_trans (show (thoseW (fun n => decide (0 < n)) pre).length ≤ pre.length from h5) (by omega)
    by_cases hn : 0 < n
    · have hd : decide (0 < n) = true := by simpa using hn
      simp only [hd, if_true] at hnx
      have hui : ∀ W', Calls Tryd.prog 79 #[.int .i64 n] W' fun e w' => e = .returned (.bool true) ∧ W' = w' := fun W' => by rw [← hd]; exact isSome_any W' n
      generalize thoseW (fun n => decide (0 < n)) pre = out at *
      have gx0 : W.cell? ⟨Bx, 0, none⟩ = some (.int .i32 lo) := by rw [cell_of_blk hbx]; rfl
      have gx1 : W.cell? ⟨Bx, 1, none⟩ = some (.int .i32 hi) := by rw [cell_of_blk hbx]; rfl
      have HH := Lib.hid (And.intro h0 (And.intro h1 (And.intro h2 (And.intro hB hnx))))
      clear h0 h1 h2 hB hnx hd
      by_cases hout : out = []
      · subst hout
        gi_wp2_with ((try refine ⟨hdd _, ?_⟩); gi_at_call 79; refine (CallsIn.inRound l (callsIn_wide.2 (hui _))).mono ?_; rintro e W2 ⟨rfl, rfl⟩)
        refine region_quiet_lit_round (by kernel_rfl) (by kernel_rfl) (by kernel_rfl) ?_
        repeat (gi_big_quiet_step (fail))
        refine wpQuietIn_nil ?_
        intro _ hw'
        obtain ⟨nq, hw''⟩ := hw'
        subst hw''
        have hIr := infoRg
        obtain ⟨i0, hi0, hxx⟩ := Option.map_eq_some_iff.1 hIr
        simp only [Prod.mk.injEq] at hxx
        obtain ⟨hz0, hz1, hz2⟩ := hxx
        gi_wp2_with (gi_at_builtin; refine wpListIn_app1 rfl _ _ 61 rfl (w.heap.size + 2) 66 i0 _ 2 8 Tryd.underlying61 hi0 hz0 hz1 hz2 rfl (by decide) _ _ rfl (Owns.alloc (show Owns (W.drewN _) _ _ _ _ _ from HH.out.2.2.1) _) _ (rgC ⟨lo, hi⟩) rfl rfl (heap_newE (by simp)) ?c2 ?c3 ?c4 ?c5 ?_)
        case c2 => intro u hu; simp [rgC] at hu; rcases hu with rfl | rfl <;> rfl
        case c3 => simp; unfold maxLen; omega
        case c4 => simp
        case c5 => have := heap_lt HH.out.2.1; simp; omega
        intro v' w4 hown' hgrow
        obtain ⟨h0, h1, h2, hB, hnx⟩ := HH.out
        obtain ⟨k1, hG, kF, kE⟩ := gather_app (x := ⟨lo, hi⟩) ⟨h0, h1, h2, hB⟩ hown' hgrow W0.heap.size
        obtain ⟨A5, c5, rfl, _, _⟩ := hown'.shape
        have q1 : w4.cell? ⟨w.heap.size + 1, 0, none⟩ = some (.slice A1 0 c1) := by rw [cell_of_blk k1]; rfl
        have q2 : w4.frozen? ⟨w.heap.size + 1, 0, none⟩ = false := by simp [World.frozen?, k1]
        have HG := Lib.hid (And.intro hG (And.intro kF (And.intro kE hnx)))
        clear h0 h1 h2 hB hnx hG kF kE k1 hown' hgrow
        gi_wp2
        obtain ⟨hG, kF, kE, hnx⟩ := HG.out
        exact ⟨kF, kE, _, hG.1, hG.2.1, by rw [hnx]; exact hG.2.2.1, hG.2.2.2⟩
      · obtain ⟨fr, y, rfl⟩ : ∃ fr y, out = fr ++ [y] := ⟨_, _, (List.dropLast_concat_getLast hout).symm⟩
        clear hout
        obtain ⟨h0, h1, h2, hB, hnx⟩ := HH.out
        clear HH
        have e1 : (fr ++ [y]).length = fr.length + 1 := by simp
        rw [e1] at h1 h2 g1 hk1 hln hob
        rw [putW_snoc] at hnx
        obtain ⟨g, rfl⟩ : ∃ g, A1 = some ⟨g, 0, none⟩ := by
          rcases h2.1.2 with ⟨e, _⟩ | ⟨g, _, _, e, _⟩
          · injection e with e1 e2; omega
          · injection e with e1; exact ⟨g, e1⟩
        have hcy : W.cell? ⟨g, fr.length * 2 + 1, none⟩ = some (.int .i32 y.hi) := by
          rw [World.ownsRow.cellAt (own_last h2) _ (by omega), List.map_append, List.flatten_append, List.getElem?_append_right (by rw [rg_flat]; omega), rg_flat]
          simp [rgC]
        have hfy : W.frozen? ⟨g, fr.length * 2 + 1, none⟩ = false := World.ownsRow.frozenAt (own_last h2) _
        have HH := Lib.hid (And.intro (show Gather w W _ _ from ⟨h0, h1, h2, hB⟩) hnx)
        clear h0 h1 h2 hB hnx e1
        by_cases hm : IntKind.i32.wrap (y.hi + 1) = lo
        · gi_wp2_with ((try refine ⟨hdd _, ?_⟩); gi_at_call 79; refine (CallsIn.inRound l (callsIn_wide.2 (hui _))).mono ?_; rintro e W2 ⟨rfl, rfl⟩)
          refine region_quiet_lit_round (by kernel_rfl) (by kernel_rfl) (by kernel_rfl) ?_
          repeat (gi_big_quiet_step (fail))
          refine wpQuietIn_nil ?_
          intro _ hw'
          obtain ⟨nq, hw''⟩ := hw'
          subst hw''
          have HM := Lib.hid hm
          clear hm
          gi_wp2
          obtain ⟨hG, hnx⟩ := HH.out
          rw [if_pos HM.out] at hnx
          obtain ⟨hG2, kF, kE⟩ := gather_set hG nq hi W0.heap.size
          exact ⟨kF, kE, _, hG2.1, hG2.2.1, by rw [hnx]; exact hG2.2.2.1, hG2.2.2.2⟩
        · have hmb : (IntKind.i32.wrap (y.hi + 1) == lo) = false := by simpa using hm
          have hmb2 : (wrap32 (y.hi + 1) == lo) = false := by rw [← IntWalk.i32_left]; exact hmb
          have HM := Lib.hid hm
          clear hm
          gi_wp2_with ((try refine ⟨hdd _, ?_⟩); gi_at_call 79; refine (CallsIn.inRound l (callsIn_wide.2 (hui _))).mono ?_; rintro e W2 ⟨rfl, rfl⟩)
          refine region_quiet_lit_round (by kernel_rfl) (by kernel_rfl) (by kernel_rfl) ?_
          repeat (gi_big_quiet_step (fail))
          refine wpQuietIn_nil ?_
          intro _ hw'
          obtain ⟨nq, hw''⟩ := hw'
          subst hw''
          clear hmb hmb2
          have hIr := infoRg
          obtain ⟨i0, hi0, hxx⟩ := Option.map_eq_some_iff.1 hIr
          simp only [Prod.mk.injEq] at hxx
          obtain ⟨hz0, hz1, hz2⟩ := hxx
          gi_wp2_with (gi_at_builtin; refine wpListIn_app1 rfl _ _ 61 rfl (w.heap.size + 2) 66 i0 _ 2 8 Tryd.underlying61 hi0 hz0 hz1 hz2 rfl (by decide) _ _ rfl (Owns.alloc (show Owns (W.drewN _) _ _ _ _ _ from HH.out.1.2.2.1) _) _ (rgC ⟨lo, hi⟩) rfl rfl (heap_newE (by simp)) ?c2 ?c3 ?c4 ?c5 ?_)
          case c2 => intro u hu; simp [rgC] at hu; rcases hu with rfl | rfl <;> rfl
          case c3 => simp; unfold maxLen; omega
          case c4 => simp; omega
          case c5 => have := heap_lt HH.out.1.2.1; simp; omega
          intro v' w4 hown' hgrow
          obtain ⟨hG0, hnx⟩ := HH.out
          obtain ⟨k1, hG, kF, kE⟩ := gather_app (x := ⟨lo, hi⟩) hG0 (by simpa using hown') hgrow W0.heap.size
          obtain ⟨A5, c5, hv5, _, _⟩ := hown'.shape
          rw [show (List.map rgC fr ++ [rgC y, rgC ⟨lo, hi⟩]).length = fr.length + 2 by simp] at hv5
          subst hv5
          have q1 : w4.cell? ⟨w.heap.size + 1, 0, none⟩ = some (.slice (some ⟨g, 0, none⟩) (fr.length + 1) c1) := by rw [cell_of_blk k1]; rfl
          have q2 : w4.frozen? ⟨w.heap.size + 1, 0, none⟩ = false := by simp [World.frozen?, k1]
          have HG := Lib.hid (And.intro hG (And.intro kF (And.intro kE hnx)))
          clear hG0 hnx hG kF kE k1 hown' hgrow
          gi_wp2
          obtain ⟨hG, kF, kE, hnx⟩ := HG.out
          rw [if_neg HM.out] at hnx
          exact ⟨kF, kE, _, hG.1, hG.2.1, by rw [hnx]; exact hG.2.2.1, hG.2.2.2⟩
    · have hd : decide (0 < n) = false := by simpa using hn
      simp only [hd, Bool.false_eq_true, if_false] at hnx
      have HH := Lib.hid (And.intro h0 (And.intro h1 (And.intro h2 (And.intro hB hnx))))
      have hui : ∀ W', Calls Tryd.prog 79 #[.int .i64 n] W' fun e w' => e = .returned (.bool false) ∧ W' = w' := fun W' => by rw [← hd]; exact isSome_any W' n
      clear h0 h1 h2 hB hnx hd
      generalize thoseW (fun n => decide (0 < n)) pre = out at *
      gi_wp2_with ((try refine ⟨hdd _, ?_⟩); gi_at_call 79; refine (CallsIn.inRound l (callsIn_wide.2 (hui _))).mono ?_; rintro e W2 ⟨rfl, rfl⟩)
      obtain ⟨h0, h1, h2, hB, hnx⟩ := HH.out
      exact ⟨keepsFrom_below (Below.refl _ _), KeepsE.of_below (Below.refl _ _) hB.size, _, h0, h1, by rw [hnx]; exact h2, hB⟩
  case done =>
    rintro D ys W hD rfl ⟨v, h0, h1, h2, hB⟩ hK
    have hcr : W.cell? ⟨w.heap.size + 1, 0, none⟩ = some v := by rw [cell_of_blk h1]; rfl
    have HH := Lib.hid (And.intro h2 hB)
    clear h0 h1 h2 hB
    gi_wp2
    obtain ⟨h2, hB⟩ := HH.out
    refine ⟨by simp, .inl ⟨_, _, rfl, run_takeDeferred hK, ?_⟩⟩
    have hne : v.ownBlock = none ∨ v.ownBlock ≠ some D := by
      cases hv : v.ownBlock with
      | none => exact .inl rfl
      | some g =>
        refine .inr fun e => ?_
        cases e
        obtain ⟨cs, fz, hk⟩ := Lib.ownsRow_kind h2.1 D hv
        rw [hk] at hK; cases hK
    have h3 : Owns (W.putObj D (.deferred none)) w.heap.size 66 2 v ((thoseOf (fun n => decide (0 < n)) (spansOf 0 0 es)).map rgC) := by
      have h4 := h2.kept (grownBy_putObj' W D (.deferred none)) hne
      rw [thoseW_eq _ _ (fun x hx => (HE.out.2 x hx).1)] at h4
      exact ⟨Joins.ownsRow_le h4.1 (by omega), h4.2⟩
    refine ⟨v, ?_, v, rfl, h3, hB.trans (belowK_b (w := w) (Nat.le_refl _) W D _ _ (by omega) hK rfl rfl)⟩
    simp [results, Tryd.f75, go_sem]
  case stop => exact fun _ _ _ _ _ _ h => h.elim
end Go.Proofs.YthclpabmbhpohaaDoor
