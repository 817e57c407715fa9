/-
  sets.those: the set of the stretches whose number is right. No condition.
-/
import Derived.Test.YtdnbholiijgedaaSpans2
import Derived.RangeFuncBox
import Derived.Test.YtdnbholiijgedaaRound
import Derived.Lib.OwnKind
import Derived.Lib.SmallJoins
import Derived.Test.YtdnbholiijgedaaShaped
namespace Go.Proofs.Ytdnbholiijgedaa
open Go.RowKit Go.Shelf
set_option linter.unusedVariables false
attribute [local go_sem] Oper.semAt_some

def rgC (r : Rg) : List Value := [.int .i32 r.lo, .int .i32 r.hi]
/-- A list of ranges of one's own. -/
def OwnR (w : World) (base : Nat) (v : Value) (l : List Rg) : Prop := Owns w base 61 2 v (l.map rgC)
def SpansPost (v : Value) (w : World) (e : Ending) (w' : World) : Prop := e = .returned (.func (.func 81) #[] #[.pointer (some ⟨w.heap.size, 0, none⟩)]) ∧ w.alloc (.cells #[v] 106) = w'
set_option maxHeartbeats 400000 in
theorem spans_any (w : World) (A : Option Addr) (n c : Nat) : Calls Try.prog 77 #[.slice A n c] w (SpansPost (.slice A n c) w) := by
  go_enter Try.func77, Try.ntmps77
  go_wp2
  go_ret
  exact ⟨rfl, rfl⟩
theorem isSome_any (w : World) (n : Int) : Calls Try.prog 76 #[.int .i64 n] w fun e w' => e = .returned (.bool (decide (0 < n))) ∧ w = w' := by
  go_enter Try.func76, Try.ntmps76
  go_wp2
  go_ret
  exact ⟨rfl, rfl⟩
theorem infoRg : (Try.prog.info? 61).map (fun i => (i.zero, i.size, i.bytes)) = some (some (.agg #[.int .i32 0, .int .i32 0]), 2, 8) := by kernel_rfl
theorem wpListIn_app1 {F : Fence} {n : Nat} {P : Program} {ops : Array Oper} {rest : List Oper} {o : Oper} {a : Act} {Q : Exit → Act → World → Prop} {w : World} (hgd : o.guard = none) (s x : Operand) (t : TypeId)
    (ho : o.op = .call { callee := .builtin .append, args := #[s, x], argTypes := #[t, t] }) (base : Nat) (e : TypeId) (i : TypeInfo) (z : Value) (sz bytes : Nat) (ht : P.underlying t = some (.slice e)) (hi : P.info? e = some i) (hz : i.zero = some z)
    (hsize : i.size = sz) (hby : i.bytes = bytes) (hzs : z.cells.size = sz) (hsz : 0 < sz) (v : Value) (css : List (List Value)) (hs : a.eval s = v) (hown : Owns w base e sz v css)
    (g : Nat) (c : List Value) (hx : a.eval x = .slice (some ⟨g, 0, none⟩) 1 1) (hc : c.length = sz) (hg : w.heap[g]? = some (.cells c.toArray e (0, 0))) (h1 : ∀ u ∈ c, u.oneCell' = true)
    (hmax : css.length + 1 ≤ maxLen) (hbytes : (css.length + 1) * bytes ≤ 140737488355328) (hbase : base ≤ w.heap.size)
    (h : ∀ v' w', Owns w' base e sz v' (css ++ [c]) → w.grownBy w' v.ownBlock → wpListIn F n P ops Q rest (a.put o.dst v') w') : wpListIn F n P ops Q (o :: rest) a w :=
  wpListIn_append_own w hgd s x t ho base e i z sz bytes ht hi hz hsize hby hzs hsz v css.length css.flatten hs hown.1 ⟨g, 0, none⟩ 1 1 c hx (by rw [hc, Nat.one_mul])
    (fun j u hj => by
      have : (⟨g, 0, none⟩ : Addr).add j = ⟨g, j, none⟩ := by unfold Addr.add; split <;> simp_all
      rw [this, cell_of_blk hg]; simpa using hj) h1 hmax hbytes hbase
    (fun v' w' h2 h3 _ => h v' w' ⟨by rw [List.length_append, List.flatten_append]; simpa using h2, fun c' hc' => (List.mem_append.1 hc').elim (hown.2 c') (fun e => by rw [List.mem_singleton.1 e]; exact hc)⟩ h3)
theorem owns_other {w : World} {B : Nat} {e : TypeId} {sz : Nat} {v : Value} {css : List (List Value)} (h : Owns w B e sz v css) {b : Nat} {cs : Array Value} {ty : TypeId} {fr : Nat × Nat} (hb : w.heap[b]? = some (.cells cs ty fr)) (hne : ty ≠ e) : v.ownBlock ≠ some b := by
  intro hv
  obtain ⟨c, fz, hc⟩ := Lib.ownsRow_kind h.1 b hv
  rw [hb] at hc
  injection hc with hc
  injection hc with _ h2 _
  exact hne h2
theorem keepsE_grown {B0 B : Nat} {X W2 : World} {v : Value} {css : List (List Value)} (hv : Owns X B 61 2 v css) (hB : B0 ≤ B) (hs : B0 ≤ X.heap.size) (hg : X.grownBy W2 v.ownBlock) : KeepsE B0 X W2 :=
  ⟨(Below.refl _ _).grown hg hs (fun k e => by have := (hv.lt k e).1; omega), fun b cs fr hb => (hg.block b (heap_lt hb) (fun e => owns_other hv hb (by decide) e.symm)).trans hb⟩
theorem others_grown {B : Nat} {X W2 : World} {v : Value} {css : List (List Value)} (hv : Owns X B 61 2 v css) (hg : X.grownBy W2 v.ownBlock) : KeepsOthers X W2 :=
  KeepsOthers.of_grownBy hg (fun j o hj ho => by
    obtain ⟨c, fz, hc⟩ := Lib.ownsRow_kind hv.1 j hj
    rw [hc] at ho; cases ho; rfl)
theorem keepsE_set {B0 : Nat} {W : World} {a : Addr} {cs : Array Value} {ty : TypeId} {fr : Nat × Nat} (hb : W.heap[a.block]? = some (.cells cs ty fr)) (hne : ty ≠ 113) (hB : B0 ≤ a.block) (u : Value) : KeepsE B0 W (W.setCell a u) :=
  ⟨(Below.refl _ _).setCell hB u, fun b cs' fr' hb' => (Below.heap_setCell _ _ _ _ (fun e => by subst e; rw [hb] at hb'; cases hb'; exact hne rfl)).trans hb'⟩
theorem set_here {W : World} {b : Nat} {cs : Array Value} {ty : TypeId} {fr : Nat × Nat} (h : W.heap[b]? = some (.cells cs ty fr)) (j : Nat) (v : Value) : (W.setCell ⟨b, j, none⟩ v).heap[b]? = some (.cells (cs.setIfInBounds j v) ty fr) := by
  obtain ⟨hlt, hk⟩ := Array.getElem?_eq_some_iff.1 h
  show (W.heap.modify b _)[b]? = _
  rw [Array.getElem?_eq_getElem (by rw [Array.size_modify]; exact hlt), Array.getElem_modify_self, hk]
  rfl
/-- A stretch is put behind others, as the machine's numbers have it. -/
def putW (out : List Rg) (x : Rg) : List Rg :=
  match out.getLast? with
  | some y => if IntKind.i32.wrap (y.hi + 1) = x.lo then out.dropLast ++ [⟨y.lo, x.hi⟩] else out ++ [x]
  | none => [x]
def thoseW (is : Int → Bool) (ss : List (Rg × Int)) : List Rg := ss.foldl (fun out s => if is s.2 then putW out s.1 else out) []
theorem thoseW_next (is : Int → Bool) (ss : List (Rg × Int)) (s : Rg × Int) : thoseW is (ss ++ [s]) = if is s.2 then putW (thoseW is ss) s.1 else thoseW is ss := by
  simp [thoseW, List.foldl_append]
theorem putW_snoc (fr : List Rg) (y x : Rg) : putW (fr ++ [y]) x = if IntKind.i32.wrap (y.hi + 1) = x.lo then fr ++ [⟨y.lo, x.hi⟩] else fr ++ [y] ++ [x] := by
  simp [putW]
theorem thoseW_len (is : Int → Bool) (ss : List (Rg × Int)) : ∀ (out : List Rg), (ss.foldl (fun out s => if is s.2 then putW out s.1 else out) out).length ≤ out.length + ss.length := by
  induction ss with
  | nil => intro out; simp
  | cons s ss ih =>
    intro out
    rw [List.foldl_cons, List.length_cons]
    have h1 := ih (if is s.2 = true then putW out s.1 else out)
    have h2 : (if is s.2 = true then putW out s.1 else out).length ≤ out.length + 1 := by
      split
      · unfold putW
        split
        · split
          · simp [List.length_dropLast]
            try omega
          · simp
        · simp
      · omega
    omega
theorem wrap32_in (n : Int) (h0 : -2147483648 ≤ n) (h1 : n ≤ 2147483647) : IntKind.i32.wrap n = n := by
  unfold IntKind.wrap; simp [IntKind.bits, IntKind.signed]; omega
theorem put_same (out : List Rg) (x : Rg) (h : ∀ y ∈ out, 0 ≤ y.hi ∧ y.hi ≤ 1114111) : putW out x = putSpan out x := by
  unfold putW putSpan
  cases hl : out.getLast? with
  | none => rfl
  | some y => 
    have := h y (List.mem_of_getLast? hl)
    simp only [wrap32_in (y.hi + 1) (by omega) (by omega)]
theorem put_his (out : List Rg) (x : Rg) (h : ∀ y ∈ out, 0 ≤ y.hi ∧ y.hi ≤ 1114111) (hx : 0 ≤ x.hi ∧ x.hi ≤ 1114111) : ∀ y ∈ putSpan out x, 0 ≤ y.hi ∧ y.hi ≤ 1114111 := by
  unfold putSpan
  intro y hy
  split at hy
  · split at hy
    · rcases List.mem_append.1 hy with h1 | h1
      · exact h y (List.dropLast_subset _ h1)
      · rw [List.mem_singleton.1 h1]; exact hx
    · rcases List.mem_append.1 hy with h1 | h1
      · exact h y h1
      · rw [List.mem_singleton.1 h1]; exact hx
  · rw [List.mem_singleton.1 hy]; exact hx
theorem those_same (is : Int → Bool) : ∀ (ss : List (Rg × Int)) (out : List Rg), (∀ s ∈ ss, 0 ≤ s.1.hi ∧ s.1.hi ≤ 1114111) → (∀ y ∈ out, 0 ≤ y.hi ∧ y.hi ≤ 1114111) →
    ss.foldl (fun out s => if is s.2 then putW out s.1 else out) out = ss.foldl (fun out s => if is s.2 then putSpan out s.1 else out) out
  | [], _, _, _ => rfl
  | s :: ss, out, h, ho => by
    simp only [List.foldl_cons]
    by_cases hi : is s.2 = true
    · simp only [hi, if_true, put_same out s.1 ho]
      exact those_same is ss _ (fun s' hs => h s' (by simp [hs])) (put_his out s.1 ho (h s (by simp)))
    · simp only [hi]
      exact those_same is ss _ (fun s' hs => h s' (by simp [hs])) ho
theorem spans_his : ∀ (es : List (Int × Int)) (f n : Int), 0 ≤ f → (∀ x ∈ es, 0 ≤ x.1 ∧ x.1 ≤ 1114112) → ∀ s ∈ spansOf f n es, 0 ≤ s.1.hi ∧ s.1.hi ≤ 1114111
  | [], f, n, hf, _, s, hs => by
    rw [spansOf] at hs
    split at hs
    · rw [List.mem_singleton.1 hs]; simp
    · simp at hs
  | x :: es, f, n, hf, h, s, hs => by
    have hx := h x (by simp)
    rw [spansOf] at hs
    split at hs
    · rcases List.mem_cons.1 hs with rfl | hs
      · simp; omega
      · exact spans_his es _ _ (by omega) (fun y hy => h y (by simp [hy])) s hs
    · exact spans_his es _ _ hf (fun y hy => h y (by simp [hy])) s hs
theorem thoseW_eq (is : Int → Bool) (es : List (Int × Int)) (h : ∀ x ∈ es, 0 ≤ x.1 ∧ x.1 ≤ 1114112) : thoseW is (spansOf 0 0 es) = thoseOf is (spansOf 0 0 es) :=
  those_same is _ [] (spans_his es 0 0 (by omega) h) (fun y hy => by simp at hy)
/-- What lies in memory while stretches are gathered. -/
def Gather (w W : World) (v : Value) (out : List Rg) : Prop :=
  W.heap[w.heap.size]? = some (Obj.cells #[.func (.func 76) #[] #[]] 86 (0, 0)) ∧ W.heap[w.heap.size + 1]? = some (Obj.cells #[v] 24 (0, 0)) ∧ OwnR W (w.heap.size + 2) v out ∧ Below w.heap.size w W
/-- Behind an append, and the store of its slice. -/
theorem gather_app {w W w4 : World} {v v' : Value} {out : List Rg} {x : Rg} {q : Nat} (h : Gather w W v out) (hown : Owns w4 (w.heap.size + 2) 61 2 v' (out.map rgC ++ [rgC x])) (hg : ((W.drewN q).alloc (.cells (rgC x).toArray 61)).grownBy w4 v.ownBlock) (B : Nat) :
    w4.heap[w.heap.size + 1]? = some (Obj.cells #[v] 24 (0, 0)) ∧ Gather w (w4.setCell ⟨w.heap.size + 1, 0, none⟩ v') v' (out ++ [x]) ∧ KeepsFrom B W (w4.setCell ⟨w.heap.size + 1, 0, none⟩ v') ∧ KeepsE w.heap.size W (w4.setCell ⟨w.heap.size + 1, 0, none⟩ v') := by
  obtain ⟨h0, h1, h2, hB⟩ := h
  have hX : Owns ((W.drewN q).alloc (.cells (rgC x).toArray 61)) (w.heap.size + 2) 61 2 v (out.map rgC) := Owns.alloc (show Owns (W.drewN q) _ _ _ _ _ from h2) _
  have e0 := (Below.heap_alloc (W.drewN q) (.cells (rgC x).toArray 61) _ (heap_lt h0)).trans h0
  have e1 := (Below.heap_alloc (W.drewN q) (.cells (rgC x).toArray 61) _ (heap_lt h1)).trans h1
  have k0 := (hg.block _ (heap_lt e0) (fun e => owns_other hX e0 (by decide) e.symm)).trans e0
  have k1 := (hg.block _ (heap_lt e1) (fun e => owns_other hX e1 (by decide) e.symm)).trans e1
  have hWX : Below W.heap.size W ((W.drewN q).alloc (.cells (rgC x).toArray 61)) := (below_drewN (Below.refl _ _) q).alloc (Nat.le_refl _) _
  have hXs : w.heap.size ≤ ((W.drewN q).alloc (.cells (rgC x).toArray 61)).heap.size := Nat.le_trans hB.size hWX.size
  have kE := (KeepsE.of_below hWX hB.size).trans (keepsE_grown hX (by omega) hXs hg)
  refine ⟨k1, ⟨?_, set_here k1 0 v', ?_, ?_⟩, ((keepsFrom_below hWX).trans ((others_grown hX hg).from B)).trans ((KeepsOthers.setCell _ _ _).from B), kE.trans (keepsE_set (a := ⟨w.heap.size + 1, 0, none⟩) k1 (by decide) (by show w.heap.size ≤ w.heap.size + 1; omega) v')⟩
  · rw [Below.heap_setCell _ _ _ _ (by show w.heap.size ≠ w.heap.size + 1; omega)]; exact k0
  · show Owns _ _ _ _ _ ((out ++ [x]).map rgC)
    rw [List.map_append]
    exact ⟨ownsRow_setCell_other hown.1 (owns_other hown k1 (by decide)) _, hown.2⟩
  · exact (hB.trans kE.1).setCell (p := ⟨w.heap.size + 1, 0, none⟩) (by show w.heap.size ≤ w.heap.size + 1; omega) _
theorem rg_flat (fr : List Rg) : (fr.map rgC).flatten.length = fr.length * 2 := by
  induction fr with
  | nil => rfl
  | cons x fr ih => rw [List.map_cons, List.flatten_cons, List.length_append, ih]; simp [rgC]; omega
theorem rg_set (fr : List Rg) (y : Rg) (hi : Int) : ((fr ++ [y]).map rgC).flatten.set (fr.length * 2 + 1) (.int .i32 hi) = ((fr ++ [(⟨y.lo, hi⟩ : Rg)]).map rgC).flatten := by
  rw [List.map_append, List.map_append, List.flatten_append, List.flatten_append, List.set_append_right _ _ (by rw [rg_flat]; omega), rg_flat]
  simp [rgC]
theorem own_last {W : World} {b g c : Nat} {fr : List Rg} {y : Rg} (h : OwnR W b (.slice (some ⟨g, 0, none⟩) (fr.length + 1) c) (fr ++ [y])) : W.ownsRow b 61 2 (.slice (some ⟨g, 0, none⟩) (fr.length + 1) c) (fr.length + 1) ((fr ++ [y]).map rgC).flatten := by
  have h1 := h.1
  rwa [show ((fr ++ [y]).map rgC).length = fr.length + 1 by simp] at h1
/-- Behind the store of the last one's end. -/
theorem gather_set {w W : World} {g c : Nat} {fr : List Rg} {y : Rg} (h : Gather w W (.slice (some ⟨g, 0, none⟩) (fr.length + 1) c) (fr ++ [y])) (q : Nat) (hi : Int) (B : Nat) :
    Gather w ((W.drewN q).setCell ⟨g, fr.length * 2 + 1, none⟩ (.int .i32 hi)) (.slice (some ⟨g, 0, none⟩) (fr.length + 1) c) (fr ++ [⟨y.lo, hi⟩]) ∧ KeepsFrom B W ((W.drewN q).setCell ⟨g, fr.length * 2 + 1, none⟩ (.int .i32 hi)) ∧ KeepsE w.heap.size W ((W.drewN q).setCell ⟨g, fr.length * 2 + 1, none⟩ (.int .i32 hi)) := by
  obtain ⟨h0, h1, h2, hB⟩ := h
  have hg := (Owns.lt h2 g rfl).1
  obtain ⟨cs, fz, hc⟩ := Lib.ownsRow_kind h2.1 g rfl
  have hWX : Below W.heap.size W (W.drewN q) := below_drewN (Below.refl _ _) q
  have hst := (World.ownsRow.stored (show World.ownsRow (W.drewN q) _ _ _ _ _ _ from own_last h2) (fr.length * 2 + 1) (.int .i32 hi)).1
  rw [rg_set] at hst
  refine ⟨⟨?_, ?_, ⟨by simpa using hst, fun c hc => ?_⟩, ?_⟩, ?_, ?_⟩
  · rw [Below.heap_setCell _ _ _ _ (by show w.heap.size ≠ g; omega)]; exact h0
  · rw [Below.heap_setCell _ _ _ _ (by show w.heap.size + 1 ≠ g; omega)]; exact h1
  · obtain ⟨r, _, rfl⟩ := List.mem_map.1 hc; rfl
  · exact (below_drewN hB q).setCell (p := ⟨g, fr.length * 2 + 1, none⟩) (by show w.heap.size ≤ g; omega) _
  · exact (keepsFrom_below hWX).trans ((KeepsOthers.setCell _ _ _).from B)
  · exact (KeepsE.of_below hWX hB.size).trans (keepsE_set (W := W.drewN q) (a := ⟨g, fr.length * 2 + 1, none⟩) hc (by decide) (by show w.heap.size ≤ g; omega) _)
set_option maxRecDepth 100000 in
set_option maxHeartbeats 4000000 in
theorem those_in (w : World) (A : Option Addr) (c : Nat) (es : List (Int × Int)) (hes : Arr (fun b => b < w.heap.size) w 2 (fun x cs => cs = edgeC x) A es) (hN : es.length ≤ 5000000000) (hv : ∀ x ∈ es, (0 ≤ x.1 ∧ x.1 ≤ 1114112) ∧ (-1 ≤ x.2 ∧ x.2 ≤ 1)) :
    CallsIn Fence.wide 9 Try.prog 74 #[.slice A es.length c, .func (.func 76) #[] #[]] w fun e w' => ∃ v, e = .returned v ∧ OwnR w' w.heap.size v (thoseOf (fun n => decide (0 < n)) (spansOf 0 0 es)) ∧ Below w.heap.size w w' := by
  have hF1 : Fence.wide.fn 77 := trivial
  have hF2 : Fence.wide.fn 81 := trivial
  have hF3 : Fence.wide.fn 76 := trivial
  have hdd : ∀ k : Nat, (Fence.wide.depth.isSome = true → 1 ≤ k) := fun k h => by simp [Fence.wide] at h
  have HE := Lib.hid (And.intro hes hv)
  clear hes hv
  refine callsIn_of_wp_marks Try.func74 rfl trivial ?_ rfl
  simp only [Try.ntmps74, List.size_toArray, List.length_cons, List.length_nil, Nat.reduceAdd, Nat.reduceSub, Array.replicate_succ, Array.replicate_zero, List.push_toArray, List.append_toArray, List.nil_append, List.cons_append]
  gi_wp2_with ((try refine ⟨hdd _, ?_⟩); gi_at_call 77; refine (callsIn_wide.2 (spans_any _ _ _ _)).mono ?_; rintro e w' ⟨rfl, rfl⟩)
  have b0 : (((w.alloc (.cells #[.func (.func 76) #[] #[]] 86)).alloc (.cells #[.slice none 0 0] 24)).alloc (.cells #[.slice A es.length c] 106)).heap[w.heap.size]? = some (.cells #[.func (.func 76) #[] #[]] 86 (0, 0)) := by
    rw [Below.heap_alloc _ _ _ (by simp; omega), Below.heap_alloc _ _ _ (by simp)]; exact heap_new1 _ _
  have b1 : (((w.alloc (.cells #[.func (.func 76) #[] #[]] 86)).alloc (.cells #[.slice none 0 0] 24)).alloc (.cells #[.slice A es.length c] 106)).heap[w.heap.size + 1]? = some (.cells #[.slice none 0 0] 24 (0, 0)) := by
    rw [Below.heap_alloc _ _ _ (by simp)]; exact heap_new2 _ _ _
  have b2 : (((w.alloc (.cells #[.func (.func 76) #[] #[]] 86)).alloc (.cells #[.slice none 0 0] 24)).alloc (.cells #[.slice A es.length c] 106)).heap[w.heap.size + 1 + 1]? = some (.cells #[.slice A es.length c] 106 (0, 0)) := heap_new3 _ _ _ _
  have hB0 : Below w.heap.size w (((w.alloc (.cells #[.func (.func 76) #[] #[]] 86)).alloc (.cells #[.slice none 0 0] 24)).alloc (.cells #[.slice A es.length c] 106)) := below_al (below_al (below_al (Below.refl _ _) _) _) _
  have hsz : (((w.alloc (.cells #[.func (.func 76) #[] #[]] 86)).alloc (.cells #[.slice none 0 0] 24)).alloc (.cells #[.slice A es.length c] 106)).heap.size = w.heap.size + 3 := by simp
  obtain ⟨W0, hW0⟩ : ∃ W0, (((w.alloc (.cells #[.func (.func 76) #[] #[]] 86)).alloc (.cells #[.slice none 0 0] 24)).alloc (.cells #[.slice A es.length c] 106)) = W0 := ⟨_, rfl⟩
  rw [hW0] at b0 b1 b2 hB0 hsz ⊢
  clear hW0
  refine wpIn_rangeFunc_ownH rfl (by omega) (gf := 81) (lb := #[.pointer (some ⟨w.heap.size + 1 + 1, 0, none⟩)]) rfl trivial (enters_of Try.func81 (by kernel_rfl) rfl)
    (spans_stops _ w.heap.size (w.heap.size + 1 + 1) W0 A c es (by omega) b2 (HE.out.1.move (fun b hb _ => ⟨hB0.block b hb, hb⟩) (by omega)) (by omega) HE.out.2) KeepsE.trans
    (fun W l o o' hl ho hc _ => ?kb) (Below.refl _ _) (fun _ => rfl)
    (fun pre W => ∃ v, W.heap[w.heap.size]? = some (Obj.cells #[.func (.func 76) #[] #[]] 86 (0, 0)) ∧ W.heap[w.heap.size + 1]? = some (Obj.cells #[v] 24 (0, 0)) ∧ OwnR W (w.heap.size + 2) v (thoseW (fun n => decide (0 < n)) pre) ∧ Below w.heap.size w W)
    (fun c pre W => False) ?own (fun _ _ _ _ _ h => h.elim) ⟨_, b0, b1, Owns.nil _ _ _ _, hB0⟩
    (fun (x : Rg × Int) a' (W : World) => ∃ Bx : Nat, W.heap[Bx]? = some (Obj.cells #[.int .i32 x.1.lo, .int .i32 x.1.hi] 61 (0, 0)) ∧ a' = { tmps := #[.slice A es.length c, .func (.func 76) #[] #[], undef, .pointer (some ⟨w.heap.size, 0, none⟩), .slice none 0 0, .pointer (some ⟨w.heap.size + 1, 0, none⟩), .pointer (some ⟨Bx, 0, none⟩), .int .i64 x.2, undef, .slice A es.length c, .func (.func 81) #[] #[.pointer (some ⟨w.heap.size + 1 + 1, 0, none⟩)], .agg #[.int .i32 x.1.lo, .int .i32 x.1.hi], .int .i64 x.2, undef, undef, undef, undef, undef, undef, undef, undef, undef, undef, undef, undef, undef, undef, undef, undef, undef, undef, undef, undef, undef, undef, undef, undef, undef, undef, undef, undef, undef, undef, undef, undef, undef, undef], defers := [] })
    ?ownx ?assign ?body ?done ?stop
  case kb =>
    have hk := Keeps.putObj (B0 := w.heap.size) (B1 := 0) (w := W0) (by omega) (Nat.zero_le _) W l o o' hl ho hc
    exact ⟨hk.below, fun b cs fr hb => (hk.cells b _ _ _ (Nat.zero_le _) hb).trans hb⟩
  case own =>
    rintro s X Y row ⟨v, h0, h1, h2, hB⟩ hg hr
    refine ⟨v, blk_own _ _ _ () X Y row h0 hg (fun r e => (hr r e).2), blk_own _ _ _ () X Y row h1 hg (fun r e => (hr r e).2), h2.kept hg ?_, (ownFrom_below (Nat.le_refl _) (by omega)) s X Y row hB hg hr⟩
    cases hv : v.ownBlock with
    | none => exact .inl rfl
    | some g =>
      refine .inr fun e => ?_
      obtain ⟨o, ho, hc⟩ := (hr g e.symm).2
      obtain ⟨cs, fz, hk⟩ := Lib.ownsRow_kind h2.1 g hv
      rw [hk] at ho; cases ho; simp [Obj.isCells] at hc
  case ownx =>
    rintro x a' _ X Y row ⟨Bx, h2, h3⟩ hg hr
    exact ⟨Bx, blk_own Bx _ _ () X Y row h2 hg (fun r e => (hr r e).2), h3⟩
  case assign =>
    rintro l pre ⟨⟨lo, hi⟩, n⟩ W K ⟨v, h0, h1, h2, hB⟩ hK
    have hK1 := hK _ _ (keepsFrom_below (below_al (Below.refl _ _) (.cells #[.int .i32 lo, .int .i32 hi] 61))) (KeepsE.of_below (below_al (Below.refl _ _) _) hB.size) ⟨v, (Below.heap_alloc _ _ _ (heap_lt h0)).trans h0, (Below.heap_alloc _ _ _ (heap_lt h1)).trans h1, h2.alloc _, below_al hB _⟩ ⟨W.heap.size, heap_new1 _ _, rfl⟩
    clear hK h0 h1 h2 hB
    dsimp only [spanA]
    gi_wp2
    exact hK1
  case body =>
    rintro l pre ⟨⟨lo, hi⟩, n⟩ a' W hl _ ⟨v, h0, h1, h2, hB⟩ ⟨Bx, hbx, rfl⟩ hlen
    obtain ⟨A1, c1, rfl, hk1, hk2⟩ := Owns.shape h2
    rw [List.length_map] at h1 h2 hk1
    have g0 : W.cell? ⟨w.heap.size, 0, none⟩ = some (.func (.func 76) #[] #[]) := by rw [cell_of_blk h0]; rfl
    have g1 : W.cell? ⟨w.heap.size + 1, 0, none⟩ = some (.slice A1 (thoseW (fun n => decide (0 < n)) pre).length c1) := by rw [cell_of_blk h1]; rfl
    have hnx := thoseW_next (fun n => decide (0 < n)) pre (⟨lo, hi⟩, n)
    have hln : (thoseW (fun n => decide (0 < n)) pre).length ≤ 9223372036854775807 := by unfold maxLen at hk2; omega
    have hob : (thoseW (fun n => decide (0 < n)) pre).length ≤ 5000000001 := by
      have h5 := thoseW_len (fun n => decide (0 < n)) pre []
      have h6 := spans_len es 0 0
      simp only [List.length_nil, Nat.zero_add] at h5
      refine Nat.le_trans (show (thoseW (fun n => decide (0 < n)) pre).length ≤ pre.length from h5) (by omega)
    by_cases hn : 0 < n
    · have hd : decide (0 < n) = true := by simpa using hn
      simp only [hd, if_true] at hnx
      have hui : ∀ W', Calls Try.prog 76 #[.int .i64 n] W' fun e w' => e = .returned (.bool true) ∧ W' = w' := fun W' => by rw [← hd]; exact isSome_any W' n
      generalize thoseW (fun n => decide (0 < n)) pre = out at *
      have gx0 : W.cell? ⟨Bx, 0, none⟩ = some (.int .i32 lo) := by rw [cell_of_blk hbx]; rfl
      have gx1 : W.cell? ⟨Bx, 1, none⟩ = some (.int .i32 hi) := by rw [cell_of_blk hbx]; rfl
      have HH := Lib.hid (And.intro h0 (And.intro h1 (And.intro h2 (And.intro hB hnx))))
      clear h0 h1 h2 hB hnx hd
      by_cases hout : out = []
      · subst hout
        gi_wp2_with ((try refine ⟨hdd _, ?_⟩); gi_at_call 76; refine (CallsIn.inRound l (callsIn_wide.2 (hui _))).mono ?_; rintro e W2 ⟨rfl, rfl⟩)
        refine region_quiet_lit_round (by kernel_rfl) (by kernel_rfl) (by kernel_rfl) ?_
        repeat (gi_big_quiet_step (fail))
        refine wpQuietIn_nil ?_
        intro _ hw'
        obtain ⟨nq, hw''⟩ := hw'
        subst hw''
        have hIr := infoRg
        obtain ⟨i0, hi0, hxx⟩ := Option.map_eq_some_iff.1 hIr
        simp only [Prod.mk.injEq] at hxx
        obtain ⟨hz0, hz1, hz2⟩ := hxx
        gi_wp2_with (gi_at_builtin; refine wpListIn_app1 rfl _ _ 24 rfl (w.heap.size + 2) 61 i0 _ 2 8 Try.underlying24 hi0 hz0 hz1 hz2 rfl (by decide) _ _ rfl (Owns.alloc (show Owns (W.drewN _) _ _ _ _ _ from HH.out.2.2.1) _) _ (rgC ⟨lo, hi⟩) rfl rfl (heap_newE (by simp)) ?c2 ?c3 ?c4 ?c5 ?_)
        case c2 => intro u hu; simp [rgC] at hu; rcases hu with rfl | rfl <;> rfl
        case c3 => simp; unfold maxLen; omega
        case c4 => simp
        case c5 => have := heap_lt HH.out.2.1; simp; omega
        intro v' w4 hown' hgrow
        obtain ⟨h0, h1, h2, hB, hnx⟩ := HH.out
        obtain ⟨k1, hG, kF, kE⟩ := gather_app (x := ⟨lo, hi⟩) ⟨h0, h1, h2, hB⟩ hown' hgrow W0.heap.size
        obtain ⟨A5, c5, rfl, _, _⟩ := hown'.shape
        have q1 : w4.cell? ⟨w.heap.size + 1, 0, none⟩ = some (.slice A1 0 c1) := by rw [cell_of_blk k1]; rfl
        have q2 : w4.frozen? ⟨w.heap.size + 1, 0, none⟩ = false := by simp [World.frozen?, k1]
        have HG := Lib.hid (And.intro hG (And.intro kF (And.intro kE hnx)))
        clear h0 h1 h2 hB hnx hG kF kE k1 hown' hgrow
        gi_wp2
        obtain ⟨hG, kF, kE, hnx⟩ := HG.out
        exact ⟨kF, kE, _, hG.1, hG.2.1, by rw [hnx]; exact hG.2.2.1, hG.2.2.2⟩
      · obtain ⟨fr, y, rfl⟩ : ∃ fr y, out = fr ++ [y] := ⟨_, _, (List.dropLast_concat_getLast hout).symm⟩
        clear hout
        obtain ⟨h0, h1, h2, hB, hnx⟩ := HH.out
        clear HH
        have e1 : (fr ++ [y]).length = fr.length + 1 := by simp
        rw [e1] at h1 h2 g1 hk1 hln hob
        rw [putW_snoc] at hnx
        obtain ⟨g, rfl⟩ : ∃ g, A1 = some ⟨g, 0, none⟩ := by
          rcases h2.1.2 with ⟨e, _⟩ | ⟨g, _, _, e, _⟩
          · injection e with e1 e2; omega
          · injection e with e1; exact ⟨g, e1⟩
        have hcy : W.cell? ⟨g, fr.length * 2 + 1, none⟩ = some (.int .i32 y.hi) := by
          rw [World.ownsRow.cellAt (own_last h2) _ (by omega), List.map_append, List.flatten_append, List.getElem?_append_right (by rw [rg_flat]; omega), rg_flat]
          simp [rgC]
        have hfy : W.frozen? ⟨g, fr.length * 2 + 1, none⟩ = false := World.ownsRow.frozenAt (own_last h2) _
        have HH := Lib.hid (And.intro (show Gather w W _ _ from ⟨h0, h1, h2, hB⟩) hnx)
        clear h0 h1 h2 hB hnx e1
        by_cases hm : IntKind.i32.wrap (y.hi + 1) = lo
        · gi_wp2_with ((try refine ⟨hdd _, ?_⟩); gi_at_call 76; refine (CallsIn.inRound l (callsIn_wide.2 (hui _))).mono ?_; rintro e W2 ⟨rfl, rfl⟩)
          refine region_quiet_lit_round (by kernel_rfl) (by kernel_rfl) (by kernel_rfl) ?_
          repeat (gi_big_quiet_step (fail))
          refine wpQuietIn_nil ?_
          intro _ hw'
          obtain ⟨nq, hw''⟩ := hw'
          subst hw''
          have HM := Lib.hid hm
          clear hm
          gi_wp2
          obtain ⟨hG, hnx⟩ := HH.out
          rw [if_pos HM.out] at hnx
          obtain ⟨hG2, kF, kE⟩ := gather_set hG nq hi W0.heap.size
          exact ⟨kF, kE, _, hG2.1, hG2.2.1, by rw [hnx]; exact hG2.2.2.1, hG2.2.2.2⟩
        · have hmb : (IntKind.i32.wrap (y.hi + 1) == lo) = false := by simpa using hm
          have hmb2 : (wrap32 (y.hi + 1) == lo) = false := by rw [← IntWalk.i32_left]; exact hmb
          have HM := Lib.hid hm
          clear hm
          gi_wp2_with ((try refine ⟨hdd _, ?_⟩); gi_at_call 76; refine (CallsIn.inRound l (callsIn_wide.2 (hui _))).mono ?_; rintro e W2 ⟨rfl, rfl⟩)
          refine region_quiet_lit_round (by kernel_rfl) (by kernel_rfl) (by kernel_rfl) ?_
          repeat (gi_big_quiet_step (fail))
          refine wpQuietIn_nil ?_
          intro _ hw'
          obtain ⟨nq, hw''⟩ := hw'
          subst hw''
          clear hmb hmb2
          have hIr := infoRg
          obtain ⟨i0, hi0, hxx⟩ := Option.map_eq_some_iff.1 hIr
          simp only [Prod.mk.injEq] at hxx
          obtain ⟨hz0, hz1, hz2⟩ := hxx
          gi_wp2_with (gi_at_builtin; refine wpListIn_app1 rfl _ _ 24 rfl (w.heap.size + 2) 61 i0 _ 2 8 Try.underlying24 hi0 hz0 hz1 hz2 rfl (by decide) _ _ rfl (Owns.alloc (show Owns (W.drewN _) _ _ _ _ _ from HH.out.1.2.2.1) _) _ (rgC ⟨lo, hi⟩) rfl rfl (heap_newE (by simp)) ?c2 ?c3 ?c4 ?c5 ?_)
          case c2 => intro u hu; simp [rgC] at hu; rcases hu with rfl | rfl <;> rfl
          case c3 => simp; unfold maxLen; omega
          case c4 => simp; omega
          case c5 => have := heap_lt HH.out.1.2.1; simp; omega
          intro v' w4 hown' hgrow
          obtain ⟨hG0, hnx⟩ := HH.out
          obtain ⟨k1, hG, kF, kE⟩ := gather_app (x := ⟨lo, hi⟩) hG0 (by simpa using hown') hgrow W0.heap.size
          obtain ⟨A5, c5, hv5, _, _⟩ := hown'.shape
          rw [show (List.map rgC fr ++ [rgC y, rgC ⟨lo, hi⟩]).length = fr.length + 2 by simp] at hv5
          subst hv5
          have q1 : w4.cell? ⟨w.heap.size + 1, 0, none⟩ = some (.slice (some ⟨g, 0, none⟩) (fr.length + 1) c1) := by rw [cell_of_blk k1]; rfl
          have q2 : w4.frozen? ⟨w.heap.size + 1, 0, none⟩ = false := by simp [World.frozen?, k1]
          have HG := Lib.hid (And.intro hG (And.intro kF (And.intro kE hnx)))
          clear hG0 hnx hG kF kE k1 hown' hgrow
          gi_wp2
          obtain ⟨hG, kF, kE, hnx⟩ := HG.out
          rw [if_neg HM.out] at hnx
          exact ⟨kF, kE, _, hG.1, hG.2.1, by rw [hnx]; exact hG.2.2.1, hG.2.2.2⟩
    · have hd : decide (0 < n) = false := by simpa using hn
      simp only [hd, Bool.false_eq_true, if_false] at hnx
      have HH := Lib.hid (And.intro h0 (And.intro h1 (And.intro h2 (And.intro hB hnx))))
      have hui : ∀ W', Calls Try.prog 76 #[.int .i64 n] W' fun e w' => e = .returned (.bool false) ∧ W' = w' := fun W' => by rw [← hd]; exact isSome_any W' n
      clear h0 h1 h2 hB hnx hd
      generalize thoseW (fun n => decide (0 < n)) pre = out at *
      gi_wp2_with ((try refine ⟨hdd _, ?_⟩); gi_at_call 76; refine (CallsIn.inRound l (callsIn_wide.2 (hui _))).mono ?_; rintro e W2 ⟨rfl, rfl⟩)
      obtain ⟨h0, h1, h2, hB, hnx⟩ := HH.out
      exact ⟨keepsFrom_below (Below.refl _ _), KeepsE.of_below (Below.refl _ _) hB.size, _, h0, h1, by rw [hnx]; exact h2, hB⟩
  case done =>
    rintro D ys W hD rfl ⟨v, h0, h1, h2, hB⟩ hK
    have hcr : W.cell? ⟨w.heap.size + 1, 0, none⟩ = some v := by rw [cell_of_blk h1]; rfl
    have HH := Lib.hid (And.intro h2 hB)
    clear h0 h1 h2 hB
    gi_wp2
    obtain ⟨h2, hB⟩ := HH.out
    refine ⟨by simp, .inl ⟨_, _, rfl, run_takeDeferred hK, ?_⟩⟩
    have hne : v.ownBlock = none ∨ v.ownBlock ≠ some D := by
      cases hv : v.ownBlock with
      | none => exact .inl rfl
      | some g =>
        refine .inr fun e => ?_
        cases e
        obtain ⟨cs, fz, hk⟩ := Lib.ownsRow_kind h2.1 D hv
        rw [hk] at hK; cases hK
    have h3 : Owns (W.putObj D (.deferred none)) w.heap.size 61 2 v ((thoseOf (fun n => decide (0 < n)) (spansOf 0 0 es)).map rgC) := by
      have h4 := h2.kept (grownBy_putObj' W D (.deferred none)) hne
      rw [thoseW_eq _ _ (fun x hx => (HE.out.2 x hx).1)] at h4
      exact ⟨Joins.ownsRow_le h4.1 (by omega), h4.2⟩
    refine ⟨v, ?_, v, rfl, h3, hB.trans (belowK_b (w := w) (Nat.le_refl _) W D _ _ (by omega) hK rfl rfl)⟩
    simp [results, Try.f74, go_sem]
  case stop => exact fun _ _ _ _ _ _ h => h.elim
end Go.Proofs.Ytdnbholiijgedaa
