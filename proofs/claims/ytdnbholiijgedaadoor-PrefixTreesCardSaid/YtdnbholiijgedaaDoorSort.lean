/-
  The order of a list's edges: slices.SortFunc by the shelf's contract, its comparison by a walk. No condition.
-/
import Derived.Test.YtdnbholiijgedaaDoorCore
import Derived.Test.YtdnbholiijgedaaDoorProg
import Derived.Shelf.SlSortCmp.WholeK
import Derived.Lib.Hide
import Derived.Lib.OwnBridge
import Derived.Lib.AppendIntMem
import Derived.Shelf.SlSortCmp.NoneTotal
namespace Go.Proofs.YtdnbholiijgedaaDoor
open Go.RowKit Go.Shelf Go.Lib Go.Sort
set_option linter.unusedVariables false

def layEdgeSortNums : Go.Shelf.Ren := ⟨fun | 6 => 54 | 15 => 59 | 14 => 58 | 28 => 69 | 29 => 70 | 20 => 61 | 21 => 62 | 22 => 63 | 23 => 64 | 24 => 65 | 25 => 66 | 26 => 67 | 27 => 68 | 46 => 71 | 47 => 72 | 48 => 73 | 49 => 74 | 50 => 75 | 57 => 76 | n => n, fun | 22 => 94 | 24 => 102 | 25 => 105 | 3 => 3 | 39 => 88 | 0 => 0 | 53 => 119 | 55 => 121 | 4 => 4 | 46 => 112 | 45 => 111 | 50 => 116 | 5 => 5 | 9 => 9 | 66 => 122 | 70 => 126 | 76 => 128 | 77 => 129 | n => n, fun n => n⟩
theorem layEdgeSort : Go.Proofs.SlLaysF0.n6 Tryd.prog layEdgeSortNums := {
  mixed := by kernel_rfl
  f6 := ⟨Tryd.f54.name, by decide, Tryd.func54.trans (congrArg some (by kernel_rfl))⟩
  f14 := ⟨Tryd.f58.name, by decide, Tryd.func58.trans (congrArg some (by kernel_rfl))⟩
  f15 := Tryd.func59.trans (congrArg some (by kernel_rfl))
  f20 := ⟨Tryd.f61.name, by decide, Tryd.func61.trans (congrArg some (by kernel_rfl))⟩
  f21 := ⟨Tryd.f62.name, by decide, Tryd.func62.trans (congrArg some (by kernel_rfl))⟩
  f22 := ⟨Tryd.f63.name, by decide, Tryd.func63.trans (congrArg some (by kernel_rfl))⟩
  f23 := ⟨Tryd.f64.name, by decide, Tryd.func64.trans (congrArg some (by kernel_rfl))⟩
  f24 := ⟨Tryd.f65.name, by decide, Tryd.func65.trans (congrArg some (by kernel_rfl))⟩
  f25 := ⟨Tryd.f66.name, by decide, Tryd.func66.trans (congrArg some (by kernel_rfl))⟩
  f26 := ⟨Tryd.f67.name, by decide, Tryd.func67.trans (congrArg some (by kernel_rfl))⟩
  f27 := ⟨Tryd.f68.name, by decide, Tryd.func68.trans (congrArg some (by kernel_rfl))⟩
  f28 := Tryd.func69.trans (congrArg some (by kernel_rfl))
  f29 := Tryd.func70.trans (congrArg some (by kernel_rfl))
  f46 := ⟨Tryd.f71.name, by decide, Tryd.func71.trans (congrArg some (by kernel_rfl))⟩
  f47 := Tryd.func72.trans (congrArg some (by kernel_rfl))
  f48 := Tryd.func73.trans (congrArg some (by kernel_rfl))
  f49 := ⟨Tryd.f74.name, by decide, Tryd.func74.trans (congrArg some (by kernel_rfl))⟩
  f50 := ⟨Tryd.f75.name, by decide, Tryd.func75.trans (congrArg some (by kernel_rfl))⟩
  f57 := ⟨Tryd.f76.name, by decide, Tryd.func76.trans (congrArg some (by kernel_rfl))⟩
  t0 := Tryd.underlying0
  a0 := Tryd.isAgg0
  z0 := Tryd.sizeOf0
  v0 := Tryd.zeroValue0
  t3 := Tryd.underlying3
  a3 := Tryd.isAgg3
  z3 := Tryd.sizeOf3
  v3 := Tryd.zeroValue3
  t4 := Tryd.underlying4
  a4 := Tryd.isAgg4
  z4 := Tryd.sizeOf4
  v4 := Tryd.zeroValue4
  t5 := Tryd.underlying5
  a5 := Tryd.isAgg5
  z5 := Tryd.sizeOf5
  v5 := Tryd.zeroValue5
  t9 := Tryd.underlying9
  a9 := Tryd.isAgg9
  z9 := Tryd.sizeOf9
  v9 := Tryd.zeroValue9
  t22 := Tryd.underlying94
  a22 := Tryd.isAgg94
  z22 := Tryd.sizeOf94
  v22 := Tryd.zeroValue94
  t25 := Tryd.underlying105
  a25 := Tryd.isAgg105
  z25 := Tryd.sizeOf105
  v25 := Tryd.zeroValue105
  t39 := Tryd.underlying88
  a39 := Tryd.isAgg88
  z39 := Tryd.sizeOf88
  v39 := Tryd.zeroValue88
  t45 := Tryd.underlying111
  a45 := Tryd.isAgg111
  z45 := Tryd.sizeOf111
  v45 := Tryd.zeroValue111
  t46 := Tryd.underlying112
  a46 := Tryd.isAgg112
  z46 := Tryd.sizeOf112
  v46 := Tryd.zeroValue112
  t50 := Tryd.underlying116
  a50 := Tryd.isAgg116
  z50 := Tryd.sizeOf116
  v50 := Tryd.zeroValue116
  t53 := Tryd.underlying119
  a53 := Tryd.isAgg119
  z53 := Tryd.sizeOf119
  v53 := Tryd.zeroValue119
  t55 := Tryd.underlying121
  a55 := Tryd.isAgg121
  z55 := Tryd.sizeOf121
  v55 := Tryd.zeroValue121
  t66 := Tryd.underlying122
  a66 := Tryd.isAgg122
  z66 := Tryd.sizeOf122
  v66 := Tryd.zeroValue122
  t70 := Tryd.underlying126
  a70 := Tryd.isAgg126
  z70 := Tryd.sizeOf126
  v70 := Tryd.zeroValue126
  t76 := Tryd.underlying128
  a76 := Tryd.isAgg128
  z76 := Tryd.sizeOf128
  v76 := Tryd.zeroValue128
  t77 := Tryd.underlying129
  a77 := Tryd.isAgg129
  z77 := Tryd.sizeOf129
  v77 := Tryd.zeroValue129 }


/-- An edge: where; how many more. -/
def edgeC (x : Int × Int) : List Value := [.int .i32 x.1, .int .i64 x.2]
def cmpE (x y : Int × Int) : Int := if x.1 < y.1 then -1 else if x.1 = y.1 then 0 else 1
theorem ltE (x y : Int × Int) : ltOf cmpE x y = decide (x.1 < y.1) := by
  unfold ltOf cmpE
  by_cases h1 : x.1 < y.1
  · simp [h1]
  · by_cases h2 : x.1 = y.1 <;> simp [h1, h2]
theorem swoE : SWO (ltOf cmpE) where
  irrefl x := by rw [ltE]; simp
  trans x y z h1 h2 := by rw [ltE] at *; simp at *; omega
  ntrans x y z h1 h2 := by rw [ltE] at *; simp at *; omega
set_option maxHeartbeats 400000 in
theorem isNaN_any (a : Int) (W : World) : Calls Tryd.prog 60 #[.int .i32 a] W fun e w' => e = .returned (.bool false) ∧ W = w' := by
  have h : (a != a) = false := by simp
  go_enter Tryd.func60, Tryd.ntmps60
  go_wp2
  go_ret
  exact ⟨by simp, rfl⟩
set_option maxHeartbeats 400000 in
theorem compare_any (a b : Int) (W : World) : Calls Tryd.prog 56 #[.int .i32 a, .int .i32 b] W fun e w' => e = .returned (.int .i64 (cmpE (a, 0) (b, 0))) ∧ W = w' := by
  have hn := fun x W => isNaN_any x W
  by_cases h1 : a < b
  · have hr : cmpE (a, 0) (b, 0) = -1 := by simp [cmpE, h1]
    rw [hr]
    clear hr
    go_enter Tryd.func56, Tryd.ntmps56
    go_wp2_with (go_at_call 60; refine (hn _ _).mono ?_; rintro e w2 ⟨rfl, rfl⟩)
    go_ret
    exact ⟨rfl, rfl⟩
  · by_cases h2 : b < a
    · have hr : cmpE (a, 0) (b, 0) = 1 := by simp [cmpE, h1]; omega
      rw [hr]
      clear hr
      go_enter Tryd.func56, Tryd.ntmps56
      go_wp2_with (go_at_call 60; refine (hn _ _).mono ?_; rintro e w2 ⟨rfl, rfl⟩)
      go_ret
      exact ⟨rfl, rfl⟩
    · have hr : cmpE (a, 0) (b, 0) = 0 := by simp [cmpE, h1]; omega
      rw [hr]
      clear hr
      go_enter Tryd.func56, Tryd.ntmps56
      go_wp2_with (go_at_call 60; refine (hn _ _).mono ?_; rintro e w2 ⟨rfl, rfl⟩)
      go_ret
      exact ⟨rfl, rfl⟩
set_option maxHeartbeats 1000000 in
theorem closureE (x y : Int × Int) (W : World) : Calls Tryd.prog 55 #[.agg #[.int .i32 x.1, .int .i64 x.2], .agg #[.int .i32 y.1, .int .i64 y.2]] W fun e w' => e = .returned (.int .i64 (cmpE x y)) ∧ ∃ q os', w' = grow (W.drewN q) os' := by
  have hcon := fun W' => compare_any x.1 y.1 W'
  have hr : cmpE (x.1, 0) (y.1, 0) = cmpE x y := rfl
  rw [hr] at hcon
  generalize cmpE x y = r at hcon ⊢
  go_enter Tryd.func55, Tryd.ntmps55
  go_wp2_with (go_at_call 56; refine (hcon _).mono ?_; rintro e w' ⟨rfl, rfl⟩)
  go_ret
  exact ⟨rfl, 0, _, by rw [alloc_eq_grow, alloc_eq_grow, grow_grow]; rfl⟩
/-- A list of edges of one's own. -/
def OwnE (w : World) (base : Nat) (v : Value) (es : List (Int × Int)) : Prop := Owns w base 102 2 v (es.map edgeC)
def SortPost (base : Nat) (v : Value) (es : List (Int × Int)) (w : World) (e : Ending) (w' : World) : Prop := e = .returned (.tuple #[]) ∧ ∃ es' : List (Int × Int), es'.Perm es ∧ es'.Pairwise (fun x y => x.1 ≤ y.1) ∧ OwnE w' base v es' ∧ Below base w w'
theorem flat_eq (es : List (Int × Int)) : flatK edgeC 2 es.toArray = ((es.map edgeC).flatten).toArray := by
  have hl : ((es.map edgeC).flatten).length = es.length * 2 := by
    induction es with
    | nil => rfl
    | cons x es ih => rw [List.map_cons, List.flatten_cons, List.length_append, ih]; simp [edgeC]; omega
  apply ext_get!
  · simp [hl]
  · intro t ht
    rw [size_flatK] at ht
    have ht' : t < es.length * 2 := by simpa using ht
    rw [get_flatK _ _ _ _ ht]
    have hq : t / 2 < es.length := by omega
    have h1 : (es.map edgeC)[t / 2]? = some (edgeC es[t / 2]) := by rw [List.getElem?_map, List.getElem?_eq_getElem hq]; rfl
    have h2 : (edgeC es[t / 2])[t % 2]? = some ((edgeC es[t / 2])[t % 2]!) := by
      have hlt : t % 2 < (edgeC es[t / 2]).length := by simp [edgeC]; omega
      rw [List.getElem?_eq_getElem hlt, getElem!_pos (edgeC es[t / 2]) (t % 2) hlt]
    have h3 := flatten_at (sz := 2) (fun c hc => by obtain ⟨x, _, rfl⟩ := List.mem_map.1 hc; rfl) h1 h2
    rw [show t / 2 * 2 + t % 2 = t by omega] at h3
    rw [getElem!_pos es.toArray (t / 2) (by simpa using hq)]
    have h4 : ((es.map edgeC).flatten.toArray)[t]! = (edgeC es[t / 2])[t % 2]! := by
      have hlt : t < ((es.map edgeC).flatten).length := by omega
      rw [getElem!_pos ((es.map edgeC).flatten.toArray) t (by simpa using hlt)]
      rw [List.getElem?_eq_getElem hlt] at h3
      simpa using h3
    rw [h4]
    simp
/-- A row of one's own that is written anew, draws and new blocks behind it. -/
theorem own_put {w : World} {base : Nat} {e : TypeId} {sz g n cap q : Nat} {css css' : List (List Value)} (h : Owns w base e sz (.slice (some ⟨g, 0, none⟩) n cap) css) (hl : css'.length = css.length) (hc : ∀ c ∈ css', c.length = sz) (os : Array Obj) :
    Owns (grow (putRow id (Sort.ahead w q) g 0 css'.flatten.toArray) os) base e sz (.slice (some ⟨g, 0, none⟩) n cap) css' := by
  have hlen : ∀ {l : List (List Value)}, (∀ c ∈ l, c.length = sz) → l.flatten.length = l.length * sz := by
    intro l hl
    induction l with
    | nil => simp
    | cons x l ih => rw [List.flatten_cons, List.length_append, ih (fun c hc => hl c (by simp [hc])), hl x (by simp), List.length_cons, Nat.add_mul]; omega
  have h1 := hlen hc
  refine ⟨⟨h1, ?_⟩, hc⟩
  rcases h.1.2 with ⟨e0, _⟩ | ⟨g', cap', cur, e0, hb, hg, hn, hm, hs, ht⟩
  · cases e0
  · injection e0 with e1 e2 e3
    injection e1 with e1
    injection e1 with e1
    subst e1; subst e2; subst e3
    refine .inr ⟨g, cap, putCells id 0 css'.flatten.toArray cur, by rw [hl], hb, ?_, by omega, hm, by simpa [putCells] using hs, ?_⟩
    · have hlt := heap_lt hg
      show ((putRow id (Sort.ahead w q) g 0 css'.flatten.toArray).heap ++ os)[g]? = _
      rw [Array.getElem?_append_left (by simpa [putRow, mapBlock, Sort.ahead] using hlt)]
      simp [putRow, mapBlock, Sort.ahead, Array.getElem?_modify, hg, onCells]
    · apply List.ext_getElem?
      intro j
      rw [List.getElem?_take]
      by_cases hj : j < css'.length * sz
      · have hjc : j < cur.size := by
          have : css'.length * sz ≤ cap * sz := Nat.mul_le_mul_right _ (by omega)
          omega
        rw [if_pos hj, Array.getElem?_toList]
        simp only [putCells, Array.getElem?_mapIdx, Array.getElem?_eq_getElem hjc, Option.map_some]
        rw [if_pos (by simp only [List.size_toArray]; omega), List.getElem?_eq_getElem (by omega)]
        simp [getElem!_pos, h1, hj]
      · rw [if_neg hj, List.getElem?_eq_none (by omega)]
theorem addr_at (g j : Nat) : (⟨g, 0, none⟩ : Addr).add j = ⟨g, 0 + j, none⟩ := by unfold Addr.add; split <;> simp_all
theorem sort_own (w : World) (base : Nat) (v : Value) (es : List (Int × Int)) (ho : OwnE w base v es) (hN : es.length < 4611686018427387904) : Calls Tryd.prog 54 #[v, .func (.func 55) #[] #[]] w (SortPost base v es w) := by
  have eg : ∀ args w, (callFunc 55 args).run Tryd.prog w = .ok (.enter 55 args) w := enters_of Tryd.func55 (by kernel_rfl) rfl
  obtain ⟨A, cap, rfl, h1, h2⟩ := Owns.shape ho
  rw [List.length_map] at ho h1 ⊢
  by_cases hz : es = []
  · subst hz
    refine (AnyF.slices_SortFunc_none layEdgeSort A cap (.func (.func 55) #[] #[]) w).mono ?_
    rintro e w' ⟨rfl, rfl⟩
    exact ⟨rfl, [], List.Perm.refl _, List.Pairwise.nil, ho, Below.refl _ _⟩
  · have hpos : 0 < es.length := List.length_pos_iff.2 hz
    obtain ⟨g, rfl⟩ : ∃ g, A = some ⟨g, 0, none⟩ := by
      rcases ho.1.2 with ⟨e0, h0⟩ | ⟨g', cap', cur, e0, _⟩
      · injection e0 with e1 e2 e3
        omega
      · injection e0 with e1 e2 e3
        exact ⟨g', e1⟩
    have hlt := ho.lt g rfl
    have hH : HoldsK edgeC 2 w g 0 es.toArray := by
      unfold HoldsK
      rw [flat_eq]
      intro j hj
      have hj' : j < (es.map edgeC).flatten.length := by simpa using hj
      rcases ho.1.2 with ⟨e0, h0⟩ | ⟨g', cap', cur, e0, _, hg, hn, _, hs, ht⟩
      · cases e0
      · injection e0 with e1 e2 e3
        injection e1 with e1
        injection e1 with e1
        subst e1
        have hu := ho.1.cells rfl j _ (List.getElem?_eq_getElem hj')
        have hadd : (⟨g, 0, none⟩ : Addr).add j = ⟨g, 0 + j, none⟩ := addr_at g j
        rw [hadd] at hu
        refine ⟨?_, by simp [World.frozen?, hg]⟩
        rw [hu, getElem!_pos ((es.map edgeC).flatten.toArray) j hj]
        simp
    have hcon := AnyQ.slices_SortFunc layEdgeSort 2 Tryd.isAgg102 Tryd.sizeOf102 edgeC (fun _ => rfl) (fun x v hv => by simp [edgeC] at hv; rcases hv with rfl | rfl <;> rfl) cmpE swoE 55 #[] g 0 cap es.toArray w eg (fun _ _ _ _ x y => closureE x y _) hH hlt.2 (by simpa using hN)
    change Calls Tryd.prog 54 _ _ _ at hcon
    simp only [List.size_toArray] at hcon
    refine hcon.mono ?_
    rintro e w' ⟨rfl, d', n, os, hp, hs, rfl⟩
    have hsz : d'.size = es.length := by simpa using hp.1
    have hex : ∀ (d : Array (Int × Int)) (k : Nat), d.size = k → (d.extract 0 k).toList = d.toList := fun d k hk => by subst hk; simp
    have hperm : d'.toList.Perm es := by
      have h3 := hp.2.2
      rw [hex d' _ hsz, hex es.toArray _ (by simp)] at h3
      simpa using h3
    refine ⟨rfl, d'.toList, hperm, ?_, ?_, ?_⟩
    · rw [List.pairwise_iff_getElem]
      intro i j hi hj hij
      have h4 := hs i j (Nat.zero_le _) hij (by simp at hj; omega)
      rw [ltE] at h4
      simp at hi hj
      rw [getElem!_pos d' i hi, getElem!_pos d' j hj] at h4
      simpa using h4
    · unfold OwnE sortWorldK putRowK
      rw [show d' = d'.toList.toArray by simp, flat_eq]
      have h5 := own_put (q := n) ho (css' := d'.toList.map edgeC) (by simp [hsz]) (fun c hc => by obtain ⟨x, _, rfl⟩ := List.mem_map.1 hc; rfl) os
      simpa using h5
    · unfold sortWorldK putRowK
      have h6 := Lib.below_putRow (enc := (id : Value → Value)) (q := n) (g := g) (d := flatK edgeC 2 d') (Below.refl base w) hlt.1
      exact h6.trans (below_grow base _ (by simp [putRow, mapBlock, Sort.ahead]; omega) 0 os)
end Go.Proofs.YtdnbholiijgedaaDoor
