/-
  The order of a list's edges: slices.SortFunc by the shelf's contract, its comparison by a walk. No condition.
-/
import Derived.Test.YtdnbholiijgedaaCore
import Derived.Test.YtdnbholiijgedaaProg
import Derived.Shelf.SlSortCmp.WholeK
import Derived.Lib.Hide
import Derived.Lib.OwnBridge
import Derived.Lib.AppendIntMem
import Derived.Shelf.SlSortCmp.NoneTotal
namespace Go.Proofs.Ytdnbholiijgedaa
open Go.RowKit Go.Shelf Go.Lib Go.Sort
set_option linter.unusedVariables false

def layEdgeSortNums : Go.Shelf.Ren := ⟨fun | 6 => 78 | 15 => 83 | 14 => 82 | 28 => 93 | 29 => 94 | 20 => 85 | 21 => 86 | 22 => 87 | 23 => 88 | 24 => 89 | 25 => 90 | 26 => 91 | 27 => 92 | 46 => 95 | 47 => 96 | 48 => 97 | 49 => 98 | 50 => 99 | 57 => 100 | n => n, fun | 22 => 106 | 24 => 113 | 25 => 116 | 3 => 3 | 39 => 92 | 0 => 0 | 53 => 98 | 55 => 101 | 4 => 4 | 46 => 123 | 45 => 122 | 50 => 127 | 5 => 5 | 9 => 9 | 66 => 131 | 70 => 135 | 76 => 137 | 77 => 71 | n => n, fun n => n⟩
theorem layEdgeSort : Go.Proofs.SlLaysF0.n6 Try.prog layEdgeSortNums := {
  mixed := by kernel_rfl
  f6 := ⟨Try.f78.name, by decide, Try.func78.trans (congrArg some (by kernel_rfl))⟩
  f14 := ⟨Try.f82.name, by decide, Try.func82.trans (congrArg some (by kernel_rfl))⟩
  f15 := Try.func83.trans (congrArg some (by kernel_rfl))
  f20 := ⟨Try.f85.name, by decide, Try.func85.trans (congrArg some (by kernel_rfl))⟩
  f21 := ⟨Try.f86.name, by decide, Try.func86.trans (congrArg some (by kernel_rfl))⟩
  f22 := ⟨Try.f87.name, by decide, Try.func87.trans (congrArg some (by kernel_rfl))⟩
  f23 := ⟨Try.f88.name, by decide, Try.func88.trans (congrArg some (by kernel_rfl))⟩
  f24 := ⟨Try.f89.name, by decide, Try.func89.trans (congrArg some (by kernel_rfl))⟩
  f25 := ⟨Try.f90.name, by decide, Try.func90.trans (congrArg some (by kernel_rfl))⟩
  f26 := ⟨Try.f91.name, by decide, Try.func91.trans (congrArg some (by kernel_rfl))⟩
  f27 := ⟨Try.f92.name, by decide, Try.func92.trans (congrArg some (by kernel_rfl))⟩
  f28 := Try.func93.trans (congrArg some (by kernel_rfl))
  f29 := Try.func94.trans (congrArg some (by kernel_rfl))
  f46 := ⟨Try.f95.name, by decide, Try.func95.trans (congrArg some (by kernel_rfl))⟩
  f47 := Try.func96.trans (congrArg some (by kernel_rfl))
  f48 := Try.func97.trans (congrArg some (by kernel_rfl))
  f49 := ⟨Try.f98.name, by decide, Try.func98.trans (congrArg some (by kernel_rfl))⟩
  f50 := ⟨Try.f99.name, by decide, Try.func99.trans (congrArg some (by kernel_rfl))⟩
  f57 := ⟨Try.f100.name, by decide, Try.func100.trans (congrArg some (by kernel_rfl))⟩
  t0 := Try.underlying0
  a0 := Try.isAgg0
  z0 := Try.sizeOf0
  v0 := Try.zeroValue0
  t3 := Try.underlying3
  a3 := Try.isAgg3
  z3 := Try.sizeOf3
  v3 := Try.zeroValue3
  t4 := Try.underlying4
  a4 := Try.isAgg4
  z4 := Try.sizeOf4
  v4 := Try.zeroValue4
  t5 := Try.underlying5
  a5 := Try.isAgg5
  z5 := Try.sizeOf5
  v5 := Try.zeroValue5
  t9 := Try.underlying9
  a9 := Try.isAgg9
  z9 := Try.sizeOf9
  v9 := Try.zeroValue9
  t22 := Try.underlying106
  a22 := Try.isAgg106
  z22 := Try.sizeOf106
  v22 := Try.zeroValue106
  t25 := Try.underlying116
  a25 := Try.isAgg116
  z25 := Try.sizeOf116
  v25 := Try.zeroValue116
  t39 := Try.underlying92
  a39 := Try.isAgg92
  z39 := Try.sizeOf92
  v39 := Try.zeroValue92
  t45 := Try.underlying122
  a45 := Try.isAgg122
  z45 := Try.sizeOf122
  v45 := Try.zeroValue122
  t46 := Try.underlying123
  a46 := Try.isAgg123
  z46 := Try.sizeOf123
  v46 := Try.zeroValue123
  t50 := Try.underlying127
  a50 := Try.isAgg127
  z50 := Try.sizeOf127
  v50 := Try.zeroValue127
  t53 := Try.underlying98
  a53 := Try.isAgg98
  z53 := Try.sizeOf98
  v53 := Try.zeroValue98
  t55 := Try.underlying101
  a55 := Try.isAgg101
  z55 := Try.sizeOf101
  v55 := Try.zeroValue101
  t66 := Try.underlying131
  a66 := Try.isAgg131
  z66 := Try.sizeOf131
  v66 := Try.zeroValue131
  t70 := Try.underlying135
  a70 := Try.isAgg135
  z70 := Try.sizeOf135
  v70 := Try.zeroValue135
  t76 := Try.underlying137
  a76 := Try.isAgg137
  z76 := Try.sizeOf137
  v76 := Try.zeroValue137
  t77 := Try.underlying71
  a77 := Try.isAgg71
  z77 := Try.sizeOf71
  v77 := Try.zeroValue71 }


/-- An edge: where; how many more. -/
def edgeC (x : Int × Int) : List Value := [.int .i32 x.1, .int .i64 x.2]
def cmpE (x y : Int × Int) : Int := if x.1 < y.1 then -1 else if x.1 = y.1 then 0 else 1
theorem ltE (x y : Int × Int) : ltOf cmpE x y = decide (x.1 < y.1) := by
  unfold ltOf cmpE
  by_cases h1 : x.1 < y.1
  · simp [h1]
  · by_cases h2 : x.1 = y.1 <;> simp [h1, h2]
theorem swoE : SWO (ltOf cmpE) where
  irrefl x := by rw [ltE]; simp
  trans x y z h1 h2 := by rw [ltE] at *; simp at *; omega
  ntrans x y z h1 h2 := by rw [ltE] at *; simp at *; omega
set_option maxHeartbeats 400000 in
theorem isNaN_any (a : Int) (W : World) : Calls Try.prog 84 #[.int .i32 a] W fun e w' => e = .returned (.bool false) ∧ W = w' := by
  have h : (a != a) = false := by simp
  go_enter Try.func84, Try.ntmps84
  go_wp2
  go_ret
  exact ⟨by simp, rfl⟩
set_option maxHeartbeats 400000 in
theorem compare_any (a b : Int) (W : World) : Calls Try.prog 80 #[.int .i32 a, .int .i32 b] W fun e w' => e = .returned (.int .i64 (cmpE (a, 0) (b, 0))) ∧ W = w' := by
  have hn := fun x W => isNaN_any x W
  by_cases h1 : a < b
  · have hr : cmpE (a, 0) (b, 0) = -1 := by simp [cmpE, h1]
    rw [hr]
    clear hr
    go_enter Try.func80, Try.ntmps80
    go_wp2_with (go_at_call 84; refine (hn _ _).mono ?_; rintro e w2 ⟨rfl, rfl⟩)
    go_ret
    exact ⟨rfl, rfl⟩
  · by_cases h2 : b < a
    · have hr : cmpE (a, 0) (b, 0) = 1 := by simp [cmpE, h1]; omega
      rw [hr]
      clear hr
      go_enter Try.func80, Try.ntmps80
      go_wp2_with (go_at_call 84; refine (hn _ _).mono ?_; rintro e w2 ⟨rfl, rfl⟩)
      go_ret
      exact ⟨rfl, rfl⟩
    · have hr : cmpE (a, 0) (b, 0) = 0 := by simp [cmpE, h1]; omega
      rw [hr]
      clear hr
      go_enter Try.func80, Try.ntmps80
      go_wp2_with (go_at_call 84; refine (hn _ _).mono ?_; rintro e w2 ⟨rfl, rfl⟩)
      go_ret
      exact ⟨rfl, rfl⟩
set_option maxHeartbeats 1000000 in
theorem closureE (x y : Int × Int) (W : World) : Calls Try.prog 79 #[.agg #[.int .i32 x.1, .int .i64 x.2], .agg #[.int .i32 y.1, .int .i64 y.2]] W fun e w' => e = .returned (.int .i64 (cmpE x y)) ∧ ∃ q os', w' = grow (W.drewN q) os' := by
  have hcon := fun W' => compare_any x.1 y.1 W'
  have hr : cmpE (x.1, 0) (y.1, 0) = cmpE x y := rfl
  rw [hr] at hcon
  generalize cmpE x y = r at hcon ⊢
  go_enter Try.func79, Try.ntmps79
  go_wp2_with (go_at_call 80; refine (hcon _).mono ?_; rintro e w' ⟨rfl, rfl⟩)
  go_ret
  exact ⟨rfl, 0, _, by rw [alloc_eq_grow, alloc_eq_grow, grow_grow]; rfl⟩
/-- A list of edges of one's own. -/
def OwnE (w : World) (base : Nat) (v : Value) (es : List (Int × Int)) : Prop := Owns w base 113 2 v (es.map edgeC)
def SortPost (base : Nat) (v : Value) (es : List (Int × Int)) (w : World) (e : Ending) (w' : World) : Prop := e = .returned (.tuple #[]) ∧ ∃ es' : List (Int × Int), es'.Perm es ∧ es'.Pairwise (fun x y => x.1 ≤ y.1) ∧ OwnE w' base v es' ∧ Below base w w'
theorem flat_eq (es : List (Int × Int)) : flatK edgeC 2 es.toArray = ((es.map edgeC).flatten).toArray := by
  have hl : ((es.map edgeC).flatten).length = es.length * 2 := by
    induction es with
    | nil => rfl
    | cons x es ih => rw [List.map_cons, List.flatten_cons, List.length_append, ih]; simp [edgeC]; omega
  apply ext_get!
  · simp [hl]
  · intro t ht
    rw [size_flatK] at ht
    have ht' : t < es.length * 2 := by simpa using ht
    rw [get_flatK _ _ _ _ ht]
    have hq : t / 2 < es.length := by omega
    have h1 : (es.map edgeC)[t / 2]? = some (edgeC es[t / 2]) := by rw [List.getElem?_map, List.getElem?_eq_getElem hq]; rfl
    have h2 : (edgeC es[t / 2])[t % 2]? = some ((edgeC es[t / 2])[t % 2]!) := by
      have hlt : t % 2 < (edgeC es[t / 2]).length := by simp [edgeC]; omega
      rw [List.getElem?_eq_getElem hlt, getElem!_pos (edgeC es[t / 2]) (t % 2) hlt]
    have h3 := flatten_at (sz := 2) (fun c hc => by obtain ⟨x, _, rfl⟩ := List.mem_map.1 hc; rfl) h1 h2
    rw [show t / 2 * 2 + t % 2 = t by omega] at h3
    rw [getElem!_pos es.toArray (t / 2) (by simpa using hq)]
    have h4 : ((es.map edgeC).flatten.toArray)[t]! = (edgeC es[t / 2])[t % 2]! := by
      have hlt : t < ((es.map edgeC).flatten).length := by omega
      rw [getElem!_pos ((es.map edgeC).flatten.toArray) t (by simpa using hlt)]
      rw [List.getElem?_eq_getElem hlt] at h3
      simpa using h3
    rw [h4]
    simp
/-- A row of one's own that is written anew, draws and new blocks behind it. -/
theorem own_put {w : World} {base : Nat} {e : TypeId} {sz g n cap q : Nat} {css css' : List (List Value)} (h : Owns w base e sz (.slice (some ⟨g, 0, none⟩) n cap) css) (hl : css'.length = css.length) (hc : ∀ c ∈ css', c.length = sz) (os : Array Obj) :
    Owns (grow (putRow id (Sort.ahead w q) g 0 css'.flatten.toArray) os) base e sz (.slice (some ⟨g, 0, none⟩) n cap) css' := by
  have hlen : ∀ {l : List (List Value)}, (∀ c ∈ l, c.length = sz) → l.flatten.length = l.length * sz := by
    intro l hl
    induction l with
    | nil => simp
    | cons x l ih => rw [List.flatten_cons, List.length_append, ih (fun c hc => hl c (by simp [hc])), hl x (by simp), List.length_cons, Nat.add_mul]; omega
  have h1 := hlen hc
  refine ⟨⟨h1, ?_⟩, hc⟩
  rcases h.1.2 with ⟨e0, _⟩ | ⟨g', cap', cur, e0, hb, hg, hn, hm, hs, ht⟩
  · cases e0
  · injection e0 with e1 e2 e3
    injection e1 with e1
    injection e1 with e1
    subst e1; subst e2; subst e3
    refine .inr ⟨g, cap, putCells id 0 css'.flatten.toArray cur, by rw [hl], hb, ?_, by omega, hm, by simpa [putCells] using hs, ?_⟩
    · have hlt := heap_lt hg
      show ((putRow id (Sort.ahead w q) g 0 css'.flatten.toArray).heap ++ os)[g]? = _
      rw [Array.getElem?_append_left (by simpa [putRow, mapBlock, Sort.ahead] using hlt)]
      simp [putRow, mapBlock, Sort.ahead, Array.getElem?_modify, hg, onCells]
    · apply List.ext_getElem?
      intro j
      rw [List.getElem?_take]
      by_cases hj : j < css'.length * sz
      · have hjc : j < cur.size := by
          have : css'.length * sz ≤ cap * sz := Nat.mul_le_mul_right _ (by omega)
          omega
        rw [if_pos hj, Array.getElem?_toList]
        simp only [putCells, Array.getElem?_mapIdx, Array.getElem?_eq_getElem hjc, Option.map_some]
        rw [if_pos (by simp only [List.size_toArray]; omega), List.getElem?_eq_getElem (by omega)]
        simp [getElem!_pos, h1, hj]
      · rw [if_neg hj, List.getElem?_eq_none (by omega)]
theorem addr_at (g j : Nat) : (⟨g, 0, none⟩ : Addr).add j = ⟨g, 0 + j, none⟩ := by unfold Addr.add; split <;> simp_all
theorem sort_own (w : World) (base : Nat) (v : Value) (es : List (Int × Int)) (ho : OwnE w base v es) (hN : es.length < 4611686018427387904) : Calls Try.prog 78 #[v, .func (.func 79) #[] #[]] w (SortPost base v es w) := by
  have eg : ∀ args w, (callFunc 79 args).run Try.prog w = .ok (.enter 79 args) w := enters_of Try.func79 (by kernel_rfl) rfl
  obtain ⟨A, cap, rfl, h1, h2⟩ := Owns.shape ho
  rw [List.length_map] at ho h1 ⊢
  by_cases hz : es = []
  · subst hz
    refine (AnyF.slices_SortFunc_none layEdgeSort A cap (.func (.func 79) #[] #[]) w).mono ?_
    rintro e w' ⟨rfl, rfl⟩
    exact ⟨rfl, [], List.Perm.refl _, List.Pairwise.nil, ho, Below.refl _ _⟩
  · have hpos : 0 < es.length := List.length_pos_iff.2 hz
    obtain ⟨g, rfl⟩ : ∃ g, A = some ⟨g, 0, none⟩ := by
      rcases ho.1.2 with ⟨e0, h0⟩ | ⟨g', cap', cur, e0, _⟩
      · injection e0 with e1 e2 e3
        omega
      · injection e0 with e1 e2 e3
        exact ⟨g', e1⟩
    have hlt := ho.lt g rfl
    have hH : HoldsK edgeC 2 w g 0 es.toArray := by
      unfold HoldsK
      rw [flat_eq]
      intro j hj
      have hj' : j < (es.map edgeC).flatten.length := by simpa using hj
      rcases ho.1.2 with ⟨e0, h0⟩ | ⟨g', cap', cur, e0, _, hg, hn, _, hs, ht⟩
      · cases e0
      · injection e0 with e1 e2 e3
        injection e1 with e1
        injection e1 with e1
        subst e1
        have hu := ho.1.cells rfl j _ (List.getElem?_eq_getElem hj')
        have hadd : (⟨g, 0, none⟩ : Addr).add j = ⟨g, 0 + j, none⟩ := addr_at g j
        rw [hadd] at hu
        refine ⟨?_, by simp [World.frozen?, hg]⟩
        rw [hu, getElem!_pos ((es.map edgeC).flatten.toArray) j hj]
        simp
    have hcon := AnyQ.slices_SortFunc layEdgeSort 2 Try.isAgg113 Try.sizeOf113 edgeC (fun _ => rfl) (fun x v hv => by simp [edgeC] at hv; rcases hv with rfl | rfl <;> rfl) cmpE swoE 79 #[] g 0 cap es.toArray w eg (fun _ _ _ _ x y => closureE x y _) hH hlt.2 (by simpa using hN)
    change Calls Try.prog 78 _ _ _ at hcon
    simp only [List.size_toArray] at hcon
    refine hcon.mono ?_
    rintro e w' ⟨rfl, d', n, os, hp, hs, rfl⟩
    have hsz : d'.size = es.length := by simpa using hp.1
    have hex : ∀ (d : Array (Int × Int)) (k : Nat), d.size = k → (d.extract 0 k).toList = d.toList := fun d k hk => by subst hk; simp
    have hperm : d'.toList.Perm es := by
      have h3 := hp.2.2
      rw [hex d' _ hsz, hex es.toArray _ (by simp)] at h3
      simpa using h3
    refine ⟨rfl, d'.toList, hperm, ?_, ?_, ?_⟩
    · rw [List.pairwise_iff_getElem]
      intro i j hi hj hij
      have h4 := hs i j (Nat.zero_le _) hij (by simp at hj; omega)
      rw [ltE] at h4
      simp at hi hj
      rw [getElem!_pos d' i hi, getElem!_pos d' j hj] at h4
      simpa using h4
    · unfold OwnE sortWorldK putRowK
      rw [show d' = d'.toList.toArray by simp, flat_eq]
      have h5 := own_put (q := n) ho (css' := d'.toList.map edgeC) (by simp [hsz]) (fun c hc => by obtain ⟨x, _, rfl⟩ := List.mem_map.1 hc; rfl) os
      simpa using h5
    · unfold sortWorldK putRowK
      have h6 := Lib.below_putRow (enc := (id : Value → Value)) (q := n) (g := g) (d := flatK edgeC 2 d') (Below.refl base w) hlt.1
      exact h6.trans (below_grow base _ (by simp [putRow, mapBlock, Sort.ahead]; omega) 0 os)
end Go.Proofs.Ytdnbholiijgedaa
