/-
  martelloref02.Norm: a set of the same runes. No condition but a bound on the list.
  What the document's Not has at its rounds. Plain laws.
  martelloref02.Not, Union, Meet: what they tell of the runes. No condition but bounds on the lists.
  martelloref15.apart: do the instructions read runes of their own? No condition but that the program is right.
  Words of this seat's own: a list of ints of one's own whose head is taken off: slices of it, and appends to it. No condition.
-/
import Derived.Test.YthclpabmbhpohaaDoorOneMatG3
import Derived.Deep.LoopGhost
import Derived.ArgAppend
import Derived.Deep.MidRow
namespace Go.Proofs.YthclpabmbhpohaaDoor
open Go.RowKit
set_option linter.unusedVariables false
def ArrR (w : World) (A : Option Addr) (l : List Rg) : Prop := Arr (fun _ => True) w 2 RgC A l
theorem arrR_of {ok : Nat → Prop} {w w' : World} {A : Option Addr} {l : List Rg} (h : Arr ok w 2 RgC A l) (hm : Below w.heap.size w w') : ArrR w' A l := h.move (fun b _ hb => ⟨hm.block b hb, trivial⟩) (by omega)
theorem ArrR.take {w : World} {A : Option Addr} {l : List Rg} (h : ArrR w A l) (n : Nat) : ArrR w A (l.take n) := fun i x hx => h i x (by
  rw [List.getElem?_take] at hx; split at hx
  · exact hx
  · cases hx)
theorem ArrR.drop {w : World} {ad : Addr} {l : List Rg} (h : ArrR w (some ad) l) (n : Nat) : ArrR w (some (ad.add (n * 2))) (l.drop n) := by
  intro i x hx
  rw [List.getElem?_drop] at hx
  obtain ⟨ad2, cs, e, _, hE, hl, hc⟩ := h (n + i) x hx
  cases e
  refine ⟨_, cs, rfl, trivial, hE, hl, fun j u hu => ?_⟩
  rw [add_add, ← hc j u hu]
  congr 2
  omega
theorem arrR_cells {w : World} {A : Option Addr} {l : List Rg} (h : ArrR w A l) {ad : Addr} (hA : A = some ad) : ∀ j u, ((l.map rgC).flatten)[j]? = some u → w.cell? (ad.add j) = some u := by
  intro j u hj
  have hlen : ∀ c ∈ l.map rgC, c.length = 2 := fun c hc => by obtain ⟨x, _, rfl⟩ := List.mem_map.1 hc; rfl
  obtain ⟨i, c, r, hi, hr, rfl⟩ := flatten_back hlen hj
  rw [List.getElem?_map] at hi
  cases hx : l[i]? with
  | none => rw [hx] at hi; cases hi
  | some x =>
    rw [hx] at hi
    cases hi
    obtain ⟨ad2, cs, e, _, hE, _, hc⟩ := h i x hx
    rw [hA] at e
    cases e
    rw [hE] at hc
    exact hc r u hr
/-- An append of ranges that lie in memory. -/
theorem wpList_appR {ops : Array Oper} {rest : List Oper} {o : Oper} {a : Act} {Q : Exit → Act → World → Prop} {w : World} (hgd : o.guard = none) (s x : Operand)
    (ho : o.op = .call { callee := .builtin .append, args := #[s, x], argTypes := #[61, 61] }) (base : Nat) (v : Value) (xs : List Rg) (hs : a.eval s = v) (hown : OwnR w base v xs)
    (X : Option Addr) (ys : List Rg) (cap : Nat) (hx : a.eval x = .slice X ys.length cap) (hcap : X = none → cap = 0) (hy : ArrR w X ys) (hmax : xs.length + ys.length ≤ 1000000000) (hbase : base ≤ w.heap.size)
    (h : ∀ v' w', OwnR w' base v' (xs ++ ys) → w.grownBy w' v.ownBlock → wpList Tryd.prog ops Q rest (a.put o.dst v') w') : wpList Tryd.prog ops Q (o :: rest) a w := by
  obtain ⟨i, hi, hz0, hz1, hz2⟩ := info_parts infoRg
  have hfl : ∀ l : List Rg, (l.map rgC).flatten.length = l.length * 2 := rg_flat
  have h1 : ∀ u ∈ (ys.map rgC).flatten, u.oneCell' = true := fun u hu => by
    obtain ⟨c, hc, hu⟩ := List.mem_flatten.1 hu
    obtain ⟨y, _, rfl⟩ := List.mem_map.1 hc
    simp [rgC] at hu
    rcases hu with rfl | rfl <;> rfl
  have hb1 : (xs.map rgC).length + ys.length ≤ maxLen := by rw [List.length_map]; unfold maxLen; omega
  have hb2 : ((xs.map rgC).length + ys.length) * 8 ≤ 140737488355328 := by rw [List.length_map]; omega
  cases X with
  | none =>
    have hn : ys = [] := by
      cases ys with
      | nil => rfl
      | cons y ys => obtain ⟨ad, _, e, _⟩ := hy 0 y rfl; cases e
    subst hn
    refine wpList_plain hgd fun K hK => ?_
    unfold Oper.wp execOp
    have hr := run_append_owned_none (P := Tryd.prog) (w := w) base 61 o.type 66 i 2 Tryd.underlying61 hi v _ _ hown.1
    rw [hcap rfl] at hx
    simp only [ho, resolve, invoke, builtin, Sem.run_bind, Sem.run_pure, Result.andThen_ok, List.map_toArray, List.map_cons, List.map_nil, hs, hx, List.length_nil, hr]
    exact hK _ _ (h _ _ (by rw [List.append_nil]; exact hown) ⟨rfl, rfl, rfl, Nat.le_refl _, fun _ _ _ => rfl⟩)
  | some ad =>
    refine wpList_append_own w hgd s x 61 ho base 66 i _ 2 8 Tryd.underlying61 hi hz0 hz1 hz2 rfl (by decide) v _ _ hs hown.1 ad ys.length cap (ys.map rgC).flatten hx (hfl ys) (arrR_cells hy rfl) h1 hb1 hb2 hbase (fun v' w' h2 h3 _ => h v' w' ⟨?_, ?_⟩ h3)
    · rw [List.map_append, List.length_append, List.flatten_append, List.length_map, List.length_map]
      rw [List.length_map] at h2
      exact h2
    · intro c hc
      obtain ⟨y, _, rfl⟩ := List.mem_map.1 hc
      rfl
theorem arrR_one {W : World} {g : Nat} {x y : Int} {fr : Nat × Nat} (h : W.heap[g]? = some (.cells #[.int .i32 x, .int .i32 y] 66 fr)) : ArrR W (some ⟨g, 0, none⟩) [⟨x, y⟩] := by
  intro i r hr
  have hi : i = 0 := by have := (List.getElem?_eq_some_iff.1 hr).1; simp at this; omega
  subst hi
  simp at hr
  subst hr
  refine ⟨_, [.int .i32 x, .int .i32 y], rfl, trivial, rfl, rfl, fun j u hu => ?_⟩
  have hadd : (⟨g, 0, none⟩ : Addr).add (0 * 2 + j) = ⟨g, j, none⟩ := by unfold Addr.add; split <;> simp_all
  rw [hadd, cell_of_blk h]
  simpa using hu
theorem below_al' {w w1 : World} (h : Below w.heap.size w w1) {o : Obj} : Below w.heap.size w (w1.alloc o) := h.alloc h.size o
/-- What Norm tells. -/
def NormOf (l r : List Rg) : Prop := SetOK r ∧ anyIn r l
def NormP (l : List Rg) (w : World) (e : Ending) (w' : World) : Prop := ∃ v r, e = .returned v ∧ NormOf l r ∧ OwnR w' w.heap.size v r ∧ Below w.heap.size w w'
set_option maxRecDepth 100000 in
set_option maxHeartbeats 4000000 in
theorem norm02_any (ok : Nat → Prop) (w : World) (A : Option Addr) (c : Nat) (l : List Rg) (h : Arr ok w 2 RgC A l) (hN : l.length ≤ 100000000) :
    Calls Tryd.prog 92 #[.slice A l.length c] w (NormP l w) := by
  have HA := Lib.hid h
  clear h
  go_enter Tryd.func92, Tryd.ntmps92
  go_wp2_with fail
  go_loopg [3, 4] (l.length + 1) (fun g s3 s4 wr => ∃ (i : Nat) (s : List Rg), s4 = .int .i64 i ∧ i ≤ l.length ∧ l.length + 1 - i ≤ g ∧ OwnR wr w.heap.size s3 s ∧ (∀ x ∈ s, RgOK x) ∧ LoR s ∧ s.length ≤ i ∧ Hid (anyIn s (l.take i)) ∧ Below w.heap.size w wr)
  case atStart => exact ⟨0, [], rfl, Nat.zero_le _, by omega, Owns.nil _ _ _ _, by simp, List.Pairwise.nil, Nat.le_refl _, Lib.hid (fun c _ _ => by simp), Below.refl _ _⟩
  case round =>
    obtain ⟨i, s, rfl, hi, hg, hown, hok, hlo, hsl, HAn, hB⟩ := hrel
    obtain ⟨G, hGk⟩ : ∃ G, G = gk := ⟨_, rfl⟩
    rw [← hGk] at hg
    obtain ⟨A3, c3, rfl, _, _⟩ := Owns.shape hown
    rw [List.length_map] at hown ⊢
    by_cases hlt : i < l.length
    · obtain ⟨ad, rfl, k0, k1⟩ := rg_at2 HA.out wr hB i hlt
      have hmem := List.take_succ_eq_append_getElem hlt
      generalize l[i] = r at *
      have HK := Lib.hid (And.intro hown (And.intro hok (And.intro hlo (And.intro hB (And.intro hmem hg)))))
      clear hown hok hlo hB hmem hg
      go_wp2_with fail
      obtain ⟨wo, rfl⟩ : ∃ wo : World, wo = wr := ⟨_, rfl⟩
      have hS0 : ∀ p : Addr, p.block < wo.heap.size → ∀ W', Below wo.heap.size wo W' → W'.cell? p = wo.cell? p := fun p hp W' hW => hW.cell hp
      have hn0 := World.block_lt_of_cell? wo _ k0
      have hS1 : ∀ W', Below wo.heap.size wo W' → W'.cell? ⟨(ad.add (i * 2)).block, (ad.add (i * 2)).off + 1, none⟩ = some (.int .i32 r.hi) := fun W' hW => (hW.cell (p := ⟨(ad.add (i * 2)).block, (ad.add (i * 2)).off + 1, none⟩) hn0).trans k1
      refine wp_region_scr (fun W' => Below wo.heap.size wo W') [(true, 0, 17), (true, 1, 18), (true, 2, 19), (true, 3, 20), (true, 4, 21), (true, 5, 22), (true, 6, 23), (true, 7, 24), (true, 8, 25), (true, 9, 26), (true, 10, 27), (true, 11, 28), (true, 12, 29), (false, 13, 5), (false, 14, 0)] (by kernel_rfl) (by kernel_rfl) (fun _ _ _ _ _ h => h) rfl (by kernel_rfl) ?_
      have HV := Lib.hid (show Below wo.heap.size wo wo.drew from (Below.refl _ _).drew)
      refine Scr.take (v := .slice (some ad) l.length c) rfl rfl (yw_pure (by rfl) (fun _ => by go_simp)) HV.out ?_
      simp only [Act.put, List.setIfInBounds_toArray, List.set_cons_zero, List.set_cons_succ]
      refine Scr.take (v := .int .i64 i) rfl rfl (yw_pure (by rfl) (fun _ => by go_simp)) HV.out ?_
      simp only [Act.put, List.setIfInBounds_toArray, List.set_cons_zero, List.set_cons_succ]
      refine Scr.take (v := .pointer (some (ad.add (i * 2)))) rfl rfl (yw_pure (by rfl) (fun _ => by go_simp)) HV.out ?_
      simp only [Act.put, List.setIfInBounds_toArray, List.set_cons_zero, List.set_cons_succ]
      refine Scr.take (v := .pointer (some (ad.add (i * 2)))) rfl rfl (yw_pure (by rfl) (fun _ => by go_simp)) HV.out ?_
      simp only [Act.put, List.setIfInBounds_toArray, List.set_cons_zero, List.set_cons_succ]
      refine Scr.take (v := .int .i32 r.lo) rfl rfl (yw_cell 21 _ rfl (ad.add (i * 2)) (.int .i32 r.lo) rfl (by rfl) _ Tryd.underlying21 rfl (fun W hS => (hS0 _ hn0 W hS).trans k0)) HV.out ?_
      simp only [Act.put, List.setIfInBounds_toArray, List.set_cons_zero, List.set_cons_succ]
      refine Scr.take (v := .int .i32 (max r.lo 0)) rfl rfl (yw_pure (by rfl) (fun _ => by go_simp)) HV.out ?_
      simp only [Act.put, List.setIfInBounds_toArray, List.set_cons_zero, List.set_cons_succ]
      refine Scr.take (v := .slice (some ad) l.length c) rfl rfl (yw_pure (by rfl) (fun _ => by go_simp)) HV.out ?_
      simp only [Act.put, List.setIfInBounds_toArray, List.set_cons_zero, List.set_cons_succ]
      refine Scr.take (v := .int .i64 i) rfl rfl (yw_pure (by rfl) (fun _ => by go_simp)) HV.out ?_
      simp only [Act.put, List.setIfInBounds_toArray, List.set_cons_zero, List.set_cons_succ]
      refine Scr.take (v := .pointer (some (ad.add (i * 2)))) rfl rfl (yw_pure (by rfl) (fun _ => by go_simp)) HV.out ?_
      simp only [Act.put, List.setIfInBounds_toArray, List.set_cons_zero, List.set_cons_succ]
      refine Scr.take (v := .pointer (some ⟨(ad.add (i * 2)).block, (ad.add (i * 2)).off + 1, none⟩)) rfl rfl (yw_pure (by rfl) (fun _ => by go_simp)) HV.out ?_
      simp only [Act.put, List.setIfInBounds_toArray, List.set_cons_zero, List.set_cons_succ]
      refine Scr.take (v := .int .i32 r.hi) rfl rfl (yw_cell 21 _ rfl (⟨(ad.add (i * 2)).block, (ad.add (i * 2)).off + 1, none⟩) (.int .i32 r.hi) rfl (by rfl) _ Tryd.underlying21 rfl (fun W hS => hS1 W hS)) HV.out ?_
      simp only [Act.put, List.setIfInBounds_toArray, List.set_cons_zero, List.set_cons_succ]
      refine Scr.take (v := .int .i32 (min r.hi 1114111)) rfl rfl (yw_pure (by rfl) (fun _ => by go_simp)) HV.out ?_
      simp only [Act.put, List.setIfInBounds_toArray, List.set_cons_zero, List.set_cons_succ]
      refine Scr.take (v := .agg #[.int .i32 (max r.lo 0), .int .i32 (min r.hi 1114111)]) rfl rfl (yw_pure (by rfl) (fun _ => by go_simp)) HV.out ?_
      simp only [Act.put, List.setIfInBounds_toArray, List.set_cons_zero, List.set_cons_succ]
      generalize hmx : max r.lo 0 = mx at *
      generalize hmn : min r.hi 1114111 = mn at *
      have HMX := Lib.hid (And.intro hmx hmn)
      clear hmx hmn
      refine Scr.run rfl (by rfl) (fun K hK => ?_)
      go_simp
      refine hK _ _ (show Below wo.heap.size wo _ from (below_al (Below.refl _ _).drew _)) ?_
      clear hK K
      refine Scr.run rfl (by rfl) (fun K hK => ?_)
      go_simp
      have hB1 : Below wo.heap.size wo (wo.alloc (.cells #[.int .i32 mx, .int .i32 mn] 66)).drew := (below_al (Below.refl _ _) _).drew
      refine hK _ _ hB1 ?_
      clear hK K HV k0 k1 hS0 hS1 hn0
      simp only [Scr]
      have hx0 : (wo.alloc (.cells #[.int .i32 mx, .int .i32 mn] 66)).drew.heap[wo.heap.size]? = some (.cells #[.int .i32 mx, .int .i32 mn] 66 (0, 0)) := heap_new1 wo _
      have hoX : OwnR (wo.alloc (.cells #[.int .i32 mx, .int .i32 mn] 66)).drew w.heap.size (.slice A3 s.length c3) s := HK.out.1.below hB1
      have hBX : Below w.heap.size w (wo.alloc (.cells #[.int .i32 mx, .int .i32 mn] 66)).drew := HK.out.2.2.2.1.trans (hB1.mono HK.out.2.2.2.1.size)
      have hxb : w.heap.size ≤ wo.heap.size := HK.out.2.2.2.1.size
      obtain ⟨xb, hxbe⟩ : ∃ xb, wo.heap.size = xb := ⟨_, rfl⟩
      generalize (wo.alloc (.cells #[.int .i32 mx, .int .i32 mn] 66)).drew = X at *
      have hxown : (Value.slice A3 s.length c3).ownBlock ≠ some xb := fun e => by have := (HK.out.1.lt xb e).2; omega
      rw [hxbe] at hx0 hxb ⊢
      have HX := Lib.hid (And.intro hx0 (And.intro hoX (And.intro hBX (And.intro hxown hxbe))))
      obtain ⟨y0, y1⟩ : X.cell? ⟨xb, 0, none⟩ = some (.int .i32 mx) ∧ X.cell? ⟨xb, 1, none⟩ = some (.int .i32 mn) := ⟨by rw [cell_of_blk hx0]; rfl, by rw [cell_of_blk hx0]; rfl⟩
      have nx := heap_lt hx0
      clear hx0 hoX hBX hB1 hxown hxbe
      by_cases hgt : mn < mx
      · have hd : decide (mn < mx) = true := by simp [hgt]
        go_wp2_with fail
        go_roundg (G - 1)
        case measure => have := HK.out.2.2.2.2.2; omega
        case rel =>
          refine ⟨i + 1, s, by go_num, by omega, by have := HK.out.2.2.2.2.2; omega, HX.out.2.1, HK.out.2.1, HK.out.2.2.1, by omega, Lib.hid (fun c h0 h1 => ?_), HX.out.2.2.1⟩
          rw [HAn.out c h0 h1, HK.out.2.2.2.2.1, List.any_append]
          have : inR c r = false := by
            have := HMX.out
            simp only [inR, Bool.and_eq_false_iff, decide_eq_false_iff_not]
            omega
          simp [this]
      · have hd : decide (mn < mx) = false := by simp [hgt]
        go_wp2_with fail
        have hX0 : ∀ q, (X.drewN q).heap[xb]? = X.heap[xb]? := fun q => rfl
        go_loopg [6] s.length (fun g2 s6 wy => ∃ (a q : Nat), s6 = .int .i64 a ∧ a ≤ s.length ∧ a ≤ g2 ∧ Hid (∀ j (hj : j < s.length), a ≤ j → mx < s[j].lo) ∧ wy = X.drewN q)
        case atStart => exact ⟨s.length, 0, rfl, Nat.le_refl _, Nat.le_refl _, Lib.hid (fun j hj h => by omega), rfl⟩
        case round =>
          obtain ⟨a, q, rfl, ha, hag, HG, rfl⟩ := hrel
          have y0q : (X.drewN q).cell? ⟨xb, 0, none⟩ = some (.int .i32 mx) := y0
          by_cases ha0 : a = 0
          · have hd0 : decide ((0 : Int) < (a : Int)) = false := by simp; omega
            have hd1 : decide (0 < a) = false := by simp; omega
            have hsp : (∀ x ∈ s.take a, x.lo ≤ mx) ∧ (∀ x ∈ s.drop a, mx ≤ x.lo) := ⟨by rw [ha0]; simp, fun x hx => by
              obtain ⟨j, hj, rfl⟩ := List.getElem_of_mem hx
              rw [List.getElem_drop]
              have := HG.out (a + j) (by rw [List.length_drop] at hj; omega) (by omega)
              omega⟩
            have HINS : Hid ((∀ x ∈ s.take a ++ [(⟨mx, mn⟩ : Rg)] ++ s.drop a, RgOK x) ∧ LoR (s.take a ++ [(⟨mx, mn⟩ : Rg)] ++ s.drop a) ∧ Hid (anyIn (s.take a ++ [(⟨mx, mn⟩ : Rg)] ++ s.drop a) (l.take (i + 1)))) := Lib.hid ⟨ins_ok a HK.out.2.1 (by have := HMX.out; exact ⟨by show 0 ≤ mx; omega, by show mx ≤ mn; omega, by show mn ≤ 1114111; omega⟩), ins_lo a HK.out.2.2.1 hsp, Lib.hid (fun c h0 h1 => by
              rw [ins_any, HAn.out c h0 h1, HK.out.2.2.2.2.1, List.any_append]
              congr 1
              simp only [List.any_cons, List.any_nil, Bool.or_false]
              rw [Bool.eq_iff_iff]
              have := HMX.out
              simp only [inR, Bool.and_eq_true, decide_eq_true_eq]
              omega)⟩
            have HA0 := Lib.hid ha0
            clear ha0
            go_wp2_with fail
            go_quiet (fail)
            try rw [World.drewN_drewN]
            obtain ⟨qq, hqq⟩ : ∃ qq, q + nq = qq := ⟨_, rfl⟩
            rw [hqq]
            clear hqq
            have hwq : ∃ Y, X.drewN qq = Y := ⟨_, rfl⟩
            obtain ⟨Y, hY⟩ := hwq
            have hBY : Below X.heap.size X Y := by rw [← hY]; exact below_drewN (Below.refl _ _) _
            have hYs : Y.heap.size = X.heap.size := by rw [← hY]; rfl
            rw [hY]
            have hoY : OwnR Y w.heap.size (.slice A3 s.length c3) s := HX.out.2.1.below hBY
            have harY : ∀ W', Below Y.heap.size Y W' → ArrR W' A3 s := fun W' hW => by
              obtain ⟨A9, c9, e9, _, _, h9⟩ := ownR_arr hoY
              cases e9
              exact arrR_of h9 hW
            have hcn : A3 = none → c3 = 0 ∧ s.length = 0 := fun e => by
              rcases hoY.1.2 with ⟨h9, h8⟩ | ⟨g9, c9, cur9, h9, _⟩
              · simp only [Value.slice.injEq] at h9; exact ⟨h9.2.2, h9.2.1⟩
              · rw [e] at h9; cases h9
            have hc3 : s.length ≤ c3 := by
              obtain ⟨A9, c9, e9, h8, _, _⟩ := ownR_arr hoY
              cases e9; exact h8
            have ho0 : OwnR (Y.alloc (.cells #[] 66)) Y.heap.size (.slice (some ⟨Y.heap.size, 0, none⟩) 0 0) [] := ⟨World.ownsRow_made Y #[] 0 (Nat.le_refl _) (by decide) rfl, by simp⟩
            have hxY := (hBY.block _ nx).trans HX.out.1
            have hBYw : Below w.heap.size w Y := HX.out.2.2.1.trans (hBY.mono HX.out.2.2.1.size)
            have hsN : s.length ≤ 100000000 := by omega
            have hta : (s.take a).length = a := by rw [List.length_take]; omega
            have htd : (s.drop a).length = s.length - a := List.length_drop
            have nY : xb < Y.heap.size := heap_lt hxY
            have HY := Lib.hid (And.intro harY (And.intro ho0 (And.intro hxY (And.intro hBYw (And.intro hcn (And.intro hsp (And.intro hta htd)))))))
            clear hY hBY hYs hoY harY hcn ho0 hxY hBYw hsp hta htd y0 y1 y0q HG
            cases A3 with
            | none =>
              obtain ⟨hc30, hs0⟩ := HY.out.2.2.2.2.1 rfl
              subst hc30
              have hle0 : decide ((a : Int) ≤ ((0 : Nat) : Int)) = true := by simp; omega
              have hle1 : decide (a ≤ 0) = true := by simp; omega
              have HS0 := Lib.hid hs0
              have hal0 : a ≤ 0 := by omega
              clear hs0
              have hts : s.take a = [] := by rw [List.take_eq_nil_iff]; right; exact List.length_eq_zero_iff.1 HS0.out
              have HTS := Lib.hid hts
              clear hts
              go_wp2_with (at_builtin; go_loud (refine wpList_appR rfl _ _ rfl Y.heap.size _ [] rfl HY.out.2.1 none [] 0 rfl (fun _ => rfl) Arr.nil (by simp) (by simp) ?_))
              intro v4 w4 ho4 hg4
              have hB4 : Below Y.heap.size Y w4 := below_app (below_al (Below.refl _ Y) _) (by simp) HY.out.2.1 hg4
              have hx4 := (hB4.block _ nY).trans HY.out.2.2.1
              have n4 := heap_lt hx4
              obtain ⟨A4, c4, rfl, _, _⟩ := Owns.shape ho4
              simp only [List.map_nil, List.length_nil] at ho4 ⊢
              have H4 := Lib.hid (And.intro ho4 (And.intro hB4 hx4))
              obtain ⟨c0, c1⟩ : w4.cell? ⟨xb, 0, none⟩ = some (.int .i32 mx) ∧ w4.cell? ⟨xb, 1, none⟩ = some (.int .i32 mn) := ⟨by rw [cell_of_blk hx4]; rfl, by rw [cell_of_blk hx4]; rfl⟩
              clear ho4 hg4 hB4 hx4
              go_wp2_with (at_builtin; go_loud (refine wpList_appR rfl _ _ rfl Y.heap.size _ [] rfl (H4.out.1.below (below_al (Below.refl _ _) _)) (some ⟨w4.heap.size, 0, none⟩) [⟨mx, mn⟩] 1 rfl (fun e => by cases e) (arrR_one (heap_new1 _ _)) (by simp) (by have := H4.out.2.1.size; simp only [World.size_alloc]; omega) ?_))
              intro v5 w5 ho5 hg5
              have hB5 : Below Y.heap.size Y w5 := below_app (below_al' H4.out.2.1) (by have := H4.out.2.1.size; simp only [World.size_alloc]; omega) (H4.out.1.below (below_al (Below.refl _ _) _)) hg5
              obtain ⟨A5, c5, rfl, _, _⟩ := Owns.shape ho5
              simp only [List.map_cons, List.map_nil, List.length_cons, List.length_nil, Nat.zero_add] at ho5 ⊢
              have H5 := Lib.hid (And.intro ho5 hB5)
              clear ho5 hg5 hB5 c0 c1
              have hdn : s.drop a = [] := List.drop_eq_nil_of_le (by have := HS0.out; omega)
              have HD := Lib.hid hdn
              clear hdn
              go_wp2_with (at_builtin; go_loud (refine wpList_appR rfl _ _ rfl Y.heap.size (.slice A5 1 c5) [⟨mx, mn⟩] rfl H5.out.1 none (s.drop a) 0 (by rw [HY.out.2.2.2.2.2.2.2]; rfl) (fun _ => rfl) (by rw [HD.out]; exact Arr.nil) (by rw [HD.out]; simp) H5.out.2.size ?_))
              intro v6 w6 ho6 hg6
              have hB6 : Below Y.heap.size Y w6 := below_app H5.out.2 H5.out.2.size H5.out.1 hg6
              have hB6w : Below w.heap.size w w6 := HY.out.2.2.2.1.trans (hB6.mono HY.out.2.2.2.1.size)
              have H6 := Lib.hid (And.intro ho6 hB6w)
              clear ho6 hg6 hB6 hB6w
              go_wp2_with fail
              go_roundg (G - 1)
              case measure => have := HK.out.2.2.2.2.2; omega
              case rel =>
                have h6 : OwnR w6 Y.heap.size v6 (s.take a ++ [(⟨mx, mn⟩ : Rg)] ++ s.drop a) := by rw [List.append_assoc, HTS.out]; exact H6.out.1
                refine ⟨i + 1, s.take a ++ [(⟨mx, mn⟩ : Rg)] ++ s.drop a, by go_num, by omega, by have := HK.out.2.2.2.2.2; omega, h6.lower HY.out.2.2.2.1.size, HINS.out.1, HINS.out.2.1, by rw [ins_len]; omega, HINS.out.2.2, H6.out.2⟩
            | some ad3 =>
              go_wp2_with (at_builtin; refine wpList_appR rfl _ _ rfl Y.heap.size _ [] rfl HY.out.2.1 (some ad3) (s.take a) c3 (by rw [HY.out.2.2.2.2.2.2.1]; rfl) (fun e => by cases e) ((HY.out.1 _ (below_al (Below.refl _ _) _)).take a) (by rw [HY.out.2.2.2.2.2.2.1]; simp; omega) (by simp) ?_)
              intro v4 w4 ho4 hg4
              have hB4 : Below Y.heap.size Y w4 := below_app (below_al (Below.refl _ Y) _) (by simp) HY.out.2.1 hg4
              have hx4 := (hB4.block _ nY).trans HY.out.2.2.1
              have n4 := heap_lt hx4
              obtain ⟨A4, c4, rfl, _, _⟩ := Owns.shape ho4
              rw [List.length_map, HY.out.2.2.2.2.2.2.1] at ho4 ⊢
              have H4 := Lib.hid (And.intro ho4 (And.intro hB4 hx4))
              obtain ⟨c0, c1⟩ : w4.cell? ⟨xb, 0, none⟩ = some (.int .i32 mx) ∧ w4.cell? ⟨xb, 1, none⟩ = some (.int .i32 mn) := ⟨by rw [cell_of_blk hx4]; rfl, by rw [cell_of_blk hx4]; rfl⟩
              clear ho4 hg4 hB4 hx4
              go_wp2_with (at_builtin; refine wpList_appR rfl _ _ rfl Y.heap.size _ (s.take a) rfl (H4.out.1.below (below_al (Below.refl _ _) _)) (some ⟨w4.heap.size, 0, none⟩) [⟨mx, mn⟩] 1 rfl (fun e => by cases e) (arrR_one (heap_new1 _ _)) (by rw [HY.out.2.2.2.2.2.2.1]; simp; omega) (by have := H4.out.2.1.size; simp only [World.size_alloc]; omega) ?_)
              intro v5 w5 ho5 hg5
              have hB5 : Below Y.heap.size Y w5 := below_app (below_al' H4.out.2.1) (by have := H4.out.2.1.size; simp only [World.size_alloc]; omega) (H4.out.1.below (below_al (Below.refl _ _) _)) hg5
              obtain ⟨A5, c5, rfl, _, _⟩ := Owns.shape ho5
              have e5 : ((s.take a ++ [(⟨mx, mn⟩ : Rg)]).map rgC).length = a + 1 := by rw [List.length_map, List.length_append, HY.out.2.2.2.2.2.2.1]; rfl
              rw [e5] at ho5 ⊢
              have H5 := Lib.hid (And.intro ho5 hB5)
              clear ho5 hg5 hB5 c0 c1
              by_cases hca : c3 = a
              · have hdn : s.drop a = [] := List.drop_eq_nil_of_le (by omega)
                have HD := Lib.hid hdn
                clear hdn
                have hct : (c3 = a) = True := by simp [hca]
                have hct2 : (a = c3) = True := by simp [hca]
                have hct3 : (c3 - a = 0) = True := by simp; omega
                have HCA := Lib.hid hca
                clear hca
                go_wp2_with (at_builtin; go_loud (refine wpList_appR rfl _ _ rfl Y.heap.size (.slice A5 (a + 1) c5) (s.take a ++ [⟨mx, mn⟩]) rfl H5.out.1 (some ad3) (s.drop a) (c3 - a) (by rw [HY.out.2.2.2.2.2.2.2]; rfl) (fun e => by cases e) (by rw [HD.out]; exact Arr.nil) (by rw [HY.out.2.2.2.2.2.2.2]; simp; omega) H5.out.2.size ?_))
                intro v6 w6 ho6 hg6
                have hB6 : Below Y.heap.size Y w6 := below_app H5.out.2 H5.out.2.size H5.out.1 hg6
                have hB6w : Below w.heap.size w w6 := HY.out.2.2.2.1.trans (hB6.mono HY.out.2.2.2.1.size)
                have H6 := Lib.hid (And.intro ho6 hB6w)
                clear ho6 hg6 hB6 hB6w
                go_wp2_with fail
                go_roundg (G - 1)
                case measure => have := HK.out.2.2.2.2.2; omega
                case rel =>
                  have h6 : OwnR w6 Y.heap.size v6 (s.take a ++ [(⟨mx, mn⟩ : Rg)] ++ s.drop a) := by rw [List.append_assoc]; exact H6.out.1
                  refine ⟨i + 1, s.take a ++ [(⟨mx, mn⟩ : Rg)] ++ s.drop a, by go_num, by omega, by have := HK.out.2.2.2.2.2; omega, h6.lower HY.out.2.2.2.1.size, HINS.out.1, HINS.out.2.1, by rw [ins_len]; omega, HINS.out.2.2, H6.out.2⟩
              · have hcd : (c3 = a) = False := by simp [hca]
                have hcd2 : (a = c3) = False := by simp; omega
                have hcd3 : (c3 - a = 0) = False := by simp; omega
                go_wp2_with (at_builtin; go_loud (refine wpList_appR rfl _ _ rfl Y.heap.size (.slice A5 (a + 1) c5) (s.take a ++ [⟨mx, mn⟩]) rfl H5.out.1 (some (ad3.add (a * 2))) (s.drop a) (c3 - a) (by rw [HY.out.2.2.2.2.2.2.2]; rfl) (fun e => by cases e) ((HY.out.1 _ H5.out.2).drop a) (by rw [HY.out.2.2.2.2.2.2.2]; simp; omega) H5.out.2.size ?_))
                intro v6 w6 ho6 hg6
                have hB6 : Below Y.heap.size Y w6 := below_app H5.out.2 H5.out.2.size H5.out.1 hg6
                have hB6w : Below w.heap.size w w6 := HY.out.2.2.2.1.trans (hB6.mono HY.out.2.2.2.1.size)
                have H6 := Lib.hid (And.intro ho6 hB6w)
                clear ho6 hg6 hB6 hB6w
                go_wp2_with fail
                go_roundg (G - 1)
                case measure => have := HK.out.2.2.2.2.2; omega
                case rel =>
                  have h6 : OwnR w6 Y.heap.size v6 (s.take a ++ [(⟨mx, mn⟩ : Rg)] ++ s.drop a) := by rw [List.append_assoc]; exact H6.out.1
                  refine ⟨i + 1, s.take a ++ [(⟨mx, mn⟩ : Rg)] ++ s.drop a, by go_num, by omega, by have := HK.out.2.2.2.2.2; omega, h6.lower HY.out.2.2.2.1.size, HINS.out.1, HINS.out.2.1, by rw [ins_len]; omega, HINS.out.2.2, H6.out.2⟩
          · obtain ⟨b, hab⟩ : ∃ b, b + 1 = a := ⟨a - 1, by omega⟩
            have hd0 : decide ((0 : Int) < (a : Int)) = true := decide_eq_true (by omega)
            have hd1 : decide (0 < a) = true := decide_eq_true (by omega)
            have hw9 : IntKind.i64.wrap ((a : Int) - 1) = (b : Int) := by rw [IntWalk.i64_in _ (by omega)]; omega
            have hbs : b < s.length := by omega
            have HAB := Lib.hid hab
            clear hab
            obtain ⟨p, hp, ad3, hA3, k3⟩ : ∃ p, s[b].lo = p ∧ ∃ ad3, A3 = some ad3 ∧ (X.drewN q).cell? (ad3.add (b * 2)) = some (.int .i32 p) := by
              obtain ⟨A9, c9, e9, _, _, h9⟩ := ownR_arr HX.out.2.1
              cases e9
              obtain ⟨ad3, h0, h1, _⟩ := rg_at2 h9 (X.drewN q) (below_drewN (Below.refl _ _) q) b hbs
              exact ⟨_, rfl, ad3, h0, h1⟩
            subst hA3
            have HB := Lib.hid hbs
            have k5 : X.cell? (ad3.add (b * 2)) = some (.int .i32 p) := k3
            have n5 := World.block_lt_of_cell? _ _ k5
            have n3 := World.block_lt_of_cell? _ _ k3
            by_cases hpm : mx < p
            · have hd3 : decide (mx < p) = true := by simp [hpm]
              have HPM := Lib.hid (And.intro hp hpm)
              clear hp hpm
              go_wp2_with fail
              go_quiet (fail)
              try rw [World.drewN_drewN]
              go_wp2_with fail
              go_roundg b
              case measure => have := HAB.out; omega
              case rel => exact ⟨b, q + nq, by go_num, by omega, Nat.le_refl _, Lib.hid (fun j hj h => by
                rcases Nat.lt_or_ge b j with h9 | h9
                · exact HG.out j hj (by have := HAB.out; omega)
                · have : j = b := by omega
                  subst this; rw [HPM.out.1]; exact HPM.out.2), rfl⟩
            · have hd3 : decide (mx < p) = false := by simp; omega
              have hsp : (∀ x ∈ s.take a, x.lo ≤ mx) ∧ (∀ x ∈ s.drop a, mx ≤ x.lo) := ⟨by rw [← HAB.out]; exact lo_take hbs HK.out.2.2.1 (by omega), lo_drop HG.out⟩
              have HINS : Hid ((∀ x ∈ s.take a ++ [(⟨mx, mn⟩ : Rg)] ++ s.drop a, RgOK x) ∧ LoR (s.take a ++ [(⟨mx, mn⟩ : Rg)] ++ s.drop a) ∧ Hid (anyIn (s.take a ++ [(⟨mx, mn⟩ : Rg)] ++ s.drop a) (l.take (i + 1)))) := Lib.hid ⟨ins_ok a HK.out.2.1 (by have := HMX.out; exact ⟨by show 0 ≤ mx; omega, by show mx ≤ mn; omega, by show mn ≤ 1114111; omega⟩), ins_lo a HK.out.2.2.1 hsp, Lib.hid (fun c h0 h1 => by
                rw [ins_any, HAn.out c h0 h1, HK.out.2.2.2.2.1, List.any_append]
                congr 1
                simp only [List.any_cons, List.any_nil, Bool.or_false]
                rw [Bool.eq_iff_iff]
                have := HMX.out
                simp only [inR, Bool.and_eq_true, decide_eq_true_eq]
                omega)⟩
              have HPM := Lib.hid (And.intro hp hpm)
              clear hp hpm
              go_wp2_with fail
              go_quiet (fail)
              clear hd0 hd1 hd3 k3 k5 n5 n3 hw9 HG
              have ha0 : 0 < a := by omega
              try rw [World.drewN_drewN]
              obtain ⟨qq, hqq⟩ : ∃ qq, q + nq = qq := ⟨_, rfl⟩
              rw [hqq]
              clear hqq
              have hwq : ∃ Y, X.drewN qq = Y := ⟨_, rfl⟩
              obtain ⟨Y, hY⟩ := hwq
              have hBY : Below X.heap.size X Y := by rw [← hY]; exact below_drewN (Below.refl _ _) _
              have hYs : Y.heap.size = X.heap.size := by rw [← hY]; rfl
              rw [hY]
              have hoY : OwnR Y w.heap.size (.slice (some ad3) s.length c3) s := HX.out.2.1.below hBY
              have harY : ∀ W', Below Y.heap.size Y W' → ArrR W' (some ad3) s := fun W' hW => by
                obtain ⟨A9, c9, e9, _, _, h9⟩ := ownR_arr hoY
                cases e9
                exact arrR_of h9 hW
              have hcn : some ad3 = none → c3 = 0 ∧ s.length = 0 := fun e => by
                rcases hoY.1.2 with ⟨h9, h8⟩ | ⟨g9, c9, cur9, h9, _⟩
                · simp only [Value.slice.injEq] at h9; exact ⟨h9.2.2, h9.2.1⟩
                · rw [e] at h9; cases h9
              have hc3 : s.length ≤ c3 := by
                obtain ⟨A9, c9, e9, h8, _, _⟩ := ownR_arr hoY
                cases e9; exact h8
              have ho0 : OwnR (Y.alloc (.cells #[] 66)) Y.heap.size (.slice (some ⟨Y.heap.size, 0, none⟩) 0 0) [] := ⟨World.ownsRow_made Y #[] 0 (Nat.le_refl _) (by decide) rfl, by simp⟩
              have hxY := (hBY.block _ nx).trans HX.out.1
              have hBYw : Below w.heap.size w Y := HX.out.2.2.1.trans (hBY.mono HX.out.2.2.1.size)
              have hsN : s.length ≤ 100000000 := by omega
              have hta : (s.take a).length = a := by rw [List.length_take]; omega
              have htd : (s.drop a).length = s.length - a := List.length_drop
              have nY : xb < Y.heap.size := heap_lt hxY
              have HY := Lib.hid (And.intro harY (And.intro ho0 (And.intro hxY (And.intro hBYw (And.intro hcn (And.intro hsp (And.intro hta htd)))))))
              clear hY hBY hYs hoY harY hcn ho0 hxY hBYw hsp hta htd y0 y1 y0q
              go_wp2_with (at_builtin; refine wpList_appR rfl _ _ rfl Y.heap.size _ [] rfl HY.out.2.1 (some ad3) (s.take a) c3 (by rw [HY.out.2.2.2.2.2.2.1]; rfl) (fun e => by cases e) ((HY.out.1 _ (below_al (Below.refl _ _) _)).take a) (by rw [HY.out.2.2.2.2.2.2.1]; simp; omega) (by simp) ?_)
              intro v4 w4 ho4 hg4
              have hB4 : Below Y.heap.size Y w4 := below_app (below_al (Below.refl _ Y) _) (by simp) HY.out.2.1 hg4
              have hx4 := (hB4.block _ nY).trans HY.out.2.2.1
              have n4 := heap_lt hx4
              obtain ⟨A4, c4, rfl, _, _⟩ := Owns.shape ho4
              rw [List.length_map, HY.out.2.2.2.2.2.2.1] at ho4 ⊢
              have H4 := Lib.hid (And.intro ho4 (And.intro hB4 hx4))
              obtain ⟨c0, c1⟩ : w4.cell? ⟨xb, 0, none⟩ = some (.int .i32 mx) ∧ w4.cell? ⟨xb, 1, none⟩ = some (.int .i32 mn) := ⟨by rw [cell_of_blk hx4]; rfl, by rw [cell_of_blk hx4]; rfl⟩
              clear ho4 hg4 hB4 hx4
              go_wp2_with (at_builtin; refine wpList_appR rfl _ _ rfl Y.heap.size _ (s.take a) rfl (H4.out.1.below (below_al (Below.refl _ _) _)) (some ⟨w4.heap.size, 0, none⟩) [⟨mx, mn⟩] 1 rfl (fun e => by cases e) (arrR_one (heap_new1 _ _)) (by rw [HY.out.2.2.2.2.2.2.1]; simp; omega) (by have := H4.out.2.1.size; simp only [World.size_alloc]; omega) ?_)
              intro v5 w5 ho5 hg5
              have hB5 : Below Y.heap.size Y w5 := below_app (below_al' H4.out.2.1) (by have := H4.out.2.1.size; simp only [World.size_alloc]; omega) (H4.out.1.below (below_al (Below.refl _ _) _)) hg5
              obtain ⟨A5, c5, rfl, _, _⟩ := Owns.shape ho5
              have e5 : ((s.take a ++ [(⟨mx, mn⟩ : Rg)]).map rgC).length = a + 1 := by rw [List.length_map, List.length_append, HY.out.2.2.2.2.2.2.1]; rfl
              rw [e5] at ho5 ⊢
              have H5 := Lib.hid (And.intro ho5 hB5)
              clear ho5 hg5 hB5 c0 c1
              by_cases hca : c3 = a
              · have hdn : s.drop a = [] := List.drop_eq_nil_of_le (by omega)
                have HD := Lib.hid hdn
                clear hdn
                have hct : (c3 = a) = True := by simp [hca]
                have hct2 : (a = c3) = True := by simp [hca]
                have hct3 : (c3 - a = 0) = True := by simp; omega
                have HCA := Lib.hid hca
                clear hca
                go_wp2_with (at_builtin; go_loud (refine wpList_appR rfl _ _ rfl Y.heap.size (.slice A5 (a + 1) c5) (s.take a ++ [⟨mx, mn⟩]) rfl H5.out.1 (some ad3) (s.drop a) (c3 - a) (by rw [HY.out.2.2.2.2.2.2.2]; rfl) (fun e => by cases e) (by rw [HD.out]; exact Arr.nil) (by rw [HY.out.2.2.2.2.2.2.2]; simp; omega) H5.out.2.size ?_))
                intro v6 w6 ho6 hg6
                have hB6 : Below Y.heap.size Y w6 := below_app H5.out.2 H5.out.2.size H5.out.1 hg6
                have hB6w : Below w.heap.size w w6 := HY.out.2.2.2.1.trans (hB6.mono HY.out.2.2.2.1.size)
                have H6 := Lib.hid (And.intro ho6 hB6w)
                clear ho6 hg6 hB6 hB6w
                go_wp2_with fail
                go_roundg (G - 1)
                case measure => have := HK.out.2.2.2.2.2; omega
                case rel =>
                  have h6 : OwnR w6 Y.heap.size v6 (s.take a ++ [(⟨mx, mn⟩ : Rg)] ++ s.drop a) := by rw [List.append_assoc]; exact H6.out.1
                  refine ⟨i + 1, s.take a ++ [(⟨mx, mn⟩ : Rg)] ++ s.drop a, by go_num, by omega, by have := HK.out.2.2.2.2.2; omega, h6.lower HY.out.2.2.2.1.size, HINS.out.1, HINS.out.2.1, by rw [ins_len]; omega, HINS.out.2.2, H6.out.2⟩
              · have hcd : (c3 = a) = False := by simp [hca]
                have hcd2 : (a = c3) = False := by simp; omega
                have hcd3 : (c3 - a = 0) = False := by simp; omega
                go_wp2_with (at_builtin; go_loud (refine wpList_appR rfl _ _ rfl Y.heap.size (.slice A5 (a + 1) c5) (s.take a ++ [⟨mx, mn⟩]) rfl H5.out.1 (some (ad3.add (a * 2))) (s.drop a) (c3 - a) (by rw [HY.out.2.2.2.2.2.2.2]; rfl) (fun e => by cases e) ((HY.out.1 _ H5.out.2).drop a) (by rw [HY.out.2.2.2.2.2.2.2]; simp; omega) H5.out.2.size ?_))
                intro v6 w6 ho6 hg6
                have hB6 : Below Y.heap.size Y w6 := below_app H5.out.2 H5.out.2.size H5.out.1 hg6
                have hB6w : Below w.heap.size w w6 := HY.out.2.2.2.1.trans (hB6.mono HY.out.2.2.2.1.size)
                have H6 := Lib.hid (And.intro ho6 hB6w)
                clear ho6 hg6 hB6 hB6w
                go_wp2_with fail
                go_roundg (G - 1)
                case measure => have := HK.out.2.2.2.2.2; omega
                case rel =>
                  have h6 : OwnR w6 Y.heap.size v6 (s.take a ++ [(⟨mx, mn⟩ : Rg)] ++ s.drop a) := by rw [List.append_assoc]; exact H6.out.1
                  refine ⟨i + 1, s.take a ++ [(⟨mx, mn⟩ : Rg)] ++ s.drop a, by go_num, by omega, by have := HK.out.2.2.2.2.2; omega, h6.lower HY.out.2.2.2.1.size, HINS.out.1, HINS.out.2.1, by rw [ins_len]; omega, HINS.out.2.2, H6.out.2⟩
    · have hie : l.length = i := by omega
      have HR : Hid (anyIn s l) := Lib.hid (by have h9 := HAn.out; rw [← hie, List.take_length] at h9; exact h9)
      have harw : ∀ W', Below wr.heap.size wr W' → ArrR W' A3 s := fun W' hW => by
        obtain ⟨A9, c9, e9, _, _, h9⟩ := ownR_arr hown
        cases e9
        exact arrR_of h9 hW
      have harb : ∀ W', Below wr.heap.size wr W' → Arr (fun k => k < wr.heap.size) W' 2 RgC A3 s := fun W' hW => by
        obtain ⟨A9, c9, e9, _, _, h9⟩ := ownR_arr hown
        cases e9
        exact h9.move (fun b hb hc => ⟨hW.block b hb.2.1, hb.2.1⟩) (by omega)
      have hsN : s.length ≤ 100000000 := by omega
      have HK := Lib.hid (And.intro hok (And.intro hlo (And.intro hB (And.intro harw harb))))
      have HIE := Lib.hid hie
      clear hown hok hlo hB HAn harw harb hie
      have hdi : decide ((i : Int) < (l.length : Int)) = false := decide_eq_false (by omega)
      go_wp2_with fail
      obtain ⟨wo, rfl⟩ : ∃ wo : World, wo = wr := ⟨_, rfl⟩
      go_loopg [8, 9] s.length (fun g s8 s9 wz => ∃ (j : Nat) (out : List Rg), s9 = .int .i64 j ∧ j ≤ s.length ∧ s.length - j ≤ g ∧ OwnR wz wo.heap.size s8 out ∧ SetOK out ∧ Hid (∀ y ∈ out, ∀ x ∈ s.drop j, y.lo ≤ x.lo) ∧ out.length ≤ j ∧ Hid (∀ c, out.any (inR c) = (s.take j).any (inR c)) ∧ Below wo.heap.size wo wz)
      case atStart => exact ⟨0, [], rfl, Nat.zero_le _, Nat.le_refl _, Owns.nil _ _ _ _, setOK_nil, Lib.hid (by simp), Nat.zero_le _, Lib.hid (by simp), Below.refl _ _⟩
      case round =>
        obtain ⟨j, out, rfl, hj, hjg, hoo, hso, HLE, hol, HAO, hBo⟩ := hrel
        obtain ⟨A8, c8, rfl, _, _⟩ := Owns.shape hoo
        rw [List.length_map] at hoo ⊢
        by_cases hjl : j < s.length
        · obtain ⟨x, hxe, ad3, hA3, k0, k1⟩ : ∃ x, s[j] = x ∧ ∃ ad3, A3 = some ad3 ∧ wr.cell? (ad3.add (j * 2)) = some (.int .i32 x.lo) ∧ wr.cell? ⟨(ad3.add (j * 2)).block, (ad3.add (j * 2)).off + 1, none⟩ = some (.int .i32 x.hi) := by
            obtain ⟨ad3, h0, h1, h2⟩ := rg_at2 (HK.out.2.2.2.1 wo (Below.refl _ _)) wr hBo j hjl
            exact ⟨_, rfl, ad3, h0, h1, h2⟩
          subst hA3
          have HX : Hid (RgOK x ∧ s.drop j = x :: s.drop (j + 1) ∧ s.take (j + 1) = s.take j ++ [x] ∧ ∀ z ∈ s.drop (j + 1), x.lo ≤ z.lo) := Lib.hid (by
            subst hxe
            exact ⟨HK.out.1 _ (List.getElem_mem hjl), List.drop_eq_getElem_cons hjl, List.take_succ_eq_append_getElem hjl, lo_after HK.out.2.1 hjl⟩)
          obtain ⟨Z, rfl⟩ : ∃ Z : World, Z = wr := ⟨_, rfl⟩
          rcases List.eq_nil_or_concat out with hnil | ⟨fr, y, hcat⟩
          · have hd0 : decide ((0 : Int) < (out.length : Int)) = false := by rw [hnil]; rfl
            have hd1 : decide (0 < out.length) = false := by rw [hnil]; rfl
            have hl0 : out.length = 0 := by rw [hnil]; rfl
            have HNEW : Hid (∀ y ∈ out, y.hi + 2 ≤ x.lo) := Lib.hid (by rw [hnil]; simp)
            have HNIL := Lib.hid (And.intro hnil hl0)
            clear hnil hl0 hxe
            go_wp2_with fail
            go_quiet (fail)
            clear hd0 hd1
            try rw [World.drewN_drewN]
            obtain ⟨Y, hY⟩ : ∃ Y, Z.drewN nq = Y := ⟨_, rfl⟩
            have c0 : Y.cell? (ad3.add (j * 2)) = some (.int .i32 x.lo) := by rw [← hY]; exact k0
            have c1 : Y.cell? ⟨(ad3.add (j * 2)).block, (ad3.add (j * 2)).off + 1, none⟩ = some (.int .i32 x.hi) := by rw [← hY]; exact k1
            have hBYo : Below wo.heap.size wo Y := by rw [← hY]; exact below_drewN hBo _
            have hoY : OwnR Y wo.heap.size (.slice A8 out.length c8) out := by rw [← hY]; exact hoo
            rw [hY]
            have nY0 := World.block_lt_of_cell? _ _ c0
            have HY := Lib.hid (And.intro hoY (And.intro hBYo hY))
            clear hoY hBYo hY k0 k1
            have hoA : OwnR (Y.alloc (.cells #[.int .i32 x.lo, .int .i32 x.hi] 66)) wo.heap.size (.slice A8 out.length c8) out := HY.out.1.below (below_al (Below.refl _ _) _)
            go_wp2_with (at_builtin; go_loud (refine wpList_appR rfl _ _ rfl wo.heap.size _ out rfl hoA (some ⟨Y.heap.size, 0, none⟩) [⟨x.lo, x.hi⟩] 1 rfl (fun e => by cases e) (arrR_one (heap_new1 _ _)) (by simp only [List.length_cons, List.length_nil]; omega) (by have := HY.out.2.1.size; simp only [World.size_alloc]; omega) ?_))
            intro v6 w6 ho6 hg6
            have hB6 : Below wo.heap.size wo w6 := below_app (below_al' HY.out.2.1) (by have := HY.out.2.1.size; simp only [World.size_alloc]; omega) hoA hg6
            have H6 := Lib.hid (And.intro ho6 hB6)
            clear ho6 hg6 hB6 hoA c0 c1
            go_wp2_with fail
            go_roundg (s.length - (j + 1))
            case measure => omega
            case rel => exact ⟨j + 1, out ++ [x], by go_num, by omega, Nat.le_refl _, H6.out.1, glue_new hso HX.out.1 HNEW.out, Lib.hid (fun y hy z hz => by
              rcases List.mem_append.1 hy with hy | hy
              · exact HLE.out y hy z (by rw [HX.out.2.1]; simp [hz])
              · rw [List.mem_singleton.1 hy]; exact HX.out.2.2.2 z hz), by simp; omega, Lib.hid (fun c => by rw [any_snoc, HAO.out, HX.out.2.2.1, any_snoc]), H6.out.2⟩
          · rw [List.concat_eq_append] at hcat
            have hlen : out.length = fr.length + 1 := by rw [hcat]; simp
            have hd0 : decide ((0 : Int) < (out.length : Int)) = true := decide_eq_true (by omega)
            have hd1 : decide (0 < out.length) = true := decide_eq_true (by omega)
            have hw9 : IntKind.i64.wrap ((out.length : Int) - 1) = (fr.length : Int) := by rw [IntWalk.i64_in _ (by omega)]; omega
            have hfl : fr.length < out.length := by omega
            obtain ⟨g, hA8, hgb, hgl, k3, k4, HST⟩ := own_lastOf hoo hcat
            subst hA8
            have hyk := hso.1 y (by rw [hcat]; simp)
            have hyx := HLE.out y (by rw [hcat]; simp) x (by rw [HX.out.2.1]; simp)
            have hw3 : IntKind.i32.wrap (y.hi + 1) = y.hi + 1 := IntWalk.i32_in _ (by have := hyk.2.1; have := hyk.1; have := hyk.2.2; omega)
            have HLEN := Lib.hid hlen
            have HST' := Lib.hid HST
            clear hlen HST hxe
            by_cases ht : x.lo ≤ y.hi + 1
            · have hd3 : decide (x.lo ≤ y.hi + 1) = true := by simp [ht]
              have HT := Lib.hid (And.intro hcat (And.intro hyk (And.intro hyx ht)))
              clear hcat hyk hyx ht
              go_wp2_with fail
              go_quiet (fail)
              clear hd0 hd1 hd3
              try rw [World.drewN_drewN]
              obtain ⟨Y, hY⟩ : ∃ Y, Z.drewN nq = Y := ⟨_, rfl⟩
              have c0 : Y.cell? (ad3.add (j * 2)) = some (.int .i32 x.lo) := by rw [← hY]; exact k0
              have c1 : Y.cell? ⟨(ad3.add (j * 2)).block, (ad3.add (j * 2)).off + 1, none⟩ = some (.int .i32 x.hi) := by rw [← hY]; exact k1
              have hBYo : Below wo.heap.size wo Y := by rw [← hY]; exact below_drewN hBo _
              have hoY : OwnR Y wo.heap.size (.slice (some ⟨g, 0, none⟩) out.length c8) out := by rw [← hY]; exact hoo
              rw [hY]
              have nY0 := World.block_lt_of_cell? _ _ c0
              have HY := Lib.hid (And.intro hoY (And.intro hBYo hY))
              clear hoY hBYo hY k0 k1
              have hpx : (ad3.add (j * 2)).block ≠ g := fun e => by
                obtain ⟨ad9, cs9, e9, hb9, _⟩ := HK.out.2.2.2.2 wo (Below.refl _ _) j _ (List.getElem?_eq_getElem hjl)
                cases e9
                rw [add_block] at e
                omega
              go_wp2_with fail
              refine wp_region_scr (fun W' => W'.cell? ⟨(ad3.add (j * 2)).block, (ad3.add (j * 2)).off + 1, none⟩ = some (.int .i32 x.hi)) [(true, 0, 91), (true, 1, 92), (true, 2, 93), (true, 3, 94), (true, 4, 95), (true, 5, 96), (true, 6, 97), (true, 7, 98), (true, 9, 100), (true, 10, 101), (true, 11, 102), (true, 12, 103), (true, 13, 104), (false, 8, 99), (true, 14, 105), (true, 15, 106), (true, 16, 107), (false, 17, 0)] (by kernel_rfl) (by kernel_rfl) (fun _ _ _ _ _ h => h) rfl (by kernel_rfl) ?_
              clear k3 k4
              obtain ⟨V, hV⟩ : ∃ V, Y.drew = V := ⟨_, rfl⟩
              have HV : Hid (V.cell? ⟨(ad3.add (j * 2)).block, (ad3.add (j * 2)).off + 1, none⟩ = some (.int .i32 x.hi)) := Lib.hid (by rw [← hV]; exact c1)
              have hoV : OwnR V wo.heap.size (.slice (some ⟨g, 0, none⟩) out.length c8) out := by rw [← hV]; exact Owns.drew HY.out.1
              have hBV : Below wo.heap.size wo V := by rw [← hV]; exact HY.out.2.1.drew
              rw [hV]
              obtain ⟨g', e', _, hgl2, k3, k4, HST⟩ := own_lastOf hoV HT.out.1
              cases e'
              have HVV := Lib.hid (And.intro hoV (And.intro hBV HST))
              clear hoV hBV HST hV c0 c1 nY0
              refine Scr.take (v := .slice (some ⟨g, 0, none⟩) out.length c8) rfl rfl (yw_pure (by rfl) (fun _ => by go_simp)) HV.out ?_
              simp only [Act.put, List.setIfInBounds_toArray, List.set_cons_zero, List.set_cons_succ]
              refine Scr.take (v := .int .i64 out.length) rfl rfl (yw_pure (by rfl) (fun _ => by go_simp)) HV.out ?_
              simp only [Act.put, List.setIfInBounds_toArray, List.set_cons_zero, List.set_cons_succ]
              refine Scr.take (v := .int .i64 fr.length) rfl rfl (yw_pure (by rfl) (fun _ => by go_simp)) HV.out ?_
              simp only [Act.put, List.setIfInBounds_toArray, List.set_cons_zero, List.set_cons_succ]
              refine Scr.take (v := .slice (some ⟨g, 0, none⟩) out.length c8) rfl rfl (yw_pure (by rfl) (fun _ => by go_simp)) HV.out ?_
              simp only [Act.put, List.setIfInBounds_toArray, List.set_cons_zero, List.set_cons_succ]
              refine Scr.take (v := .int .i64 out.length) rfl rfl (yw_pure (by rfl) (fun _ => by go_simp)) HV.out ?_
              simp only [Act.put, List.setIfInBounds_toArray, List.set_cons_zero, List.set_cons_succ]
              refine Scr.take (v := .int .i64 fr.length) rfl rfl (yw_pure (by rfl) (fun _ => by go_simp)) HV.out ?_
              simp only [Act.put, List.setIfInBounds_toArray, List.set_cons_zero, List.set_cons_succ]
              refine Scr.take (v := .pointer (some ⟨g, fr.length * 2, none⟩)) rfl rfl (yw_pure (by rfl) (fun _ => by go_simp)) HV.out ?_
              simp only [Act.put, List.setIfInBounds_toArray, List.set_cons_zero, List.set_cons_succ]
              refine Scr.take (v := .pointer (some ⟨g, fr.length * 2 + 1, none⟩)) rfl rfl (yw_pure (by rfl) (fun _ => by go_simp)) HV.out ?_
              simp only [Act.put, List.setIfInBounds_toArray, List.set_cons_zero, List.set_cons_succ]
              refine Scr.take (v := .slice (some ad3) s.length c3) rfl rfl (yw_pure (by rfl) (fun _ => by go_simp)) HV.out ?_
              simp only [Act.put, List.setIfInBounds_toArray, List.set_cons_zero, List.set_cons_succ]
              refine Scr.take (v := .int .i64 j) rfl rfl (yw_pure (by rfl) (fun _ => by go_simp)) HV.out ?_
              simp only [Act.put, List.setIfInBounds_toArray, List.set_cons_zero, List.set_cons_succ]
              refine Scr.take (v := .pointer (some (ad3.add (j * 2)))) rfl rfl (yw_pure (by rfl) (fun _ => by go_simp)) HV.out ?_
              simp only [Act.put, List.setIfInBounds_toArray, List.set_cons_zero, List.set_cons_succ]
              refine Scr.take (v := .pointer (some ⟨(ad3.add (j * 2)).block, (ad3.add (j * 2)).off + 1, none⟩)) rfl rfl (yw_pure (by rfl) (fun _ => by go_simp)) HV.out ?_
              simp only [Act.put, List.setIfInBounds_toArray, List.set_cons_zero, List.set_cons_succ]
              refine Scr.take (v := .int .i32 x.hi) rfl rfl (yw_cell 21 _ rfl ⟨(ad3.add (j * 2)).block, (ad3.add (j * 2)).off + 1, none⟩ (.int .i32 x.hi) rfl (by rfl) _ Tryd.underlying21 rfl (fun W hS => hS)) HV.out ?_
              simp only [Act.put, List.setIfInBounds_toArray, List.set_cons_zero, List.set_cons_succ]
              refine Scr.run rfl (by rfl) (fun K hK => ?_)
              go_simp
              refine hK _ _ HV.out ?_
              clear hK K
              refine Scr.take (v := .int .i32 (max y.hi x.hi)) rfl rfl (yw_pure (by rfl) (fun _ => by go_simp)) HV.out ?_
              simp only [Act.put, List.setIfInBounds_toArray, List.set_cons_zero, List.set_cons_succ]
              refine Scr.take (v := .pointer (some ⟨g, fr.length * 2, none⟩)) rfl rfl (yw_pure (by rfl) (fun _ => by go_simp)) HV.out ?_
              simp only [Act.put, List.setIfInBounds_toArray, List.set_cons_zero, List.set_cons_succ]
              refine Scr.take (v := .pointer (some ⟨g, fr.length * 2 + 1, none⟩)) rfl rfl (yw_pure (by rfl) (fun _ => by go_simp)) HV.out ?_
              simp only [Act.put, List.setIfInBounds_toArray, List.set_cons_zero, List.set_cons_succ]
              refine Scr.run rfl (by rfl) (fun K hK => ?_)
              go_simp
              have hkeep : ∀ u, (V.setCell ⟨g, fr.length * 2 + 1, none⟩ u).cell? ⟨(ad3.add (j * 2)).block, (ad3.add (j * 2)).off + 1, none⟩ = V.cell? ⟨(ad3.add (j * 2)).block, (ad3.add (j * 2)).off + 1, none⟩ := fun u => World.cell?_of_block (Below.heap_setCell _ _ _ _ hpx)
              refine hK _ _ ((hkeep _).trans HV.out) ?_
              clear hK K hkeep HV
              have HG := Lib.hid (glue_touch (fr := fr) (y := y) (x := x) (HT.out.1 ▸ hso) HX.out.1 HT.out.2.2.1 HT.out.2.2.2)
              have H6 := Lib.hid (And.intro (HVV.out.2.2 (max y.hi x.hi)) (HVV.out.2.1.setCell (p := ⟨g, fr.length * 2 + 1, none⟩) hgb (.int .i32 (max y.hi x.hi))))
              simp only [Scr]
              clear k3 k4
              go_wp2_with fail
              go_roundg (s.length - (j + 1))
              case measure => omega
              case rel => exact ⟨j + 1, fr ++ [⟨y.lo, max y.hi x.hi⟩], by go_num, by omega, Nat.le_refl _, H6.out.1, HG.out.1, Lib.hid (fun y' hy z hz => by
                rcases List.mem_append.1 hy with hy | hy
                · exact HLE.out y' (by rw [HT.out.1]; simp [hy]) z (by rw [HX.out.2.1]; simp [hz])
                · rw [List.mem_singleton.1 hy]; exact HLE.out y (by rw [HT.out.1]; simp) z (by rw [HX.out.2.1]; simp [hz])), by have := HLEN.out; simp; omega, Lib.hid (fun c => by rw [HG.out.2, ← HT.out.1, HAO.out, HX.out.2.2.1, any_snoc]), H6.out.2⟩
            · have hd3 : decide (x.lo ≤ y.hi + 1) = false := by simp; omega
              have HNEW : Hid (∀ y ∈ out, y.hi + 2 ≤ x.lo) := Lib.hid (by rw [hcat] at hso ⊢; exact glue_last hso hyx (by omega))
              have HT := Lib.hid (And.intro hcat (And.intro hyk (And.intro hyx ht)))
              clear hcat hyk hyx ht
              go_wp2_with fail
              go_quiet (fail)
              clear hd0 hd1 hd3 k3 k4 hw9 hw3
              try rw [World.drewN_drewN]
              obtain ⟨Y, hY⟩ : ∃ Y, Z.drewN nq = Y := ⟨_, rfl⟩
              have c0 : Y.cell? (ad3.add (j * 2)) = some (.int .i32 x.lo) := by rw [← hY]; exact k0
              have c1 : Y.cell? ⟨(ad3.add (j * 2)).block, (ad3.add (j * 2)).off + 1, none⟩ = some (.int .i32 x.hi) := by rw [← hY]; exact k1
              have hBYo : Below wo.heap.size wo Y := by rw [← hY]; exact below_drewN hBo _
              have hoY : OwnR Y wo.heap.size (.slice (some ⟨g, 0, none⟩) out.length c8) out := by rw [← hY]; exact hoo
              rw [hY]
              have nY0 := World.block_lt_of_cell? _ _ c0
              have HY := Lib.hid (And.intro hoY (And.intro hBYo hY))
              clear hoY hBYo hY k0 k1
              have hoA : OwnR (Y.alloc (.cells #[.int .i32 x.lo, .int .i32 x.hi] 66)) wo.heap.size (.slice (some ⟨g, 0, none⟩) out.length c8) out := HY.out.1.below (below_al (Below.refl _ _) _)
              go_wp2_with (at_builtin; go_loud (refine wpList_appR rfl _ _ rfl wo.heap.size _ out rfl hoA (some ⟨Y.heap.size, 0, none⟩) [⟨x.lo, x.hi⟩] 1 rfl (fun e => by cases e) (arrR_one (heap_new1 _ _)) (by simp only [List.length_cons, List.length_nil]; omega) (by have := HY.out.2.1.size; simp only [World.size_alloc]; omega) ?_))
              intro v6 w6 ho6 hg6
              have hB6 : Below wo.heap.size wo w6 := below_app (below_al' HY.out.2.1) (by have := HY.out.2.1.size; simp only [World.size_alloc]; omega) hoA hg6
              have H6 := Lib.hid (And.intro ho6 hB6)
              clear ho6 hg6 hB6 hoA c0 c1
              go_wp2_with fail
              go_roundg (s.length - (j + 1))
              case measure => omega
              case rel => exact ⟨j + 1, out ++ [x], by go_num, by omega, Nat.le_refl _, H6.out.1, glue_new hso HX.out.1 HNEW.out, Lib.hid (fun y hy z hz => by
                rcases List.mem_append.1 hy with hy | hy
                · exact HLE.out y hy z (by rw [HX.out.2.1]; simp [hz])
                · rw [List.mem_singleton.1 hy]; exact HX.out.2.2.2 z hz), by simp; omega, Lib.hid (fun c => by rw [any_snoc, HAO.out, HX.out.2.2.1, any_snoc]), H6.out.2⟩
        · have hdj : decide ((j : Int) < (s.length : Int)) = false := decide_eq_false (by omega)
          have hje : s.length = j := by omega
          have HJ := Lib.hid hje
          clear hje
          go_wp2_with fail
          go_ret
          exact ⟨_, out, rfl, ⟨hso, fun c h0 h1 => by rw [HAO.out c, ← HJ.out, List.take_length]; exact HR.out c h0 h1⟩, hoo.lower HK.out.2.2.1.size, HK.out.2.2.1.trans (hBo.mono HK.out.2.2.1.size)⟩
end Go.Proofs.YthclpabmbhpohaaDoor
namespace Go.Proofs.YthclpabmbhpohaaDoor
open Go.RowKit
set_option linter.unusedVariables false
def NotI (r out : List Rg) (j : Nat) (n : Int) : Prop :=
  SetOK out ∧ (0 ≤ n ∧ n ≤ 1114112) ∧ (∀ y ∈ out, y.hi + 2 ≤ n) ∧ (∀ z ∈ r.take j, z.hi < n) ∧ (∀ z ∈ r.drop j, n ≤ z.lo) ∧ ∀ c, 0 ≤ c → c < n → out.any (inR c) = !(r.any (inR c))
/-- What Not tells. -/
def NotOf (l r : List Rg) : Prop := SetOK r ∧ ∀ c, 0 ≤ c → c ≤ 1114111 → r.any (inR c) = !(l.any (inR c))
theorem not_start {r : List Rg} (h : SetOK r) : NotI r [] 0 0 := ⟨setOK_nil, by omega, by simp, by simp, fun z hz => (h.1 z (by simpa using hz)).1, fun c h0 h1 => by omega⟩
theorem any_no {r : List Rg} {c : Int} (h : ∀ z ∈ r, z.hi < c ∨ c < z.lo) : r.any (inR c) = false := by
  rw [List.any_eq_false]
  intro z hz
  have := h z hz
  simp only [inR, Bool.and_eq_true, decide_eq_true_eq]
  omega
theorem any_yes {r : List Rg} {c : Int} {z : Rg} (hz : z ∈ r) (h : z.lo ≤ c ∧ c ≤ z.hi) : r.any (inR c) = true := by
  rw [List.any_eq_true]
  exact ⟨z, hz, by simp only [inR, Bool.and_eq_true, decide_eq_true_eq]; exact h⟩
theorem not_any {r out : List Rg} {j : Nat} {n c : Int} (h : NotI r out j n) (h1 : n ≤ c) (h2 : ∀ z ∈ r.drop j, c < z.lo) : r.any (inR c) = false := by
  refine any_no fun z hz => ?_
  rw [← List.take_append_drop j r] at hz
  rcases List.mem_append.1 hz with hz | hz
  · have := h.2.2.2.1 z hz; omega
  · exact Or.inr (h2 z hz)
theorem not_out {r out : List Rg} {j : Nat} {n c : Int} (h : NotI r out j n) (h1 : n ≤ c) : out.any (inR c) = false :=
  any_no fun z hz => by have := h.2.2.1 z hz; omega
theorem not_step {r out : List Rg} {j : Nat} {n : Int} (hr : SetOK r) (hj : j < r.length) {x : Rg} (hx : r[j] = x) (h : NotI r out j n) :
    (n < x.lo → NotI r (out ++ [⟨n, x.lo - 1⟩]) (j + 1) (x.hi + 1)) ∧ (¬ n < x.lo → NotI r out (j + 1) (x.hi + 1)) := by
  obtain ⟨h0, ⟨h1, h2⟩, h3, h5, h6, h8⟩ := id h
  have hdr : r.drop j = x :: r.drop (j + 1) := by rw [← hx]; exact List.drop_eq_getElem_cons hj
  have htk : r.take (j + 1) = r.take j ++ [x] := by rw [← hx]; exact List.take_succ_eq_append_getElem hj
  have hxr : x ∈ r := by rw [← hx]; exact List.getElem_mem hj
  obtain ⟨x0, x1, x2⟩ := hr.1 x hxr
  have hnx : n ≤ x.lo := h6 x (by rw [hdr]; simp)
  have haf : ∀ z ∈ r.drop (j + 1), x.hi + 2 ≤ z.lo := fun z hz => by
    obtain ⟨k, hk, rfl⟩ := List.getElem_of_mem hz
    rw [List.getElem_drop, ← hx]
    exact List.pairwise_iff_getElem.1 hr.2 j (j + 1 + k) hj (by rw [List.length_drop] at hk; omega) (by omega)
  have hbf : ∀ z ∈ r.take (j + 1), z.hi < x.hi + 1 := fun z hz => by
    rw [htk] at hz
    rcases List.mem_append.1 hz with hz | hz
    · have := h5 z hz; omega
    · rw [List.mem_singleton.1 hz]; omega
  have hin : ∀ c, x.lo ≤ c → c < x.hi + 1 → r.any (inR c) = true := fun c g0 g1 => any_yes hxr ⟨g0, by omega⟩
  have hlo : ∀ c, n ≤ c → c < x.lo → r.any (inR c) = false := fun c g0 g1 => not_any h g0 (fun z hz => by
    rw [hdr] at hz
    rcases List.mem_cons.1 hz with rfl | hz
    · exact g1
    · have := haf z hz; omega)
  constructor
  · intro hlt
    refine ⟨glue_new h0 ⟨h1, by show n ≤ x.lo - 1; omega, by show x.lo - 1 ≤ 1114111; omega⟩ h3, by omega, ?_, hbf, fun z hz => by have := haf z hz; omega, fun c g0 g1 => ?_⟩
    · intro y hy
      rcases List.mem_append.1 hy with hy | hy
      · have := h3 y hy; omega
      · rw [List.mem_singleton.1 hy]; show x.lo - 1 + 2 ≤ x.hi + 1; omega
    · rw [any_snoc]
      rcases Int.lt_or_le c n with g2 | g2
      · rw [h8 c g0 g2, show inR c ⟨n, x.lo - 1⟩ = false by simp only [inR, Bool.and_eq_false_iff, decide_eq_false_iff_not]; omega, Bool.or_false]
      · rw [not_out h g2, Bool.false_or]
        rcases Int.lt_or_le c x.lo with g3 | g3
        · rw [hlo c g2 g3]; simp only [inR, Bool.not_false, Bool.and_eq_true, decide_eq_true_eq]; omega
        · rw [hin c g3 g1]; simp only [inR, Bool.not_true, Bool.and_eq_false_iff, decide_eq_false_iff_not]; omega
  · intro hge
    refine ⟨h0, by omega, fun y hy => by have := h3 y hy; omega, hbf, fun z hz => by have := haf z hz; omega, fun c g0 g1 => ?_⟩
    rcases Int.lt_or_le c n with g2 | g2
    · exact h8 c g0 g2
    · rw [not_out h g2, hin c (by omega) g1]; rfl
theorem not_end {l r out : List Rg} {n : Int} (hl : anyIn r l) (h : NotI r out r.length n) : (n ≤ 1114111 → NotOf l (out ++ [⟨n, 1114111⟩])) ∧ (¬ n ≤ 1114111 → NotOf l out) := by
  obtain ⟨h0, ⟨h1, h2⟩, h3, h5, h6, h8⟩ := id h
  have hno : ∀ c, n ≤ c → r.any (inR c) = false := fun c g0 => not_any h g0 (by rw [List.drop_length]; simp)
  constructor
  · intro hlt
    refine ⟨glue_new h0 ⟨h1, hlt, Int.le_refl _⟩ h3, fun c g0 g1 => ?_⟩
    rw [any_snoc, ← hl c g0 g1]
    rcases Int.lt_or_le c n with g2 | g2
    · rw [h8 c g0 g2, show inR c ⟨n, 1114111⟩ = false by simp only [inR, Bool.and_eq_false_iff, decide_eq_false_iff_not]; omega, Bool.or_false]
    · rw [not_out h g2, hno c g2]; simp only [inR, Bool.not_false, Bool.false_or, Bool.and_eq_true, decide_eq_true_eq]; omega
  · intro hge
    exact ⟨h0, fun c g0 g1 => by rw [← hl c g0 g1]; exact h8 c g0 (by omega)⟩
end Go.Proofs.YthclpabmbhpohaaDoor
namespace Go.Proofs.YthclpabmbhpohaaDoor
open Go.RowKit
set_option linter.unusedVariables false
def NotP (l : List Rg) (w : World) (e : Ending) (w' : World) : Prop := ∃ v r, e = .returned v ∧ NotOf l r ∧ OwnR w' w.heap.size v r ∧ Below w.heap.size w w'
set_option maxRecDepth 100000 in
set_option maxHeartbeats 4000000 in
theorem not02_any (ok : Nat → Prop) (w : World) (A : Option Addr) (c : Nat) (l : List Rg) (h : Arr ok w 2 RgC A l) (hN : l.length ≤ 100000000) :
    Calls Tryd.prog 80 #[.slice A l.length c] w (NotP l w) := by
  have hn := norm02_any ok w A c l h hN
  clear h
  go_enter Tryd.func80, Tryd.ntmps80
  go_wp2_with (go_at_call 92; refine hn.mono ?_; clear hn; rintro e w1 ⟨v, r, rfl, hno, hor, hB⟩)
  obtain ⟨A1, c1, rfl, _, _, harr⟩ := ownR_arr hor
  have hrl := setOK_len hno.1 0 (fun x hx => (hno.1.1 x hx).1) (by omega)
  have hrl2 : r.length ≤ 1114112 := by omega
  have HK := Lib.hid (And.intro hno (And.intro hor (And.intro hB harr)))
  clear hno hor hB harr hrl
  go_wp2_with fail
  go_loopg [4, 5, 6] r.length (fun g s4 s5 s6 wz => ∃ (j : Nat) (out : List Rg) (n : Int), s6 = .int .i64 j ∧ s5 = .int .i32 n ∧ j ≤ r.length ∧ r.length - j ≤ g ∧ OwnR wz w1.heap.size s4 out ∧ Hid (NotI r out j n) ∧ out.length ≤ j ∧ Below w1.heap.size w1 wz)
  case atStart => exact ⟨0, [], 0, rfl, rfl, Nat.zero_le _, Nat.le_refl _, Owns.nil _ _ _ _, Lib.hid (not_start HK.out.1.1), Nat.zero_le _, Below.refl _ _⟩
  case round =>
    obtain ⟨j, out, n, rfl, rfl, hj, hjg, hoo, HI, hol, hBo⟩ := hrel
    obtain ⟨A8, c8, rfl, _, _⟩ := Owns.shape hoo
    rw [List.length_map] at hoo ⊢
    obtain ⟨hn0, hn1⟩ := HI.out.2.1
    by_cases hjl : j < r.length
    · have hat : ∀ W', Below w1.heap.size w1 W' → ∃ ad, A1 = some ad ∧ W'.cell? (ad.add (j * 2)) = some (.int .i32 r[j].lo) ∧ W'.cell? ⟨(ad.add (j * 2)).block, (ad.add (j * 2)).off + 1, none⟩ = some (.int .i32 r[j].hi) := fun W' hW => rg_at2 HK.out.2.2.2 W' hW j hjl
      have hxr := HK.out.1.1.1 _ (List.getElem_mem hjl)
      obtain ⟨x, hxe⟩ : ∃ x, r[j] = x := ⟨_, rfl⟩
      rw [hxe] at hxr
      have hst := not_step HK.out.1.1 hjl hxe HI.out
      obtain ⟨ad, hA1, k0, k1⟩ := hat wr hBo
      subst hA1
      rw [hxe] at k0 k1
      have hat2 : ∀ W', Below w1.heap.size w1 W' → W'.cell? ⟨(ad.add (j * 2)).block, (ad.add (j * 2)).off + 1, none⟩ = some (.int .i32 x.hi) := fun W' hW => by
        obtain ⟨ad9, e9, _, h9⟩ := hat W' hW
        cases e9
        rw [← hxe]; exact h9
      obtain ⟨x0, x1, x2⟩ := hxr
      have hw3 : IntKind.i32.wrap (x.lo - 1) = x.lo - 1 := IntWalk.i32_in _ (by omega)
      have hw4 : IntKind.i32.wrap (x.hi + 1) = x.hi + 1 := IntWalk.i32_in _ (by omega)
      have HS := Lib.hid (And.intro hst (And.intro hat2 (And.intro hoo hBo)))
      clear hst hat2 hat hxe hoo hBo
      obtain ⟨Y, rfl⟩ : ∃ Y : World, Y = wr := ⟨_, rfl⟩
      by_cases hlt : n < x.lo
      · have hd : decide (n < x.lo) = true := by simp [hlt]
        have hoA : OwnR (Y.alloc (.cells #[.int .i32 n, .int .i32 (x.lo - 1)] 66)) w1.heap.size (.slice A8 out.length c8) out := HS.out.2.2.1.below (below_al (Below.refl _ _) _)
        go_wp2_with (at_builtin; go_loud (refine wpList_appR rfl _ _ rfl w1.heap.size _ out rfl hoA (some ⟨Y.heap.size, 0, none⟩) [⟨n, x.lo - 1⟩] 1 rfl (fun e => by cases e) (arrR_one (heap_new1 _ _)) (by simp only [List.length_cons, List.length_nil]; omega) (by have := HS.out.2.2.2.size; simp only [World.size_alloc]; omega) ?_))
        intro v6 w6 ho6 hg6
        have hB6 : Below w1.heap.size w1 w6 := below_app (below_al' HS.out.2.2.2) (by have := HS.out.2.2.2.size; simp only [World.size_alloc]; omega) hoA hg6
        have c2 := HS.out.2.1 w6 hB6
        have H6 := Lib.hid (And.intro ho6 hB6)
        clear ho6 hg6 hB6 hoA k0 k1
        go_wp2_with fail
        go_roundg (r.length - (j + 1))
        case measure => omega
        case rel => exact ⟨j + 1, out ++ [⟨n, x.lo - 1⟩], x.hi + 1, by go_num, rfl, by omega, Nat.le_refl _, H6.out.1, Lib.hid (HS.out.1.1 hlt), by simp; omega, H6.out.2⟩
      · have hd : decide (n < x.lo) = false := by simp; omega
        go_wp2_with fail
        go_roundg (r.length - (j + 1))
        case measure => omega
        case rel => exact ⟨j + 1, out, x.hi + 1, by go_num, rfl, by omega, Nat.le_refl _, HS.out.2.2.1, Lib.hid (HS.out.1.2 hlt), by omega, HS.out.2.2.2⟩
    · have hdj : decide ((j : Int) < (r.length : Int)) = false := decide_eq_false (by omega)
      have hje : j = r.length := by omega
      have hen := not_end HK.out.1.2 (hje ▸ HI.out)
      have HE := Lib.hid (And.intro hen (And.intro hoo hBo))
      clear hen hoo hBo hje
      obtain ⟨Y, rfl⟩ : ∃ Y : World, Y = wr := ⟨_, rfl⟩
      by_cases hle : n ≤ 1114111
      · have hd : decide (n ≤ 1114111) = true := by simp [hle]
        have hoA : OwnR (Y.alloc (.cells #[.int .i32 n, .int .i32 1114111] 66)) w1.heap.size (.slice A8 out.length c8) out := HE.out.2.1.below (below_al (Below.refl _ _) _)
        go_wp2_with (at_builtin; go_loud (refine wpList_appR rfl _ _ rfl w1.heap.size _ out rfl hoA (some ⟨Y.heap.size, 0, none⟩) [⟨n, 1114111⟩] 1 rfl (fun e => by cases e) (arrR_one (heap_new1 _ _)) (by simp only [List.length_cons, List.length_nil]; omega) (by have := HE.out.2.2.size; simp only [World.size_alloc]; omega) ?_))
        intro v6 w6 ho6 hg6
        have hB6 : Below w1.heap.size w1 w6 := below_app (below_al' HE.out.2.2) (by have := HE.out.2.2.size; simp only [World.size_alloc]; omega) hoA hg6
        have H6 := Lib.hid (And.intro ho6 hB6)
        clear ho6 hg6 hB6 hoA
        go_wp2_with fail
        go_ret
        exact ⟨_, _, rfl, HE.out.1.1 hle, H6.out.1.lower HK.out.2.2.1.size, HK.out.2.2.1.trans (H6.out.2.mono HK.out.2.2.1.size)⟩
      · have hd : decide (n ≤ 1114111) = false := by simp; omega
        go_wp2_with fail
        go_ret
        exact ⟨_, _, rfl, HE.out.1.2 hle, HE.out.2.1.lower HK.out.2.2.1.size, HK.out.2.2.1.trans (HE.out.2.2.mono HK.out.2.2.1.size)⟩
theorem ownR_cap {w : World} {base : Nat} {A : Option Addr} {n c : Nat} {l : List Rg} (h : OwnR w base (.slice A n c) l) : A = none → c = 0 := fun e => by
  rcases h.1.2 with ⟨h9, h8⟩ | ⟨g9, c9, cur9, h9, _⟩
  · simp only [Value.slice.injEq] at h9; exact h9.2.2
  · rw [e] at h9; cases h9
set_option maxRecDepth 100000 in
set_option maxHeartbeats 4000000 in
theorem union02_any (ok ok2 : Nat → Prop) (w : World) (A B : Option Addr) (c d : Nat) (a b : List Rg) (h : Arr ok w 2 RgC A a) (k : Arr ok2 w 2 RgC B b) (hA : A = none → c = 0) (hB : B = none → d = 0) (ha : a.length ≤ 40000000) (hb : b.length ≤ 40000000) :
    Calls Tryd.prog 81 #[.slice A a.length c, .slice B b.length d] w (NormP (a ++ b) w) := by
  have ho0 : OwnR (w.alloc (.cells #[] 66)) w.heap.size (.slice (some ⟨w.heap.size, 0, none⟩) 0 0) [] := ⟨World.ownsRow_made w #[] 0 (Nat.le_refl _) (by decide) rfl, by simp⟩
  have HK := Lib.hid (And.intro ho0 (And.intro h (And.intro k (And.intro hA hB))))
  clear ho0 h k hA hB
  go_enter Tryd.func81, Tryd.ntmps81
  go_wp2_with (at_builtin; go_loud (refine wpList_appR rfl _ _ rfl w.heap.size _ [] rfl HK.out.1 A a c rfl HK.out.2.2.2.1 (arrR_of HK.out.2.1 (below_al (Below.refl _ _) _)) (by simp; omega) (by simp) ?_))
  intro v4 w4 ho4 hg4
  have hB4 : Below w.heap.size w w4 := below_app (below_al (Below.refl _ w) _) (by simp) HK.out.1 hg4
  try rw [List.nil_append] at ho4
  obtain ⟨A4, c4, rfl, _, _⟩ := Owns.shape ho4
  rw [List.length_map] at ho4 ⊢
  have H4 := Lib.hid (And.intro ho4 hB4)
  clear ho4 hg4 hB4
  go_wp2_with (at_builtin; go_loud (refine wpList_appR rfl _ _ rfl w.heap.size (.slice A4 a.length c4) a rfl H4.out.1 B b d rfl HK.out.2.2.2.2 (arrR_of HK.out.2.2.1 H4.out.2) (by omega) H4.out.2.size ?_))
  intro v5 w5 ho5 hg5
  have hB5 : Below w.heap.size w w5 := below_app H4.out.2 H4.out.2.size H4.out.1 hg5
  have hlab : (a ++ b).length ≤ 100000000 := by rw [List.length_append]; omega
  obtain ⟨ab, hab⟩ : ∃ ab, a ++ b = ab := ⟨_, rfl⟩
  rw [hab] at ho5 hlab
  have HAB := Lib.hid hab
  clear hab
  obtain ⟨A5, c5, rfl, _, _, h5⟩ := ownR_arr ho5
  have hn := norm02_any _ w5 A5 c5 ab h5 hlab
  have H5 := Lib.hid hB5
  clear ho5 hg5 hB5 h5
  go_wp2_with (go_at_call 92; refine hn.mono ?_; clear hn; rintro e w6 ⟨v, r, rfl, hno, hor, hB⟩)
  go_ret
  exact ⟨v, r, rfl, by rw [HAB.out]; exact hno, hor.lower H5.out.size, H5.out.trans (hB.mono H5.out.size)⟩
/-- What Meet tells. -/
def MeetOf (a b r : List Rg) : Prop := SetOK r ∧ ∀ c, 0 ≤ c → c ≤ 1114111 → r.any (inR c) = (a.any (inR c) && b.any (inR c))
theorem meet_of {a b na nb u r : List Rg} (h1 : NotOf a na) (h2 : NotOf b nb) (h3 : NormOf (na ++ nb) u) (h4 : NotOf u r) : MeetOf a b r := by
  refine ⟨h4.1, fun c g0 g1 => ?_⟩
  rw [h4.2 c g0 g1, h3.2 c g0 g1, List.any_append, h1.2 c g0 g1, h2.2 c g0 g1]
  cases a.any (inR c) <;> cases b.any (inR c) <;> rfl
def MeetP (a b : List Rg) (w : World) (e : Ending) (w' : World) : Prop := ∃ v r, e = .returned v ∧ MeetOf a b r ∧ OwnR w' w.heap.size v r ∧ Below w.heap.size w w'
set_option maxRecDepth 100000 in
set_option maxHeartbeats 4000000 in
theorem meet02_any (ok ok2 : Nat → Prop) (w : World) (A B : Option Addr) (c d : Nat) (a b : List Rg) (h : Arr ok w 2 RgC A a) (k : Arr ok2 w 2 RgC B b) (ha : a.length ≤ 40000000) (hb : b.length ≤ 40000000) :
    Calls Tryd.prog 62 #[.slice A a.length c, .slice B b.length d] w (MeetP a b w) := by
  have hn1 := not02_any ok w A c a h (by omega)
  have hn2 := fun (W : World) (hW : Below w.heap.size w W) => not02_any (fun _ => True) W B d b (k.move (fun x hx hlt => ⟨hW.block x hlt, trivial⟩) (by omega)) (by omega)
  clear h k
  go_enter Tryd.func62, Tryd.ntmps62
  go_wp2_with (go_at_call 80; refine hn1.mono ?_; clear hn1; rintro e w1 ⟨v1, r1, rfl, hn1, ho1, hB1⟩)
  obtain ⟨A1, c1, rfl, _, _, h1⟩ := ownR_arr ho1
  have hl1 := setOK_len hn1.1 0 (fun x hx => (hn1.1.1 x hx).1) (by omega)
  have hcall := hn2 w1 hB1
  have H1 := Lib.hid (And.intro hn1 (And.intro ho1 (And.intro hB1 h1)))
  clear hn1 ho1 hB1 h1 hn2
  go_wp2_with (go_at_call 80; refine hcall.mono ?_; clear hcall; rintro e w2 ⟨v2, r2, rfl, hn2, ho2, hB2⟩)
  obtain ⟨A2, c2, rfl, _, _, h2⟩ := ownR_arr ho2
  have hl2 := setOK_len hn2.1 0 (fun x hx => (hn2.1.1 x hx).1) (by omega)
  have hcall := union02_any (fun _ => True) _ w2 A1 A2 c1 c2 r1 r2 (H1.out.2.2.2.move (fun x hx hlt => ⟨hB2.block x hlt, trivial⟩) (by omega)) h2 (ownR_cap H1.out.2.1) (ownR_cap ho2) (by omega) (by omega)
  have H2 := Lib.hid (And.intro hn2 (And.intro ho2 hB2))
  clear hn2 ho2 hB2 h2
  go_wp2_with (go_at_call 81; refine hcall.mono ?_; clear hcall; rintro e w3 ⟨v3, r3, rfl, hn3, ho3, hB3⟩)
  obtain ⟨A3, c3, rfl, _, _, h3⟩ := ownR_arr ho3
  have hl3 := setOK_len hn3.1 0 (fun x hx => (hn3.1.1 x hx).1) (by omega)
  have hcall := not02_any _ w3 A3 c3 r3 h3 (by omega)
  have H3 := Lib.hid (And.intro hn3 hB3)
  clear hn3 ho3 hB3 h3
  go_wp2_with (go_at_call 80; refine hcall.mono ?_; clear hcall; rintro e w4 ⟨v4, r4, rfl, hn4, ho4, hB4⟩)
  go_ret
  have b2 := H1.out.2.2.1.trans (H2.out.2.2.mono H1.out.2.2.1.size)
  have b3 := b2.trans (H3.out.2.mono b2.size)
  exact ⟨v4, r4, rfl, meet_of H1.out.1 H2.out.1 H3.out.1 hn4, ho4.lower b3.size, b3.trans (hB4.mono b3.size)⟩
theorem meet_len {a b r : List Rg} (ha : SetOK a) (hb : SetOK b) (h : MeetOf a b r) : decide (0 < r.length) = meetB a b := by
  rw [Bool.eq_iff_iff, decide_eq_true_eq, meetB_iff]
  constructor
  · intro h0
    obtain ⟨x, hx⟩ := List.exists_mem_of_length_pos h0
    obtain ⟨x0, x1, x2⟩ := h.1.1 x hx
    have h1 := h.2 x.lo x0 (by omega)
    rw [any_yes hx ⟨Int.le_refl _, x1⟩] at h1
    have h2 := (Bool.and_eq_true _ _).mp h1.symm
    exact ⟨x.lo, by rw [← any_has x0 (by omega)]; exact h2.1, by rw [← any_has x0 (by omega)]; exact h2.2⟩
  · rintro ⟨c, h1, h2⟩
    have hc : 0 ≤ c ∧ c ≤ 1114111 := by
      rw [hasB] at h1
      simp only [Bool.and_eq_true, decide_eq_true_eq] at h1
      omega
    rw [← any_has hc.1 hc.2] at h1 h2
    have h3 := h.2 c hc.1 hc.2
    rw [h1, h2] at h3
    cases r with
    | nil => simp at h3
    | cons x r => simp
end Go.Proofs.YthclpabmbhpohaaDoor
namespace Go.Proofs.YthclpabmbhpohaaDoor
open Go.RowKit
set_option linter.unusedVariables false
theorem get_nat (p : Pg) {n : Nat} (h : n < p.ins.length) : p.get (n : Int) = p.ins[n] := by
  unfold Pg.get; rw [Int.toNat_natCast, List.getElem?_eq_getElem h]; rfl
/-- An instruction's set, in any later world. -/
theorem ins_set {b : Nat} {w : World} {p : Pg} {A : Option Addr} {c : Nat} {v1 v2 : Value} (h : PgC (fun k => k < b) w p [.slice A p.ins.length c, v1, v2]) (hbs : b ≤ w.heap.size) (i : Nat) (hi : i < p.ins.length) :
    ∃ ad B d, A = some ad ∧ ∀ wr, Below b w wr → Arr (fun k => k < b) wr 2 RgC B p.ins[i].set ∧ wr.cell? ⟨(ad.add (i * 5)).block, (ad.add (i * 5)).off + 3, none⟩ = some (.slice B p.ins[i].set.length d) := by
  obtain ⟨ad, c, B, d, he, _, _, _, _, _, hk⟩ := ins_at h hbs i hi
  simp only [List.cons.injEq, Value.slice.injEq] at he
  exact ⟨ad, B, d, he.1.1, fun wr hw => ⟨(hk wr hw).1, (hk wr hw).2.2.2.2.1⟩⟩
def ApartP (p : Pg) (l : List Int) (w : World) (e : Ending) (w' : World) : Prop := e = .returned (.bool (apartB meetB p l)) ∧ Below w.heap.size w w'
theorem apart_no {me : List Rg → List Rg → Bool} {p : Pg} {l : List Int} {i j : Nat} (hi : i < l.length) (hj : j < i) (h : me (p.get l[i]).set (p.get l[j]).set = true) : apartB me p l = false := by
  unfold apartB
  rw [decide_eq_false_iff_not]
  intro hp
  have := List.pairwise_iff_getElem.1 hp j i (by omega) hi hj
  rw [h] at this
  cases this
theorem pw_snoc {R : Int → Int → Prop} {l : List Int} {i : Nat} (hi : i < l.length) (h1 : (l.take i).Pairwise R) (h2 : ∀ j (hj : j < i), R l[j] l[i]) : (l.take (i + 1)).Pairwise R := by
  rw [List.take_succ_eq_append_getElem hi]
  refine List.pairwise_append.2 ⟨h1, by simp, fun a ha b hb => ?_⟩
  rw [List.mem_singleton.1 hb]
  obtain ⟨j, hj, rfl⟩ := List.getElem_of_mem ha
  rw [List.getElem_take]
  rw [List.length_take] at hj
  exact h2 j (by omega)
set_option maxRecDepth 100000 in
set_option maxHeartbeats 4000000 in
theorem apart15_any (w : World) (p : Pg) (A L : Option Addr) (c lc : Nat) (l : List Int) (hp : PgC (fun k => k < w.heap.size) w p [.slice A p.ins.length c, .int .i64 p.start, .int .i64 p.caps])
    (hl : Arr (fun _ => True) w 1 (IntC .i64) L l) (hpc : ∀ x ∈ l, Pc p x) (hlen : l.length ≤ 100000000) (hN : p.ins.length ≤ 100000000) (hs : ∀ x ∈ p.ins, SetOK x.set) :
    Calls Tryd.prog 40 #[.agg #[.slice A p.ins.length c, .int .i64 p.start, .int .i64 p.caps], .slice L l.length lc] w (ApartP p l w) := by
  have hB1 : Below w.heap.size w (w.alloc (.cells #[.slice A p.ins.length c, .int .i64 p.start, .int .i64 p.caps] 28)) := below_al (Below.refl _ _) _
  have hbx : (w.alloc (.cells #[.slice A p.ins.length c, .int .i64 p.start, .int .i64 p.caps] 28)).heap[w.heap.size]? = some (.cells #[.slice A p.ins.length c, .int .i64 p.start, .int .i64 p.caps] 28 (0, 0)) := heap_new1 _ _
  have HK := Lib.hid (And.intro hp (And.intro hl (And.intro hpc (And.intro hs (And.intro hB1 hbx)))))
  clear hp hl hpc hs hB1 hbx
  go_enter Tryd.func40, Tryd.ntmps40
  go_wp2_with fail
  obtain ⟨bx, hbx⟩ : ∃ bx, w.heap.size = bx := ⟨_, rfl⟩
  obtain ⟨w1, hw1⟩ : ∃ w1, w.alloc (.cells #[.slice A p.ins.length c, .int .i64 p.start, .int .i64 p.caps] 28) = w1 := ⟨_, rfl⟩
  rw [hw1] at HK ⊢
  have HBX : Hid (w1.heap[bx]? = some (.cells #[.slice A p.ins.length c, .int .i64 p.start, .int .i64 p.caps] 28 (0, 0))) := Lib.hid (by rw [← hbx]; exact HK.out.2.2.2.2.2)
  rw [hbx]
  clear hbx hw1
  go_loopg [5] (l.length + 1) (fun g s5 wr => ∃ (i : Nat), s5 = .int .i64 i ∧ i ≤ l.length ∧ l.length + 1 - i ≤ g ∧ Hid ((l.take i).Pairwise fun a b => meetB (p.get b).set (p.get a).set = false) ∧ Below w1.heap.size w1 wr)
  case atStart => exact ⟨0, rfl, Nat.zero_le _, by omega, Lib.hid (by simp), Below.refl _ _⟩
  case round =>
    obtain ⟨i, rfl, hi, hg, HP, hBi⟩ := hrel
    obtain ⟨G, hGk⟩ : ∃ G, G = gk := ⟨_, rfl⟩
    rw [← hGk] at hg
    by_cases hil : i < l.length
    · have HBi := Lib.hid hBi
      clear hBi
      go_wp2_with fail
      obtain ⟨wo, rfl⟩ : ∃ wo : World, wo = wr := ⟨_, rfl⟩
      go_loopg [6] i (fun g2 s6 wz => ∃ (j : Nat), s6 = .int .i64 j ∧ j ≤ i ∧ i - j ≤ g2 ∧ Hid (∀ j' (hj : j' < j) (hjl : j' < l.length), meetB (p.get l[i]).set (p.get l[j']).set = false) ∧ Below w1.heap.size w1 wz)
      case atStart => exact ⟨0, rfl, Nat.zero_le _, Nat.le_refl _, Lib.hid (fun j' hj => by omega), HBi.out⟩
      case round =>
        obtain ⟨j, rfl, hj, hjg, HJ, hBj⟩ := hrel
        by_cases hji : j < i
        · have hjl : j < l.length := by omega
          obtain ⟨xi, hxi, hxil⟩ : ∃ xi : Nat, l[i] = (xi : Int) ∧ xi < p.ins.length := by
            have h9 := HK.out.2.2.1 _ (List.getElem_mem hil)
            exact ⟨l[i].toNat, by have := h9.1; omega, by have := h9.1; have := h9.2; omega⟩
          obtain ⟨xj, hxj, hxjl⟩ : ∃ xj : Nat, l[j] = (xj : Int) ∧ xj < p.ins.length := by
            have h9 := HK.out.2.2.1 _ (List.getElem_mem hjl)
            exact ⟨l[j].toNat, by have := h9.1; omega, by have := h9.1; have := h9.2; omega⟩
          obtain ⟨ad, B1, d1, hA, hk1⟩ := ins_set HK.out.1 (Nat.le_refl _) xi hxil
          subst hA
          obtain ⟨ad', B2, d2, hA, hk2⟩ := ins_set HK.out.1 (Nat.le_refl _) xj hxjl
          cases hA
          obtain ⟨ld, hL, hl1⟩ := ints_at HK.out.2.1 i hil
          subst hL
          obtain ⟨ld', hL, hl2⟩ := ints_at HK.out.2.1 j hjl
          cases hL
          rw [hxi] at hl1
          rw [hxj] at hl2
          have hBw : Below w.heap.size w wr := HK.out.2.2.2.2.1.trans (hBj.mono HK.out.2.2.2.2.1.size)
          have hmi := meet02_any _ _ wr.drew B1 B2 d1 d2 p.ins[xi].set p.ins[xj].set (hk1 wr.drew hBw.drew).1 (hk2 wr.drew hBw.drew).1 (by have := setOK_len (HK.out.2.2.2.1 _ (List.getElem_mem hxil)) 0 (fun x hx => ((HK.out.2.2.2.1 _ (List.getElem_mem hxil)).1 x hx).1) (by omega); omega) (by have := setOK_len (HK.out.2.2.2.1 _ (List.getElem_mem hxjl)) 0 (fun x hx => ((HK.out.2.2.2.1 _ (List.getElem_mem hxjl)).1 x hx).1) (by omega); omega)
          have hml := fun (r : List Rg) (h9 : MeetOf p.ins[xi].set p.ins[xj].set r) => meet_len (HK.out.2.2.2.1 _ (List.getElem_mem hxil)) (HK.out.2.2.2.1 _ (List.getElem_mem hxjl)) h9
          have hgi : (p.get l[i]).set = p.ins[xi].set := by rw [hxi, get_nat p hxil]
          have hgj : (p.get l[j]).set = p.ins[xj].set := by rw [hxj, get_nat p hxjl]
          obtain ⟨X, rfl⟩ : ∃ X : World, X = wr := ⟨_, rfl⟩
          have hXw : ∀ W', Below X.heap.size X W' → Below w.heap.size w W' := fun W' hW => hBw.trans (hW.mono hBw.size)
          have hX1 : ∀ W', Below X.heap.size X W' → W'.heap[bx]? = some (.cells #[.slice (some ad) p.ins.length c, .int .i64 p.start, .int .i64 p.caps] 28 (0, 0)) := fun W' hW => ((hBj.trans (hW.mono hBj.size)).block _ (heap_lt HBX.out)).trans HBX.out
          have HC : Hid ((∀ W', Below X.heap.size X W' → W'.cell? ⟨bx, 0, none⟩ = some (.slice (some ad) p.ins.length c)) ∧ (∀ W', Below X.heap.size X W' → W'.cell? (ld.add i) = some (.int .i64 xi)) ∧ (∀ W', Below X.heap.size X W' → W'.cell? (ld.add j) = some (.int .i64 xj)) ∧
              (∀ W', Below X.heap.size X W' → W'.cell? ⟨(ad.add (xi * 5)).block, (ad.add (xi * 5)).off + 3, none⟩ = some (.slice B1 p.ins[xi].set.length d1)) ∧ (∀ W', Below X.heap.size X W' → W'.cell? ⟨(ad.add (xj * 5)).block, (ad.add (xj * 5)).off + 3, none⟩ = some (.slice B2 p.ins[xj].set.length d2))) :=
            Lib.hid ⟨fun W' hW => by rw [cell_of_blk (hX1 W' hW)]; rfl, fun W' hW => ((hXw W' hW).cell (World.block_lt_of_cell? _ _ hl1)).trans hl1, fun W' hW => ((hXw W' hW).cell (World.block_lt_of_cell? _ _ hl2)).trans hl2, fun W' hW => (hk1 W' (hXw W' hW)).2, fun W' hW => (hk2 W' (hXw W' hW)).2⟩
          have HM := Lib.hid (And.intro hmi (And.intro hml (And.intro hgi (And.intro hgj (And.intro hBj (And.intro hxi hxj))))))
          clear hmi hml hgi hgj hBw hBj hxi hxj hk1 hk2 hl1 hl2 hXw hX1
          have hij : decide ((j : Int) < (i : Int)) = true := decide_eq_true (by omega)
          go_wp2_with fail
          refine wp_region_scr (fun W' => Below X.heap.size X W') [(true, 0, 18), (true, 1, 19), (true, 2, 20), (true, 3, 21), (true, 4, 22), (true, 5, 23), (true, 6, 24), (true, 7, 25), (true, 8, 26), (true, 9, 27), (true, 10, 28), (true, 11, 29), (true, 12, 30), (true, 13, 31), (true, 14, 32), (true, 15, 33), (true, 16, 34), (true, 17, 35), (false, 18, 36), (true, 19, 37), (true, 20, 38)] (by kernel_rfl) (by kernel_rfl) (fun _ _ _ _ _ h => h) rfl (by kernel_rfl) ?_
          have HV := Lib.hid (show Below X.heap.size X X.drew from (Below.refl _ _).drew)
          refine Scr.take (v := .pointer (some ⟨bx, 0, none⟩)) rfl rfl (yw_pure (by rfl) (fun _ => by go_simp)) HV.out ?_
          simp only [Act.put, List.setIfInBounds_toArray, List.set_cons_zero, List.set_cons_succ]
          refine Scr.take (v := .slice (some ad) p.ins.length c) rfl rfl (yw_cell 26 _ rfl ⟨bx, 0, none⟩ (.slice (some ad) p.ins.length c) rfl (by rfl) _ Tryd.underlying26 rfl (fun W hS => HC.out.1 W hS)) HV.out ?_
          simp only [Act.put, List.setIfInBounds_toArray, List.set_cons_zero, List.set_cons_succ]
          refine Scr.take (v := .slice (some ld) l.length lc) rfl rfl (yw_pure (by rfl) (fun _ => by go_simp)) HV.out ?_
          simp only [Act.put, List.setIfInBounds_toArray, List.set_cons_zero, List.set_cons_succ]
          refine Scr.take (v := .int .i64 i) rfl rfl (yw_pure (by rfl) (fun _ => by go_simp)) HV.out ?_
          simp only [Act.put, List.setIfInBounds_toArray, List.set_cons_zero, List.set_cons_succ]
          refine Scr.take (v := .pointer (some (ld.add i))) rfl rfl (yw_pure (by rfl) (fun _ => by go_simp)) HV.out ?_
          simp only [Act.put, List.setIfInBounds_toArray, List.set_cons_zero, List.set_cons_succ]
          refine Scr.take (v := .int .i64 xi) rfl rfl (yw_cell 3 _ rfl (ld.add i) (.int .i64 xi) rfl (by rfl) _ Tryd.underlying3 rfl (fun W hS => HC.out.2.1 W hS)) HV.out ?_
          simp only [Act.put, List.setIfInBounds_toArray, List.set_cons_zero, List.set_cons_succ]
          refine Scr.take (v := .pointer (some (ad.add (xi * 5)))) rfl rfl (yw_pure (by rfl) (fun _ => by go_simp)) HV.out ?_
          simp only [Act.put, List.setIfInBounds_toArray, List.set_cons_zero, List.set_cons_succ]
          refine Scr.take (v := .pointer (some ⟨(ad.add (xi * 5)).block, (ad.add (xi * 5)).off + 3, none⟩)) rfl rfl (yw_pure (by rfl) (fun _ => by go_simp)) HV.out ?_
          simp only [Act.put, List.setIfInBounds_toArray, List.set_cons_zero, List.set_cons_succ]
          refine Scr.take (v := .slice B1 p.ins[xi].set.length d1) rfl rfl (yw_cell 61 _ rfl ⟨(ad.add (xi * 5)).block, (ad.add (xi * 5)).off + 3, none⟩ (.slice B1 p.ins[xi].set.length d1) rfl (by rfl) _ Tryd.underlying61 rfl (fun W hS => HC.out.2.2.2.1 W hS)) HV.out ?_
          simp only [Act.put, List.setIfInBounds_toArray, List.set_cons_zero, List.set_cons_succ]
          refine Scr.take (v := .pointer (some ⟨bx, 0, none⟩)) rfl rfl (yw_pure (by rfl) (fun _ => by go_simp)) HV.out ?_
          simp only [Act.put, List.setIfInBounds_toArray, List.set_cons_zero, List.set_cons_succ]
          refine Scr.take (v := .slice (some ad) p.ins.length c) rfl rfl (yw_cell 26 _ rfl ⟨bx, 0, none⟩ (.slice (some ad) p.ins.length c) rfl (by rfl) _ Tryd.underlying26 rfl (fun W hS => HC.out.1 W hS)) HV.out ?_
          simp only [Act.put, List.setIfInBounds_toArray, List.set_cons_zero, List.set_cons_succ]
          refine Scr.take (v := .slice (some ld) l.length lc) rfl rfl (yw_pure (by rfl) (fun _ => by go_simp)) HV.out ?_
          simp only [Act.put, List.setIfInBounds_toArray, List.set_cons_zero, List.set_cons_succ]
          refine Scr.take (v := .int .i64 j) rfl rfl (yw_pure (by rfl) (fun _ => by go_simp)) HV.out ?_
          simp only [Act.put, List.setIfInBounds_toArray, List.set_cons_zero, List.set_cons_succ]
          refine Scr.take (v := .pointer (some (ld.add j))) rfl rfl (yw_pure (by rfl) (fun _ => by go_simp)) HV.out ?_
          simp only [Act.put, List.setIfInBounds_toArray, List.set_cons_zero, List.set_cons_succ]
          refine Scr.take (v := .int .i64 xj) rfl rfl (yw_cell 3 _ rfl (ld.add j) (.int .i64 xj) rfl (by rfl) _ Tryd.underlying3 rfl (fun W hS => HC.out.2.2.1 W hS)) HV.out ?_
          simp only [Act.put, List.setIfInBounds_toArray, List.set_cons_zero, List.set_cons_succ]
          refine Scr.take (v := .pointer (some (ad.add (xj * 5)))) rfl rfl (yw_pure (by rfl) (fun _ => by go_simp)) HV.out ?_
          simp only [Act.put, List.setIfInBounds_toArray, List.set_cons_zero, List.set_cons_succ]
          refine Scr.take (v := .pointer (some ⟨(ad.add (xj * 5)).block, (ad.add (xj * 5)).off + 3, none⟩)) rfl rfl (yw_pure (by rfl) (fun _ => by go_simp)) HV.out ?_
          simp only [Act.put, List.setIfInBounds_toArray, List.set_cons_zero, List.set_cons_succ]
          refine Scr.take (v := .slice B2 p.ins[xj].set.length d2) rfl rfl (yw_cell 61 _ rfl ⟨(ad.add (xj * 5)).block, (ad.add (xj * 5)).off + 3, none⟩ (.slice B2 p.ins[xj].set.length d2) rfl (by rfl) _ Tryd.underlying61 rfl (fun W hS => HC.out.2.2.2.2 W hS)) HV.out ?_
          simp only [Act.put, List.setIfInBounds_toArray, List.set_cons_zero, List.set_cons_succ]
          refine Scr.run rfl (by rfl) (fun K hK => ?_)
          go_simp
          refine HM.out.1.mono ?_
          rintro e w4 ⟨v4, r4, rfl, hm4, ho4, hb4⟩
          obtain ⟨A4, c4, rfl, _, _, _⟩ := ownR_arr ho4
          dsimp only
          have hB4 : Below X.heap.size X w4 := below_and (w1 := X.drew) hb4 (Below.refl _ _).drew
          refine hK _ _ hB4 ?_
          have hr4 := HM.out.2.1 r4 hm4
          have HV := Lib.hid hB4
          clear hK K hb4 ho4 hm4 hB4
          refine Scr.take (v := .int .i64 r4.length) rfl rfl (yw_pure (by rfl) (fun _ => by go_simp)) HV.out ?_
          simp only [Act.put, List.setIfInBounds_toArray, List.set_cons_zero, List.set_cons_succ]
          have hr5 : decide ((0 : Int) < (r4.length : Int)) = meetB p.ins[xi].set p.ins[xj].set := by rw [← hr4]; exact decide_eq_decide.2 (by omega)
          refine Scr.take (v := .bool (meetB p.ins[xi].set p.ins[xj].set)) rfl rfl (yw_pure (by rfl) (fun _ => by go_simp)) HV.out ?_
          simp only [Act.put, List.setIfInBounds_toArray, List.set_cons_zero, List.set_cons_succ]
          simp only [Scr]
          clear hr5
          cases hmb : meetB p.ins[xi].set p.ins[xj].set with
          | true =>
            rw [hmb] at hr4
            have HR := Lib.hid (show apartB meetB p l = false from apart_no hil hji (by rw [HM.out.2.2.1, HM.out.2.2.2.1]; exact hmb))
            clear hmb hr4
            go_wp2_with fail
            go_ret
            exact ⟨by rw [HR.out]; rfl, by have h9 := HM.out.2.2.2.2.1.trans (HV.out.mono HM.out.2.2.2.2.1.size); exact HK.out.2.2.2.2.1.trans (h9.mono HK.out.2.2.2.2.1.size)⟩
          | false =>
            have HMB := Lib.hid hmb
            clear hmb hr4
            go_wp2_with fail
            go_roundg (i - (j + 1))
            case measure => omega
            case rel => exact ⟨j + 1, by go_num, by omega, Nat.le_refl _, Lib.hid (fun j' hj9 hjl9 => by
              rcases Nat.lt_or_ge j' j with h9 | h9
              · exact HJ.out j' h9 hjl9
              · have : j' = j := by omega
                subst this; rw [HM.out.2.2.1, HM.out.2.2.2.1]; exact HMB.out), HM.out.2.2.2.2.1.trans (HV.out.mono HM.out.2.2.2.2.1.size)⟩
        · have hij : decide ((j : Int) < (i : Int)) = false := decide_eq_false (by omega)
          have hje : i = j := by omega
          have HPN := Lib.hid (pw_snoc hil HP.out (fun j' hj' => HJ.out j' (by omega) (by omega)))
          clear hje
          go_wp2_with fail
          go_roundg (G - 1)
          case measure => omega
          case rel => exact ⟨i + 1, by go_num, by omega, by omega, HPN, hBj⟩
    · have hdi : decide ((i : Int) < (l.length : Int)) = false := decide_eq_false (by omega)
      have hie : l.length = i := by omega
      have HR := Lib.hid (show apartB meetB p l = true from decide_eq_true (by have h9 := HP.out; rw [← hie, List.take_length] at h9; exact h9))
      clear hie
      go_wp2_with fail
      go_ret
      exact ⟨by rw [HR.out]; rfl, HK.out.2.2.2.2.1.trans (hBi.mono HK.out.2.2.2.2.1.size)⟩
end Go.Proofs.YthclpabmbhpohaaDoor
namespace Go.Proofs.YthclpabmbhpohaaDoor
open Go.RowKit
set_option linter.unusedVariables false
/-- A value is a slice of a row of one's own, and holds these. -/
def QAt (W : World) (base : Nat) (v : Value) (xs : List Int) : Prop :=
  ∃ g off c cs, v = .slice (some ⟨g, off, none⟩) xs.length c ∧ base ≤ g ∧ xs.length ≤ c ∧ c ≤ maxLen ∧ W.heap[g]? = some (.cells cs 3 (0, 0)) ∧ off + c ≤ cs.size ∧ ∀ j x, xs[j]? = some x → cs[off + j]? = some (.int .i64 x)
theorem QAt.kept {W W' : World} {base : Nat} {v : Value} {xs : List Int} (h : QAt W base v xs) (hk : ∀ g, v.ownBlock = some g → g < W.heap.size → W'.heap[g]? = W.heap[g]?) : QAt W' base v xs := by
  obtain ⟨g, off, c, cs, rfl, h1, h2, h3, h4, h5⟩ := h
  exact ⟨g, off, c, cs, rfl, h1, h2, h3, (hk g rfl (heap_lt h4)).trans h4, h5⟩
theorem QAt.below {W W' : World} {base : Nat} {v : Value} {xs : List Int} (h : QAt W base v xs) (hb : Below W.heap.size W W') : QAt W' base v xs := h.kept fun g _ hg => hb.block g hg
theorem QAt.cell {W : World} {base g off n c : Nat} {xs : List Int} (h : QAt W base (.slice (some ⟨g, off, none⟩) n c) xs) {j : Nat} (hj : j < xs.length) : W.cell? ⟨g, off + j, none⟩ = some (.int .i64 xs[j]) := by
  obtain ⟨g', off', c', cs, e, h1, h2, h3, h4, h5, h6⟩ := h
  simp only [Value.slice.injEq, Option.some.injEq, Addr.mk.injEq] at e
  obtain ⟨⟨rfl, rfl, _⟩, _, _⟩ := e
  rw [cell_of_blk h4]
  exact h6 j _ (List.getElem?_eq_getElem hj)
theorem QAt.tail {W : World} {base g off c : Nat} {x : Int} {xs : List Int} (h : QAt W base (.slice (some ⟨g, off, none⟩) (xs.length + 1) c) (x :: xs)) : QAt W base (.slice (some (if c - 1 = 0 then ⟨g, off, none⟩ else ⟨g, off + 1, none⟩)) xs.length (c - 1)) xs := by
  obtain ⟨g', off', c', cs, e, h1, h2, h3, h4, h5, h6⟩ := h
  simp only [Value.slice.injEq, Option.some.injEq, Addr.mk.injEq] at e
  obtain ⟨⟨rfl, rfl, _⟩, _, rfl⟩ := e
  simp only [List.length_cons] at h2
  by_cases hc : c - 1 = 0
  · have hx : xs = [] := List.eq_nil_of_length_eq_zero (by omega)
    subst hx
    rw [if_pos hc]
    exact ⟨g, off, c - 1, cs, rfl, h1, by simp, by omega, h4, by omega, by simp⟩
  · rw [if_neg hc]
    exact ⟨g, off + 1, c - 1, cs, rfl, h1, by omega, by omega, h4, by omega, fun j y hy => by rw [Nat.add_right_comm, Nat.add_assoc]; exact h6 (j + 1) y (by simpa using hy)⟩
theorem QAt.own {W : World} {base n c : Nat} {A : Option Addr} {xs : List Int} (h : W.ownsRow base 3 1 (.slice A n c) n (xs.map (Value.int .i64))) (hn : n = xs.length) (h0 : 0 < n) : QAt W base (.slice A n c) xs := by
  subst hn
  rcases h.2 with ⟨_, h1⟩ | ⟨g, cap, cur, hv, hb, hg, h1, h2, h3, h4⟩
  · omega
  · simp only [Value.slice.injEq] at hv
    obtain ⟨rfl, _, rfl⟩ := hv
    refine ⟨g, 0, c, cur, rfl, hb, h1, h2, hg, by omega, fun j x hj => ?_⟩
    have hjl : j < xs.length := (List.getElem?_eq_some_iff.1 hj).1
    have h5 : (xs.map (Value.int .i64))[j]? = some (.int .i64 x) := by rw [List.getElem?_map, hj]; rfl
    rw [← h4, List.getElem?_take_of_lt (by omega), Array.getElem?_toList] at h5
    rw [Nat.zero_add]; exact h5
set_option maxRecDepth 100000 in
theorem wpList_appQ {ops : Array Oper} {rest : List Oper} {o : Oper} {a : Act} {Q : Exit → Act → World → Prop} {w : World} (hgd : o.guard = none) (s x : Operand)
    (ho : o.op = .call { callee := .builtin .append, args := #[s, x], argTypes := #[35, 35] }) (base : Nat) (v : Value) (xs : List Int) (hs : a.eval s = v) (hq : QAt w base v xs)
    (g0 : Nat) (y : Int) (hx : a.eval x = .slice (some ⟨g0, 0, none⟩) 1 1) (hg : w.heap[g0]? = some (.cells #[.int .i64 y] 3 (0, 0))) (hmax : xs.length + 1 ≤ 1000000000) (hbase : base ≤ w.heap.size)
    (h : ∀ v' w', QAt w' base v' (xs ++ [y]) → w.grownBy w' v.ownBlock → (∀ g, v'.ownBlock = some g → v.ownBlock = some g ∨ w.heap.size ≤ g) → wpList Tryd.prog ops Q rest (a.put o.dst v') w') : wpList Tryd.prog ops Q (o :: rest) a w := by
  obtain ⟨i, hi, hz0, hz1, hz2⟩ := info_parts infoI
  obtain ⟨g, off, c, cs, rfl, h1, h2, h3, h4, h5, h6⟩ := hq
  have hnews : ∀ j u, [Value.int .i64 y][j]? = some u → w.cell? ((⟨g0, 0, none⟩ : Addr).add j) = some u := fun j u hj => by
    rw [Addr.add_mid, Nat.zero_add, cell_of_blk hg]; simpa using hj
  refine wpList_plain hgd fun K hK => ?_
  unfold Oper.wp execOp
  simp only [ho, resolve, invoke, builtin, Sem.run_bind, Sem.run_pure, Result.andThen_ok, List.map_toArray, List.map_cons, List.map_nil, hs, hx]
  by_cases hroom : xs.length + 1 ≤ c
  · have hlt : off + xs.length < cs.size := by omega
    have hr := run_append_room_cells (P := Tryd.prog) w 35 o.type 3 i Tryd.underlying35 hi g off xs.length c ⟨g0, 0, none⟩ 1 1 [.int .i64 y] (by rw [hz1]; rfl) hnews (by intro u hu; simp at hu; subst hu; rfl) hroom
      (fun j hj => by have : j = 0 := (by simpa using hj); subst this; rw [hz1, Nat.mul_one, Nat.add_zero, cell_of_blk h4, Array.getElem?_eq_getElem hlt]; rfl)
      (fun j hj => by have : j = 0 := (by simpa using hj); subst this; simp [World.frozen?, h4])
    rw [hz1, Nat.mul_one] at hr
    rw [hr]
    have hset : w.setCells g (off + xs.length) [.int .i64 y] = w.setCell ⟨g, off + xs.length, none⟩ (.int .i64 y) := rfl
    rw [hset]
    refine hK _ _ (h _ _ ⟨g, off, c, cs.setIfInBounds (off + xs.length) (.int .i64 y), by simp, h1, by simpa using hroom, h3, heap_set0 h4 _ _, by simpa using h5, fun j z hj => ?_⟩ (grown_set0 w g _ _) (fun g h => .inl h))
    rw [Array.getElem?_setIfInBounds]
    by_cases e : off + xs.length = off + j
    · rw [if_pos e, if_pos hlt]
      have : j = xs.length := by omega
      subst this
      simp at hj
      rw [hj]
    · rw [if_neg e]
      have hjl : j < xs.length := by
        have := (List.getElem?_eq_some_iff.1 hj).1
        simp at this; omega
      rw [List.getElem?_append_left hjl] at hj
      exact h6 j z hj
  · obtain ⟨v', w', hr, hown, hgr⟩ := run_append_arg_grows (P := Tryd.prog) w 35 o.type 3 i _ 1 8 Tryd.underlying35 hi hz0 hz1 hz2 rfl (by decide) ⟨g, off, none⟩ xs.length c (xs.map (Value.int .i64)) (by simp)
      (fun j u hj => by
        rw [List.getElem?_map] at hj
        cases hxj : xs[j]? with
        | none => rw [hxj] at hj; cases hj
        | some z =>
          rw [hxj] at hj
          rw [Addr.add_mid, cell_of_blk h4, h6 j z hxj]
          exact hj) ⟨g0, 0, none⟩ 1 1 [.int .i64 y] rfl hnews (by omega) (by unfold maxLen; omega) (by omega)
    rw [hr]
    obtain ⟨A', c', rfl⟩ : ∃ A' c', v' = .slice A' (xs.length + 1) c' := by
      rcases hown.2 with ⟨_, h9⟩ | ⟨g', cap', cur', hv', _⟩
      · omega
      · exact ⟨_, _, hv'⟩
    refine hK _ _ (h _ _ (QAt.own (xs := xs ++ [y]) ?_ (by simp) (by omega)) ⟨hgr.os, hgr.tape, hgr.output, hgr.size, fun k hk _ => hgr.block k hk (by simp)⟩ (fun g hg => .inr (hown.lt g hg).1))
    have h9 : (xs ++ [y]).map (Value.int .i64) = xs.map (Value.int .i64) ++ [.int .i64 y] := by simp
    rw [h9]
    exact ⟨hown.1, hown.2.imp id fun ⟨g', cap', cur', k1, k2, k3⟩ => ⟨g', cap', cur', k1, Nat.le_trans hbase k2, k3⟩⟩
end Go.Proofs.YthclpabmbhpohaaDoor
