/-
  slices.Contains over whole numbers. No condition.
  onepass.Admits. No condition but bounds.
  bitstate.Admits. No condition but bounds.
  (*bitstate.Machine).Find: the first match of a machine with bits. No condition but bounds.
-/
import Derived.Test.YthclpabmbhpohaaDoorBOneG7
import Derived.Deep.LoopGhost
import Derived.WalkMore
import Derived.Lib.SliceRun
import Derived.Lib.MinMax
set_option linter.unusedVariables false
set_option linter.unusedSimpArgs false
namespace Go.Proofs.YthclpabmbhpohaaDoor
open Go.RowKit
set_option linter.unusedVariables false
set_option maxHeartbeats 400000 in
theorem indexI_any (w : World) (ok : Nat → Prop) (A : Option Addr) (c : Nat) (xs : List Int) (v : Int) (h : Arr ok w 1 (IntC .i64) A xs) (hl : xs.length ≤ 9223372036854775807) :
    Calls Tryd.prog 60 #[.slice A xs.length c, .int .i64 v] w fun e w' => e = .returned (.int .i64 (idxI xs v)) ∧ w = w' := by
  go_enter Tryd.func60, Tryd.ntmps60
  go_wp2
  go_loop [8] (fun i => ∃ k : Nat, k ≤ xs.length ∧ i = .int .i64 k ∧ ∀ j (hj : j < xs.length), j < k → ¬ v = xs[j]) (fun i => xs.length - (intOf i).toNat)
  case atStart => exact ⟨0, Nat.zero_le _, rfl, fun j _ h => by omega⟩
  case round =>
    obtain ⟨k, hk, rfl, hb⟩ := hrel
    have HB := Lib.hid hb
    clear hb
    by_cases hlt : k < xs.length
    · obtain ⟨ad, rfl, hc⟩ := ints_at h k hlt
      by_cases he : (v == xs[k]) = true
      · go_wp2
        go_ret
        exact ⟨ret_int (idxI_some hlt he HB.out).symm, rfl⟩
      · have he' : (v == xs[k]) = false := by simpa using he
        clear he
        have HE := Lib.hid he'
        go_wp2
        go_round
        case rel =>
          exact ⟨k + 1, by omega, by go_num, fun j hj hjk => by
            rcases Nat.lt_or_ge j k with h1 | h1
            · exact HB.out j hj h1
            · obtain rfl : j = k := by omega
              simpa using HE.out⟩
        case measure => simp [intOf]; omega
    · obtain rfl : k = xs.length := by omega
      go_wp2
      go_ret
      exact ⟨ret_int (idxI_none (fun j hj => HB.out j hj hj)).symm, rfl⟩
set_option maxHeartbeats 400000 in
theorem containsI_any (w : World) (ok : Nat → Prop) (A : Option Addr) (c : Nat) (xs : List Int) (v : Int) (h : Arr ok w 1 (IntC .i64) A xs) (hl : xs.length ≤ 9223372036854775807) :
    Calls Tryd.prog 38 #[.slice A xs.length c, .int .i64 v] w fun e w' => e = .returned (.bool (xs.contains v)) ∧ w = w' := by
  have hg := @idxI_ge xs v
  have HG := Lib.hid hg
  clear hg
  go_enter Tryd.func38, Tryd.ntmps38
  go_wp2_with (go_at_call 60; refine (indexI_any w ok A c xs v h hl).mono ?_; rintro e w' ⟨rfl, rfl⟩)
  go_ret
  exact ⟨ret_bool HG.out, rfl⟩
end Go.Proofs.YthclpabmbhpohaaDoor
namespace Go.Proofs.YthclpabmbhpohaaDoor
open Go.RowKit Go.Maps
set_option linter.unusedVariables false
theorem right_prem {p : Pg} (hset : ∀ x ∈ p.ins, x.set.length ≤ 1000000000) : ∀ x ∈ p.ins, x.op = 2 → RightOK rightR x.set := fun x hx _ => right_ok x.set (hset x hx)
theorem check_vals (p : Pg) : checkS rightR p = 0 ∨ checkS rightR p = 121 := by
  unfold checkS
  split
  · exact .inr rfl
  · split
    · exact .inr rfl
    · exact .inl rfl
def admitsB (p : Pg) : Bool := (checkS rightR p == 0) && admW meetB un2 p
set_option maxRecDepth 100000 in
set_option maxHeartbeats 1000000 in
theorem admits_no (ok : Nat → Prop) (w : World) (p : Pg) (ps : List Value) (hp : PgC ok w p ps) (hN : p.ins.length ≤ 140737488351232) (hset : ∀ x ∈ p.ins, x.set.length ≤ 1000000000) (hc : checkS rightR p = 121 ∨ anchR p = false) :
    Calls Tryd.prog 23 #[.agg ps.toArray] w fun e w' => e = .returned (.bool false) ∧ Below w.heap.size w w' := by
  have hB := below_al (Below.refl w.heap.size w) (.cells ps.toArray 28)
  have hck := check_any rightR ok _ p ps (hp.below hB) hN (right_prem hset)
  have han := fun (W : World) (hW : Below w.heap.size w W) hl hs hN => anchored_any ok W p ps (hp.below hW) hl hs hN
  obtain ⟨A, c, rfl, p1, p2, _⟩ := hp
  have hx := heap_new1 w (.cells #[.slice A p.ins.length c, .int .i64 p.start, .int .i64 p.caps] 28)
  rcases check_vals p with h0 | h0
  · have ha : anchR p = false := hc.elim (fun h => by rw [h0] at h; cases h) id
    have hl := check_leads h0
    have hk := check_ok h0
    rw [h0] at hck
    have HH := Lib.hid (And.intro hl (And.intro hk (And.intro hB (And.intro hx ha))))
    clear hl hk hB hx ha hc h0
    go_enter Tryd.func23, Tryd.ntmps23
    go_wp2_with fail
    go_step3
    go_wp2_with fail
    refine hck.mono ?_
    clear hck
    rintro e w1 ⟨rfl, hb1⟩
    dsimp only
    have h1 := (hb1.block w.heap.size (by simp)).trans HH.out.2.2.2.1
    obtain ⟨q0, q1, q2⟩ := cells3 h1
    have hn := heap_lt h1
    have hB1 := below_and hb1 HH.out.2.2.1
    have ha := han w1 hB1 HH.out.1 HH.out.2.1.2.2.1 (by have := HH.out.2.1; omega)
    rw [HH.out.2.2.2.2] at ha
    have H1 := Lib.hid hB1
    clear h1 hb1 hB1
    go_wp2_with fail
    refine ha.mono ?_
    clear ha
    rintro e w2 ⟨rfl, hb2⟩
    dsimp only
    have H2 := Lib.hid (below_and hb2 H1.out)
    clear hb2
    go_wp2_with fail
    try rw [Exit.noGoto_ret]
    go_ret
    exact ⟨rfl, H2.out⟩
  · rw [h0] at hck
    have HH := Lib.hid hB
    clear hB hx hc h0 han
    go_enter Tryd.func23, Tryd.ntmps23
    go_wp2_with fail
    go_step3
    go_wp2_with fail
    refine hck.mono ?_
    clear hck
    rintro e w1 ⟨rfl, hb1⟩
    dsimp only
    have H1 := Lib.hid (below_and hb1 HH.out)
    clear hb1
    go_wp2_with fail
    try rw [Exit.noGoto_ret]
    go_ret
    exact ⟨rfl, H1.out⟩
set_option maxRecDepth 100000 in
set_option maxHeartbeats 4000000 in
theorem admits_yes (ok : Nat → Prop) (w : World) (p : Pg) (ps : List Value) (hp : PgC ok w p ps) (hset : ∀ x ∈ p.ins, x.set.length ≤ 1000000000) (h0 : checkS rightR p = 0) (hA : anchR p = true) :
    Calls Tryd.prog 23 #[.agg ps.toArray] w fun e w' => e = .returned (.bool (admG p (simpleW meetB un2 p) (p.ins.length + 1) 0 [p.start])) ∧ Below w.heap.size w w' := by
  have hk := check_ok h0
  have hl := check_leads h0
  have hB := below_al (Below.refl w.heap.size w) (.cells ps.toArray 28)
  have hck := check_any rightR ok _ p ps (hp.below hB) (by omega) (right_prem hset)
  have han := fun (W : World) (hW : Below w.heap.size w W) => anchored_any ok W p ps (hp.below hW) hl hk.2.2.1 (by omega)
  have hpg : PgC (fun k => k < w.heap.size) w p ps := hp.old.move fun b hb hlt => ⟨rfl, hb.2⟩
  have hsi := fun (W : World) (hW : Below w.heap.size w W) (pc : Int) (hpc : Pc p pc) => simple_any ok W p ps (hp.below hW) hl pc hpc (by omega) hset
  obtain ⟨A, c, rfl, p1, p2, _⟩ := hp
  have hx := heap_new1 w (.cells #[.slice A p.ins.length c, .int .i64 p.start, .int .i64 p.caps] 28)
  rw [h0] at hck
  have HH := Lib.hid (And.intro hl (And.intro hk (And.intro hB (And.intro hx (And.intro hA (And.intro hsi hpg))))))
  have hNn : p.ins.length ≤ 10000 := hk.2.1
  clear hl hk hB hx h0 hsi hpg
  obtain ⟨R, hR⟩ : ∃ R, admG p (simpleW meetB un2 p) (p.ins.length + 1) 0 [p.start] = R := ⟨_, rfl⟩
  rw [hR]
  have HR := Lib.hid hR
  clear hR
  go_enter Tryd.func23, Tryd.ntmps23
  go_wp2_with fail
  go_step3
  go_wp2_with fail
  refine hck.mono ?_
  clear hck
  rintro e w1 ⟨rfl, hb1⟩
  dsimp only
  have h1 := (hb1.block w.heap.size (by simp)).trans HH.out.2.2.2.1
  obtain ⟨q0, q1, q2⟩ := cells3 h1
  have hn := heap_lt h1
  have hB1 := below_and hb1 HH.out.2.2.1
  have ha := han w1 hB1
  rw [hA] at ha
  have H1 := Lib.hid (And.intro hB1 h1)
  clear h1 hb1 hB1 hA han
  go_wp2_with fail
  refine ha.mono ?_
  clear ha
  rintro e w2 ⟨rfl, hb2⟩
  dsimp only
  have h2 := (hb2.block w.heap.size hn).trans H1.out.2
  clear q0 q1 q2 hn
  obtain ⟨q0, q1, q2⟩ := cells3 h2
  have hn := heap_lt h2
  have H2 := Lib.hid (And.intro (below_and hb2 H1.out.1) h2)
  clear hb2 h2
  go_wp2_with fail
  go_step3
  go_wp2_with fail
  clear q0 q1 q2
  go_loopg [3, 4, 5] (p.ins.length + 1) (fun g s3 s4 s5 wr => ∃ (k : Nat) (td : List Int), s5 = .int .i64 k ∧ s4 = .bool true ∧ td.Nodup ∧ Hid (∀ x ∈ td, Pc p x) ∧ k ≤ td.length ∧ p.ins.length + 1 - k ≤ g ∧ Hid (admG p (simpleW meetB un2 p) (p.ins.length + 1 - k) k td = R) ∧ Owns wr w2.heap.size 3 1 s3 (td.map i64C) ∧ Below w.heap.size w wr ∧ w2.heap.size < wr.heap.size ∧ wr.heap[w.heap.size]? = some (.cells #[.slice A p.ins.length c, .int .i64 p.start, .int .i64 p.caps] 28 (0, 0)))
  case atStart =>
    refine ⟨0, [p.start], rfl, rfl, by simp, Lib.hid (fun x hx => by rw [List.mem_singleton.1 hx]; exact HH.out.2.1.2.2.1), by simp, Nat.le_refl _, Lib.hid HR.out, owns_lit w2 _ (Nat.le_refl _) _, below_al H2.out.1 _, by simp, (Below.heap_alloc _ _ _ hn).trans H2.out.2⟩
  case round =>
    obtain ⟨k, td, rfl, rfl, hnd, HP, hk, hg, HG, hown, hBr, hsz, hbk⟩ := hrel
    obtain ⟨wo, rfl⟩ : ∃ wo : World, wo = wr := ⟨_, rfl⟩
    obtain ⟨G, hGk⟩ : ∃ G, G = gk := ⟨_, rfl⟩
    rw [← hGk] at hg
    have htl := nodup_len hnd HP.out
    have hsh := hown.shape
    obtain ⟨A3, c3, rfl, _, _⟩ := hsh
    rw [List.length_map] at hown ⊢
    have HK := Lib.hid (And.intro hnd (And.intro hg (And.intro hown (And.intro hBr hbk))))
    clear hnd hg hown hBr hbk
    by_cases hlt : k < td.length
    · have hkp : k < td.length := hlt
      have hpc := HP.out td[k] (List.getElem_mem hkp)
      have harr := ownI64_arr HK.out.2.2.1
      obtain ⟨ad, hA3, hcell⟩ := ints_at harr k hkp
      subst hA3
      have hS := HH.out.2.2.2.2.2.1 wo.drew (HK.out.2.2.2.1.drew) td[k] hpc
      have hlist := simpleW_list meetB un2 p HH.out.1 td[k] hpc
      have hG1 := HG.out
      rw [show p.ins.length + 1 - k = (p.ins.length - k) + 1 by omega, admG, List.getElem?_eq_getElem hkp] at hG1
      dsimp only at hG1
      generalize td[k] = z at *
      generalize hr : simpleW meetB un2 p z = r at *
      go_wp2_with fail
      refine wp_region_scr (fun W' => W'.heap[w.heap.size]? = some (.cells ([.slice A p.ins.length c, .int .i64 p.start, .int .i64 p.caps] : List Value).toArray 28 (0, 0)) ∧ W'.cell? (ad.add k) = some (.int .i64 z)) [(true, 0, 29), (true, 1, 30), (true, 2, 31), (true, 3, 32), (true, 4, 33), (false, 5, 34), (true, 6, 28), (true, 7, 35), (true, 8, 36), (true, 9, 6), (true, 10, 7)] (by kernel_rfl) (by kernel_rfl) (fun _ _ _ _ _ h => h) rfl (by kernel_rfl) ?_
      have HV := Lib.hid (show (fun W' => W'.heap[w.heap.size]? = some (.cells ([.slice A p.ins.length c, .int .i64 p.start, .int .i64 p.caps] : List Value).toArray 28 (0, 0)) ∧ W'.cell? (ad.add k) = some (.int .i64 z)) wo.drew from ⟨HK.out.2.2.2.2, hcell⟩)
      refine Scr.take (v := .agg ([.slice A p.ins.length c, .int .i64 p.start, .int .i64 p.caps] : List Value).toArray) rfl rfl (yw_row 28 _ rfl w.heap.size [.slice A p.ins.length c, .int .i64 p.start, .int .i64 p.caps] 28 rfl (by rfl) _ Tryd.underlying28 rfl (by kernel_rfl) (fun W hS => hS.1)) HV.out ?_
      simp only [Act.put, List.setIfInBounds_toArray, List.set_cons_zero, List.set_cons_succ]
      refine Scr.take (v := .slice (some ad) td.length c3) rfl rfl (yw_pure (by rfl) (fun _ => by go_simp)) HV.out ?_
      simp only [Act.put, List.setIfInBounds_toArray, List.set_cons_zero, List.set_cons_succ]
      refine Scr.take (v := .int .i64 k) rfl rfl (yw_pure (by rfl) (fun _ => by go_simp)) HV.out ?_
      simp only [Act.put, List.setIfInBounds_toArray, List.set_cons_zero, List.set_cons_succ]
      refine Scr.take (v := .pointer (some (ad.add k))) rfl rfl (yw_pure (by rfl) (fun _ => by go_simp)) HV.out ?_
      simp only [Act.put, List.setIfInBounds_toArray, List.set_cons_zero, List.set_cons_succ]
      refine Scr.take (v := .int .i64 z) rfl rfl (yw_cell 3 _ rfl (ad.add k) (.int .i64 z) rfl (by rfl) _ Tryd.underlying3 rfl (fun W hS => hS.2)) HV.out ?_
      simp only [Act.put, List.setIfInBounds_toArray, List.set_cons_zero, List.set_cons_succ]
      refine Scr.run rfl (by rfl) (fun K hK => ?_)
      go_simp
      refine hS.mono ?_
      clear hS
      rintro e w3 ⟨B3, d3, rfl, hd1, hd2, harr3, hb3⟩
      dsimp only
      have hBw : Below wo.heap.size wo w3 := below_and (w1 := wo.drew) hb3 (Below.refl _ _).drew
      have hV3 : (fun W' => W'.heap[w.heap.size]? = some (.cells ([.slice A p.ins.length c, .int .i64 p.start, .int .i64 p.caps] : List Value).toArray 28 (0, 0)) ∧ W'.cell? (ad.add k) = some (.int .i64 z)) w3 := ⟨(hBw.block _ (heap_lt HK.out.2.2.2.2)).trans HK.out.2.2.2.2, (World.cell?_of_block (hBw.block _ (World.block_lt_of_cell? wo _ hcell))).trans hcell⟩
      refine hK _ _ hV3 ?_
      clear hK K HV
      have HV := Lib.hid hV3
      have H3 := Lib.hid (And.intro hBw (And.intro harr3 hlist))
      have HG1 := Lib.hid hG1
      clear hV3 hb3 hBw harr3 hlist hG1
      refine Scr.take (v := .tuple #[.slice B3 r.1.length d3, .bool r.2]) rfl rfl (yw_pure (by rfl) (fun _ => by go_simp)) HV.out ?_
      simp only [Act.put, List.setIfInBounds_toArray, List.set_cons_zero, List.set_cons_succ]
      refine Scr.take (v := .slice B3 r.1.length d3) rfl rfl (yw_pure (by rfl) (fun _ => by go_simp)) HV.out ?_
      simp only [Act.put, List.setIfInBounds_toArray, List.set_cons_zero, List.set_cons_succ]
      refine Scr.take (v := .bool r.2) rfl rfl (yw_pure (by rfl) (fun _ => by go_simp)) HV.out ?_
      simp only [Act.put, List.setIfInBounds_toArray, List.set_cons_zero, List.set_cons_succ]
      refine Scr.take (v := .slice B3 r.1.length d3) rfl rfl (yw_pure (by rfl) (fun _ => by go_simp)) HV.out ?_
      simp only [Act.put, List.setIfInBounds_toArray, List.set_cons_zero, List.set_cons_succ]
      refine Scr.take (v := .bool r.2) rfl rfl (yw_pure (by rfl) (fun _ => by go_simp)) HV.out ?_
      simp only [Act.put, List.setIfInBounds_toArray, List.set_cons_zero, List.set_cons_succ]
      simp only [Scr]
      cases hb : r.2 with
      | false =>
        have HF := Lib.hid hb
        go_wp2_with fail
        try rw [Exit.noGoto_ret]
        go_ret
        refine ⟨ret_bool ?_, HK.out.2.2.2.1.trans (H3.out.1.mono HK.out.2.2.2.1.size)⟩
        have h9 := HG1.out
        rw [if_pos HF.out] at h9
        exact h9
      | true =>
        have HF := Lib.hid hb
        have hg1 := HG1.out
        rw [if_neg (by rw [hb]; simp)] at hg1
        have HG2 := Lib.hid hg1
        clear hb hg1 HG HG1
        have hrl : r.1.length ≤ 140737488351232 ∨ True := .inr trivial
        have hd2' : r.1.length ≤ 9223372036854775807 := by unfold maxLen at hd2; omega
        go_wp2_with fail
        have hz3 : wo.heap.size ≤ w3.heap.size := H3.out.1.size
        go_loopg [3, 42] r.1.length (fun g2 s3 s42 wy => ∃ j : Nat, j + g2 = r.1.length ∧ s42 = .int .i64 j ∧ Owns wy w2.heap.size 3 1 s3 ((putOuts p (r.1.take j) td).map i64C) ∧ (∀ g, s3.ownBlock = some g → g < wo.heap.size ∨ w3.heap.size ≤ g) ∧ Arr (fun k => wo.heap.size ≤ k ∧ k < w3.heap.size) wy 1 (IntC .i64) B3 r.1 ∧ Below w.heap.size w wy ∧ wy.heap[w.heap.size]? = some (.cells #[.slice A p.ins.length c, .int .i64 p.start, .int .i64 p.caps] 28 (0, 0)) ∧ w3.heap.size ≤ wy.heap.size)
        case atStart =>
          refine ⟨0, by omega, rfl, ?_, fun g hg => .inl ?_, H3.out.2.1.move (fun k hk hlt => ⟨rfl, hk, hlt⟩) (by omega), HK.out.2.2.2.1.trans (H3.out.1.mono HK.out.2.2.2.1.size), (H3.out.1.block _ (heap_lt HK.out.2.2.2.2)).trans HK.out.2.2.2.2, Nat.le_refl _⟩
          · rw [List.take_zero]; exact HK.out.2.2.1.below H3.out.1
          · exact (HK.out.2.2.1.lt g hg).2
        case round =>
          obtain ⟨j, hj, rfl, hown, hob, harr, hBy, hby, hsy⟩ := hrel
          obtain ⟨qa0, qa1, qa2⟩ := cells3 hby
          have hny := heap_lt hby
          have htd : ∀ x ∈ putOuts p (r.1.take j) td, Pc p x := putOuts_mem p (Pc p) _ _ HP.out (fun x hx => (HH.out.1 x (H3.out.2.2 x (List.mem_of_mem_take hx)).1).1 (.inl (H3.out.2.2 x (List.mem_of_mem_take hx)).2))
          have htn := putOuts_nodup p (r.1.take j) td HK.out.1
          have htl2 := nodup_len htn htd
          by_cases hlj : j < r.1.length
          · obtain ⟨bd, hB3, hcl⟩ := ints_at harr j hlj
            have hxp := H3.out.2.2 _ (List.getElem_mem hlj)
            have hsn := putOuts_snoc p (r.1.take j) r.1[j] td
            have hta : r.1.take (j + 1) = r.1.take j ++ [r.1[j]] := List.take_succ_eq_append_getElem hlj
            generalize r.1[j] = y at *
            obtain ⟨m, rfl⟩ := Int.eq_ofNat_of_zero_le hxp.1.1
            have hm : m < p.ins.length := by have := hxp.1.2; omega
            obtain ⟨ad4, c4, B4, d4, hps4, hc4, _, _, _, _, hins⟩ := ins_at HH.out.2.2.2.2.2.2 (Nat.le_refl _) m hm
            simp only [List.cons.injEq, Value.slice.injEq, and_true, true_and] at hps4
            obtain ⟨rfl, rfl⟩ := hps4
            obtain ⟨_, g0, g1, g2, g3, g4⟩ := hins wr hBy
            rw [get_eq p m hm] at hsn
            have hsh := hown.shape
            obtain ⟨A6, c6, rfl, _, _⟩ := hsh
            rw [List.length_map] at hown hob
            have hci := containsI_any wr _ A6 c6 (putOuts p (r.1.take j) td) p.ins[m].out (ownI64_arr hown) (by omega)
            generalize p.ins[m].out = ou at *
            rw [← hta] at hsn
            generalize hT : putOuts p (r.1.take j) td = T at *
            have HJ := Lib.hid (And.intro hown (And.intro hob (And.intro harr (And.intro hBy (And.intro hby (And.intro hsy (And.intro hsn hj)))))))
            clear hown hob harr hBy hby hsy hsn hj hta hins htd htn hT
            subst hB3
            cases hct : T.contains ou with
            | true =>
              rw [hct] at hci
              have HC := Lib.hid hct
              clear hct
              go_wp2_with (go_at_call 38; refine hci.mono ?_; clear hci; rintro e w5 ⟨rfl, rfl⟩)
              go_roundg (gk - 1)
              case measure => have := HJ.out.2.2.2.2.2.2.2; omega
              case rel =>
                obtain ⟨hown, hob, harr, hBy, hby, hsy, hsn, hj⟩ := HJ.out
                exact ⟨j + 1, by omega, by go_num, by rw [hsn, if_pos HC.out]; exact hown, hob, harr, hBy, hby, hsy⟩
            | false =>
              rw [hct] at hci
              have HC := Lib.hid hct
              clear hct
              have K3 := Lib.hid (show (T.map i64C).length + 1 ≤ maxLen by rw [List.length_map]; unfold maxLen; omega)
              have K4 := Lib.hid (show ((T.map i64C).length + 1) * 8 ≤ 140737488355328 by rw [List.length_map]; omega)
              have K5 := Lib.hid (show ∀ o : Obj, w2.heap.size ≤ (wr.alloc o).heap.size from fun o => by rw [World.size_alloc]; have := HJ.out.2.2.2.2.2.1; omega)
              go_wp2_with (first
                | (go_at_call 38; refine hci.mono ?_; clear hci; rintro e w5 ⟨rfl, rfl⟩)
                | (at_builtin; refine wpList_app1At rfl _ _ 35 rfl w2.heap.size 3 (.int .i64 0) 1 8 Tryd.underlying35 infoI rfl (by decide) _ _ rfl (HJ.out.1.alloc _) _ [.int .i64 ou] rfl rfl (heap_new1 _ _) (one_i64 _) K3.out K4.out (K5.out _) ?_))
              intro v' w6 hown' hgrow hat
              obtain ⟨hown, hob, harr, hBy, hby, hsy, hsn, hj⟩ := HJ.out
              have hown9 := hown'
              obtain ⟨A9, c9, rfl, _, _⟩ := Owns.shape hown9
              simp only [List.length_append, List.length_map, List.length_cons, List.length_nil, Nat.zero_add] at hown' hat
              have hgz := hgrow.size
              have hkeep : ∀ k, k < wr.heap.size → Value.ownBlock (.slice A6 T.length c6) ≠ some k → w6.heap[k]? = wr.heap[k]? := fun k hk hne => (hgrow.block k (by rw [World.size_alloc]; omega) (fun e => hne e.symm)).trans (Below.heap_alloc _ _ _ hk)
              have hnp : Value.ownBlock (.slice A6 T.length c6) ≠ some w.heap.size := fun e => by
                have := (hown.lt _ e).1; omega
              have HL := Lib.hid (show Owns w6 w2.heap.size 3 1 (.slice A9 (T.length + 1) c9) ((putOuts p (r.1.take (j + 1)) td).map i64C) ∧ (∀ g, Value.ownBlock (.slice A9 (T.length + 1) c9) = some g → g < wo.heap.size ∨ w3.heap.size ≤ g) ∧ Arr (fun k => wo.heap.size ≤ k ∧ k < w3.heap.size) w6 1 (IntC .i64) (some bd) r.1 ∧ Below w.heap.size w w6 ∧ w6.heap[w.heap.size]? = some (.cells #[.slice (some ad4) p.ins.length c, .int .i64 p.start, .int .i64 p.caps] 28 (0, 0)) ∧ w3.heap.size ≤ w6.heap.size from by
                refine ⟨by rw [hsn, if_neg (by rw [HC.out]; simp), List.map_append]; exact hown', fun g hg => ?_, harr.move (fun k hk hlt => ⟨hkeep k hlt (fun e => by have := hob k e; omega), hk⟩) (by omega), ?_, (hkeep _ (heap_lt hby) hnp).trans hby, by rw [World.size_alloc] at hgz; omega⟩
                · rcases hat with h | h
                  · rw [h] at hg; exact hob g hg
                  · rw [h] at hg
                    simp only [Option.some.injEq] at hg
                    exact .inr (by have := hsy; omega)
                · exact (hBy.alloc (by omega) _).grown hgrow (by rw [World.size_alloc]; omega) (fun k e => by have := (hown.lt k e).1; omega))
              clear hown hob harr hBy hby hsy hsn hown' hown9 hgrow hat hkeep hnp
              go_wp2_with fail
              go_roundg (gk - 1)
              case measure => have := HJ.out.2.2.2.2.2.2.2; omega
              case rel =>
                obtain ⟨k1, k2, k3, k4, k5, k6⟩ := HL.out
                rw [show T.length + 1 = (List.map i64C T ++ [[Value.int .i64 ou]]).length by simp] at k1 k2
                exact ⟨j + 1, by omega, by go_num, k1, k2, k3, k4, k5, k6⟩
          · obtain rfl : j = r.1.length := by omega
            rw [List.take_length] at hown htd htn htl2
            have hsh := hown.shape
            obtain ⟨A6, c6, rfl, _, _⟩ := hsh
            have hown9 := hown
            rw [List.length_map] at hown
            have HJ := Lib.hid (And.intro hown (And.intro hBy (And.intro hby (And.intro hsy (And.intro htd (And.intro htn hown9))))))
            clear hown hob harr hBy hby hsy htd htn hown9
            go_wp2_with fail
            go_roundg (G - 1)
            case measure => have := HK.out.2.1; omega
            case rel =>
              obtain ⟨hown, hBy, hby, hsy, htd, htn, hown9⟩ := HJ.out
              refine ⟨k + 1, putOuts p r.1 td, by go_num, rfl, htn, Lib.hid htd, ?_, by have := HK.out.2.1; omega, Lib.hid ?_, hown9, hBy, by have := hBy.size; omega, hby⟩
              · have := putOuts_le p r.1 td; omega
              · rw [show p.ins.length + 1 - (k + 1) = p.ins.length - k by omega]; exact HG2.out
    · obtain rfl : k = td.length := by omega
      go_wp2_with fail
      try rw [Exit.noGoto_ret]
      go_ret
      refine ⟨ret_bool ?_, HK.out.2.2.2.1⟩
      have h9 := HG.out
      rw [show p.ins.length + 1 - td.length = (p.ins.length - td.length) + 1 by omega, admG] at h9
      rw [← h9]
      simp
theorem admits_any (ok : Nat → Prop) (w : World) (p : Pg) (ps : List Value) (hp : PgC ok w p ps) (hN : p.ins.length ≤ 140737488351232) (hset : ∀ x ∈ p.ins, x.set.length ≤ 1000000000) :
    Calls Tryd.prog 23 #[.agg ps.toArray] w fun e w' => e = .returned (.bool (admitsB p)) ∧ Below w.heap.size w w' := by
  rcases check_vals p with h0 | h0
  · cases hA : anchR p with
    | true =>
      have e : admitsB p = admG p (simpleW meetB un2 p) (p.ins.length + 1) 0 [p.start] := by unfold admitsB admW; rw [h0, hA]; rfl
      rw [e]; exact admits_yes ok w p ps hp hset h0 hA
    | false =>
      have e : admitsB p = false := by unfold admitsB admW; rw [hA]; simp
      rw [e]; exact admits_no ok w p ps hp hN hset (.inr hA)
  · have e : admitsB p = false := by unfold admitsB; rw [h0]; rfl
    rw [e]; exact admits_no ok w p ps hp hN hset (.inl h0)
end Go.Proofs.YthclpabmbhpohaaDoor
namespace Go.Proofs.YthclpabmbhpohaaDoor
open Go.RowKit
set_option linter.unusedVariables false
/-- Is a program right, and are there few enough instructions and places? -/
def admitB (p : Pg) (M : Nat) : Bool := (checkS rightR p == 0) && decide (p.ins.length * M ≤ 65536)
set_option maxRecDepth 100000 in
set_option maxHeartbeats 4000000 in
theorem badmits_yes (ok : Nat → Prop) (w : World) (p : Pg) (A : Option Addr) (c : Nat) (hp : PgC ok w p [.slice A p.ins.length c, .int .i64 p.start, .int .i64 p.caps]) (hN : p.ins.length ≤ 140737488351232) (hset : ∀ x ∈ p.ins, x.set.length ≤ 1000000000) (ia : Addr) (rs : List (Int × Int)) (oki : Nat → Prop) (hin : InpC oki w ia rs) (h1 : 1 ≤ rs.length) (h2 : rs.length ≤ 1000000) (hck : checkS rightR p = 0) :
    Calls Tryd.prog 16 #[.agg #[.slice A p.ins.length c, .int .i64 p.start, .int .i64 p.caps], .pointer (some ia)] w fun e w' => e = .returned (.bool (admitB p rs.length)) ∧ Below w.heap.size w w' := by
  have hbl := below_al (Below.refl w.heap.size w) (.cells #[.slice A p.ins.length c, .int .i64 p.start, .int .i64 p.caps] 28)
  have hx := heap_new1 w (.cells #[.slice A p.ins.length c, .int .i64 p.start, .int .i64 p.caps] 28)
  have hr : admitB p rs.length = decide (p.ins.length ≤ 65536 / rs.length) := by
    unfold admitB
    rw [hck]
    show (true && _) = _
    rw [Bool.true_and]
    exact decide_eq_decide.2 (Nat.le_div_iff_mul_le (by omega)).symm
  rw [hr]
  obtain ⟨M, hM⟩ : ∃ M, rs.length = M := ⟨_, rfl⟩
  obtain ⟨X, hX⟩ : ∃ X, w.alloc (.cells #[.slice A p.ins.length c, .int .i64 p.start, .int .i64 p.caps] 28) = X := ⟨_, rfl⟩
  have hpX := hp.below hbl
  rw [hX] at hx hbl hpX
  have HC : Hid ((∀ W, Below X.heap.size X W → W.heap[w.heap.size]? = some (.cells #[.slice A p.ins.length c, .int .i64 p.start, .int .i64 p.caps] 28 (0, 0))) ∧ (∀ W, Below X.heap.size X W → W.cell? ⟨w.heap.size, 0, none⟩ = some (.slice A p.ins.length c)) ∧
      (∀ W, Below X.heap.size X W → Calls Tryd.prog 32 #[.agg #[.slice A p.ins.length c, .int .i64 p.start, .int .i64 p.caps]] W fun e w' => e = .returned (.int .i64 0) ∧ Below W.heap.size W w') ∧
      (∀ W, Below X.heap.size X W → Calls Tryd.prog 15 #[.pointer (some ia)] W fun e w' => e = .returned (.int .i64 ((M : Int) - 1)) ∧ W = w')) := Lib.hid (by
    refine ⟨fun W hW => (hW.block _ (heap_lt hx)).trans hx, fun W hW => by rw [cell_of_blk ((hW.block _ (heap_lt hx)).trans hx)]; rfl, fun W hW => ?_, fun W hW => ?_⟩
    · have h9 := check_any rightR ok W p [.slice A p.ins.length c, .int .i64 p.start, .int .i64 p.caps] (hpX.below hW) hN (right_prem hset)
      rw [hck] at h9
      exact h9
    · have h9 := len_any (fun _ => True) W ia rs (hin.move (w' := W) (ok' := fun _ => True) (fun k _ hlt => ⟨(hbl.trans (hW.mono hbl.size)).block k hlt, trivial⟩))
      rw [hM] at h9
      exact h9)
  have HX := Lib.hid hbl
  clear hpX hbl hx hp hin
  have hw1 : IntKind.i64.wrap ((M : Int) - 1 + 1) = (M : Int) := by rw [IntWalk.i64_in _ (by omega)]; omega
  have hw1b : IntKind.i64.wrap (M : Int) = (M : Int) := IntWalk.i64_in _ (by omega)
  obtain ⟨qq, hqq⟩ : ∃ qq, 65536 / rs.length = qq := ⟨_, rfl⟩
  have hw2 : IntKind.i64.wrap ((65536 : Int).tdiv (M : Int)) = (qq : Int) := by
    have h9 : (65536 / M : Nat) ≤ 65536 := Nat.div_le_self _ _
    rw [hM] at hqq
    rw [Int.tdiv_eq_ediv_of_nonneg (by omega), show ((65536 : Int) / (M : Int)) = ((65536 / M : Nat) : Int) by rw [Int.natCast_ediv]; rfl, hqq]
    exact IntWalk.i64_in _ (by omega)
  have hw3 : ((65536 : Int).tdiv (M : Int)) = (qq : Int) := by
    rw [hM] at hqq
    rw [Int.tdiv_eq_ediv_of_nonneg (by omega), show ((65536 : Int) / (M : Int)) = ((65536 / M : Nat) : Int) by rw [Int.natCast_ediv]; rfl, hqq]
  have hw4 : ((65536 : Int) / (M : Int)) = (qq : Int) := by
    rw [hM] at hqq
    rw [show ((65536 : Int) / (M : Int)) = ((65536 / M : Nat) : Int) by rw [Int.natCast_ediv]; rfl, hqq]
  have hM0 : ((M : Int) == 0) = false := by simp; omega
  have hM1 : (M : Int) ≠ 0 := by omega
  have hMn : ¬ M = 0 := by omega
  have hqle : qq ≤ 65536 := by rw [← hqq]; exact Nat.div_le_self _ _
  have hwq : IntKind.i64.wrap (qq : Int) = (qq : Int) := IntWalk.i64_in _ (by omega)
  rw [hqq]
  obtain ⟨rr, hrr⟩ : ∃ rr, decide (p.ins.length ≤ qq) = rr := ⟨_, rfl⟩
  have hrr2 : decide ((p.ins.length : Int) ≤ (qq : Int)) = rr := by rw [← hrr]; exact decide_eq_decide.2 (by omega)
  rw [hrr]
  clear hqq hr
  go_enter Tryd.func16, Tryd.ntmps16
  go_wp2_with fail
  try rw [hX]
  clear hX
  refine wp_region_scr (fun W' => Below X.heap.size X W') [(true, 0, 5), (true, 1, 6), (true, 2, 7), (true, 3, 8), (false, 4, 9), (true, 5, 10), (true, 6, 11), (true, 7, 12), (true, 8, 13), (true, 9, 14), (true, 10, 15), (true, 11, 16), (true, 12, 17), (true, 13, 18), (false, 14, 19), (true, 15, 20), (true, 16, 21), (true, 17, 22), (true, 18, 23), (true, 19, 4)] (by kernel_rfl) (by kernel_rfl) (fun _ _ _ _ _ h => h) rfl (by kernel_rfl) ?_
  have HV := Lib.hid (show Below X.heap.size X X.drew from (Below.refl _ _).drew)
  refine Scr.take (v := .pointer (some ia)) rfl rfl (yw_pure (by rfl) (fun _ => by go_simp)) HV.out ?_
  simp only [Act.put, List.setIfInBounds_toArray, List.set_cons_zero, List.set_cons_succ]
  refine Scr.take (v := .bool true) rfl rfl (yw_pure (by rfl) (fun _ => by go_simp)) HV.out ?_
  simp only [Act.put, List.setIfInBounds_toArray, List.set_cons_zero, List.set_cons_succ]
  refine Scr.take (v := .bool true) rfl rfl (yw_pure (by rfl) (fun _ => by go_simp)) HV.out ?_
  simp only [Act.put, List.setIfInBounds_toArray, List.set_cons_zero, List.set_cons_succ]
  refine Scr.take (v := .agg #[.slice A p.ins.length c, .int .i64 p.start, .int .i64 p.caps]) rfl rfl (yw_row 28 _ rfl w.heap.size ([.slice A p.ins.length c, .int .i64 p.start, .int .i64 p.caps] : List Value) 28 rfl (by rfl) _ Tryd.underlying28 rfl (by rfl) (fun W hS => HC.out.1 W hS)) HV.out ?_
  simp only [Act.put, List.setIfInBounds_toArray, List.set_cons_zero, List.set_cons_succ]
  refine Scr.run rfl (by rfl) (fun K hK => ?_)
  go_simp
  refine (HC.out.2.2.1 _ HV.out).mono ?_
  rintro e w9 ⟨rfl, hb9⟩
  dsimp only
  have hB9 : Below X.heap.size X w9 := HV.out.trans (hb9.mono HV.out.size)
  refine hK _ _ hB9 ?_
  clear hK K HV
  have HV := Lib.hid hB9
  clear hB9 hb9
  refine Scr.take (v := .bool true) rfl rfl (yw_pure (by rfl) (fun _ => by go_simp)) HV.out ?_
  simp only [Act.put, List.setIfInBounds_toArray, List.set_cons_zero, List.set_cons_succ]
  refine Scr.take (v := .bool true) rfl rfl (yw_pure (by rfl) (fun _ => by go_simp)) HV.out ?_
  simp only [Act.put, List.setIfInBounds_toArray, List.set_cons_zero, List.set_cons_succ]
  refine Scr.take (v := .bool true) rfl rfl (yw_pure (by rfl) (fun _ => by go_simp)) HV.out ?_
  simp only [Act.put, List.setIfInBounds_toArray, List.set_cons_zero, List.set_cons_succ]
  refine Scr.take (v := .pointer (some ⟨w.heap.size, 0, none⟩)) rfl rfl (yw_pure (by rfl) (fun _ => by go_simp)) HV.out ?_
  simp only [Act.put, List.setIfInBounds_toArray, List.set_cons_zero, List.set_cons_succ]
  refine Scr.take (v := .slice A p.ins.length c) rfl rfl (yw_cell 26 _ rfl ⟨w.heap.size, 0, none⟩ (.slice A p.ins.length c) rfl (by rfl) _ Tryd.underlying26 rfl (fun W hS => HC.out.2.1 W hS)) HV.out ?_
  simp only [Act.put, List.setIfInBounds_toArray, List.set_cons_zero, List.set_cons_succ]
  refine Scr.take (v := .int .i64 p.ins.length) rfl rfl (yw_pure (by rfl) (fun _ => by go_simp)) HV.out ?_
  simp only [Act.put, List.setIfInBounds_toArray, List.set_cons_zero, List.set_cons_succ]
  refine Scr.take (v := .pointer (some ia)) rfl rfl (yw_pure (by rfl) (fun _ => by go_simp)) HV.out ?_
  simp only [Act.put, List.setIfInBounds_toArray, List.set_cons_zero, List.set_cons_succ]
  refine Scr.take (v := .pointer (some ia)) rfl rfl (yw_pure (by rfl) (fun _ => by go_simp)) HV.out ?_
  simp only [Act.put, List.setIfInBounds_toArray, List.set_cons_zero, List.set_cons_succ]
  refine Scr.take (v := .pointer (some ia)) rfl rfl (yw_pure (by rfl) (fun _ => by go_simp)) HV.out ?_
  simp only [Act.put, List.setIfInBounds_toArray, List.set_cons_zero, List.set_cons_succ]
  refine Scr.run rfl (by rfl) (fun K hK => ?_)
  go_simp
  refine (HC.out.2.2.2 _ HV.out).mono ?_
  rintro e w9 ⟨rfl, rfl⟩
  dsimp only
  refine hK _ _ HV.out ?_
  clear hK K
  refine Scr.take (v := .int .i64 M) rfl rfl (yw_pure (by rfl) (fun _ => by go_simp)) HV.out ?_
  simp only [Act.put, List.setIfInBounds_toArray, List.set_cons_zero, List.set_cons_succ]
  refine Scr.take (v := .int .i64 qq) rfl rfl (yw_pure (by rfl) (fun _ => by go_simp)) HV.out ?_
  simp only [Act.put, List.setIfInBounds_toArray, List.set_cons_zero, List.set_cons_succ]
  refine Scr.take (v := .bool rr) rfl rfl (yw_pure (by rfl) (fun _ => by go_simp)) HV.out ?_
  simp only [Act.put, List.setIfInBounds_toArray, List.set_cons_zero, List.set_cons_succ]
  refine Scr.take (v := .bool rr) rfl rfl (yw_pure (by rfl) (fun _ => by go_simp)) HV.out ?_
  simp only [Act.put, List.setIfInBounds_toArray, List.set_cons_zero, List.set_cons_succ]
  refine Scr.take (v := .bool rr) rfl rfl (yw_pure (by rfl) (fun _ => by go_simp)) HV.out ?_
  simp only [Act.put, List.setIfInBounds_toArray, List.set_cons_zero, List.set_cons_succ]
  simp only [Scr]
  go_wp2_with fail
  go_ret
  exact ⟨rfl, HX.out.trans (HV.out.mono HX.out.size)⟩
set_option maxRecDepth 100000 in
set_option maxHeartbeats 4000000 in
theorem badmits_no (ok : Nat → Prop) (w : World) (p : Pg) (A : Option Addr) (c : Nat) (hp : PgC ok w p [.slice A p.ins.length c, .int .i64 p.start, .int .i64 p.caps]) (hN : p.ins.length ≤ 140737488351232) (hset : ∀ x ∈ p.ins, x.set.length ≤ 1000000000) (ia : Addr) (rs : List (Int × Int)) (oki : Nat → Prop) (hin : InpC oki w ia rs) (h1 : 1 ≤ rs.length) (h2 : rs.length ≤ 1000000) (hck : checkS rightR p = 121) :
    Calls Tryd.prog 16 #[.agg #[.slice A p.ins.length c, .int .i64 p.start, .int .i64 p.caps], .pointer (some ia)] w fun e w' => e = .returned (.bool (admitB p rs.length)) ∧ Below w.heap.size w w' := by
  have hbl := below_al (Below.refl w.heap.size w) (.cells #[.slice A p.ins.length c, .int .i64 p.start, .int .i64 p.caps] 28)
  have hx := heap_new1 w (.cells #[.slice A p.ins.length c, .int .i64 p.start, .int .i64 p.caps] 28)
  have hr : admitB p rs.length = false := by
    unfold admitB
    rw [hck]
    rfl
  rw [hr]
  obtain ⟨M, hM⟩ : ∃ M, rs.length = M := ⟨_, rfl⟩
  obtain ⟨X, hX⟩ : ∃ X, w.alloc (.cells #[.slice A p.ins.length c, .int .i64 p.start, .int .i64 p.caps] 28) = X := ⟨_, rfl⟩
  have hpX := hp.below hbl
  rw [hX] at hx hbl hpX
  have HC : Hid ((∀ W, Below X.heap.size X W → W.heap[w.heap.size]? = some (.cells #[.slice A p.ins.length c, .int .i64 p.start, .int .i64 p.caps] 28 (0, 0))) ∧ (∀ W, Below X.heap.size X W → W.cell? ⟨w.heap.size, 0, none⟩ = some (.slice A p.ins.length c)) ∧
      (∀ W, Below X.heap.size X W → Calls Tryd.prog 32 #[.agg #[.slice A p.ins.length c, .int .i64 p.start, .int .i64 p.caps]] W fun e w' => e = .returned (.int .i64 121) ∧ Below W.heap.size W w') ∧
      (∀ W, Below X.heap.size X W → Calls Tryd.prog 15 #[.pointer (some ia)] W fun e w' => e = .returned (.int .i64 ((M : Int) - 1)) ∧ W = w')) := Lib.hid (by
    refine ⟨fun W hW => (hW.block _ (heap_lt hx)).trans hx, fun W hW => by rw [cell_of_blk ((hW.block _ (heap_lt hx)).trans hx)]; rfl, fun W hW => ?_, fun W hW => ?_⟩
    · have h9 := check_any rightR ok W p [.slice A p.ins.length c, .int .i64 p.start, .int .i64 p.caps] (hpX.below hW) hN (right_prem hset)
      rw [hck] at h9
      exact h9
    · have h9 := len_any (fun _ => True) W ia rs (hin.move (w' := W) (ok' := fun _ => True) (fun k _ hlt => ⟨(hbl.trans (hW.mono hbl.size)).block k hlt, trivial⟩))
      rw [hM] at h9
      exact h9)
  have HX := Lib.hid hbl
  clear hpX hbl hx hp hin
  go_enter Tryd.func16, Tryd.ntmps16
  go_wp2_with fail
  try rw [hX]
  clear hX
  refine wp_region_scr (fun W' => Below X.heap.size X W') [(true, 0, 5), (true, 1, 6), (true, 2, 7), (true, 3, 8), (false, 4, 9), (true, 5, 10), (true, 6, 11), (true, 7, 12), (true, 8, 13), (true, 9, 14), (true, 10, 15), (true, 11, 16), (true, 12, 17), (true, 13, 18), (false, 14, 19), (true, 15, 20), (true, 16, 21), (true, 17, 22), (true, 18, 23), (true, 19, 4)] (by kernel_rfl) (by kernel_rfl) (fun _ _ _ _ _ h => h) rfl (by kernel_rfl) ?_
  have HV := Lib.hid (show Below X.heap.size X X.drew from (Below.refl _ _).drew)
  refine Scr.take (v := .pointer (some ia)) rfl rfl (yw_pure (by rfl) (fun _ => by go_simp)) HV.out ?_
  simp only [Act.put, List.setIfInBounds_toArray, List.set_cons_zero, List.set_cons_succ]
  refine Scr.take (v := .bool true) rfl rfl (yw_pure (by rfl) (fun _ => by go_simp)) HV.out ?_
  simp only [Act.put, List.setIfInBounds_toArray, List.set_cons_zero, List.set_cons_succ]
  refine Scr.take (v := .bool true) rfl rfl (yw_pure (by rfl) (fun _ => by go_simp)) HV.out ?_
  simp only [Act.put, List.setIfInBounds_toArray, List.set_cons_zero, List.set_cons_succ]
  refine Scr.take (v := .agg #[.slice A p.ins.length c, .int .i64 p.start, .int .i64 p.caps]) rfl rfl (yw_row 28 _ rfl w.heap.size ([.slice A p.ins.length c, .int .i64 p.start, .int .i64 p.caps] : List Value) 28 rfl (by rfl) _ Tryd.underlying28 rfl (by rfl) (fun W hS => HC.out.1 W hS)) HV.out ?_
  simp only [Act.put, List.setIfInBounds_toArray, List.set_cons_zero, List.set_cons_succ]
  refine Scr.run rfl (by rfl) (fun K hK => ?_)
  go_simp
  refine (HC.out.2.2.1 _ HV.out).mono ?_
  rintro e w9 ⟨rfl, hb9⟩
  dsimp only
  have hB9 : Below X.heap.size X w9 := HV.out.trans (hb9.mono HV.out.size)
  refine hK _ _ hB9 ?_
  clear hK K HV
  have HV := Lib.hid hB9
  clear hB9 hb9
  refine Scr.take (v := .bool false) rfl rfl (yw_pure (by rfl) (fun _ => by go_simp)) HV.out ?_
  simp only [Act.put, List.setIfInBounds_toArray, List.set_cons_zero, List.set_cons_succ]
  refine Scr.take (v := .bool false) rfl rfl (yw_pure (by rfl) (fun _ => by go_simp)) HV.out ?_
  simp only [Act.put, List.setIfInBounds_toArray, List.set_cons_zero, List.set_cons_succ]
  refine Scr.take (v := .bool false) rfl rfl (yw_pure (by rfl) (fun _ => by go_simp)) HV.out ?_
  simp only [Act.put, List.setIfInBounds_toArray, List.set_cons_zero, List.set_cons_succ]
  refine Scr.take (v := undef) rfl rfl (yw_no (by rfl)) HV.out ?_
  simp only [Act.put, List.setIfInBounds_toArray, List.set_cons_zero, List.set_cons_succ]
  refine Scr.take (v := undef) rfl rfl (yw_no (by rfl)) HV.out ?_
  simp only [Act.put, List.setIfInBounds_toArray, List.set_cons_zero, List.set_cons_succ]
  refine Scr.take (v := undef) rfl rfl (yw_no (by rfl)) HV.out ?_
  simp only [Act.put, List.setIfInBounds_toArray, List.set_cons_zero, List.set_cons_succ]
  refine Scr.take (v := undef) rfl rfl (yw_no (by rfl)) HV.out ?_
  simp only [Act.put, List.setIfInBounds_toArray, List.set_cons_zero, List.set_cons_succ]
  refine Scr.take (v := undef) rfl rfl (yw_no (by rfl)) HV.out ?_
  simp only [Act.put, List.setIfInBounds_toArray, List.set_cons_zero, List.set_cons_succ]
  refine Scr.take (v := undef) rfl rfl (yw_no (by rfl)) HV.out ?_
  simp only [Act.put, List.setIfInBounds_toArray, List.set_cons_zero, List.set_cons_succ]
  refine Scr.skip rfl rfl (by rfl) HV.out ?_
  simp only [Act.put, List.setIfInBounds_toArray, List.set_cons_zero, List.set_cons_succ]
  refine Scr.take (v := undef) rfl rfl (yw_no (by rfl)) HV.out ?_
  simp only [Act.put, List.setIfInBounds_toArray, List.set_cons_zero, List.set_cons_succ]
  refine Scr.take (v := undef) rfl rfl (yw_no (by rfl)) HV.out ?_
  simp only [Act.put, List.setIfInBounds_toArray, List.set_cons_zero, List.set_cons_succ]
  refine Scr.take (v := undef) rfl rfl (yw_no (by rfl)) HV.out ?_
  simp only [Act.put, List.setIfInBounds_toArray, List.set_cons_zero, List.set_cons_succ]
  refine Scr.take (v := .bool false) rfl rfl (yw_pure (by rfl) (fun _ => by go_simp)) HV.out ?_
  simp only [Act.put, List.setIfInBounds_toArray, List.set_cons_zero, List.set_cons_succ]
  refine Scr.take (v := .bool false) rfl rfl (yw_pure (by rfl) (fun _ => by go_simp)) HV.out ?_
  simp only [Act.put, List.setIfInBounds_toArray, List.set_cons_zero, List.set_cons_succ]
  simp only [Scr]
  go_wp2_with fail
  go_ret
  exact ⟨rfl, HX.out.trans (HV.out.mono HX.out.size)⟩
theorem badmits_any (ok : Nat → Prop) (w : World) (p : Pg) (A : Option Addr) (c : Nat) (hp : PgC ok w p [.slice A p.ins.length c, .int .i64 p.start, .int .i64 p.caps]) (hN : p.ins.length ≤ 140737488351232) (hset : ∀ x ∈ p.ins, x.set.length ≤ 1000000000) (ia : Addr) (rs : List (Int × Int)) (oki : Nat → Prop) (hin : InpC oki w ia rs) (h1 : 1 ≤ rs.length) (h2 : rs.length ≤ 1000000) :
    Calls Tryd.prog 16 #[.agg #[.slice A p.ins.length c, .int .i64 p.start, .int .i64 p.caps], .pointer (some ia)] w fun e w' => e = .returned (.bool (admitB p rs.length)) ∧ Below w.heap.size w w' := by
  rcases check_vals p with h | h
  · exact badmits_yes ok w p A c hp hN hset ia rs oki hin h1 h2 h
  · exact badmits_no ok w p A c hp hN hset ia rs oki hin h1 h2 h
end Go.Proofs.YthclpabmbhpohaaDoor
namespace Go.Proofs.YthclpabmbhpohaaDoor
open Go.RowKit
set_option linter.unusedVariables false
/-- The blocks of a machine. -/
def Own4 (G : Nat) (bv jv fv sv : Value) (k : Nat) : Prop := k = G ∨ bv.ownBlock = some k ∨ jv.ownBlock = some k ∨ fv.ownBlock = some k ∨ sv.ownBlock = some k
/-- A machine, whatever it was asked; its blocks are of D. -/
def MaOK (W : World) (G : Nat) (D : Nat → Prop) : Prop := ∃ bv jv fv sv ws js fit best st, BmAt W G bv jv fv sv ws js fit best st ∧ ∀ k, Own4 G bv jv fv sv k → D k
theorem MaOK.below {W W' : World} {G : Nat} {D : Nat → Prop} (h : MaOK W G D) (hb : Below W.heap.size W W') : MaOK W' G D := by
  obtain ⟨bv, jv, fv, sv, ws, js, fit, best, st, h1, h2⟩ := h
  exact ⟨bv, jv, fv, sv, ws, js, fit, best, st, h1.below hb, h2⟩
/-- What Find tells: the best match, is there one, the steps; what it leaves. -/
def FindPost (p : Pg) (M G : Nat) (D : Nat → Prop) (b : Option (List Int)) (W : World) (e : Ending) (W' : World) : Prop :=
  ∃ A c n, e = .returned (.tuple #[.slice A (b.getD []).length c, .bool b.isSome, .int .i64 n]) ∧ (b.getD []).length ≤ c ∧ c ≤ maxLen ∧ 0 ≤ n ∧ n ≤ ((KB p * (M * p.ins.length) + 2 * M : Nat) : Int) ∧ TouchD D W W' ∧
    ∃ D', (∀ k, D' k → D k) ∧ MaOK W' G D' ∧ Arr (fun k => ¬ D' k) W' 1 (IntC .i64) A (b.getD [])
theorem rowU_of {W : World} {A : Option Addr} {n c : Nat} {css : List (List Value)} (h : Owns W 0 74 1 (.slice A n c) css) : (A = none ∧ c = 0) ∨ ∃ g, A = some ⟨g, 0, none⟩ ∧ RowU W g c := by
  rcases h.1.2 with ⟨h9, _⟩ | ⟨g, cap, cur, hv, _, hk, h1, h2, h3, _⟩
  · cases h9; exact .inl ⟨rfl, rfl⟩
  · cases hv; exact .inr ⟨g, rfl, cur, hk, by omega, h2⟩
/-- The words are laid anew and cleared. -/
theorem BmAt.zeroBits {W : World} {G : Nat} {bv jv fv sv : Value} {ws : List Nat} {js : List (Job (Int × Int))} {fit : List Int} {best : Option (List Int)} {st : Int} (h : BmAt W G bv jv fv sv ws js fit best st) {g c n : Nat} (hr : RowU W g c) (hn : n ≤ c) :
    BmAt ((W.setCell ⟨G, 0, none⟩ (.slice (some ⟨g, 0, none⟩) n c)).setCells g 0 (List.replicate n (.int .u64 0))) G (.slice (some ⟨g, 0, none⟩) n c) jv fv sv (List.replicate n 0) js fit best st := by
  have hgG : g ≠ G := by
    rintro rfl
    obtain ⟨cur, hk, _⟩ := hr
    rw [h.blk] at hk
    simp only [Option.some.injEq, Obj.cells.injEq] at hk
    exact absurd hk.2.1 (by decide)
  obtain ⟨cur, hk, hs, hm⟩ := hr
  have hk1 : (W.setCell ⟨G, 0, none⟩ (.slice (some ⟨g, 0, none⟩) n c)).heap[g]? = some (.cells cur 74 (0, 0)) := (set_ne0 W _ hgG).trans hk
  obtain ⟨k1, k2, k3⟩ := clear_own (w := W.setCell ⟨G, 0, none⟩ (.slice (some ⟨g, 0, none⟩) n c)) ⟨cur, hk1, hs, hm⟩ hn
  obtain ⟨_, o2, o3, o4⟩ := h.others (grown_set0 W G 0 (.slice (some ⟨g, 0, none⟩) n c))
  have hty : TyB 74 (W.setCell ⟨G, 0, none⟩ (.slice (some ⟨g, 0, none⟩) n c)) g := ⟨_, _, hk1⟩
  have keep : ∀ {e : TypeId} {sz : Nat} {v : Value} {css : List (List Value)}, Owns (W.setCell ⟨G, 0, none⟩ (.slice (some ⟨g, 0, none⟩) n c)) 0 e sz v css → 74 ≠ e → Owns ((W.setCell ⟨G, 0, none⟩ (.slice (some ⟨g, 0, none⟩) n c)).setCells g 0 (List.replicate n (.int .u64 0))) 0 e sz v css := fun ho hne => ho.kept k2 (.inr (fun e => hty.ne_own ho hne e.symm))
  refine ⟨(k2.block G (by have := heap_lt h.blk; simpa [World.setCell] using this) (fun e => hgG (by cases e; rfl))).trans (by rw [heap_set0 h.blk 0]; simp), k1, keep o2 (by decide), keep o3 (by decide), ?_⟩
  cases best with
  | none => exact o4
  | some l => exact ⟨o4.1, keep o4.2.1 (by decide), o4.2.2⟩
theorem touch_zero {W : World} {D : Nat → Prop} {g n : Nat} (hg : D g) (hr : ∃ c, RowU W g c ∧ n ≤ c) : TouchD D W (W.setCells g 0 (List.replicate n (.int .u64 0))) := by
  obtain ⟨c, hr, hn⟩ := hr
  obtain ⟨_, k2, k3⟩ := clear_own hr hn
  exact ⟨k2.os, k2.tape, k2.output, k2.size, fun k hk => by
    rcases Nat.lt_or_ge k W.heap.size with h9 | h9
    · exact k2.block k h9 (fun e => hk (by cases e; exact hg))
    · rw [Array.getElem?_eq_none (by omega), Array.getElem?_eq_none (by omega)]⟩
theorem run_clearU {w : World} {g n c : Nat} (h0 : 0 < n) (hn : n ≤ c) (hr : RowU w g c) (ty : TypeId) : (Builtin.clear_ #[67] ty #[.slice (some ⟨g, 0, none⟩) n c]).run Tryd.prog w = .ok (.tuple #[]) (w.setCells g 0 (List.replicate n (.int .u64 0))) := by
  obtain ⟨cur, hk, hs, _⟩ := hr
  obtain ⟨i0, hi0, hz0, hz1, hz2⟩ := info_parts infoU
  have hv : ∀ w : World, (zeroValue 74).run Tryd.prog w = .ok (.int .u64 0) w := fun w => by simp [zeroValue, typeInfo, hi0, hz0]
  exact Lib.run_clear_slice (P := Tryd.prog) w 67 74 ty (.int .u64 0) Tryd.underlying67 hv rfl rfl g 0 n c h0
    (fun j hj => by rw [Nat.zero_add, cell_of_blk hk]; simp; omega) (fun j _ => frozenOf hk _)
theorem try_len {p : Pg} {rn av : Int → Int} {lg : Bool} {M : Nat} (hck : checkS rightR p = 0) {a : Int} (h0 : 0 ≤ a) (h1 : a < M) {S : Wk (Int × Int)} (hS : S.best = none) {b : List Int} (h : (tryW p rn av lg M a S).best = some b) : (b.length : Int) = p.caps := by
  have hk := check_ok hck
  obtain ⟨r, d, _, _, k3, rfl⟩ := come_best (gB p rn av lg M) (OnB p M a) (fun q c hq _ r hr => onB_step hck q c hq r hr) (n := M * p.ins.length + 1) (q := (p.start, a)) (c := fitP p a) (s := S) hS
    ⟨start_B hk.2.2.1 h0 h1, fitP_len p hk.2.2.2.1 a, fitP_fst p hk.2.2.2.1 a, Int.le_refl _⟩ b h
  rw [List.length_set]; exact k3.len
theorem own4_lt {W : World} {G : Nat} {bv jv fv sv : Value} {ws : List Nat} {js : List (Job (Int × Int))} {fit : List Int} {best : Option (List Int)} {st : Int} (h : BmAt W G bv jv fv sv ws js fit best st) {k : Nat} (hk : Own4 G bv jv fv sv k) : k < W.heap.size := by
  rcases hk with rfl | hk | hk | hk | hk
  · exact heap_lt h.blk
  · exact (h.bits.1.lt k hk).2
  · exact (h.jobs.1.lt k hk).2
  · exact (h.fit.1.lt k hk).2
  · have hb := h.best
    cases best with
    | none => rw [show sv = .slice none 0 0 from hb] at hk; simp [Value.ownBlock] at hk
    | some l => exact (hb.2.1.1.lt k hk).2
/-- The machine's end of a question: what is handed back. -/
theorem find_post {p : Pg} {M G : Nat} {D : Nat → Prop} {W E E' : World} {bv jv fv sv : Value} {ws : List Nat} {js : List (Job (Int × Int))} {fit : List Int} {b : Option (List Int)} {st : Int} (h : BmAt E G bv jv fv sv ws js fit b st) (dG : D G) (o1 : OwnD D bv) (o2 : OwnD D jv) (o3 : OwnD D fv) (o4 : OwnD D sv)
    (new : ∀ k, W.heap.size ≤ k → D k) (ht : TouchD D W E) (hb : Below E.heap.size E E') (h0 : 0 ≤ st) (hst : st ≤ ((KB p * (M * p.ins.length) + 2 * M : Nat) : Int)) {A : Option Addr} {c : Nat} (hown : Owns E' E.heap.size 3 1 (.slice A (b.getD []).length c) ((b.getD []).map i64C)) :
    FindPost p M G D b W (.returned (.tuple #[.slice A (b.getD []).length c, .bool b.isSome, .int .i64 st])) E' := by
  obtain ⟨A', c', he, h1, h2⟩ := hown.shape
  simp only [List.length_map, Value.slice.injEq, true_and] at he h1
  obtain ⟨rfl, rfl⟩ := he
  refine ⟨A, c, st, rfl, h1, h2, h0, hst, ht.trans (TouchD.of_below hb (fun k hk => new k (Nat.le_trans ht.size hk))), Own4 G bv jv fv sv, fun k hk => ?_, ⟨_, _, _, _, _, _, _, _, _, h.below hb, fun _ h => h⟩, ?_⟩
  · rcases hk with rfl | hk | hk | hk | hk
    · exact dG
    · exact o1 k hk
    · exact o2 k hk
    · exact o3 k hk
    · exact o4 k hk
  · exact (ownI64_arr0 hown).move (fun k hk _ => ⟨rfl, fun h9 => by have := own4_lt h h9; omega⟩) (by omega)
structure FxI (p : Pg) (ad : Addr) (c G PB : Nat) (rs : List (Int × Int)) (D : Nat → Prop) (W0 : World) (S : Wk (Int × Int)) (st : Int) (W : World) : Prop where
  ma : ∃ bv jv fv sv ws js fit, BmAt W G bv jv fv sv ws js fit S.best st ∧ BitsOK p.ins.length rs.length ws S.seen ∧ OwnD D bv ∧ OwnD D jv ∧ OwnD D fv ∧ OwnD D sv
  box : W.heap[PB]? = some (.cells #[.slice (some ad) p.ins.length c, .int .i64 p.start, .int .i64 p.caps] 28 (0, 0))
  tch : TouchD D W0 W
  len : ∀ b, S.best = some b → 2 ≤ b.length ∧ b.length ≤ 4002
set_option maxRecDepth 100000 in
set_option maxHeartbeats 4000000 in
theorem bfind_start (p : Pg) (ad : Addr) (c G : Nat) (ia : Addr) (rs : List (Int × Int)) (lg anch : Bool) (fr : Int) (hfr : -9223372036854775808 ≤ fr ∧ fr ≤ 9223372036854775807) (D : Nat → Prop) (W : World) (bv jv fv sv : Value) (ws : List Nat) (js : List (Job (Int × Int))) (fit : List Int) (best : Option (List Int)) (st : Int)
    (hm : BmAt W G bv jv fv sv ws js fit best st) (hD : ∀ k, Own4 G bv jv fv sv k → D k) (pg : PgC (fun k => ¬ D k) W p [.slice (some ad) p.ins.length c, .int .i64 p.start, .int .i64 p.caps]) (inp : InpC (fun k => ¬ D k) W ia rs) (new : ∀ k, W.heap.size ≤ k → D k)
    (lo : 1 ≤ rs.length) (hi : rs.length ≤ 1000000) (set : ∀ x ∈ p.ins, x.set.length ≤ 1000000000) (out : runeAt rs ((rs.length : Int) - 1) < 0) (hA : admitB p rs.length = true) :
    Calls Tryd.prog 13 #[.pointer (some ⟨G, 0, none⟩), .agg #[.slice (some ad) p.ins.length c, .int .i64 p.start, .int .i64 p.caps], .pointer (some ia), .int .i64 fr, .bool anch, .bool lg] W (FindPost p rs.length G D (findB p (runeAt rs) (atOf rs) lg rs.length fr anch) W) := by
  have hck : checkS rightR p = 0 := by unfold admitB at hA; simp only [Bool.and_eq_true, beq_iff_eq] at hA; exact hA.1
  have hLM : p.ins.length * rs.length ≤ 65536 := by unfold admitB at hA; simp only [Bool.and_eq_true, decide_eq_true_eq] at hA; exact hA.2
  have hk := check_ok hck
  have hbl := below_al (Below.refl W.heap.size W) (.cells #[.slice (some ad) p.ins.length c, .int .i64 p.start, .int .i64 p.caps] 28)
  have hx := heap_new1 W (.cells #[.slice (some ad) p.ins.length c, .int .i64 p.start, .int .i64 p.caps] 28)
  have had := badmits_any _ _ p (some ad) c (pg.below hbl) (by omega) set ia rs _ (inp.move (w' := W.alloc (.cells #[.slice (some ad) p.ins.length c, .int .i64 p.start, .int .i64 p.caps] 28)) (ok' := fun _ => True) (fun k _ hlt => ⟨hbl.block k hlt, trivial⟩)) lo hi
  rw [hA] at had
  have hlen := fun W' (h : TouchD D W W') => len_any (fun _ => True) W' ia rs (inp.move (w' := W') (ok' := fun _ => True) (fun k hk _ => ⟨h.block k hk, trivial⟩))
  have hm1 := hm.below hbl
  obtain ⟨LMn, hLMn⟩ : ∃ n, p.ins.length * rs.length = n := ⟨_, rfl⟩
  obtain ⟨wd, hwd⟩ : ∃ n, p.ins.length * rs.length / 64 + 1 = n := ⟨_, rfl⟩
  obtain ⟨wq, hwq⟩ : ∃ n, p.ins.length * rs.length / 64 = n := ⟨_, rfl⟩
  obtain ⟨M, hM⟩ : ∃ M, rs.length = M := ⟨_, rfl⟩
  obtain ⟨Ab, nb, cb, hbe, hnb, hcb, hAb⟩ := slice_forms hm.bits
  subst hbe
  have hw1 : IntKind.i64.wrap ((M : Int) - 1 + 1) = (M : Int) := by rw [IntWalk.i64_in _ (by omega)]; omega
  have hw1b : IntKind.i64.wrap (M : Int) = (M : Int) := IntWalk.i64_in _ (by omega)
  have hw2 : IntKind.i64.wrap ((p.ins.length : Int) * (M : Int)) = (LMn : Int) := by rw [show (p.ins.length : Int) * (M : Int) = (LMn : Int) by rw [← hLMn, ← hM]; simp]; exact IntWalk.i64_in _ (by omega)
  have hw3 : IntKind.i64.wrap ((LMn : Int).tdiv 64) = (wq : Int) := by rw [Int.tdiv_eq_ediv_of_nonneg (by omega), IntWalk.i64_in _ (by omega)]; omega
  have hw3b : (LMn : Int) / 64 = (wq : Int) := by omega
  have hw3c : IntKind.i64.wrap (wq : Int) = (wq : Int) := IntWalk.i64_in _ (by omega)
  have hw4 : IntKind.i64.wrap ((wq : Int) + 1) = (wd : Int) := by rw [IntWalk.i64_in _ (by omega)]; omega
  have HL := Lib.hid (And.intro hlen (And.intro hLMn (And.intro hwd (And.intro hM hAb))))
  have H := Lib.hid (And.intro hm1 (And.intro hD (And.intro pg (And.intro inp (And.intro new (And.intro lo (And.intro hi (And.intro set (And.intro out (And.intro hck (And.intro hLM (And.intro hk (And.intro hbl hx)))))))))))))
  clear hm1 hD pg inp new set out hck hbl hx hlen hm hk lo hi hLM hAb hLMn hwq hA
  go_enter Tryd.func13, Tryd.ntmps13
  go_wp2_with fail
  refine had.mono ?_
  clear had
  rintro e X ⟨rfl, hb1⟩
  dsimp only
  have hX := H.out.1.below hb1
  have hXt : TouchD D W X := TouchD.of_below (below_and hb1 H.out.2.2.2.2.2.2.2.2.2.2.2.2.1) H.out.2.2.2.2.1
  have hXb := (hb1.block _ (by rw [World.size_alloc]; omega)).trans H.out.2.2.2.2.2.2.2.2.2.2.2.2.2
  have HX := Lib.hid (And.intro hX (And.intro hXt hXb))
  clear hb1 hX hXt hXb
  have hc0 : ∀ W', Below X.heap.size X W' → W'.cell? ⟨W.heap.size, 0, none⟩ = some (.slice (some ad) p.ins.length c) := fun W' hW => by rw [cell_of_blk ((hW.block _ (heap_lt HX.out.2.2)).trans HX.out.2.2)]; rfl
  have HC := Lib.hid hc0
  clear hc0
  go_wp2_with fail
  refine wp_region_scr (fun W' => Below X.heap.size X W') [(true, 0, 21), (true, 1, 22), (true, 2, 23), (true, 3, 24), (true, 4, 25), (true, 5, 26), (false, 6, 27), (true, 7, 28), (true, 8, 29), (true, 9, 30), (true, 10, 31), (true, 11, 15)] (by kernel_rfl) (by kernel_rfl) (fun _ _ _ _ _ h => h) rfl (by kernel_rfl) ?_
  have HV := Lib.hid (show Below X.heap.size X X.drew from (Below.refl _ _).drew)
  refine Scr.take (v := .pointer (some ⟨W.heap.size, 0, none⟩)) rfl rfl (yw_pure (by rfl) (fun _ => by go_simp)) HV.out ?_
  simp only [Act.put, List.setIfInBounds_toArray, List.set_cons_zero, List.set_cons_succ]
  refine Scr.take (v := .slice (some ad) p.ins.length c) rfl rfl (yw_cell 26 _ rfl ⟨W.heap.size, 0, none⟩ (.slice (some ad) p.ins.length c) rfl (by rfl) _ Tryd.underlying26 rfl (fun W hS => HC.out W hS)) HV.out ?_
  simp only [Act.put, List.setIfInBounds_toArray, List.set_cons_zero, List.set_cons_succ]
  refine Scr.take (v := .int .i64 p.ins.length) rfl rfl (yw_pure (by rfl) (fun _ => by go_simp)) HV.out ?_
  simp only [Act.put, List.setIfInBounds_toArray, List.set_cons_zero, List.set_cons_succ]
  refine Scr.take (v := .pointer (some ia)) rfl rfl (yw_pure (by rfl) (fun _ => by go_simp)) HV.out ?_
  simp only [Act.put, List.setIfInBounds_toArray, List.set_cons_zero, List.set_cons_succ]
  refine Scr.take (v := .pointer (some ia)) rfl rfl (yw_pure (by rfl) (fun _ => by go_simp)) HV.out ?_
  simp only [Act.put, List.setIfInBounds_toArray, List.set_cons_zero, List.set_cons_succ]
  refine Scr.take (v := .pointer (some ia)) rfl rfl (yw_pure (by rfl) (fun _ => by go_simp)) HV.out ?_
  simp only [Act.put, List.setIfInBounds_toArray, List.set_cons_zero, List.set_cons_succ]
  refine Scr.run rfl (by rfl) (fun K hK => ?_)
  go_simp
  refine (HL.out.1 X.drew (HX.out.2.1.trans (TouchD.of_below (Below.refl _ _).drew (fun k hk => H.out.2.2.2.2.1 k (Nat.le_trans HX.out.2.1.size hk))))).mono ?_
  rintro e w9 ⟨rfl, rfl⟩
  rw [hM]
  dsimp only
  refine hK _ _ HV.out ?_
  clear hK K
  refine Scr.take (v := .int .i64 M) rfl rfl (yw_pure (by rfl) (fun _ => by go_simp)) HV.out ?_
  simp only [Act.put, List.setIfInBounds_toArray, List.set_cons_zero, List.set_cons_succ]
  refine Scr.take (v := .int .i64 LMn) rfl rfl (yw_pure (by rfl) (fun _ => by go_simp)) HV.out ?_
  simp only [Act.put, List.setIfInBounds_toArray, List.set_cons_zero, List.set_cons_succ]
  refine Scr.take (v := .int .i64 wq) rfl rfl (yw_pure (by rfl) (fun _ => by go_simp)) HV.out ?_
  simp only [Act.put, List.setIfInBounds_toArray, List.set_cons_zero, List.set_cons_succ]
  refine Scr.take (v := .int .i64 wd) rfl rfl (yw_pure (by rfl) (fun _ => by go_simp)) HV.out ?_
  simp only [Act.put, List.setIfInBounds_toArray, List.set_cons_zero, List.set_cons_succ]
  refine Scr.take (v := .int .i64 wd) rfl rfl (yw_pure (by rfl) (fun _ => by go_simp)) HV.out ?_
  simp only [Act.put, List.setIfInBounds_toArray, List.set_cons_zero, List.set_cons_succ]
  simp only [Scr]
  obtain ⟨Z, hZ⟩ : ∃ Z, X.drew = Z := ⟨_, rfl⟩
  have hZB : Below X.heap.size X Z := by rw [← hZ]; exact HV.out
  rw [hZ]
  clear hZ HV
  have hmZ := HX.out.1.below hZB
  have hn := fun k hk => H.out.2.2.2.2.1 k (Nat.le_trans HX.out.2.1.size hk)
  have htZ := HX.out.2.1.trans (TouchD.of_below hZB hn)
  have hbZ := (hZB.block _ (heap_lt HX.out.2.2)).trans HX.out.2.2
  have c0 : Z.cell? ⟨G, 0, none⟩ = some (.slice Ab nb cb) := by rw [cell_of_blk hmZ.blk]; rfl
  have nG := heap_lt hmZ.blk
  have hgr := grow_any Ab cb wd Z (rowU_of hmZ.bits) (by omega) (by have := H.out.2.2.2.2.2.2.2.2.2.2.1; have h9 := Nat.div_le_self (p.ins.length * rs.length) 64; omega)
  have HZ := Lib.hid (And.intro hmZ (And.intro htZ hbZ))
  clear hZB hmZ htZ hbZ hn hw1 hw1b hw2 hw3 hw3b hw3c hw4 HX HC
  go_wp2_with fail
  refine hgr.mono ?_
  clear hgr
  rintro e Y ⟨gb, cc, rfl, hle, hrow, hbY, hor⟩
  dsimp only
  have hmY := HZ.out.1.below hbY
  have hn := fun k hk => H.out.2.2.2.2.1 k (Nat.le_trans HZ.out.2.1.size hk)
  have htY := HZ.out.2.1.trans (TouchD.of_below hbY hn)
  have hgD : D gb := by
    rcases hor with h9 | h9
    · exact H.out.2.1 gb (.inr (.inl (by rw [h9]; rfl)))
    · exact hn gb h9
  have hbY2 := (hbY.block _ (heap_lt HZ.out.2.2)).trans HZ.out.2.2
  have hgG : gb ≠ G := by
    rintro rfl
    obtain ⟨cur, hk, _⟩ := hrow
    rw [hmY.blk] at hk
    simp only [Option.some.injEq, Obj.cells.injEq] at hk
    exact absurd hk.2.1 (by decide)
  have hrow2 : RowU (Y.setCell ⟨G, 0, none⟩ (.slice (some ⟨gb, 0, none⟩) wd cc)) gb cc := by
    obtain ⟨cur, hk, h8, h9⟩ := hrow
    exact ⟨cur, (set_ne0 Y _ hgG).trans hk, h8, h9⟩
  have hm2 := hmY.zeroBits hrow hle
  have hdG : D G := H.out.2.1 G (.inl rfl)
  have ht2 := htY.trans ((TouchD.set (j := 0) Y (.slice (some ⟨gb, 0, none⟩) wd cc) hdG).trans (touch_zero hgD ⟨cc, hrow2, hle⟩))
  have hne : W.heap.size ≠ G := by
    intro e
    have h9 := hbY2
    rw [e, hmY.blk] at h9
    simp only [Option.some.injEq, Obj.cells.injEq] at h9
    exact absurd h9.2.1 (by decide)
  have hneg : W.heap.size ≠ gb := by
    rintro rfl
    obtain ⟨cur, hk, _⟩ := hrow
    rw [hbY2] at hk
    simp only [Option.some.injEq, Obj.cells.injEq] at hk
    exact absurd hk.2.1 (by decide)
  have hb2 : ((Y.setCell ⟨G, 0, none⟩ (.slice (some ⟨gb, 0, none⟩) wd cc)).setCells gb 0 (List.replicate wd (.int .u64 0))).heap[W.heap.size]? = some (.cells #[.slice (some ad) p.ins.length c, .int .i64 p.start, .int .i64 p.caps] 28 (0, 0)) := by
    obtain ⟨_, k2, _⟩ := clear_own hrow2 hle
    refine (k2.block _ (by have := heap_lt hbY2; simpa [World.setCell] using this) (fun e => hneg (by cases e; rfl))).trans ?_
    rw [set_ne0 Y _ (show W.heap.size ≠ G from hne)]
    exact hbY2
  have cY : Y.cell? ⟨G, 0, none⟩ = some (.slice Ab nb cb) := by rw [cell_of_blk hmY.blk]; rfl
  have fY : Y.frozen? ⟨G, 0, none⟩ = false := frozenOf hmY.blk 0
  have nY := heap_lt hmY.blk
  have hwc : ¬ cc < wd := by omega
  have hw0 : 0 < wd := by omega
  have H2 := Lib.hid (And.intro hm2 (And.intro ht2 (And.intro hb2 (And.intro hgD (And.intro hdG (And.intro hne (And.intro hrow2 hle)))))))
  clear hmY htY hgD hbY2 hgG hrow hrow2 hm2 ht2 hne hneg hb2 hbY hor hdG hn c0 nG
  have hclr := fun ty => run_clearU hw0 hle H2.out.2.2.2.2.2.2.1 ty
  obtain ⟨V0, hV0⟩ : ∃ V0, (Y.setCell ⟨G, 0, none⟩ (.slice (some ⟨gb, 0, none⟩) wd cc)).setCells gb 0 (List.replicate wd (.int .u64 0)) = V0 := ⟨_, rfl⟩
  rw [hV0] at hclr H2
  clear hV0
  have c3 : V0.cell? ⟨G, 3, none⟩ = some sv := by rw [cell_of_blk H2.out.1.blk]; rfl
  have c4 : V0.cell? ⟨G, 4, none⟩ = some (.int .i64 st) := by rw [cell_of_blk H2.out.1.blk]; rfl
  have f3 : V0.frozen? ⟨G, 3, none⟩ = false := frozenOf H2.out.1.blk 3
  have f4 : V0.frozen? ⟨G, 4, none⟩ = false := frozenOf H2.out.1.blk 4
  have nV := heap_lt H2.out.1.blk
  have hmV := (H2.out.1.setBest0).setSteps 0
  have hzb : BitsOK p.ins.length rs.length (List.replicate wd 0) emptyW.seen := by rw [← hwd]; exact bits_zero _ _
  have htV : TouchD D W ((V0.setCell ⟨G, 3, none⟩ (.slice none 0 0)).setCell ⟨G, 4, none⟩ (.int .i64 0)) := H2.out.2.1.trans ((TouchD.set (j := 3) V0 (.slice none 0 0) H2.out.2.2.2.2.1).trans (TouchD.set (j := 4) _ (.int .i64 0) H2.out.2.2.2.2.1))
  have hbV : ((V0.setCell ⟨G, 3, none⟩ (.slice none 0 0)).setCell ⟨G, 4, none⟩ (.int .i64 0)).heap[W.heap.size]? = some (.cells #[.slice (some ad) p.ins.length c, .int .i64 p.start, .int .i64 p.caps] 28 (0, 0)) := by
    rw [set_ne0 _ _ (show W.heap.size ≠ G from H2.out.2.2.2.2.2.1), set_ne0 _ _ (show W.heap.size ≠ G from H2.out.2.2.2.2.2.1)]
    exact H2.out.2.2.1
  have hOb : OwnD D (.slice (some ⟨gb, 0, none⟩) wd cc) := fun k e => by cases e; exact H2.out.2.2.2.1
  have hOj : OwnD D jv := fun k e => H.out.2.1 k (.inr (.inr (.inl e)))
  have hOf : OwnD D fv := fun k e => H.out.2.1 k (.inr (.inr (.inr (.inl e))))
  have HV := Lib.hid (And.intro hmV (And.intro hzb (And.intro htV (And.intro hbV (And.intro hOb (And.intro hOj hOf))))))
  have hln := HL.out.1 _ htV
  rw [hM] at hln
  have xV : ((V0.setCell ⟨G, 3, none⟩ (.slice none 0 0)).setCell ⟨G, 4, none⟩ (.int .i64 0)).cell? ⟨W.heap.size, 0, none⟩ = some (.slice (some ad) p.ins.length c) ∧ ((V0.setCell ⟨G, 3, none⟩ (.slice none 0 0)).setCell ⟨G, 4, none⟩ (.int .i64 0)).cell? ⟨W.heap.size, 1, none⟩ = some (.int .i64 p.start) ∧ ((V0.setCell ⟨G, 3, none⟩ (.slice none 0 0)).setCell ⟨G, 4, none⟩ (.int .i64 0)).cell? ⟨W.heap.size, 2, none⟩ = some (.int .i64 p.caps) := ⟨by rw [cell_of_blk hbV]; rfl, by rw [cell_of_blk hbV]; rfl, by rw [cell_of_blk hbV]; rfl⟩
  clear hmV hzb htV hbV hOb hOj hOf
  have HB := Lib.hid (And.intro hwd (And.intro hw0 hle))
  clear hwd hw0 hwc
  cases anch with
  | true =>
    by_cases hneg : fr < 0
    · have hd : decide (fr < 0) = true := decide_eq_true hneg
      have HR := Lib.hid (show findB p (runeAt rs) (atOf rs) lg rs.length fr true = none by unfold findB; rw [if_pos rfl, if_pos (.inl hneg)])
      clear xV
      go_wp2_with fail
      go_ret3
      rw [HR.out]
      exact ⟨none, 0, 0, rfl, Nat.le_refl _, Nat.zero_le _, Int.le_refl _, by omega, HV.out.2.2.1, D, fun _ h => h, ⟨_, _, _, _, _, _, _, _, _, HV.out.1, fun k hk => by
        rcases hk with rfl | hk | hk | hk | hk
        · exact H2.out.2.2.2.2.1
        · exact HV.out.2.2.2.2.1 k hk
        · exact HV.out.2.2.2.2.2.1 k hk
        · exact HV.out.2.2.2.2.2.2 k hk
        · simp [Value.ownBlock] at hk⟩, Arr.nil⟩
    · have hd : decide (fr < 0) = false := decide_eq_false hneg
      by_cases hbig : (M : Int) - 1 < fr
      · have hd2 : decide ((M : Int) - 1 < fr) = true := decide_eq_true hbig
        have HR := Lib.hid (show findB p (runeAt rs) (atOf rs) lg rs.length fr true = none by unfold findB; rw [if_pos rfl, if_pos (.inr (by omega))])
        clear xV
        go_wp2_with (go_at_call 15; refine hln.mono ?_; clear hln; rintro e w' ⟨rfl, rfl⟩)
        go_ret3
        rw [HR.out]
        exact ⟨none, 0, 0, rfl, Nat.le_refl _, Nat.zero_le _, Int.le_refl _, by omega, HV.out.2.2.1, D, fun _ h => h, ⟨_, _, _, _, _, _, _, _, _, HV.out.1, fun k hk => by
          rcases hk with rfl | hk | hk | hk | hk
          · exact H2.out.2.2.2.2.1
          · exact HV.out.2.2.2.2.1 k hk
          · exact HV.out.2.2.2.2.2.1 k hk
          · exact HV.out.2.2.2.2.2.2 k hk
          · simp [Value.ownBlock] at hk⟩, Arr.nil⟩
      · have hd2 : decide ((M : Int) - 1 < fr) = false := decide_eq_false hbig
        have HR := Lib.hid (show findB p (runeAt rs) (atOf rs) lg rs.length fr true = (tryW p (runeAt rs) (atOf rs) lg rs.length fr emptyW).best by unfold findB runB; rw [if_pos rfl, if_neg (by omega)])
        obtain ⟨f, rfl⟩ := Int.eq_ofNat_of_zero_le (show 0 ≤ fr by omega)
        have hlf : left (allP p rs.length) emptyW ≤ rs.length * p.ins.length := by have := left_len (allP p rs.length) emptyW; rwa [allP_len] at this
        have hKB : KB p ≤ 4005 := by have := H.out.2.2.2.2.2.2.2.2.2.2.2.1; unfold KB; omega
        have hKL : KB p * left (allP p rs.length) emptyW ≤ KB p * (rs.length * p.ins.length) := Nat.mul_le_mul_left _ hlf
        have hKM : KB p * (rs.length * p.ins.length) ≤ 4005 * 65536 := Nat.mul_le_mul hKB (by rw [Nat.mul_comm]; exact H.out.2.2.2.2.2.2.2.2.2.2.1)
        have htry := try_any p ad c G ia rs lg D _ _ jv fv _ js fit 0 emptyW f HV.out.1 HV.out.2.1 rfl HV.out.2.2.2.2.1 HV.out.2.2.2.2.2.1 HV.out.2.2.2.2.2.2 (H.out.2.2.1.touch HV.out.2.2.1) (H.out.2.2.2.1.move (fun k hk _ => ⟨HV.out.2.2.1.block k hk, hk⟩)) (fun k hk => H.out.2.2.2.2.1 k (Nat.le_trans HV.out.2.2.1.size hk)) H2.out.2.2.2.2.1 H.out.2.2.2.2.2.2.2.2.2.1 H.out.2.2.2.2.2.2.1 (by have := H.out.2.2.2.2.2.2.2.2.2.2.1; omega) H.out.2.2.2.2.2.2.2.1 H.out.2.2.2.2.2.2.2.2.1 (by omega) (Int.le_refl _) (by omega)
        have HK := Lib.hid (And.intro hlf (And.intro hKB (And.intro hKL hKM)))
        clear hlf hKB hKL hKM
        obtain ⟨x0, x1, x2⟩ := xV
        go_wp2_with (go_at_call 15; refine hln.mono ?_; clear hln; rintro e w' ⟨rfl, rfl⟩)
        refine htry.mono ?_
        clear htry
        rintro e E ⟨rfl, J', fit', st', bv', jv', fv', sv', ws', e1, e2, e3, e4, e5, e6, e7, e8, e9, e10⟩
        dsimp only
        have hn9 := H.out.2.2.2.2.1
        have hkl := HK.out.2.2.1
        have hst9 : st' ≤ ((KB p * (rs.length * p.ins.length) + 2 * rs.length : Nat) : Int) := by have := H.out.2.2.2.2.2.1; omega
        have hte := HV.out.2.2.1.trans e7
        have HFR := Lib.hid (show (f : Int) < rs.length by omega)
        clear hd hd2 hneg hbig x0 x1 x2 e10
        cases hbst : (tryW p (runeAt rs) (atOf rs) lg rs.length f emptyW).best with
        | none =>
          rw [hbst] at e1 HR
          obtain rfl : sv' = .slice none 0 0 := e1.best
          clear hbst
          have hCE : ∀ W', Below E.heap.size E W' → W'.cell? ⟨G, 3, none⟩ = some (.slice none 0 0) ∧ W'.cell? ⟨G, 4, none⟩ = some (.int .i64 st') := fun W' hW => ⟨by rw [cell_of_blk ((hW.block _ (heap_lt e1.blk)).trans e1.blk)]; rfl, by rw [cell_of_blk ((hW.block _ (heap_lt e1.blk)).trans e1.blk)]; rfl⟩
          have HCE := Lib.hid hCE
          have heqn := fun (W : World) (a : Option Addr) (n c : Nat) => Lib.run_eql_slice_nil (P := Tryd.prog) W 35 3 a n c 0 0 Tryd.underlying35
          have hcl := cloneInt Int (IntC .i64) (fun x c h u hu => by rw [h] at hu; simp at hu; subst hu; rfl) (fun _ => True) E.drew none 0 [] Arr.nil (by simp)
          have HE1 := Lib.hid e1
          clear hCE e1
          go_wp2_with fail
          refine wp_region_scr (fun W' => Below E.heap.size E W') [(true, 0, 99), (true, 1, 100), (true, 2, 101), (true, 3, 102), (true, 5, 104), (true, 6, 105), (true, 7, 106), (true, 8, 107), (true, 9, 108), (true, 10, 109), (true, 11, 110), (true, 12, 111), (true, 13, 112), (false, 4, 103), (true, 14, 12), (true, 15, 13), (true, 16, 14)] (by kernel_rfl) (by kernel_rfl) (fun _ _ _ _ _ h => h) rfl (by kernel_rfl) ?_
          have HV9 := Lib.hid (show Below E.heap.size E E.drew from (Below.refl _ _).drew)
          refine Scr.take (v := .pointer (some ⟨G, 0, none⟩)) rfl rfl (yw_pure (by rfl) (fun _ => by go_simp)) HV9.out ?_
          simp only [Act.put, List.setIfInBounds_toArray, List.set_cons_zero, List.set_cons_succ]
          refine Scr.take (v := .pointer (some ⟨G, 0, none⟩)) rfl rfl (yw_pure (by rfl) (fun _ => by go_simp)) HV9.out ?_
          simp only [Act.put, List.setIfInBounds_toArray, List.set_cons_zero, List.set_cons_succ]
          refine Scr.take (v := .pointer (some ⟨G, 3, none⟩)) rfl rfl (yw_pure (by rfl) (fun _ => by go_simp)) HV9.out ?_
          simp only [Act.put, List.setIfInBounds_toArray, List.set_cons_zero, List.set_cons_succ]
          refine Scr.take (v := .slice none 0 0) rfl rfl (yw_cell 35 _ rfl ⟨G, 3, none⟩ (.slice none 0 0) rfl (by rfl) _ Tryd.underlying35 rfl (fun W hS => (HCE.out W hS).1)) HV9.out ?_
          simp only [Act.put, List.setIfInBounds_toArray, List.set_cons_zero, List.set_cons_succ]
          refine Scr.take (v := .pointer (some ⟨G, 0, none⟩)) rfl rfl (yw_pure (by rfl) (fun _ => by go_simp)) HV9.out ?_
          simp only [Act.put, List.setIfInBounds_toArray, List.set_cons_zero, List.set_cons_succ]
          refine Scr.take (v := .pointer (some ⟨G, 0, none⟩)) rfl rfl (yw_pure (by rfl) (fun _ => by go_simp)) HV9.out ?_
          simp only [Act.put, List.setIfInBounds_toArray, List.set_cons_zero, List.set_cons_succ]
          refine Scr.take (v := .pointer (some ⟨G, 3, none⟩)) rfl rfl (yw_pure (by rfl) (fun _ => by go_simp)) HV9.out ?_
          simp only [Act.put, List.setIfInBounds_toArray, List.set_cons_zero, List.set_cons_succ]
          refine Scr.take (v := .slice none 0 0) rfl rfl (yw_cell 35 _ rfl ⟨G, 3, none⟩ (.slice none 0 0) rfl (by rfl) _ Tryd.underlying35 rfl (fun W hS => (HCE.out W hS).1)) HV9.out ?_
          simp only [Act.put, List.setIfInBounds_toArray, List.set_cons_zero, List.set_cons_succ]
          refine Scr.take (v := .bool false) rfl rfl (yw_pure (by rfl) (fun _ => by go_simp)) HV9.out ?_
          simp only [Act.put, List.setIfInBounds_toArray, List.set_cons_zero, List.set_cons_succ]
          refine Scr.take (v := .pointer (some ⟨G, 0, none⟩)) rfl rfl (yw_pure (by rfl) (fun _ => by go_simp)) HV9.out ?_
          simp only [Act.put, List.setIfInBounds_toArray, List.set_cons_zero, List.set_cons_succ]
          refine Scr.take (v := .pointer (some ⟨G, 0, none⟩)) rfl rfl (yw_pure (by rfl) (fun _ => by go_simp)) HV9.out ?_
          simp only [Act.put, List.setIfInBounds_toArray, List.set_cons_zero, List.set_cons_succ]
          refine Scr.take (v := .pointer (some ⟨G, 4, none⟩)) rfl rfl (yw_pure (by rfl) (fun _ => by go_simp)) HV9.out ?_
          simp only [Act.put, List.setIfInBounds_toArray, List.set_cons_zero, List.set_cons_succ]
          refine Scr.take (v := .int .i64 st') rfl rfl (yw_cell 3 _ rfl ⟨G, 4, none⟩ (.int .i64 st') rfl (by rfl) _ Tryd.underlying3 rfl (fun W hS => (HCE.out W hS).2)) HV9.out ?_
          simp only [Act.put, List.setIfInBounds_toArray, List.set_cons_zero, List.set_cons_succ]
          refine Scr.run rfl (by rfl) (fun K hK => ?_)
          go_simp
          refine hcl.mono ?_
          clear hcl
          rintro e w9 ⟨v9, css9, rfl, hl9, hE9, hown9, hb9⟩
          obtain rfl : css9 = [] := List.eq_nil_of_length_eq_zero hl9
          obtain ⟨A9, c9, rfl, _, _⟩ := hown9.shape
          simp only [List.length_nil] at hown9 ⊢
          try dsimp only
          have hB9 : Below E.heap.size E w9 := (Below.refl E.heap.size E).drew.trans (hb9.mono (Nat.le_refl _))
          refine hK _ _ hB9 ?_
          clear hK K HV9
          have HV9 := Lib.hid hB9
          refine Scr.take (v := .slice A9 0 c9) rfl rfl (yw_pure (by rfl) (fun _ => by go_simp)) HV9.out ?_
          simp only [Act.put, List.setIfInBounds_toArray, List.set_cons_zero, List.set_cons_succ]
          refine Scr.take (v := .bool false) rfl rfl (yw_pure (by rfl) (fun _ => by go_simp)) HV9.out ?_
          simp only [Act.put, List.setIfInBounds_toArray, List.set_cons_zero, List.set_cons_succ]
          refine Scr.take (v := .int .i64 st') rfl rfl (yw_pure (by rfl) (fun _ => by go_simp)) HV9.out ?_
          simp only [Act.put, List.setIfInBounds_toArray, List.set_cons_zero, List.set_cons_succ]
          simp only [Scr]
          go_wp2_with fail
          go_ret3
          rw [HR.out]
          exact find_post (b := none) HE1.out H2.out.2.2.2.2.1 e3 e4 e5 (OwnD.nil D) hn9 hte HV9.out e9 hst9 hown9
        | some l =>
          rw [hbst] at e1 HR
          obtain ⟨gs, cs, hse, _, _, _, _⟩ := own_lit e1.best.2.1 (by have := e1.best.1; rw [List.length_map]; omega)
          rw [List.length_map] at hse
          subst hse
          have hll : (l.length : Int) = p.caps := try_len H.out.2.2.2.2.2.2.2.2.2.1 (by omega) HFR.out rfl hbst
          have hl2 : 2 ≤ l.length ∧ l.length ≤ 4002 := by have := H.out.2.2.2.2.2.2.2.2.2.2.2.1; omega
          clear hbst hll
          have hCE : ∀ W', Below E.heap.size E W' → W'.cell? ⟨G, 3, none⟩ = some (.slice (some ⟨gs, 0, none⟩) l.length cs) ∧ W'.cell? ⟨G, 4, none⟩ = some (.int .i64 st') := fun W' hW => ⟨by rw [cell_of_blk ((hW.block _ (heap_lt e1.blk)).trans e1.blk)]; rfl, by rw [cell_of_blk ((hW.block _ (heap_lt e1.blk)).trans e1.blk)]; rfl⟩
          have HCE := Lib.hid hCE
          have heqn := fun (W : World) (a : Option Addr) (n c : Nat) => Lib.run_eql_slice_nil (P := Tryd.prog) W 35 3 a n c 0 0 Tryd.underlying35
          have hcl := cloneI_any (fun k => 0 ≤ k) E.drew (some ⟨gs, 0, none⟩) cs l (ownI64_arr0 (show Owns E.drew 0 3 1 (.slice (some ⟨gs, 0, none⟩) l.length cs) (l.map i64C) from e1.best.2.1)) (by omega) (by omega)
          have HE1 := Lib.hid e1
          clear hCE e1
          go_wp2_with fail
          refine wp_region_scr (fun W' => Below E.heap.size E W') [(true, 0, 99), (true, 1, 100), (true, 2, 101), (true, 3, 102), (true, 5, 104), (true, 6, 105), (true, 7, 106), (true, 8, 107), (true, 9, 108), (true, 10, 109), (true, 11, 110), (true, 12, 111), (true, 13, 112), (false, 4, 103), (true, 14, 12), (true, 15, 13), (true, 16, 14)] (by kernel_rfl) (by kernel_rfl) (fun _ _ _ _ _ h => h) rfl (by kernel_rfl) ?_
          have HV9 := Lib.hid (show Below E.heap.size E E.drew from (Below.refl _ _).drew)
          refine Scr.take (v := .pointer (some ⟨G, 0, none⟩)) rfl rfl (yw_pure (by rfl) (fun _ => by go_simp)) HV9.out ?_
          simp only [Act.put, List.setIfInBounds_toArray, List.set_cons_zero, List.set_cons_succ]
          refine Scr.take (v := .pointer (some ⟨G, 0, none⟩)) rfl rfl (yw_pure (by rfl) (fun _ => by go_simp)) HV9.out ?_
          simp only [Act.put, List.setIfInBounds_toArray, List.set_cons_zero, List.set_cons_succ]
          refine Scr.take (v := .pointer (some ⟨G, 3, none⟩)) rfl rfl (yw_pure (by rfl) (fun _ => by go_simp)) HV9.out ?_
          simp only [Act.put, List.setIfInBounds_toArray, List.set_cons_zero, List.set_cons_succ]
          refine Scr.take (v := .slice (some ⟨gs, 0, none⟩) l.length cs) rfl rfl (yw_cell 35 _ rfl ⟨G, 3, none⟩ (.slice (some ⟨gs, 0, none⟩) l.length cs) rfl (by rfl) _ Tryd.underlying35 rfl (fun W hS => (HCE.out W hS).1)) HV9.out ?_
          simp only [Act.put, List.setIfInBounds_toArray, List.set_cons_zero, List.set_cons_succ]
          refine Scr.take (v := .pointer (some ⟨G, 0, none⟩)) rfl rfl (yw_pure (by rfl) (fun _ => by go_simp)) HV9.out ?_
          simp only [Act.put, List.setIfInBounds_toArray, List.set_cons_zero, List.set_cons_succ]
          refine Scr.take (v := .pointer (some ⟨G, 0, none⟩)) rfl rfl (yw_pure (by rfl) (fun _ => by go_simp)) HV9.out ?_
          simp only [Act.put, List.setIfInBounds_toArray, List.set_cons_zero, List.set_cons_succ]
          refine Scr.take (v := .pointer (some ⟨G, 3, none⟩)) rfl rfl (yw_pure (by rfl) (fun _ => by go_simp)) HV9.out ?_
          simp only [Act.put, List.setIfInBounds_toArray, List.set_cons_zero, List.set_cons_succ]
          refine Scr.take (v := .slice (some ⟨gs, 0, none⟩) l.length cs) rfl rfl (yw_cell 35 _ rfl ⟨G, 3, none⟩ (.slice (some ⟨gs, 0, none⟩) l.length cs) rfl (by rfl) _ Tryd.underlying35 rfl (fun W hS => (HCE.out W hS).1)) HV9.out ?_
          simp only [Act.put, List.setIfInBounds_toArray, List.set_cons_zero, List.set_cons_succ]
          refine Scr.take (v := .bool true) rfl rfl (yw_pure (by rfl) (fun _ => by go_simp)) HV9.out ?_
          simp only [Act.put, List.setIfInBounds_toArray, List.set_cons_zero, List.set_cons_succ]
          refine Scr.take (v := .pointer (some ⟨G, 0, none⟩)) rfl rfl (yw_pure (by rfl) (fun _ => by go_simp)) HV9.out ?_
          simp only [Act.put, List.setIfInBounds_toArray, List.set_cons_zero, List.set_cons_succ]
          refine Scr.take (v := .pointer (some ⟨G, 0, none⟩)) rfl rfl (yw_pure (by rfl) (fun _ => by go_simp)) HV9.out ?_
          simp only [Act.put, List.setIfInBounds_toArray, List.set_cons_zero, List.set_cons_succ]
          refine Scr.take (v := .pointer (some ⟨G, 4, none⟩)) rfl rfl (yw_pure (by rfl) (fun _ => by go_simp)) HV9.out ?_
          simp only [Act.put, List.setIfInBounds_toArray, List.set_cons_zero, List.set_cons_succ]
          refine Scr.take (v := .int .i64 st') rfl rfl (yw_cell 3 _ rfl ⟨G, 4, none⟩ (.int .i64 st') rfl (by rfl) _ Tryd.underlying3 rfl (fun W hS => (HCE.out W hS).2)) HV9.out ?_
          simp only [Act.put, List.setIfInBounds_toArray, List.set_cons_zero, List.set_cons_succ]
          refine Scr.run rfl (by rfl) (fun K hK => ?_)
          go_simp
          refine hcl.mono ?_
          clear hcl
          rintro e w9 ⟨g9, c9, rfl, hown9, hb9⟩
          try dsimp only
          have hB9 : Below E.heap.size E w9 := (Below.refl E.heap.size E).drew.trans (hb9.mono (Nat.le_refl _))
          refine hK _ _ hB9 ?_
          clear hK K HV9
          have HV9 := Lib.hid hB9
          refine Scr.take (v := .slice (some ⟨g9, 0, none⟩) l.length c9) rfl rfl (yw_pure (by rfl) (fun _ => by go_simp)) HV9.out ?_
          simp only [Act.put, List.setIfInBounds_toArray, List.set_cons_zero, List.set_cons_succ]
          refine Scr.take (v := .bool true) rfl rfl (yw_pure (by rfl) (fun _ => by go_simp)) HV9.out ?_
          simp only [Act.put, List.setIfInBounds_toArray, List.set_cons_zero, List.set_cons_succ]
          refine Scr.take (v := .int .i64 st') rfl rfl (yw_pure (by rfl) (fun _ => by go_simp)) HV9.out ?_
          simp only [Act.put, List.setIfInBounds_toArray, List.set_cons_zero, List.set_cons_succ]
          simp only [Scr]
          go_wp2_with fail
          go_ret3
          rw [HR.out]
          exact find_post (b := some l) HE1.out H2.out.2.2.2.2.1 e3 e4 e5 e6 hn9 hte HV9.out e9 hst9 hown9
  | false =>
    obtain ⟨a0, ha0⟩ : ∃ a0 : Nat, max fr 0 = (a0 : Int) := ⟨(max fr 0).toNat, by omega⟩
    obtain ⟨Fx, hFx⟩ : ∃ Fx, triesW p (runeAt rs) (atOf rs) lg rs.length (rs.length - a0) a0 emptyW = Fx := ⟨_, rfl⟩
    have hl9 := check_leads H.out.2.2.2.2.2.2.2.2.2.1
    have HR := Lib.hid (show findB p (runeAt rs) (atOf rs) lg rs.length fr false = Fx.best by
      rw [← hFx]
      unfold findB
      rw [if_neg (by simp), ha0, show ((rs.length : Int) - (a0 : Int)).toNat = rs.length - a0 by omega]
      by_cases h9 : a0 ≤ rs.length
      · exact (tries_first hl9 H.out.2.2.2.2.2.2.2.2.2.2.2.1.2.2.1 (rs.length - a0) a0 emptyW (by omega) (by omega) rfl (dead_empty _)).symm
      · rw [show rs.length - a0 = 0 by omega]; rfl)
    have hlf : left (allP p rs.length) emptyW ≤ rs.length * p.ins.length := by have := left_len (allP p rs.length) emptyW; rwa [allP_len] at this
    have hKB : KB p ≤ 4005 := by have := H.out.2.2.2.2.2.2.2.2.2.2.2.1; unfold KB; omega
    have hKL : KB p * left (allP p rs.length) emptyW ≤ KB p * (rs.length * p.ins.length) := Nat.mul_le_mul_left _ hlf
    have hKM : KB p * (rs.length * p.ins.length) ≤ 4005 * 65536 := Nat.mul_le_mul hKB (by rw [Nat.mul_comm]; exact H.out.2.2.2.2.2.2.2.2.2.2.1)
    obtain ⟨BD, hBD⟩ : ∃ BD, KB p * (rs.length * p.ins.length) + 2 * rs.length = BD := ⟨_, rfl⟩
    have hBDl : BD ≤ 1000000000 := by have := H.out.2.2.2.2.2.2.1; omega
    obtain ⟨V, hVV⟩ : ∃ V, (V0.setCell ⟨G, 3, none⟩ (.slice none 0 0)).setCell ⟨G, 4, none⟩ (.int .i64 0) = V := ⟨_, rfl⟩
    rw [hVV] at HV
    have HK := Lib.hid (And.intro hFx (And.intro hKL (And.intro hBD hVV)))
    clear hFx hl9 hlf hKB hKL hKM hBD xV hln hVV
    go_wp2_with fail
    rw [HK.out.2.2.2]
    go_loopg [16] (rs.length + 2) (fun g s16 wr => ∃ (a : Nat) (S : Wk (Int × Int)) (st9 : Int), s16 = .int .i64 a ∧ FxI p ad c G W.heap.size rs D W S st9 wr ∧ Hid (triesW p (runeAt rs) (atOf rs) lg rs.length (rs.length - a) a S = Fx) ∧ 0 ≤ st9 ∧ st9 + ((KB p * left (allP p rs.length) S + 2 * (rs.length - a) : Nat) : Int) ≤ BD ∧ rs.length + 1 - a ≤ g)
    case atStart =>
      refine ⟨a0, emptyW, 0, by first | rfl | rw [ha0], ⟨⟨_, _, _, _, _, _, _, HV.out.1, HV.out.2.1, HV.out.2.2.2.2.1, HV.out.2.2.2.2.2.1, HV.out.2.2.2.2.2.2, OwnD.nil D⟩, HV.out.2.2.2.1, HV.out.2.2.1, fun b hb => by cases hb⟩, Lib.hid HK.out.1, Int.le_refl _, ?_, by omega⟩
      have h1 := HK.out.2.1
      have h2 := HK.out.2.2.1
      omega
    case round =>
      obtain ⟨a, S, st9, rfl, hF, HT, e9, hb9, hg9⟩ := hrel
      obtain ⟨⟨bv9, jv9, fv9, sv9, ws9, js9, fit9, m1, m2, o1, o2, o3, o4⟩, hbx, htc, hln9⟩ := hF
      have hlen9 := HL.out.1 wr htc
      rw [hM] at hlen9
      have c3 : wr.cell? ⟨G, 3, none⟩ = some sv9 := by rw [cell_of_blk m1.blk]; rfl
      have nG9 := heap_lt m1.blk
      have x0 : wr.cell? ⟨W.heap.size, 0, none⟩ = some (.slice (some ad) p.ins.length c) := by rw [cell_of_blk hbx]; rfl
      have x1 : wr.cell? ⟨W.heap.size, 1, none⟩ = some (.int .i64 p.start) := by rw [cell_of_blk hbx]; rfl
      have x2 : wr.cell? ⟨W.heap.size, 2, none⟩ = some (.int .i64 p.caps) := by rw [cell_of_blk hbx]; rfl
      have heqn := fun (W : World) (a : Option Addr) (n c : Nat) => Lib.run_eql_slice_nil (P := Tryd.prog) W 35 3 a n c 0 0 Tryd.underlying35
      have hn9 := H.out.2.2.2.2.1
      have hst9 : st9 ≤ ((KB p * (rs.length * p.ins.length) + 2 * rs.length : Nat) : Int) := by have := HK.out.2.2.1; omega
      by_cases hlt : (M : Int) - 1 < a
      · have hd : decide ((a : Int) ≤ (M : Int) - 1) = false := decide_eq_false (by omega)
        have hSF : S = Fx := by rw [← HT.out, show rs.length - a = 0 by omega]; rfl
        subst hSF
        cases hbst : S.best with
        | none =>
          rw [hbst] at m1 HR
          have e1 := m1
          obtain rfl : sv9 = .slice none 0 0 := e1.best
          have e3 := o1
          have e4 := o2
          have e5 := o3
          have HC9 := Lib.hid (And.intro m2 (And.intro o4 hbx))
          clear m1 m2 o1 o2 o3 o4 hbx hbst hln9 x0 x1 x2
          have hCE : ∀ W', Below wr.heap.size wr W' → W'.cell? ⟨G, 3, none⟩ = some (.slice none 0 0) ∧ W'.cell? ⟨G, 4, none⟩ = some (.int .i64 st9) := fun W' hW => ⟨by rw [cell_of_blk ((hW.block _ (heap_lt e1.blk)).trans e1.blk)]; rfl, by rw [cell_of_blk ((hW.block _ (heap_lt e1.blk)).trans e1.blk)]; rfl⟩
          have HCE := Lib.hid hCE
          have heqn := fun (W : World) (a : Option Addr) (n c : Nat) => Lib.run_eql_slice_nil (P := Tryd.prog) W 35 3 a n c 0 0 Tryd.underlying35
          have hcl := cloneInt Int (IntC .i64) (fun x c h u hu => by rw [h] at hu; simp at hu; subst hu; rfl) (fun _ => True) wr.drew none 0 [] Arr.nil (by simp)
          have HE1 := Lib.hid e1
          clear hCE e1
          go_wp2_with (go_at_call 15; refine hlen9.mono ?_; clear hlen9; rintro e w' ⟨rfl, rfl⟩)
          refine wp_region_scr (fun W' => Below wr.heap.size wr W') [(true, 0, 99), (true, 1, 100), (true, 2, 101), (true, 3, 102), (true, 5, 104), (true, 6, 105), (true, 7, 106), (true, 8, 107), (true, 9, 108), (true, 10, 109), (true, 11, 110), (true, 12, 111), (true, 13, 112), (false, 4, 103), (true, 14, 12), (true, 15, 13), (true, 16, 14)] (by kernel_rfl) (by kernel_rfl) (fun _ _ _ _ _ h => h) rfl (by kernel_rfl) ?_
          have HV9 := Lib.hid (show Below wr.heap.size wr wr.drew from (Below.refl _ _).drew)
          refine Scr.take (v := .pointer (some ⟨G, 0, none⟩)) rfl rfl (yw_pure (by rfl) (fun _ => by go_simp)) HV9.out ?_
          simp only [Act.put, List.setIfInBounds_toArray, List.set_cons_zero, List.set_cons_succ]
          refine Scr.take (v := .pointer (some ⟨G, 0, none⟩)) rfl rfl (yw_pure (by rfl) (fun _ => by go_simp)) HV9.out ?_
          simp only [Act.put, List.setIfInBounds_toArray, List.set_cons_zero, List.set_cons_succ]
          refine Scr.take (v := .pointer (some ⟨G, 3, none⟩)) rfl rfl (yw_pure (by rfl) (fun _ => by go_simp)) HV9.out ?_
          simp only [Act.put, List.setIfInBounds_toArray, List.set_cons_zero, List.set_cons_succ]
          refine Scr.take (v := .slice none 0 0) rfl rfl (yw_cell 35 _ rfl ⟨G, 3, none⟩ (.slice none 0 0) rfl (by rfl) _ Tryd.underlying35 rfl (fun W hS => (HCE.out W hS).1)) HV9.out ?_
          simp only [Act.put, List.setIfInBounds_toArray, List.set_cons_zero, List.set_cons_succ]
          refine Scr.take (v := .pointer (some ⟨G, 0, none⟩)) rfl rfl (yw_pure (by rfl) (fun _ => by go_simp)) HV9.out ?_
          simp only [Act.put, List.setIfInBounds_toArray, List.set_cons_zero, List.set_cons_succ]
          refine Scr.take (v := .pointer (some ⟨G, 0, none⟩)) rfl rfl (yw_pure (by rfl) (fun _ => by go_simp)) HV9.out ?_
          simp only [Act.put, List.setIfInBounds_toArray, List.set_cons_zero, List.set_cons_succ]
          refine Scr.take (v := .pointer (some ⟨G, 3, none⟩)) rfl rfl (yw_pure (by rfl) (fun _ => by go_simp)) HV9.out ?_
          simp only [Act.put, List.setIfInBounds_toArray, List.set_cons_zero, List.set_cons_succ]
          refine Scr.take (v := .slice none 0 0) rfl rfl (yw_cell 35 _ rfl ⟨G, 3, none⟩ (.slice none 0 0) rfl (by rfl) _ Tryd.underlying35 rfl (fun W hS => (HCE.out W hS).1)) HV9.out ?_
          simp only [Act.put, List.setIfInBounds_toArray, List.set_cons_zero, List.set_cons_succ]
          refine Scr.take (v := .bool false) rfl rfl (yw_pure (by rfl) (fun _ => by go_simp)) HV9.out ?_
          simp only [Act.put, List.setIfInBounds_toArray, List.set_cons_zero, List.set_cons_succ]
          refine Scr.take (v := .pointer (some ⟨G, 0, none⟩)) rfl rfl (yw_pure (by rfl) (fun _ => by go_simp)) HV9.out ?_
          simp only [Act.put, List.setIfInBounds_toArray, List.set_cons_zero, List.set_cons_succ]
          refine Scr.take (v := .pointer (some ⟨G, 0, none⟩)) rfl rfl (yw_pure (by rfl) (fun _ => by go_simp)) HV9.out ?_
          simp only [Act.put, List.setIfInBounds_toArray, List.set_cons_zero, List.set_cons_succ]
          refine Scr.take (v := .pointer (some ⟨G, 4, none⟩)) rfl rfl (yw_pure (by rfl) (fun _ => by go_simp)) HV9.out ?_
          simp only [Act.put, List.setIfInBounds_toArray, List.set_cons_zero, List.set_cons_succ]
          refine Scr.take (v := .int .i64 st9) rfl rfl (yw_cell 3 _ rfl ⟨G, 4, none⟩ (.int .i64 st9) rfl (by rfl) _ Tryd.underlying3 rfl (fun W hS => (HCE.out W hS).2)) HV9.out ?_
          simp only [Act.put, List.setIfInBounds_toArray, List.set_cons_zero, List.set_cons_succ]
          refine Scr.run rfl (by rfl) (fun K hK => ?_)
          go_simp
          refine hcl.mono ?_
          clear hcl
          rintro e w9 ⟨v9, css9, rfl, hl9, hE9, hown9, hb9⟩
          obtain rfl : css9 = [] := List.eq_nil_of_length_eq_zero hl9
          obtain ⟨A9, c9, rfl, _, _⟩ := hown9.shape
          simp only [List.length_nil] at hown9 ⊢
          try dsimp only
          have hB9 : Below wr.heap.size wr w9 := (Below.refl wr.heap.size wr).drew.trans (hb9.mono (Nat.le_refl _))
          refine hK _ _ hB9 ?_
          clear hK K HV9
          have HV9 := Lib.hid hB9
          refine Scr.take (v := .slice A9 0 c9) rfl rfl (yw_pure (by rfl) (fun _ => by go_simp)) HV9.out ?_
          simp only [Act.put, List.setIfInBounds_toArray, List.set_cons_zero, List.set_cons_succ]
          refine Scr.take (v := .bool false) rfl rfl (yw_pure (by rfl) (fun _ => by go_simp)) HV9.out ?_
          simp only [Act.put, List.setIfInBounds_toArray, List.set_cons_zero, List.set_cons_succ]
          refine Scr.take (v := .int .i64 st9) rfl rfl (yw_pure (by rfl) (fun _ => by go_simp)) HV9.out ?_
          simp only [Act.put, List.setIfInBounds_toArray, List.set_cons_zero, List.set_cons_succ]
          simp only [Scr]
          go_wp2_with fail
          go_ret3
          rw [HR.out]
          exact find_post (b := none) HE1.out H2.out.2.2.2.2.1 e3 e4 e5 (OwnD.nil D) hn9 htc HV9.out e9 hst9 hown9
        | some l =>
          rw [hbst] at m1 HR
          have e1 := m1
          have e6 := o4
          obtain ⟨gs, cs, hse, _, _, _, _⟩ := own_lit e1.best.2.1 (by have := e1.best.1; rw [List.length_map]; omega)
          rw [List.length_map] at hse
          subst hse
          have hl2 := hln9 l hbst
          have e3 := o1
          have e4 := o2
          have e5 := o3
          have HC9 := Lib.hid (And.intro m2 hbx)
          clear m1 m2 o1 o2 o3 o4 hbx hbst hln9 x0 x1 x2
          have hCE : ∀ W', Below wr.heap.size wr W' → W'.cell? ⟨G, 3, none⟩ = some (.slice (some ⟨gs, 0, none⟩) l.length cs) ∧ W'.cell? ⟨G, 4, none⟩ = some (.int .i64 st9) := fun W' hW => ⟨by rw [cell_of_blk ((hW.block _ (heap_lt e1.blk)).trans e1.blk)]; rfl, by rw [cell_of_blk ((hW.block _ (heap_lt e1.blk)).trans e1.blk)]; rfl⟩
          have HCE := Lib.hid hCE
          have heqn := fun (W : World) (a : Option Addr) (n c : Nat) => Lib.run_eql_slice_nil (P := Tryd.prog) W 35 3 a n c 0 0 Tryd.underlying35
          have hcl := cloneI_any (fun k => 0 ≤ k) wr.drew (some ⟨gs, 0, none⟩) cs l (ownI64_arr0 (show Owns wr.drew 0 3 1 (.slice (some ⟨gs, 0, none⟩) l.length cs) (l.map i64C) from e1.best.2.1)) (by omega) (by omega)
          have HE1 := Lib.hid e1
          clear hCE e1
          go_wp2_with (go_at_call 15; refine hlen9.mono ?_; clear hlen9; rintro e w' ⟨rfl, rfl⟩)
          refine wp_region_scr (fun W' => Below wr.heap.size wr W') [(true, 0, 99), (true, 1, 100), (true, 2, 101), (true, 3, 102), (true, 5, 104), (true, 6, 105), (true, 7, 106), (true, 8, 107), (true, 9, 108), (true, 10, 109), (true, 11, 110), (true, 12, 111), (true, 13, 112), (false, 4, 103), (true, 14, 12), (true, 15, 13), (true, 16, 14)] (by kernel_rfl) (by kernel_rfl) (fun _ _ _ _ _ h => h) rfl (by kernel_rfl) ?_
          have HV9 := Lib.hid (show Below wr.heap.size wr wr.drew from (Below.refl _ _).drew)
          refine Scr.take (v := .pointer (some ⟨G, 0, none⟩)) rfl rfl (yw_pure (by rfl) (fun _ => by go_simp)) HV9.out ?_
          simp only [Act.put, List.setIfInBounds_toArray, List.set_cons_zero, List.set_cons_succ]
          refine Scr.take (v := .pointer (some ⟨G, 0, none⟩)) rfl rfl (yw_pure (by rfl) (fun _ => by go_simp)) HV9.out ?_
          simp only [Act.put, List.setIfInBounds_toArray, List.set_cons_zero, List.set_cons_succ]
          refine Scr.take (v := .pointer (some ⟨G, 3, none⟩)) rfl rfl (yw_pure (by rfl) (fun _ => by go_simp)) HV9.out ?_
          simp only [Act.put, List.setIfInBounds_toArray, List.set_cons_zero, List.set_cons_succ]
          refine Scr.take (v := .slice (some ⟨gs, 0, none⟩) l.length cs) rfl rfl (yw_cell 35 _ rfl ⟨G, 3, none⟩ (.slice (some ⟨gs, 0, none⟩) l.length cs) rfl (by rfl) _ Tryd.underlying35 rfl (fun W hS => (HCE.out W hS).1)) HV9.out ?_
          simp only [Act.put, List.setIfInBounds_toArray, List.set_cons_zero, List.set_cons_succ]
          refine Scr.take (v := .pointer (some ⟨G, 0, none⟩)) rfl rfl (yw_pure (by rfl) (fun _ => by go_simp)) HV9.out ?_
          simp only [Act.put, List.setIfInBounds_toArray, List.set_cons_zero, List.set_cons_succ]
          refine Scr.take (v := .pointer (some ⟨G, 0, none⟩)) rfl rfl (yw_pure (by rfl) (fun _ => by go_simp)) HV9.out ?_
          simp only [Act.put, List.setIfInBounds_toArray, List.set_cons_zero, List.set_cons_succ]
          refine Scr.take (v := .pointer (some ⟨G, 3, none⟩)) rfl rfl (yw_pure (by rfl) (fun _ => by go_simp)) HV9.out ?_
          simp only [Act.put, List.setIfInBounds_toArray, List.set_cons_zero, List.set_cons_succ]
          refine Scr.take (v := .slice (some ⟨gs, 0, none⟩) l.length cs) rfl rfl (yw_cell 35 _ rfl ⟨G, 3, none⟩ (.slice (some ⟨gs, 0, none⟩) l.length cs) rfl (by rfl) _ Tryd.underlying35 rfl (fun W hS => (HCE.out W hS).1)) HV9.out ?_
          simp only [Act.put, List.setIfInBounds_toArray, List.set_cons_zero, List.set_cons_succ]
          refine Scr.take (v := .bool true) rfl rfl (yw_pure (by rfl) (fun _ => by go_simp)) HV9.out ?_
          simp only [Act.put, List.setIfInBounds_toArray, List.set_cons_zero, List.set_cons_succ]
          refine Scr.take (v := .pointer (some ⟨G, 0, none⟩)) rfl rfl (yw_pure (by rfl) (fun _ => by go_simp)) HV9.out ?_
          simp only [Act.put, List.setIfInBounds_toArray, List.set_cons_zero, List.set_cons_succ]
          refine Scr.take (v := .pointer (some ⟨G, 0, none⟩)) rfl rfl (yw_pure (by rfl) (fun _ => by go_simp)) HV9.out ?_
          simp only [Act.put, List.setIfInBounds_toArray, List.set_cons_zero, List.set_cons_succ]
          refine Scr.take (v := .pointer (some ⟨G, 4, none⟩)) rfl rfl (yw_pure (by rfl) (fun _ => by go_simp)) HV9.out ?_
          simp only [Act.put, List.setIfInBounds_toArray, List.set_cons_zero, List.set_cons_succ]
          refine Scr.take (v := .int .i64 st9) rfl rfl (yw_cell 3 _ rfl ⟨G, 4, none⟩ (.int .i64 st9) rfl (by rfl) _ Tryd.underlying3 rfl (fun W hS => (HCE.out W hS).2)) HV9.out ?_
          simp only [Act.put, List.setIfInBounds_toArray, List.set_cons_zero, List.set_cons_succ]
          refine Scr.run rfl (by rfl) (fun K hK => ?_)
          go_simp
          refine hcl.mono ?_
          clear hcl
          rintro e w9 ⟨g9, c9, rfl, hown9, hb9⟩
          try dsimp only
          have hB9 : Below wr.heap.size wr w9 := (Below.refl wr.heap.size wr).drew.trans (hb9.mono (Nat.le_refl _))
          refine hK _ _ hB9 ?_
          clear hK K HV9
          have HV9 := Lib.hid hB9
          refine Scr.take (v := .slice (some ⟨g9, 0, none⟩) l.length c9) rfl rfl (yw_pure (by rfl) (fun _ => by go_simp)) HV9.out ?_
          simp only [Act.put, List.setIfInBounds_toArray, List.set_cons_zero, List.set_cons_succ]
          refine Scr.take (v := .bool true) rfl rfl (yw_pure (by rfl) (fun _ => by go_simp)) HV9.out ?_
          simp only [Act.put, List.setIfInBounds_toArray, List.set_cons_zero, List.set_cons_succ]
          refine Scr.take (v := .int .i64 st9) rfl rfl (yw_pure (by rfl) (fun _ => by go_simp)) HV9.out ?_
          simp only [Act.put, List.setIfInBounds_toArray, List.set_cons_zero, List.set_cons_succ]
          simp only [Scr]
          go_wp2_with fail
          go_ret3
          rw [HR.out]
          exact find_post (b := some l) HE1.out H2.out.2.2.2.2.1 e3 e4 e5 e6 hn9 htc HV9.out e9 hst9 hown9
      · have hd : decide ((a : Int) ≤ (M : Int) - 1) = true := decide_eq_true (by omega)
        cases hbst : S.best with
        | some l =>
          have hSF : S = Fx := by rw [← HT.out, tries_some (by rw [hbst]; rfl)]
          subst hSF
          rw [hbst] at m1 HR
          have e1 := m1
          have e6 := o4
          obtain ⟨gs, cs, hse, _, _, _, _⟩ := own_lit e1.best.2.1 (by have := e1.best.1; rw [List.length_map]; omega)
          rw [List.length_map] at hse
          subst hse
          have hl2 := hln9 l hbst
          have e3 := o1
          have e4 := o2
          have e5 := o3
          have HC9 := Lib.hid (And.intro m2 hbx)
          clear m1 m2 o1 o2 o3 o4 hbx hbst hln9 x0 x1 x2
          have hCE : ∀ W', Below wr.heap.size wr W' → W'.cell? ⟨G, 3, none⟩ = some (.slice (some ⟨gs, 0, none⟩) l.length cs) ∧ W'.cell? ⟨G, 4, none⟩ = some (.int .i64 st9) := fun W' hW => ⟨by rw [cell_of_blk ((hW.block _ (heap_lt e1.blk)).trans e1.blk)]; rfl, by rw [cell_of_blk ((hW.block _ (heap_lt e1.blk)).trans e1.blk)]; rfl⟩
          have HCE := Lib.hid hCE
          have heqn := fun (W : World) (a : Option Addr) (n c : Nat) => Lib.run_eql_slice_nil (P := Tryd.prog) W 35 3 a n c 0 0 Tryd.underlying35
          have hcl := cloneI_any (fun k => 0 ≤ k) wr.drew (some ⟨gs, 0, none⟩) cs l (ownI64_arr0 (show Owns wr.drew 0 3 1 (.slice (some ⟨gs, 0, none⟩) l.length cs) (l.map i64C) from e1.best.2.1)) (by omega) (by omega)
          have HE1 := Lib.hid e1
          clear hCE e1
          go_wp2_with (go_at_call 15; refine hlen9.mono ?_; clear hlen9; rintro e w' ⟨rfl, rfl⟩)
          refine wp_region_scr (fun W' => Below wr.heap.size wr W') [(true, 0, 99), (true, 1, 100), (true, 2, 101), (true, 3, 102), (true, 5, 104), (true, 6, 105), (true, 7, 106), (true, 8, 107), (true, 9, 108), (true, 10, 109), (true, 11, 110), (true, 12, 111), (true, 13, 112), (false, 4, 103), (true, 14, 12), (true, 15, 13), (true, 16, 14)] (by kernel_rfl) (by kernel_rfl) (fun _ _ _ _ _ h => h) rfl (by kernel_rfl) ?_
          have HV9 := Lib.hid (show Below wr.heap.size wr wr.drew from (Below.refl _ _).drew)
          refine Scr.take (v := .pointer (some ⟨G, 0, none⟩)) rfl rfl (yw_pure (by rfl) (fun _ => by go_simp)) HV9.out ?_
          simp only [Act.put, List.setIfInBounds_toArray, List.set_cons_zero, List.set_cons_succ]
          refine Scr.take (v := .pointer (some ⟨G, 0, none⟩)) rfl rfl (yw_pure (by rfl) (fun _ => by go_simp)) HV9.out ?_
          simp only [Act.put, List.setIfInBounds_toArray, List.set_cons_zero, List.set_cons_succ]
          refine Scr.take (v := .pointer (some ⟨G, 3, none⟩)) rfl rfl (yw_pure (by rfl) (fun _ => by go_simp)) HV9.out ?_
          simp only [Act.put, List.setIfInBounds_toArray, List.set_cons_zero, List.set_cons_succ]
          refine Scr.take (v := .slice (some ⟨gs, 0, none⟩) l.length cs) rfl rfl (yw_cell 35 _ rfl ⟨G, 3, none⟩ (.slice (some ⟨gs, 0, none⟩) l.length cs) rfl (by rfl) _ Tryd.underlying35 rfl (fun W hS => (HCE.out W hS).1)) HV9.out ?_
          simp only [Act.put, List.setIfInBounds_toArray, List.set_cons_zero, List.set_cons_succ]
          refine Scr.take (v := .pointer (some ⟨G, 0, none⟩)) rfl rfl (yw_pure (by rfl) (fun _ => by go_simp)) HV9.out ?_
          simp only [Act.put, List.setIfInBounds_toArray, List.set_cons_zero, List.set_cons_succ]
          refine Scr.take (v := .pointer (some ⟨G, 0, none⟩)) rfl rfl (yw_pure (by rfl) (fun _ => by go_simp)) HV9.out ?_
          simp only [Act.put, List.setIfInBounds_toArray, List.set_cons_zero, List.set_cons_succ]
          refine Scr.take (v := .pointer (some ⟨G, 3, none⟩)) rfl rfl (yw_pure (by rfl) (fun _ => by go_simp)) HV9.out ?_
          simp only [Act.put, List.setIfInBounds_toArray, List.set_cons_zero, List.set_cons_succ]
          refine Scr.take (v := .slice (some ⟨gs, 0, none⟩) l.length cs) rfl rfl (yw_cell 35 _ rfl ⟨G, 3, none⟩ (.slice (some ⟨gs, 0, none⟩) l.length cs) rfl (by rfl) _ Tryd.underlying35 rfl (fun W hS => (HCE.out W hS).1)) HV9.out ?_
          simp only [Act.put, List.setIfInBounds_toArray, List.set_cons_zero, List.set_cons_succ]
          refine Scr.take (v := .bool true) rfl rfl (yw_pure (by rfl) (fun _ => by go_simp)) HV9.out ?_
          simp only [Act.put, List.setIfInBounds_toArray, List.set_cons_zero, List.set_cons_succ]
          refine Scr.take (v := .pointer (some ⟨G, 0, none⟩)) rfl rfl (yw_pure (by rfl) (fun _ => by go_simp)) HV9.out ?_
          simp only [Act.put, List.setIfInBounds_toArray, List.set_cons_zero, List.set_cons_succ]
          refine Scr.take (v := .pointer (some ⟨G, 0, none⟩)) rfl rfl (yw_pure (by rfl) (fun _ => by go_simp)) HV9.out ?_
          simp only [Act.put, List.setIfInBounds_toArray, List.set_cons_zero, List.set_cons_succ]
          refine Scr.take (v := .pointer (some ⟨G, 4, none⟩)) rfl rfl (yw_pure (by rfl) (fun _ => by go_simp)) HV9.out ?_
          simp only [Act.put, List.setIfInBounds_toArray, List.set_cons_zero, List.set_cons_succ]
          refine Scr.take (v := .int .i64 st9) rfl rfl (yw_cell 3 _ rfl ⟨G, 4, none⟩ (.int .i64 st9) rfl (by rfl) _ Tryd.underlying3 rfl (fun W hS => (HCE.out W hS).2)) HV9.out ?_
          simp only [Act.put, List.setIfInBounds_toArray, List.set_cons_zero, List.set_cons_succ]
          refine Scr.run rfl (by rfl) (fun K hK => ?_)
          go_simp
          refine hcl.mono ?_
          clear hcl
          rintro e w9 ⟨g9, c9, rfl, hown9, hb9⟩
          try dsimp only
          have hB9 : Below wr.heap.size wr w9 := (Below.refl wr.heap.size wr).drew.trans (hb9.mono (Nat.le_refl _))
          refine hK _ _ hB9 ?_
          clear hK K HV9
          have HV9 := Lib.hid hB9
          refine Scr.take (v := .slice (some ⟨g9, 0, none⟩) l.length c9) rfl rfl (yw_pure (by rfl) (fun _ => by go_simp)) HV9.out ?_
          simp only [Act.put, List.setIfInBounds_toArray, List.set_cons_zero, List.set_cons_succ]
          refine Scr.take (v := .bool true) rfl rfl (yw_pure (by rfl) (fun _ => by go_simp)) HV9.out ?_
          simp only [Act.put, List.setIfInBounds_toArray, List.set_cons_zero, List.set_cons_succ]
          refine Scr.take (v := .int .i64 st9) rfl rfl (yw_pure (by rfl) (fun _ => by go_simp)) HV9.out ?_
          simp only [Act.put, List.setIfInBounds_toArray, List.set_cons_zero, List.set_cons_succ]
          simp only [Scr]
          go_wp2_with fail
          go_ret3
          rw [HR.out]
          exact find_post (b := some l) HE1.out H2.out.2.2.2.2.1 e3 e4 e5 e6 hn9 htc HV9.out e9 hst9 hown9
        | none =>
          rw [hbst] at m1
          obtain rfl : sv9 = .slice none 0 0 := m1.best
          have hleS : KB p * left (allP p rs.length) S ≤ BD := by omega
          have hty : TyB 28 wr W.heap.size := ⟨_, _, hbx⟩
          have o1' : OwnD (fun k => D k ∧ k ≠ W.heap.size) bv9 := fun k e => ⟨o1 k e, fun h => hty.ne_own m1.bits (by decide) (by rw [← h]; exact e.symm)⟩
          have o2' : OwnD (fun k => D k ∧ k ≠ W.heap.size) jv9 := fun k e => ⟨o2 k e, fun h => hty.ne_own m1.jobs (by decide) (by rw [← h]; exact e.symm)⟩
          have o3' : OwnD (fun k => D k ∧ k ≠ W.heap.size) fv9 := fun k e => ⟨o3 k e, fun h => hty.ne_own m1.fit (by decide) (by rw [← h]; exact e.symm)⟩
          have hszW := heap_lt hbx
          have htry := try_any p ad c G ia rs lg (fun k => D k ∧ k ≠ W.heap.size) wr bv9 jv9 fv9 ws9 js9 fit9 st9 S a m1 m2 hbst o1' o2' o3' ((H.out.2.2.1.touch htc).move (fun k hk _ => ⟨rfl, fun h => hk h.1⟩)) (H.out.2.2.2.1.move (fun k hk _ => ⟨htc.block k hk, fun h => hk h.1⟩)) (fun k hk => ⟨hn9 k (Nat.le_trans htc.size hk), by omega⟩) ⟨H2.out.2.2.2.2.1, fun h => H2.out.2.2.2.2.2.1 h.symm⟩ H.out.2.2.2.2.2.2.2.2.2.1 H.out.2.2.2.2.2.2.1 (by have := H.out.2.2.2.2.2.2.2.2.2.2.1; omega) H.out.2.2.2.2.2.2.2.1 H.out.2.2.2.2.2.2.2.2.1 (by omega) e9 (by omega)
          have HC9 := Lib.hid (And.intro hbst (And.intro htc (And.intro hb9 (And.intro hbx m1))))
          have hwa : IntKind.i64.wrap ((a : Int) + 1) = ((a + 1 : Nat) : Int) := by rw [IntWalk.i64_in _ (by have := H.out.2.2.2.2.2.2.1; omega)]; omega
          obtain ⟨a1, ha1⟩ : ∃ a1, a + 1 = a1 := ⟨_, rfl⟩
          rw [ha1] at hwa
          clear m1 m2 o1 o2 o3 o4 hbst hln9 o1' o2' o3' hty
          go_wp2_with (go_at_call 15; refine hlen9.mono ?_; clear hlen9; rintro e w' ⟨rfl, rfl⟩)
          refine htry.mono ?_
          clear htry
          rintro e E ⟨rfl, J', fit', st', bv', jv', fv', sv', ws', e1, e2, e3, e4, e5, e6, e7, e8, e9', e10⟩
          dsimp only
          go_wp2_with fail
          go_roundg (gk - 1)
          case measure => omega
          case rel =>
            have hk1 : rs.length - a = (rs.length - a1) + 1 := by omega
            have hneE : W.heap.size ≠ G := H2.out.2.2.2.2.2.1
            refine ⟨a1, tryW p (runeAt rs) (atOf rs) lg rs.length a S, st', by first | rfl | go_num, ⟨⟨_, _, _, _, _, _, _, e1, e2, fun k e => (e3 k e).1, fun k e => (e4 k e).1, fun k e => (e5 k e).1, fun k e => (e6 k e).1⟩, (e7.block W.heap.size (fun h => h.2 rfl)).trans HC9.out.2.2.2.1, HC9.out.2.1.trans (e7.weak (fun k h => h.1)), fun b hb => ?_⟩, Lib.hid ?_, e9', ?_, by omega⟩
            · have h9 := try_len H.out.2.2.2.2.2.2.2.2.2.1 (by omega) (by omega) HC9.out.1 hb
              have := H.out.2.2.2.2.2.2.2.2.2.2.2.1
              omega
            · rw [← HT.out, hk1, triesW, if_neg (by rw [HC9.out.1]; simp), ← ha1]; simp
            · omega
end Go.Proofs.YthclpabmbhpohaaDoor
