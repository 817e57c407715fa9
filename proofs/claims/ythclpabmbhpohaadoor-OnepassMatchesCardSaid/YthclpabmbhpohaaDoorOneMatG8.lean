/-
  martelloref15.Admits: does the program need no choice, as the document tells it? No condition but bounds.
  The walk of a program that needs no choice, in plain words. No condition.
-/
import Derived.Test.YthclpabmbhpohaaDoorOneMatG7
namespace Go.Proofs.YthclpabmbhpohaaDoor
open Go.RowKit
set_option linter.unusedVariables false
theorem check_sets {p : Pg} (h : checkS rightR p = 0) : ∀ x ∈ p.ins, SetOK x.set := by
  intro x hx
  have h1 := (check_ok h).2.2.2.2.2.2 x hx
  by_cases c2 : x.op = 2
  · exact ((good_of h1).set c2).1
  have he : x.set.length = 0 := by
    unfold rightI at h1
    by_cases c1 : x.op = 1 ∨ x.op = 6
    · rw [if_pos c1] at h1; simp only [Bool.and_eq_true, beq_iff_eq] at h1; omega
    rw [if_neg c1, if_neg c2] at h1
    by_cases c3 : x.op = 3
    · rw [if_pos c3] at h1; simp only [Bool.and_eq_true, beq_iff_eq] at h1; omega
    rw [if_neg c3] at h1
    by_cases c4 : x.op = 4
    · rw [if_pos c4] at h1; simp only [Bool.and_eq_true, beq_iff_eq] at h1; omega
    rw [if_neg c4] at h1
    by_cases c5 : x.op = 5
    · rw [if_pos c5] at h1; simp only [Bool.and_eq_true, beq_iff_eq] at h1; omega
    rw [if_neg c5] at h1
    cases h1
  rw [List.eq_nil_of_length_eq_zero he]
  exact setOK_nil
def admB15 (p : Pg) : Bool := (checkS rightR p == 0) && admR meetB p
def askR (p : Pg) (pc : Int) : List Int × Bool := ((fromR p true pc).l, fineR meetB p (fromR p true pc))
theorem adm15_no (p : Pg) (h : checkS rightR p ≠ 0) : admB15 p = false := by unfold admB15; rw [show (checkS rightR p == 0) = false by simpa using h]; rfl
theorem adm15_anch (p : Pg) (h : anchR p = false) : admB15 p = false := by unfold admB15 admR; rw [h]; simp
theorem adm15_yes (p : Pg) (h : checkS rightR p = 0) (h2 : anchR p = true) : admB15 p = admG p (askR p) (p.ins.length + 1) 0 [p.start] := by unfold admB15 admR askR; rw [h, h2]; rfl
theorem putOuts_take {p : Pg} {l td : List Int} {j : Nat} (hj : j < l.length) : putOuts p (l.take (j + 1)) td = if (putOuts p (l.take j) td).contains (p.get l[j]).out = true then putOuts p (l.take j) td else putOuts p (l.take j) td ++ [(p.get l[j]).out] := by
  rw [List.take_succ_eq_append_getElem hj]
  unfold putOuts
  rw [List.foldl_append]; rfl
theorem putOuts_pre15 {p : Pg} : ∀ (l td : List Int), ∃ r, putOuts p l td = td ++ r
  | [], td => ⟨[], by simp [putOuts]⟩
  | y :: l, td => by
    obtain ⟨r, hr⟩ := putOuts_pre15 (p := p) l (if td.contains (p.get y).out = true then td else td ++ [(p.get y).out])
    show ∃ r, putOuts p l (if td.contains (p.get y).out = true then td else td ++ [(p.get y).out]) = td ++ r
    rw [hr]
    split
    · exact ⟨r, rfl⟩
    · exact ⟨(p.get y).out :: r, by simp⟩
/-- A slice of bools is made. -/
theorem wpList_makeB {ops : Array Oper} {rest : List Oper} {o : Oper} {a : Act} {Q : Exit → Act → World → Prop} {w : World} (hgd : o.guard = none) (l c : Operand) (ho : o.op = .makeSlice 86 l c)
    (N : Nat) (hl : a.eval l = .int .i64 N) (hc : a.eval c = .int .i64 N) (hN : N ≤ 100000000)
    (h : wpList Tryd.prog ops Q rest (a.put o.dst (.slice (some ⟨w.heap.size, 0, none⟩) N N)) (w.alloc (.cells (boolsOf N []) 4))) : wpList Tryd.prog ops Q (o :: rest) a w := by
  refine wpList_plain hgd fun K hK => ?_
  unfold Oper.wp execOp
  simp only [ho, Sem.run_bind, Sem.run_pure, Result.andThen_ok, hl, hc, make_bools w N hN]
  exact hK _ _ h
/-- Where an instruction leads, in any later world. -/
theorem ins_out {b : Nat} {w : World} {p : Pg} {A : Option Addr} {c : Nat} {v1 v2 : Value} (h : PgC (fun k => k < b) w p [.slice A p.ins.length c, v1, v2]) (hbs : b ≤ w.heap.size) (i : Nat) (hi : i < p.ins.length) :
    ∃ ad, A = some ad ∧ ∀ wr, Below b w wr → wr.cell? ⟨(ad.add (i * 5)).block, (ad.add (i * 5)).off + 1, none⟩ = some (.int .i64 p.ins[i].out) := by
  obtain ⟨ad, c, B, d, he, _, _, _, _, _, hk⟩ := ins_at h hbs i hi
  simp only [List.cons.injEq, Value.slice.injEq] at he
  exact ⟨ad, he.1.1, fun wr hw => (hk wr hw).2.2.1⟩
theorem bools_snoc (N : Nat) (l : List Int) (x : Int) : boolsOf N (x :: l) = boolsOf N (l ++ [x]) := by
  unfold boolsOf
  congr 1
  apply List.map_congr_left
  intro i _
  congr 1
  rw [Bool.eq_iff_iff]
  simp [or_comm]
set_option maxRecDepth 100000 in
set_option maxHeartbeats 8000000 in
theorem admits15_any (w : World) (p : Pg) (A : Option Addr) (c : Nat) (hp : PgC (fun k => k < w.heap.size) w p [.slice A p.ins.length c, .int .i64 p.start, .int .i64 p.caps]) (hN : p.ins.length ≤ 140737488351232)
    (hw : ∀ x ∈ p.ins, ∀ r ∈ x.set, (Lit.int .i32 r.lo).wf = true ∧ (Lit.int .i32 r.hi).wf = true) (hs : ∀ x ∈ p.ins, x.set.length ≤ 40000000) :
    Calls Tryd.prog 24 #[.agg #[.slice A p.ins.length c, .int .i64 p.start, .int .i64 p.caps]] w fun e w' => e = .returned (.bool (admB15 p)) ∧ Below w.heap.size w w' := by
  have hB := below_al (Below.refl w.heap.size w) (.cells #[.slice A p.ins.length c, .int .i64 p.start, .int .i64 p.caps] 28)
  have hck := chk12.check12_any _ _ p _ (hp.below hB) hN hw (fun x hx => by have := hs x hx; omega)
  have hx := heap_new1 w (.cells #[.slice A p.ins.length c, .int .i64 p.start, .int .i64 p.caps] 28)
  rcases check_vals p with h0 | h0
  · have hk := check_ok h0
    have hl := check_leads h0
    have hst := check_sets h0
    have hfr := fun (W : World) (hW : Below w.heap.size w W) (pc : Int) (hpc : Pc p pc) (bg : Bool) => from15_any W p A c (hp.move fun k hk _ => ⟨hW.block k hk, by have := hW.size; omega⟩) hl (by omega) pc hpc bg
    have hap := fun (W : World) (hW : Below w.heap.size w W) (L : Option Addr) (lc : Nat) (l : List Int) (hl : Arr (fun _ => True) W 1 (IntC .i64) L l) (hpc : ∀ x ∈ l, Pc p x) (hlen : l.length ≤ 100000000) => apart15_any W p A L c lc l (hp.move fun k hk _ => ⟨hW.block k hk, by have := hW.size; omega⟩) hl hpc hlen (by omega) hst
    rw [h0] at hck
    have hNn : p.ins.length ≤ 10000 := hk.2.1
    have HH := Lib.hid (And.intro hl (And.intro hk (And.intro hB (And.intro hx (And.intro h0 (And.intro hfr (And.intro hap hp)))))))
    clear hl hk hB hx h0 hst hfr hap hp hw hs
    go_enter Tryd.func24, Tryd.ntmps24
    go_wp2_with fail
    refine hck.mono ?_
    clear hck
    rintro e w1 ⟨rfl, hb1⟩
    dsimp only
    have h1 := (hb1.block w.heap.size (by simp)).trans HH.out.2.2.2.1
    obtain ⟨q0, q1, q2⟩ := cells3 h1
    have hn := heap_lt h1
    have hB1 := below_and hb1 HH.out.2.2.1
    have hcall := HH.out.2.2.2.2.2.1 w1 hB1 p.start HH.out.2.1.2.2.1 false
    have H1 := Lib.hid (And.intro hB1 h1)
    clear hb1 hB1 h1
    go_wp2_with fail
    refine hcall.mono ?_
    clear hcall
    rintro e w2 ⟨b, lv, u0, u1, u2, rfl, hbl, hR, hb2⟩
    dsimp only
    obtain ⟨AL, cl, rfl, _, _⟩ := Owns.shape hR.l
    have hll : (fromR p false p.start).l.length = ((fromR p false p.start).l.map i64C).length := by rw [List.length_map]
    have hcs : w2.cell? ⟨b + 1, 6, none⟩ = some (.int .i64 (fromR p false p.start).mt) ∧ w2.cell? ⟨b + 1, 5, none⟩ = some (.slice AL (fromR p false p.start).l.length cl) := ⟨by rw [cell_of_blk hR.blk]; rfl, by rw [cell_of_blk hR.blk, hll]; rfl⟩
    have hanch : anchR p = (decide ((fromR p false p.start).mt ≤ 0) && decide ((fromR p false p.start).l = [])) := rfl
    have n2 := heap_lt hR.blk
    have h2 := (hb2.block w.heap.size hn).trans H1.out.2
    have hB2 := H1.out.1.trans (hb2.mono H1.out.1.size)
    clear q0 q1 q2 hn hll hbl
    obtain ⟨q0, q1, q2⟩ := cells3 h2
    have hn := heap_lt h2
    have H2 := Lib.hid (And.intro hB2 h2)
    clear hR hb2 h2 hB2
    generalize hrr : fromR p false p.start = rr at *
    have HRR := Lib.hid hrr
    clear hrr
    obtain ⟨m0, m1⟩ := hcs
    by_cases hmt : 0 < rr.mt
    · have hd : decide (0 < rr.mt) = true := decide_eq_true hmt
      have ha : anchR p = false := by rw [hanch, decide_eq_false (by omega)]; rfl
      have HA := Lib.hid (adm15_anch p ha)
      clear ha hanch hmt
      go_wp2_with fail
      go_ret
      exact ⟨by rw [HA.out]; rfl, H2.out.1⟩
    · have hd : decide (0 < rr.mt) = false := decide_eq_false hmt
      by_cases hle : rr.l = []
      · have hlz : rr.l.length = 0 := by rw [hle]; rfl
        have ha : anchR p = true := by rw [hanch, decide_eq_true (by omega), decide_eq_true hle]; rfl
        have hy := adm15_yes p HH.out.2.2.2.2.1 ha
        have HR := Lib.hid hy
        have HE := Lib.hid hle
        clear hy ha hanch hle hmt
        rw [hlz] at m1
        clear hlz
        have hps := HH.out.2.1.2.2.1
        have hsn : p.start.toNat < p.ins.length := by have := hps.1; have := hps.2; omega
        have hz : (([] : List Int).contains ((p.start.toNat : Nat) : Int)) = false := rfl
        have y1 : ((w2.alloc (.cells #[.int .i64 p.start] 3)).alloc (.cells (boolsOf p.ins.length []) 4)).heap[w2.heap.size + 1]? = some (.cells (boolsOf p.ins.length []) 4 (0, 0)) := heap_newX (by simp)
        have y2 : ((w2.alloc (.cells #[.int .i64 p.start] 3)).alloc (.cells (boolsOf p.ins.length []) 4)).cell? ⟨w2.heap.size + 1, p.start.toNat, none⟩ = some (.bool false) := by rw [cell_of_blk y1, bools_at hsn, hz]
        have y3 : ((w2.alloc (.cells #[.int .i64 p.start] 3)).alloc (.cells (boolsOf p.ins.length []) 4)).frozen? ⟨w2.heap.size + 1, p.start.toNat, none⟩ = false := frozenOf y1 _
        have hW1 : ((w2.alloc (.cells #[.int .i64 p.start] 3)).alloc (.cells ((boolsOf p.ins.length []).setIfInBounds p.start.toNat (.bool true)) 4)).heap[w2.heap.size + 1]? = some (.cells (boolsOf p.ins.length [p.start]) 4 (0, 0)) := by
          rw [heap_newX (by simp), bools_set, show ((p.start.toNat : Nat) : Int) = p.start by have := hps.1; omega]
        have hW2 : ((w2.alloc (.cells #[.int .i64 p.start] 3)).alloc (.cells ((boolsOf p.ins.length []).setIfInBounds p.start.toNat (.bool true)) 4)).heap[w2.heap.size]? = some (.cells #[.int .i64 p.start] 3 (0, 0)) := (Below.heap_alloc _ _ _ (by simp)).trans (heap_new1 _ _)
        have hW3 : Below w2.heap.size w2 ((w2.alloc (.cells #[.int .i64 p.start] 3)).alloc (.cells ((boolsOf p.ins.length []).setIfInBounds p.start.toNat (.bool true)) 4)) := below_al (below_al (Below.refl _ _) _) _
        have hW4 : ((w2.alloc (.cells #[.int .i64 p.start] 3)).alloc (.cells ((boolsOf p.ins.length []).setIfInBounds p.start.toNat (.bool true)) 4)).heap.size = w2.heap.size + 2 := by simp
        have HS := Lib.hid (And.intro hW1 (And.intro hW2 (And.intro hW3 hW4)))
        obtain ⟨hp0, hp1⟩ : 0 ≤ p.start ∧ p.start < (p.ins.length : Int) := hps
        clear hz y1 hW1 hW2 hW3 hW4
        go_wp2_with (first | (refine wpList_makeB rfl _ _ rfl p.ins.length rfl rfl (by omega) ?_))
        clear y2 y3 q0 q1 q2 m0 m1 n2 hd hsn hp0 hp1
        obtain ⟨W3, hW⟩ : ∃ W3, ((w2.alloc (.cells #[.int .i64 p.start] 3)).alloc (.cells ((boolsOf p.ins.length []).setIfInBounds p.start.toNat (.bool true)) 4)) = W3 := ⟨_, rfl⟩
        rw [hW] at HS ⊢
        clear hW
        obtain ⟨B, hBe⟩ : ∃ B, w2.heap.size = B := ⟨_, rfl⟩
        rw [hBe]
        obtain ⟨bx, hbx⟩ : ∃ bx, w.heap.size = bx := ⟨_, rfl⟩
        rw [hbx]
        have HI : Hid (W3.heap[B + 1]? = some (.cells (boolsOf p.ins.length [p.start]) 4 (0, 0)) ∧ W3.heap[B]? = some (.cells #[.int .i64 p.start] 3 (0, 0)) ∧ Below w.heap.size w W3 ∧ W3.heap.size = B + 2 ∧ W3.heap[bx]? = some (.cells #[.slice A p.ins.length c, .int .i64 p.start, .int .i64 p.caps] 28 (0, 0)) ∧ bx < B ∧ w.heap.size ≤ B) := Lib.hid (by
          rw [← hBe, ← hbx]
          exact ⟨HS.out.1, HS.out.2.1, H2.out.1.trans (HS.out.2.2.1.mono H2.out.1.size), HS.out.2.2.2, (HS.out.2.2.1.block _ hn).trans H2.out.2, hn, H2.out.1.size⟩)
        clear hn hBe hbx HS
        go_loopg [3, 4] (p.ins.length + 1) (fun g s3 s4 wr => ∃ (k : Nat) (td : List Int), td.Nodup ∧ Hid (∀ x ∈ td, Pc p x) ∧ k ≤ td.length ∧ p.ins.length + 1 - k ≤ g ∧ Hid (admB15 p = admG p (askR p) (p.ins.length + 1 - k) k td) ∧ QAt wr B s4 (td.drop k) ∧ (∀ q, s4.ownBlock = some q → q ≠ B + 1) ∧ wr.heap[B + 1]? = some (.cells (boolsOf p.ins.length td) 4 (0, 0)) ∧ Below w.heap.size w wr ∧ wr.heap[bx]? = some (.cells #[.slice A p.ins.length c, .int .i64 p.start, .int .i64 p.caps] 28 (0, 0)))
        case atStart =>
          exact ⟨0, [p.start], by simp, Lib.hid (fun x hx => by rw [List.mem_singleton.1 hx]; exact HH.out.2.1.2.2.1), by simp, Nat.le_refl _, HR, ⟨B, 0, 1, _, rfl, Nat.le_refl _, by simp, by decide, HI.out.2.1, by simp, fun j x hj => by
            have hj0 : j = 0 := by have := (List.getElem?_eq_some_iff.1 hj).1; simp at this; omega
            subst hj0
            simp at hj ⊢
            exact hj⟩, fun q hq => by simp [Value.ownBlock] at hq; omega, HI.out.1, HI.out.2.2.1, HI.out.2.2.2.2.1⟩
        case round =>
          obtain ⟨k, td, hnd, HP, hk, hg, HG, hq, hqb, hse, hBr, hbk⟩ := hrel
          obtain ⟨G, hGk⟩ : ∃ G, G = gk := ⟨_, rfl⟩
          rw [← hGk] at hg
          have htl := nodup_len hnd HP.out
          obtain ⟨gq, off, cq, csq, rfl, g1, g2, g3, g4, g5, g6⟩ := id hq
          have hdl : (td.drop k).length = td.length - k := List.length_drop
          rw [hdl] at hq ⊢
          by_cases hlt : k < td.length
          · have hlq : decide (0 < td.length - k) = true := decide_eq_true (by omega)
            have hlq2 : decide ((0 : Int) < ((td.length - k : Nat) : Int)) = true := decide_eq_true (by omega)
            have hdr : td.drop k = td[k] :: td.drop (k + 1) := List.drop_eq_getElem_cons hlt
            have hcell : wr.cell? ⟨gq, off, none⟩ = some (.int .i64 td[k]) := by
              have h9 := hq.cell (j := 0) (by rw [hdl]; omega)
              simpa [List.getElem_drop] using h9
            have hpc := HP.out td[k] (List.getElem_mem hlt)
            have hG1 : admB15 p = if (askR p td[k]).2 = false then false else admG p (askR p) (p.ins.length - k) (k + 1) (putOuts p (askR p td[k]).1 td) := by
              have h9 := HG.out
              rw [show p.ins.length + 1 - k = (p.ins.length - k) + 1 by omega, admG, List.getElem?_eq_getElem hlt] at h9
              exact h9
            have hfr := HH.out.2.2.2.2.2.1 wr.drew hBr.drew td[k] hpc true
            have hls := comeR_list p true HH.out.1 (p.ins.length + 1) td[k] ⟨[], [], 0, false⟩ hpc (fun x hx => by simp at hx)
            have hft := comeR_fit p true HH.out.1 (p.ins.length + 1) td[k] ⟨[], [], 0, false⟩ hpc (fit_new p)
            have hpre : td.length ≤ (putOuts p (askR p td[k]).1 td).length := putOuts_le p _ _
            generalize td[k] = z at *
            have nbx := heap_lt hbk
            have ngq := World.block_lt_of_cell? _ _ hcell
            have HQ := Lib.hid (And.intro hq (And.intro hqb (And.intro hse (And.intro hBr (And.intro hbk (And.intro hnd (And.intro hG1 hdr)))))))
            have HL := Lib.hid (And.intro hls hft)
            clear hq hqb hse hBr hbk hnd hG1 hdr g4 g5 g6 hls hft hpre
            obtain ⟨wo, rfl⟩ : ∃ wo : World, wo = wr := ⟨_, rfl⟩
            have ngo : gq < wo.heap.size := ngq
            obtain ⟨m, hm⟩ : ∃ m, td.length - k = m := ⟨_, rfl⟩
            rw [hm] at hlq hlq2 HQ ⊢
            have hm1 : 1 ≤ m := by omega
            have hm0 : (m = 0) = False := by simp; omega
            have hmc : m ≤ cq := by rw [← hm, ← hdl]; exact g2
            have HM := Lib.hid hm
            clear hm
            go_wp2_with fail
            refine wp_region_scr (fun W' => Below wo.heap.size wo W') [(true, 0, 42), (true, 1, 43), (true, 2, 44), (true, 3, 45), (false, 4, 46), (true, 5, 3)] (by kernel_rfl) (by kernel_rfl) (fun _ _ _ _ _ h => h) rfl (by kernel_rfl) ?_
            have HV := Lib.hid (show Below wo.heap.size wo wo.drew from (Below.refl _ _).drew)
            refine Scr.take (v := .agg #[.slice A p.ins.length c, .int .i64 p.start, .int .i64 p.caps]) rfl rfl (yw_row 28 _ rfl bx ([.slice A p.ins.length c, .int .i64 p.start, .int .i64 p.caps] : List Value) 28 rfl (by rfl) _ Tryd.underlying28 rfl (by rfl) (fun W hS => (hS.block _ nbx).trans HQ.out.2.2.2.2.1)) HV.out ?_
            simp only [Act.put, List.setIfInBounds_toArray, List.set_cons_zero, List.set_cons_succ]
            refine Scr.take (v := .slice (some ⟨gq, off, none⟩) m cq) rfl rfl (yw_pure (by rfl) (fun _ => by go_simp)) HV.out ?_
            simp only [Act.put, List.setIfInBounds_toArray, List.set_cons_zero, List.set_cons_succ]
            refine Scr.take (v := .pointer (some ⟨gq, off, none⟩)) rfl rfl (yw_pure (by rfl) (fun _ => by go_simp)) HV.out ?_
            simp only [Act.put, List.setIfInBounds_toArray, List.set_cons_zero, List.set_cons_succ]
            refine Scr.take (v := .int .i64 z) rfl rfl (yw_cell 3 _ rfl ⟨gq, off, none⟩ (.int .i64 z) rfl (by rfl) _ Tryd.underlying3 rfl (fun W hS => (hS.cell ngq).trans hcell)) HV.out ?_
            simp only [Act.put, List.setIfInBounds_toArray, List.set_cons_zero, List.set_cons_succ]
            refine Scr.run rfl (by rfl) (fun K hK => ?_)
            go_simp
            refine hfr.mono ?_
            clear hfr
            rintro e w4 ⟨b4, lv4, v0, v1, v2, rfl, hb4l, hR4, hb4⟩
            dsimp only
            have hB4 : Below wo.heap.size wo w4 := below_and (w1 := wo.drew) hb4 (Below.refl _ _).drew
            refine hK _ _ hB4 ?_
            clear hK K HV hb4
            have HV := Lib.hid hB4
            refine Scr.take (v := .pointer (some ⟨b4 + 1, 0, none⟩)) rfl rfl (yw_pure (by rfl) (fun _ => by go_simp)) HV.out ?_
            simp only [Act.put, List.setIfInBounds_toArray, List.set_cons_zero, List.set_cons_succ]
            simp only [Scr]
            clear hcell ngq nbx hB4
            have HB4O := Lib.hid HV.out
            have HB4 := Lib.hid (HQ.out.2.2.2.1.trans (HV.out.mono HQ.out.2.2.2.1.size))
            have hb4o : wo.heap.size ≤ b4 := hb4l
            obtain ⟨rw, hrw⟩ : ∃ rw, fromR p true z = rw := ⟨_, rfl⟩
            rw [hrw] at hR4
            have HRW := Lib.hid hrw
            clear hrw hb4l
            obtain ⟨AL4, cl4, rfl, _, _⟩ := Owns.shape hR4.l
            rw [List.length_map] at hR4
            by_cases hcq : cq = 1
            · have hc1 : (cq = 1) = True := by simp [hcq]
              have hc2 : (1 = cq) = True := by simp [hcq]
              have hc3 : (cq - 1 = 0) = True := by simp; omega
              have HCQ := Lib.hid hcq
              clear hcq
              go_wp2_with fail
              clear hc1 hc2 hc3
              obtain ⟨oq, hoq⟩ : ∃ oq, off = oq ∧ (if cq - 1 = 0 then (⟨gq, off, none⟩ : Addr) else ⟨gq, off + 1, none⟩) = ⟨gq, oq, none⟩ := ⟨off, rfl, if_pos (by have := HCQ.out; omega)⟩
              rw [hoq.1]
              have hqt : QAt w4 B (.slice (some ⟨gq, oq, none⟩) (m - 1) (cq - 1)) (td.drop (k + 1)) := by
                have h9 := HQ.out.1.below HV.out
                rw [HQ.out.2.2.2.2.2.2.2] at h9
                have hl9 : m = (td.drop (k + 1)).length + 1 := by rw [List.length_drop, ← HM.out]; omega
                have hl8 : m - 1 = (td.drop (k + 1)).length := by omega
                rw [hl9] at h9
                rw [hl8, ← hoq.2]
                exact h9.tail
              clear hoq
              have HC : Hid (∀ W, Below w4.heap.size w4 W → W.cell? ⟨b4 + 1, 5, none⟩ = some (.slice AL4 rw.l.length cl4) ∧ W.cell? ⟨b4 + 1, 6, none⟩ = some (.int .i64 rw.mt) ∧ W.cell? ⟨b4 + 1, 7, none⟩ = some (.bool rw.tw) ∧ W.heap[bx]? = some (.cells #[.slice A p.ins.length c, .int .i64 p.start, .int .i64 p.caps] 28 (0, 0))) := Lib.hid (fun W hW => by
                have h9 := (hW.block _ (heap_lt hR4.blk)).trans hR4.blk
                have h8 := (HV.out.block _ (heap_lt HQ.out.2.2.2.2.1)).trans HQ.out.2.2.2.2.1
                exact ⟨by rw [cell_of_blk h9]; rfl, by rw [cell_of_blk h9]; rfl, by rw [cell_of_blk h9]; rfl, (hW.block _ (heap_lt h8)).trans h8⟩)
              have HT4 := Lib.hid (And.intro hqt (And.intro hR4 hb4o))
              clear hqt hR4 hb4o
              cases htw : rw.tw with
              | true =>
                rw [htw] at HC
                refine wp_region_scr (fun W' => Below w4.heap.size w4 W') [(true, 0, 49), (true, 1, 50), (true, 2, 51), (true, 3, 52), (true, 4, 53), (true, 5, 54), (true, 6, 55), (true, 7, 56), (true, 8, 57), (true, 9, 58), (true, 10, 59), (true, 11, 60), (true, 12, 61), (true, 13, 62), (true, 14, 63), (true, 15, 64), (true, 16, 65), (false, 17, 66), (true, 18, 67), (true, 19, 68)] (by kernel_rfl) (by kernel_rfl) (fun _ _ _ _ _ h => h) rfl (by kernel_rfl) ?_
                have HV := Lib.hid (show Below w4.heap.size w4 w4.drew from (Below.refl _ _).drew)
                refine Scr.take (v := .pointer (some ⟨b4 + 1, 0, none⟩)) rfl rfl (yw_pure (by rfl) (fun _ => by go_simp)) HV.out ?_
                simp only [Act.put, List.setIfInBounds_toArray, List.set_cons_zero, List.set_cons_succ]
                refine Scr.take (v := .pointer (some ⟨b4 + 1, 0, none⟩)) rfl rfl (yw_pure (by rfl) (fun _ => by go_simp)) HV.out ?_
                simp only [Act.put, List.setIfInBounds_toArray, List.set_cons_zero, List.set_cons_succ]
                refine Scr.take (v := .pointer (some ⟨b4 + 1, 7, none⟩)) rfl rfl (yw_pure (by rfl) (fun _ => by go_simp)) HV.out ?_
                simp only [Act.put, List.setIfInBounds_toArray, List.set_cons_zero, List.set_cons_succ]
                refine Scr.take (v := .bool true) rfl rfl (yw_cell 4 _ rfl ⟨b4 + 1, 7, none⟩ (.bool true) rfl (by rfl) _ Tryd.underlying4 rfl (fun W hS => (HC.out W hS).2.2.1)) HV.out ?_
                simp only [Act.put, List.setIfInBounds_toArray, List.set_cons_zero, List.set_cons_succ]
                refine Scr.take (v := .bool true) rfl rfl (yw_pure (by rfl) (fun _ => by go_simp)) HV.out ?_
                simp only [Act.put, List.setIfInBounds_toArray, List.set_cons_zero, List.set_cons_succ]
                refine Scr.take (v := undef) rfl rfl (yw_no (by rfl)) HV.out ?_
                simp only [Act.put, List.setIfInBounds_toArray, List.set_cons_zero, List.set_cons_succ]
                refine Scr.take (v := undef) rfl rfl (yw_no (by rfl)) HV.out ?_
                simp only [Act.put, List.setIfInBounds_toArray, List.set_cons_zero, List.set_cons_succ]
                refine Scr.take (v := undef) rfl rfl (yw_no (by rfl)) HV.out ?_
                simp only [Act.put, List.setIfInBounds_toArray, List.set_cons_zero, List.set_cons_succ]
                refine Scr.take (v := undef) rfl rfl (yw_no (by rfl)) HV.out ?_
                simp only [Act.put, List.setIfInBounds_toArray, List.set_cons_zero, List.set_cons_succ]
                refine Scr.take (v := undef) rfl rfl (yw_no (by rfl)) HV.out ?_
                simp only [Act.put, List.setIfInBounds_toArray, List.set_cons_zero, List.set_cons_succ]
                refine Scr.take (v := .bool true) rfl rfl (yw_pure (by rfl) (fun _ => by go_simp)) HV.out ?_
                simp only [Act.put, List.setIfInBounds_toArray, List.set_cons_zero, List.set_cons_succ]
                refine Scr.take (v := .bool true) rfl rfl (yw_pure (by rfl) (fun _ => by go_simp)) HV.out ?_
                simp only [Act.put, List.setIfInBounds_toArray, List.set_cons_zero, List.set_cons_succ]
                refine Scr.take (v := undef) rfl rfl (yw_no (by rfl)) HV.out ?_
                simp only [Act.put, List.setIfInBounds_toArray, List.set_cons_zero, List.set_cons_succ]
                refine Scr.take (v := undef) rfl rfl (yw_no (by rfl)) HV.out ?_
                simp only [Act.put, List.setIfInBounds_toArray, List.set_cons_zero, List.set_cons_succ]
                refine Scr.take (v := undef) rfl rfl (yw_no (by rfl)) HV.out ?_
                simp only [Act.put, List.setIfInBounds_toArray, List.set_cons_zero, List.set_cons_succ]
                refine Scr.take (v := undef) rfl rfl (yw_no (by rfl)) HV.out ?_
                simp only [Act.put, List.setIfInBounds_toArray, List.set_cons_zero, List.set_cons_succ]
                refine Scr.take (v := undef) rfl rfl (yw_no (by rfl)) HV.out ?_
                simp only [Act.put, List.setIfInBounds_toArray, List.set_cons_zero, List.set_cons_succ]
                refine Scr.skip rfl rfl (by rfl) HV.out ?_
                simp only [Act.put, List.setIfInBounds_toArray, List.set_cons_zero, List.set_cons_succ]
                refine Scr.take (v := undef) rfl rfl (yw_no (by rfl)) HV.out ?_
                simp only [Act.put, List.setIfInBounds_toArray, List.set_cons_zero, List.set_cons_succ]
                refine Scr.take (v := .bool true) rfl rfl (yw_pure (by rfl) (fun _ => by go_simp)) HV.out ?_
                simp only [Act.put, List.setIfInBounds_toArray, List.set_cons_zero, List.set_cons_succ]
                simp only [Scr]
                clear HC
                have HF : Hid (admB15 p = false) := Lib.hid (by rw [HQ.out.2.2.2.2.2.2.1, if_pos]; show fineR meetB p (fromR p true z) = false; rw [HRW.out]; unfold fineR; rw [htw]; simp)
                go_wp2_with fail
                go_ret
                exact ⟨by rw [HF.out]; rfl, HB4.out.trans (HV.out.mono HB4.out.size)⟩
              | false =>
                by_cases hmt : 1 < rw.mt
                · have hd : decide (1 < rw.mt) = true := decide_eq_true hmt
                  rw [htw] at HC
                  refine wp_region_scr (fun W' => Below w4.heap.size w4 W') [(true, 0, 49), (true, 1, 50), (true, 2, 51), (true, 3, 52), (true, 4, 53), (true, 5, 54), (true, 6, 55), (true, 7, 56), (true, 8, 57), (true, 9, 58), (true, 10, 59), (true, 11, 60), (true, 12, 61), (true, 13, 62), (true, 14, 63), (true, 15, 64), (true, 16, 65), (false, 17, 66), (true, 18, 67), (true, 19, 68)] (by kernel_rfl) (by kernel_rfl) (fun _ _ _ _ _ h => h) rfl (by kernel_rfl) ?_
                  have HV := Lib.hid (show Below w4.heap.size w4 w4.drew from (Below.refl _ _).drew)
                  refine Scr.take (v := .pointer (some ⟨b4 + 1, 0, none⟩)) rfl rfl (yw_pure (by rfl) (fun _ => by go_simp)) HV.out ?_
                  simp only [Act.put, List.setIfInBounds_toArray, List.set_cons_zero, List.set_cons_succ]
                  refine Scr.take (v := .pointer (some ⟨b4 + 1, 0, none⟩)) rfl rfl (yw_pure (by rfl) (fun _ => by go_simp)) HV.out ?_
                  simp only [Act.put, List.setIfInBounds_toArray, List.set_cons_zero, List.set_cons_succ]
                  refine Scr.take (v := .pointer (some ⟨b4 + 1, 7, none⟩)) rfl rfl (yw_pure (by rfl) (fun _ => by go_simp)) HV.out ?_
                  simp only [Act.put, List.setIfInBounds_toArray, List.set_cons_zero, List.set_cons_succ]
                  refine Scr.take (v := .bool false) rfl rfl (yw_cell 4 _ rfl ⟨b4 + 1, 7, none⟩ (.bool false) rfl (by rfl) _ Tryd.underlying4 rfl (fun W hS => (HC.out W hS).2.2.1)) HV.out ?_
                  simp only [Act.put, List.setIfInBounds_toArray, List.set_cons_zero, List.set_cons_succ]
                  refine Scr.take (v := .bool false) rfl rfl (yw_pure (by rfl) (fun _ => by go_simp)) HV.out ?_
                  simp only [Act.put, List.setIfInBounds_toArray, List.set_cons_zero, List.set_cons_succ]
                  refine Scr.take (v := .pointer (some ⟨b4 + 1, 0, none⟩)) rfl rfl (yw_pure (by rfl) (fun _ => by go_simp)) HV.out ?_
                  simp only [Act.put, List.setIfInBounds_toArray, List.set_cons_zero, List.set_cons_succ]
                  refine Scr.take (v := .pointer (some ⟨b4 + 1, 0, none⟩)) rfl rfl (yw_pure (by rfl) (fun _ => by go_simp)) HV.out ?_
                  simp only [Act.put, List.setIfInBounds_toArray, List.set_cons_zero, List.set_cons_succ]
                  refine Scr.take (v := .pointer (some ⟨b4 + 1, 6, none⟩)) rfl rfl (yw_pure (by rfl) (fun _ => by go_simp)) HV.out ?_
                  simp only [Act.put, List.setIfInBounds_toArray, List.set_cons_zero, List.set_cons_succ]
                  refine Scr.take (v := .int .i64 rw.mt) rfl rfl (yw_cell 3 _ rfl ⟨b4 + 1, 6, none⟩ (.int .i64 rw.mt) rfl (by rfl) _ Tryd.underlying3 rfl (fun W hS => (HC.out W hS).2.1)) HV.out ?_
                  simp only [Act.put, List.setIfInBounds_toArray, List.set_cons_zero, List.set_cons_succ]
                  refine Scr.take (v := .bool true) rfl rfl (yw_pure (by rfl) (fun _ => by go_simp)) HV.out ?_
                  simp only [Act.put, List.setIfInBounds_toArray, List.set_cons_zero, List.set_cons_succ]
                  refine Scr.take (v := .bool true) rfl rfl (yw_pure (by rfl) (fun _ => by go_simp)) HV.out ?_
                  simp only [Act.put, List.setIfInBounds_toArray, List.set_cons_zero, List.set_cons_succ]
                  refine Scr.take (v := .bool true) rfl rfl (yw_pure (by rfl) (fun _ => by go_simp)) HV.out ?_
                  simp only [Act.put, List.setIfInBounds_toArray, List.set_cons_zero, List.set_cons_succ]
                  refine Scr.take (v := undef) rfl rfl (yw_no (by rfl)) HV.out ?_
                  simp only [Act.put, List.setIfInBounds_toArray, List.set_cons_zero, List.set_cons_succ]
                  refine Scr.take (v := undef) rfl rfl (yw_no (by rfl)) HV.out ?_
                  simp only [Act.put, List.setIfInBounds_toArray, List.set_cons_zero, List.set_cons_succ]
                  refine Scr.take (v := undef) rfl rfl (yw_no (by rfl)) HV.out ?_
                  simp only [Act.put, List.setIfInBounds_toArray, List.set_cons_zero, List.set_cons_succ]
                  refine Scr.take (v := undef) rfl rfl (yw_no (by rfl)) HV.out ?_
                  simp only [Act.put, List.setIfInBounds_toArray, List.set_cons_zero, List.set_cons_succ]
                  refine Scr.take (v := undef) rfl rfl (yw_no (by rfl)) HV.out ?_
                  simp only [Act.put, List.setIfInBounds_toArray, List.set_cons_zero, List.set_cons_succ]
                  refine Scr.skip rfl rfl (by rfl) HV.out ?_
                  simp only [Act.put, List.setIfInBounds_toArray, List.set_cons_zero, List.set_cons_succ]
                  refine Scr.take (v := undef) rfl rfl (yw_no (by rfl)) HV.out ?_
                  simp only [Act.put, List.setIfInBounds_toArray, List.set_cons_zero, List.set_cons_succ]
                  refine Scr.take (v := .bool true) rfl rfl (yw_pure (by rfl) (fun _ => by go_simp)) HV.out ?_
                  simp only [Act.put, List.setIfInBounds_toArray, List.set_cons_zero, List.set_cons_succ]
                  simp only [Scr]
                  clear hd
                  have HF : Hid (admB15 p = false) := Lib.hid (by rw [HQ.out.2.2.2.2.2.2.1, if_pos]; show fineR meetB p (fromR p true z) = false; rw [HRW.out]; unfold fineR; rw [htw, decide_eq_false (show ¬ rw.mt ≤ 1 by omega)]; simp)
                  go_wp2_with fail
                  go_ret
                  exact ⟨by rw [HF.out]; rfl, HB4.out.trans (HV.out.mono HB4.out.size)⟩
                · have hd : decide (1 < rw.mt) = false := decide_eq_false hmt
                  rw [htw] at HC
                  have hap := HH.out.2.2.2.2.2.2.1 w4.drew HB4.out.drew AL4 cl4 rw.l (ownI64_arr HT4.out.2.1.l |>.move (fun _ _ _ => ⟨rfl, trivial⟩) (by omega)) (fun x hx => by have h9 := HL.out.1; rw [show comeR p true (p.ins.length + 1) z ⟨[], [], 0, false⟩ = rw from HRW.out] at h9; exact (h9 x hx).1) (by have h9 := HL.out.2; rw [show comeR p true (p.ins.length + 1) z ⟨[], [], 0, false⟩ = rw from HRW.out] at h9; have := h9.l; have := h9.few; omega)
                  refine wp_region_scr (fun W' => Below w4.heap.size w4 W') [(true, 0, 49), (true, 1, 50), (true, 2, 51), (true, 3, 52), (true, 4, 53), (true, 5, 54), (true, 6, 55), (true, 7, 56), (true, 8, 57), (true, 9, 58), (true, 10, 59), (true, 11, 60), (true, 12, 61), (true, 13, 62), (true, 14, 63), (true, 15, 64), (true, 16, 65), (false, 17, 66), (true, 18, 67), (true, 19, 68)] (by kernel_rfl) (by kernel_rfl) (fun _ _ _ _ _ h => h) rfl (by kernel_rfl) ?_
                  have HV := Lib.hid (show Below w4.heap.size w4 w4.drew from (Below.refl _ _).drew)
                  refine Scr.take (v := .pointer (some ⟨b4 + 1, 0, none⟩)) rfl rfl (yw_pure (by rfl) (fun _ => by go_simp)) HV.out ?_
                  simp only [Act.put, List.setIfInBounds_toArray, List.set_cons_zero, List.set_cons_succ]
                  refine Scr.take (v := .pointer (some ⟨b4 + 1, 0, none⟩)) rfl rfl (yw_pure (by rfl) (fun _ => by go_simp)) HV.out ?_
                  simp only [Act.put, List.setIfInBounds_toArray, List.set_cons_zero, List.set_cons_succ]
                  refine Scr.take (v := .pointer (some ⟨b4 + 1, 7, none⟩)) rfl rfl (yw_pure (by rfl) (fun _ => by go_simp)) HV.out ?_
                  simp only [Act.put, List.setIfInBounds_toArray, List.set_cons_zero, List.set_cons_succ]
                  refine Scr.take (v := .bool false) rfl rfl (yw_cell 4 _ rfl ⟨b4 + 1, 7, none⟩ (.bool false) rfl (by rfl) _ Tryd.underlying4 rfl (fun W hS => (HC.out W hS).2.2.1)) HV.out ?_
                  simp only [Act.put, List.setIfInBounds_toArray, List.set_cons_zero, List.set_cons_succ]
                  refine Scr.take (v := .bool false) rfl rfl (yw_pure (by rfl) (fun _ => by go_simp)) HV.out ?_
                  simp only [Act.put, List.setIfInBounds_toArray, List.set_cons_zero, List.set_cons_succ]
                  refine Scr.take (v := .pointer (some ⟨b4 + 1, 0, none⟩)) rfl rfl (yw_pure (by rfl) (fun _ => by go_simp)) HV.out ?_
                  simp only [Act.put, List.setIfInBounds_toArray, List.set_cons_zero, List.set_cons_succ]
                  refine Scr.take (v := .pointer (some ⟨b4 + 1, 0, none⟩)) rfl rfl (yw_pure (by rfl) (fun _ => by go_simp)) HV.out ?_
                  simp only [Act.put, List.setIfInBounds_toArray, List.set_cons_zero, List.set_cons_succ]
                  refine Scr.take (v := .pointer (some ⟨b4 + 1, 6, none⟩)) rfl rfl (yw_pure (by rfl) (fun _ => by go_simp)) HV.out ?_
                  simp only [Act.put, List.setIfInBounds_toArray, List.set_cons_zero, List.set_cons_succ]
                  refine Scr.take (v := .int .i64 rw.mt) rfl rfl (yw_cell 3 _ rfl ⟨b4 + 1, 6, none⟩ (.int .i64 rw.mt) rfl (by rfl) _ Tryd.underlying3 rfl (fun W hS => (HC.out W hS).2.1)) HV.out ?_
                  simp only [Act.put, List.setIfInBounds_toArray, List.set_cons_zero, List.set_cons_succ]
                  refine Scr.take (v := .bool false) rfl rfl (yw_pure (by rfl) (fun _ => by go_simp)) HV.out ?_
                  simp only [Act.put, List.setIfInBounds_toArray, List.set_cons_zero, List.set_cons_succ]
                  refine Scr.take (v := .bool false) rfl rfl (yw_pure (by rfl) (fun _ => by go_simp)) HV.out ?_
                  simp only [Act.put, List.setIfInBounds_toArray, List.set_cons_zero, List.set_cons_succ]
                  refine Scr.take (v := .bool false) rfl rfl (yw_pure (by rfl) (fun _ => by go_simp)) HV.out ?_
                  simp only [Act.put, List.setIfInBounds_toArray, List.set_cons_zero, List.set_cons_succ]
                  refine Scr.take (v := .agg #[.slice A p.ins.length c, .int .i64 p.start, .int .i64 p.caps]) rfl rfl (yw_row 28 _ rfl bx ([.slice A p.ins.length c, .int .i64 p.start, .int .i64 p.caps] : List Value) 28 rfl (by rfl) _ Tryd.underlying28 rfl (by rfl) (fun W hS => (HC.out W hS).2.2.2)) HV.out ?_
                  simp only [Act.put, List.setIfInBounds_toArray, List.set_cons_zero, List.set_cons_succ]
                  refine Scr.take (v := .pointer (some ⟨b4 + 1, 0, none⟩)) rfl rfl (yw_pure (by rfl) (fun _ => by go_simp)) HV.out ?_
                  simp only [Act.put, List.setIfInBounds_toArray, List.set_cons_zero, List.set_cons_succ]
                  refine Scr.take (v := .pointer (some ⟨b4 + 1, 0, none⟩)) rfl rfl (yw_pure (by rfl) (fun _ => by go_simp)) HV.out ?_
                  simp only [Act.put, List.setIfInBounds_toArray, List.set_cons_zero, List.set_cons_succ]
                  refine Scr.take (v := .pointer (some ⟨b4 + 1, 5, none⟩)) rfl rfl (yw_pure (by rfl) (fun _ => by go_simp)) HV.out ?_
                  simp only [Act.put, List.setIfInBounds_toArray, List.set_cons_zero, List.set_cons_succ]
                  refine Scr.take (v := .slice AL4 rw.l.length cl4) rfl rfl (yw_cell 35 _ rfl ⟨b4 + 1, 5, none⟩ (.slice AL4 rw.l.length cl4) rfl (by rfl) _ Tryd.underlying35 rfl (fun W hS => (HC.out W hS).1)) HV.out ?_
                  simp only [Act.put, List.setIfInBounds_toArray, List.set_cons_zero, List.set_cons_succ]
                  refine Scr.run rfl (by rfl) (fun K hK => ?_)
                  go_simp
                  refine (hap).mono ?_
                  clear hap
                  rintro e w6 ⟨rfl, hb6⟩
                  dsimp only
                  have hB6 : Below w4.heap.size w4 w6 := below_and (w1 := w4.drew) hb6 (Below.refl _ _).drew
                  refine hK _ _ hB6 ?_
                  clear hK K HV hb6
                  have HV := Lib.hid hB6
                  clear hB6
                  refine Scr.take (v := .bool (!apartB meetB p rw.l)) rfl rfl (yw_pure (by rfl) (fun _ => by go_simp)) HV.out ?_
                  simp only [Act.put, List.setIfInBounds_toArray, List.set_cons_zero, List.set_cons_succ]
                  refine Scr.take (v := .bool (!apartB meetB p rw.l)) rfl rfl (yw_pure (by rfl) (fun _ => by go_simp)) HV.out ?_
                  simp only [Act.put, List.setIfInBounds_toArray, List.set_cons_zero, List.set_cons_succ]
                  simp only [Scr]
                  clear hd
                  cases hab : apartB meetB p rw.l with
                  | false =>
                    have HF : Hid (admB15 p = false) := Lib.hid (by rw [HQ.out.2.2.2.2.2.2.1, if_pos]; show fineR meetB p (fromR p true z) = false; rw [HRW.out]; unfold fineR; rw [hab]; simp)
                    go_wp2_with fail
                    go_ret
                    exact ⟨by rw [HF.out]; rfl, HB4.out.trans (HV.out.mono HB4.out.size)⟩
                  | true =>
                    have HG2 : Hid (admB15 p = admG p (askR p) (p.ins.length - k) (k + 1) (putOuts p rw.l td)) := Lib.hid (by
                      have h9 := HQ.out.2.2.2.2.2.2.1
                      have hfn : fineR meetB p rw = true := by unfold fineR; rw [htw, hab, decide_eq_true (show rw.mt ≤ 1 by omega)]; rfl
                      have ha1 : (askR p z).1 = rw.l := by unfold askR; rw [HRW.out]
                      have ha2 : (askR p z).2 = true := by unfold askR; rw [HRW.out]; exact hfn
                      rw [ha2, ha1, if_neg (by simp)] at h9
                      exact h9)
                    have HLS : Hid (∀ x ∈ rw.l, Pc p x ∧ (p.get x).op = 2) := Lib.hid (by have h9 := HL.out.1; rw [show comeR p true (p.ins.length + 1) z ⟨[], [], 0, false⟩ = rw from HRW.out] at h9; exact h9)
                    have hBwf := HB4.out.trans (HV.out.mono HB4.out.size)
                    have hI0 : QAt w6 B (.slice (some ⟨gq, oq, none⟩) (m - 1) (cq - 1)) (td.drop (k + 1)) := HT4.out.1.below HV.out
                    have hI1 : w6.heap[B + 1]? = some (.cells (boolsOf p.ins.length td) 4 (0, 0)) := by
                      have h8 := HB4O.out
                      exact ((h8.trans (HV.out.mono h8.size)).block _ (heap_lt HQ.out.2.2.1)).trans HQ.out.2.2.1
                    have hI2 : w6.cell? ⟨b4 + 1, 5, none⟩ = some (.slice AL4 rw.l.length cl4) := (HC.out w6 HV.out).1
                    have hI3 := (HC.out w6 HV.out).2.2.2
                    have hI4 := (HT4.out.2.1.below HV.out)
                    have hI5 : gq ≠ B + 1 := HQ.out.2.1 gq rfl
                    have hI6 : gq < b4 := by have h9 := HT4.out.2.2; omega
                    have hI7 : B + 1 < b4 := by have h9 := HT4.out.2.2; have := heap_lt HQ.out.2.2.1; omega
                    have HI9 := Lib.hid (And.intro hI0 (And.intro hI1 (And.intro hI2 (And.intro hI3 (And.intro hI4 (And.intro hI5 (And.intro hI6 (And.intro hI7 hBwf))))))))
                    have HAB := Lib.hid hab
                    clear hab htw hmt hI0 hI1 hI2 hI3 hI4 hI5 hI6 hI7 hBwf
                    go_wp2_with fail
                    obtain ⟨wf, rfl⟩ : ∃ wf : World, wf = w6 := ⟨_, rfl⟩
                    go_loopg [4, 6] rw.l.length (fun g s4 s6 wx => ∃ j : Nat, s6 = .int .i64 j ∧ j ≤ rw.l.length ∧ rw.l.length - j ≤ g ∧ QAt wx B s4 ((putOuts p (rw.l.take j) td).drop (k + 1)) ∧ (∀ q, s4.ownBlock = some q → q ≠ B + 1 ∧ (q < b4 ∨ wf.heap.size ≤ q)) ∧ wx.heap[B + 1]? = some (.cells (boolsOf p.ins.length (putOuts p (rw.l.take j) td)) 4 (0, 0)) ∧ Below w.heap.size w wx ∧ wf.heap.size ≤ wx.heap.size ∧ (∀ q, b4 ≤ q → q < wf.heap.size → wx.heap[q]? = wf.heap[q]?) ∧ wx.heap[bx]? = some (.cells #[.slice A p.ins.length c, .int .i64 p.start, .int .i64 p.caps] 28 (0, 0)))
                    case atStart => exact ⟨0, rfl, Nat.zero_le _, Nat.le_refl _, by rw [List.take_zero]; exact HI9.out.1, fun q hq => by simp [Value.ownBlock] at hq; subst hq; exact ⟨HI9.out.2.2.2.2.2.1, .inl HI9.out.2.2.2.2.2.2.1⟩, by rw [List.take_zero]; exact HI9.out.2.1, HI9.out.2.2.2.2.2.2.2.2, Nat.le_refl _, fun _ _ _ => rfl, HI9.out.2.2.2.1⟩
                    case round =>
                      obtain ⟨j, rfl, hj, hjg, hjq, hjb, hjs, hjB, hjz, hjk, hjx⟩ := hrel
                      have hlb : rw.l.length ≤ 100000 := by
                        have h9 := HL.out.2
                        rw [show comeR p true (p.ins.length + 1) z ⟨[], [], 0, false⟩ = rw from HRW.out] at h9
                        have := h9.l; have := h9.few; omega
                      obtain ⟨GI, hGI⟩ : ∃ GI, GI = gk := ⟨_, rfl⟩
                      rw [← hGI] at hjg
                      have nb4 : b4 + 1 < wf.heap.size := heap_lt HI9.out.2.2.2.2.1.blk
                      have hblk : wr.heap[b4 + 1]? = wf.heap[b4 + 1]? := hjk _ (by omega) nb4
                      have hc5 : wr.cell? ⟨b4 + 1, 5, none⟩ = some (.slice AL4 rw.l.length cl4) := by rw [← HI9.out.2.2.1]; exact World.cell?_of_block hblk
                      obtain ⟨TD, hTD⟩ : ∃ TD, putOuts p (rw.l.take j) td = TD := ⟨_, rfl⟩
                      rw [hTD] at hjq hjs
                      by_cases hjl : j < rw.l.length
                      · have hij : decide ((j : Int) < (rw.l.length : Int)) = true := decide_eq_true (by omega)
                        obtain ⟨hpcx, hopx⟩ := HLS.out _ (List.getElem_mem hjl)
                        obtain ⟨xi, hxi, hxil⟩ : ∃ xi : Nat, rw.l[j] = (xi : Int) ∧ xi < p.ins.length := ⟨rw.l[j].toNat, by have := hpcx.1; omega, by have := hpcx.1; have := hpcx.2; omega⟩
                        obtain ⟨ld, hL, hl1⟩ := ints_at ((ownI64_arr0 HI9.out.2.2.2.2.1.l).move (w' := wr) (ok' := fun _ => True) (fun q hq hlt => ⟨hjk q (by omega) hlt, trivial⟩) (by omega)) j hjl
                        subst hL
                        rw [hxi] at hl1
                        obtain ⟨ad, hA, hout⟩ := ins_out HH.out.2.2.2.2.2.2.2 (Nat.le_refl _) xi hxil
                        subst hA
                        have hgx : p.get rw.l[j] = p.ins[xi] := by rw [hxi, get_nat p hxil]
                        have hpy := (HH.out.1 _ hpcx).1 (.inl hopx)
                        rw [hgx] at hpy
                        have htk := putOuts_take (p := p) (td := td) hjl
                        rw [hgx, hTD] at htk
                        obtain ⟨y, hy, hyl⟩ : ∃ y : Nat, p.ins[xi].out = (y : Int) ∧ y < p.ins.length := ⟨p.ins[xi].out.toNat, by have := hpy.1; omega, by have := hpy.1; have := hpy.2; omega⟩
                        rw [hy] at htk
                        have hcO : Hid (∀ W', Below wr.heap.size wr W' → W'.cell? ⟨bx, 0, none⟩ = some (.slice (some ad) p.ins.length c) ∧ W'.cell? ⟨b4 + 1, 5, none⟩ = some (.slice (some ld) rw.l.length cl4) ∧ W'.cell? (ld.add j) = some (.int .i64 xi) ∧ W'.cell? ⟨(ad.add (xi * 5)).block, (ad.add (xi * 5)).off + 1, none⟩ = some (.int .i64 y)) := Lib.hid (fun W' hW => by
                          refine ⟨?_, (hW.cell (World.block_lt_of_cell? _ _ hc5)).trans hc5, (hW.cell (World.block_lt_of_cell? _ _ hl1)).trans hl1, ?_⟩
                          · have h9 := (hW.block _ (heap_lt hjx)).trans hjx
                            rw [cell_of_blk h9]; rfl
                          · rw [← hy]; exact hout W' (hjB.trans (hW.mono hjB.size)))
                        obtain ⟨n4, hn4⟩ : ∃ n4, (TD.drop (k + 1)).length = n4 := ⟨_, rfl⟩
                        have HJ := Lib.hid (And.intro hjq (And.intro hjb (And.intro hjs (And.intro hjB (And.intro hjz (And.intro hjk (And.intro hjx htk)))))))
                        clear hjq hjb hjs hjB hjz hjk hjx htk hl1 hout hgx hpcx hopx hxi hpy hblk hy
                        have nb5 : b4 + 1 < wr.heap.size := World.block_lt_of_cell? _ _ hc5
                        go_wp2_with fail
                        clear hc5 nb4 nb5
                        refine wp_region_scr (fun W' => Below wr.heap.size wr W') [(true, 0, 78), (true, 1, 79), (true, 2, 80), (true, 3, 81), (true, 4, 82), (true, 5, 83), (true, 6, 84), (true, 7, 85), (true, 8, 86), (true, 9, 87), (true, 10, 88), (true, 11, 89), (true, 12, 7)] (by kernel_rfl) (by kernel_rfl) (fun _ _ _ _ _ h => h) rfl (by kernel_rfl) ?_
                        have HV := Lib.hid (show Below wr.heap.size wr wr.drew from (Below.refl _ _).drew)
                        refine Scr.take (v := .pointer (some ⟨bx, 0, none⟩)) rfl rfl (yw_pure (by rfl) (fun _ => by go_simp)) HV.out ?_
                        simp only [Act.put, List.setIfInBounds_toArray, List.set_cons_zero, List.set_cons_succ]
                        refine Scr.take (v := .slice (some ad) p.ins.length c) rfl rfl (yw_cell 26 _ rfl ⟨bx, 0, none⟩ (.slice (some ad) p.ins.length c) rfl (by rfl) _ Tryd.underlying26 rfl (fun W hS => (hcO.out W hS).1)) HV.out ?_
                        simp only [Act.put, List.setIfInBounds_toArray, List.set_cons_zero, List.set_cons_succ]
                        refine Scr.take (v := .pointer (some ⟨b4 + 1, 0, none⟩)) rfl rfl (yw_pure (by rfl) (fun _ => by go_simp)) HV.out ?_
                        simp only [Act.put, List.setIfInBounds_toArray, List.set_cons_zero, List.set_cons_succ]
                        refine Scr.take (v := .pointer (some ⟨b4 + 1, 0, none⟩)) rfl rfl (yw_pure (by rfl) (fun _ => by go_simp)) HV.out ?_
                        simp only [Act.put, List.setIfInBounds_toArray, List.set_cons_zero, List.set_cons_succ]
                        refine Scr.take (v := .pointer (some ⟨b4 + 1, 5, none⟩)) rfl rfl (yw_pure (by rfl) (fun _ => by go_simp)) HV.out ?_
                        simp only [Act.put, List.setIfInBounds_toArray, List.set_cons_zero, List.set_cons_succ]
                        refine Scr.take (v := .slice (some ld) rw.l.length cl4) rfl rfl (yw_cell 35 _ rfl ⟨b4 + 1, 5, none⟩ (.slice (some ld) rw.l.length cl4) rfl (by rfl) _ Tryd.underlying35 rfl (fun W hS => (hcO.out W hS).2.1)) HV.out ?_
                        simp only [Act.put, List.setIfInBounds_toArray, List.set_cons_zero, List.set_cons_succ]
                        refine Scr.take (v := .int .i64 j) rfl rfl (yw_pure (by rfl) (fun _ => by go_simp)) HV.out ?_
                        simp only [Act.put, List.setIfInBounds_toArray, List.set_cons_zero, List.set_cons_succ]
                        refine Scr.take (v := .pointer (some (ld.add j))) rfl rfl (yw_pure (by rfl) (fun _ => by go_simp)) HV.out ?_
                        simp only [Act.put, List.setIfInBounds_toArray, List.set_cons_zero, List.set_cons_succ]
                        refine Scr.take (v := .int .i64 xi) rfl rfl (yw_cell 3 _ rfl (ld.add j) (.int .i64 xi) rfl (by rfl) _ Tryd.underlying3 rfl (fun W hS => (hcO.out W hS).2.2.1)) HV.out ?_
                        simp only [Act.put, List.setIfInBounds_toArray, List.set_cons_zero, List.set_cons_succ]
                        refine Scr.take (v := .pointer (some (ad.add (xi * 5)))) rfl rfl (yw_pure (by rfl) (fun _ => by go_simp)) HV.out ?_
                        simp only [Act.put, List.setIfInBounds_toArray, List.set_cons_zero, List.set_cons_succ]
                        refine Scr.take (v := .pointer (some ⟨(ad.add (xi * 5)).block, (ad.add (xi * 5)).off + 1, none⟩)) rfl rfl (yw_pure (by rfl) (fun _ => by go_simp)) HV.out ?_
                        simp only [Act.put, List.setIfInBounds_toArray, List.set_cons_zero, List.set_cons_succ]
                        refine Scr.take (v := .int .i64 y) rfl rfl (yw_cell 3 _ rfl ⟨(ad.add (xi * 5)).block, (ad.add (xi * 5)).off + 1, none⟩ (.int .i64 y) rfl (by rfl) _ Tryd.underlying3 rfl (fun W hS => (hcO.out W hS).2.2.2)) HV.out ?_
                        simp only [Act.put, List.setIfInBounds_toArray, List.set_cons_zero, List.set_cons_succ]
                        refine Scr.take (v := .int .i64 y) rfl rfl (yw_pure (by rfl) (fun _ => by go_simp)) HV.out ?_
                        simp only [Act.put, List.setIfInBounds_toArray, List.set_cons_zero, List.set_cons_succ]
                        simp only [Scr]
                        obtain ⟨Y, hY⟩ : ∃ Y, wr.drew = Y := ⟨_, rfl⟩
                        rw [hY] at HV ⊢
                        clear hY
                        have hYs : Y.heap[B + 1]? = some (.cells (boolsOf p.ins.length TD) 4 (0, 0)) := (HV.out.block _ (heap_lt HJ.out.2.2.1)).trans HJ.out.2.2.1
                        have hYc : Y.cell? ⟨B + 1, y, none⟩ = some (.bool (TD.contains (y : Int))) := by rw [cell_of_blk hYs, bools_at hyl]
                        have hYf := frozenOf hYs y
                        have hYn := heap_lt hYs
                        have hYx := (HV.out.block _ (heap_lt HJ.out.2.2.2.2.2.2.1)).trans HJ.out.2.2.2.2.2.2.1
                        have hYq := HJ.out.1.below HV.out
                        have hYB := HJ.out.2.2.2.1.trans (HV.out.mono HJ.out.2.2.2.1.size)
                        have hYz : wf.heap.size ≤ Y.heap.size := Nat.le_trans HJ.out.2.2.2.2.1 HV.out.size
                        have hYk : ∀ q, b4 ≤ q → q < wf.heap.size → Y.heap[q]? = wf.heap[q]? := fun q h1 h2 => (HV.out.block _ (Nat.lt_of_lt_of_le h2 HJ.out.2.2.2.2.1)).trans (HJ.out.2.2.2.2.2.1 q h1 h2)
                        have hBw2 : w.heap.size ≤ B := HI.out.2.2.2.2.2.2
                        have hbxB : bx < B := HI.out.2.2.2.2.2.1
                        have hYl : TD.length ≤ 100000 := by have h9 := putOuts_nodup p (rw.l.take j) td HQ.out.2.2.2.2.2.1; rw [hTD] at h9; have h8 := nodup_len h9 (by rw [← hTD]; exact putOuts_mem p (Pc p) _ _ HP.out (fun x hx => by have h7 := HLS.out x (List.mem_of_mem_take hx); exact (HH.out.1 x h7.1).1 (.inl h7.2))); omega
                        cases hct : TD.contains (y : Int) with
                        | true =>
                          rw [hct] at hYc
                          have htk : putOuts p (rw.l.take (j + 1)) td = TD := by rw [HJ.out.2.2.2.2.2.2.2, if_pos hct]
                          have HY := Lib.hid (And.intro hYs (And.intro hYx (And.intro hYq (And.intro hYB (And.intro hYz (And.intro hYk htk))))))
                          clear hYs hYx hYq hYB hYz hYk htk hYf hct
                          go_wp2_with fail
                          go_roundg (rw.l.length - (j + 1))
                          case measure => omega
                          case rel => exact ⟨j + 1, by go_num, by omega, Nat.le_refl _, by rw [HY.out.2.2.2.2.2.2]; exact HY.out.2.2.1, HJ.out.2.1, by rw [HY.out.2.2.2.2.2.2]; exact HY.out.1, HY.out.2.2.2.1, HY.out.2.2.2.2.1, HY.out.2.2.2.2.2.1, HY.out.2.1⟩
                        | false =>
                          rw [hct] at hYc
                          have htk : putOuts p (rw.l.take (j + 1)) td = TD ++ [(y : Int)] := by rw [HJ.out.2.2.2.2.2.2.2, if_neg (by rw [hct]; simp)]
                          have hdk : (TD ++ [(y : Int)]).drop (k + 1) = TD.drop (k + 1) ++ [(y : Int)] := by
                            obtain ⟨r, hr⟩ := putOuts_pre15 (p := p) (rw.l.take j) td
                            exact List.drop_append_of_le_length (by rw [← hTD, hr, List.length_append]; omega)
                          obtain ⟨s4v, hs4v⟩ : ∃ v : Value, v = u4 := ⟨_, rfl⟩
                          rw [← hs4v] at HJ hYq ⊢
                          clear hs4v
                          have hZq : ∀ q, s4v.ownBlock = some q → q ≠ B + 1 := fun q hq => (HJ.out.2.1 q hq).1
                          have hZQ : QAt ((Y.setCell ⟨B + 1, y, none⟩ (.bool true)).alloc (.cells #[.int .i64 (y : Int)] 3)) B s4v (TD.drop (k + 1)) := (hYq.kept (W' := Y.setCell ⟨B + 1, y, none⟩ (.bool true)) (fun g hg _ => set_ne0 Y _ (hZq g hg))).below (below_al (Below.refl _ _) _)
                          have hZg : ((Y.setCell ⟨B + 1, y, none⟩ (.bool true)).alloc (.cells #[.int .i64 (y : Int)] 3)).heap[Y.heap.size]? = some (.cells #[.int .i64 (y : Int)] 3 (0, 0)) := heap_newX (by simp [World.setCell])
                          have hZb : B ≤ ((Y.setCell ⟨B + 1, y, none⟩ (.bool true)).alloc (.cells #[.int .i64 (y : Int)] 3)).heap.size := by simp [World.setCell]; omega
                          have hdl9 : (TD.drop (k + 1)).length + 1 ≤ 1000000000 := by rw [List.length_drop]; omega
                          have HZ := Lib.hid (And.intro hZQ (And.intro hZg (And.intro hZb hdl9)))
                          have HY := Lib.hid (And.intro hYs (And.intro hYx (And.intro hYq (And.intro hYB (And.intro hYz (And.intro hYk (And.intro htk hdk)))))))
                          clear hYs hYx hYq hYB hYz hYk htk hct hdk hZQ hZg hZb hdl9 hZq
                          go_wp2_with (first | (at_builtin; refine wpList_appQ rfl _ _ rfl B s4v (TD.drop (k + 1)) rfl HZ.out.1 _ (y : Int) rfl HZ.out.2.1 HZ.out.2.2.2 HZ.out.2.2.1 ?_))
                          intro v' w7 hq7 hgr7 hwh7
                          have hk7 : ∀ q, q < Y.heap.size → q ≠ B + 1 → s4v.ownBlock ≠ some q → w7.heap[q]? = Y.heap[q]? := fun q hq1 hq2 hq3 =>
                            (hgr7.block q (by simp [World.setCell]; omega) (fun e => hq3 e.symm)).trans ((Below.heap_alloc _ _ _ (by simpa [World.setCell] using hq1)).trans (set_ne0 Y _ hq2))
                          have hs7 : Y.heap.size + 1 ≤ w7.heap.size := by have := hgr7.size; simpa [World.setCell] using this
                          have hB7 : s4v.ownBlock ≠ some (B + 1) := fun e => (HJ.out.2.1 _ e).1 rfl
                          have h7s : w7.heap[B + 1]? = some (.cells (boolsOf p.ins.length (TD ++ [(y : Int)])) 4 (0, 0)) := by
                            rw [hgr7.block (B + 1) (by simp [World.setCell]; omega) (fun e => hB7 e.symm), Below.heap_alloc _ _ _ (by simpa [World.setCell] using hYn), heap_set0 HY.out.1 y, bools_set, bools_snoc]
                          have h7o : ∀ q, s4v.ownBlock = some q → B ≤ q := fun q e => by
                            obtain ⟨g9, o9, c9, cs9, e9, b9, _⟩ := HY.out.2.2.1
                            rw [e9] at e
                            simp [Value.ownBlock] at e
                            omega
                          have H7 := Lib.hid (And.intro hq7 (And.intro hgr7 (And.intro hwh7 (And.intro hk7 (And.intro hs7 (And.intro h7s h7o))))))
                          clear hq7 hgr7 hwh7 hk7 hs7 h7s h7o hB7
                          go_wp2_with fail
                          go_roundg (rw.l.length - (j + 1))
                          case measure => omega
                          case rel =>
                            refine ⟨j + 1, by go_num, by omega, Nat.le_refl _, by rw [HY.out.2.2.2.2.2.2.1, HY.out.2.2.2.2.2.2.2]; exact H7.out.1, fun q hq => ?_, by rw [HY.out.2.2.2.2.2.2.1]; exact H7.out.2.2.2.2.2.1, ?_, by have := H7.out.2.2.2.2.1; have := HY.out.2.2.2.2.1; omega, fun q h1 h2 => ?_, ?_⟩
                            · rcases H7.out.2.2.1 q hq with h9 | h9
                              · exact HJ.out.2.1 q h9
                              · have h8 : Y.heap.size ≤ q := by omega
                                have := HY.out.2.2.2.2.1
                                exact ⟨by omega, .inr (by omega)⟩
                            · have h9 := ((HY.out.2.2.2.1.setCell (p := ⟨B + 1, y, none⟩) (by show w.heap.size ≤ B + 1; omega) (.bool true)).alloc (by have := HY.out.2.2.2.1.size; simp [World.setCell]; omega) (.cells #[.int .i64 (y : Int)] 3)).grown H7.out.2.1 (by have := HY.out.2.2.2.1.size; simp [World.setCell]; omega) (fun q e => by have := H7.out.2.2.2.2.2.2 q e; omega)
                              exact h9
                            · rw [H7.out.2.2.2.1 q (by have := HY.out.2.2.2.2.1; omega) (by have := HI9.out.2.2.2.2.2.2.2.1; omega) (fun e => by have := (HJ.out.2.1 q e).2; omega)]
                              exact HY.out.2.2.2.2.2.1 q h1 h2
                            · rw [H7.out.2.2.2.1 bx (heap_lt HY.out.2.1) (by omega) (fun e => by have := H7.out.2.2.2.2.2.2 bx e; omega)]
                              exact HY.out.2.1
                      · have hij : decide ((j : Int) < (rw.l.length : Int)) = false := decide_eq_false (by omega)
                        have hje : rw.l.take j = rw.l := List.take_of_length_le (by omega)
                        rw [hje] at hTD
                        have HJ := Lib.hid (And.intro hjq (And.intro hjb (And.intro hjs (And.intro hjB (And.intro hjx hTD)))))
                        clear hjq hjb hjs hjB hjz hjk hjx hTD hje hblk
                        go_wp2_with fail
                        go_roundg (G - 1)
                        case measure => omega
                        case rel => exact ⟨k + 1, TD, by rw [← HJ.out.2.2.2.2.2]; exact putOuts_nodup p _ _ HQ.out.2.2.2.2.2.1, Lib.hid (by rw [← HJ.out.2.2.2.2.2]; exact putOuts_mem p (Pc p) _ _ HP.out (fun x hx => by have h7 := HLS.out x hx; exact (HH.out.1 x h7.1).1 (.inl h7.2))), by have h9 := putOuts_le p rw.l td; rw [HJ.out.2.2.2.2.2] at h9; omega, by omega, Lib.hid (by rw [show p.ins.length + 1 - (k + 1) = p.ins.length - k by omega, ← HJ.out.2.2.2.2.2]; exact HG2.out), HJ.out.1, fun q hq => (HJ.out.2.1 q hq).1, HJ.out.2.2.1, HJ.out.2.2.2.1, HJ.out.2.2.2.2.1⟩
            · have hc1 : (cq = 1) = False := by simp [hcq]
              have hc2 : (1 = cq) = False := by simp; omega
              have hc3 : (cq - 1 = 0) = False := by simp; omega
              have HCQ := Lib.hid hcq
              clear hcq
              go_wp2_with fail
              clear hc1 hc2 hc3
              obtain ⟨oq, hoq⟩ : ∃ oq, off + 1 = oq ∧ (if cq - 1 = 0 then (⟨gq, off, none⟩ : Addr) else ⟨gq, off + 1, none⟩) = ⟨gq, oq, none⟩ := ⟨off + 1, rfl, if_neg (by have := HCQ.out; omega)⟩
              rw [hoq.1]
              have hqt : QAt w4 B (.slice (some ⟨gq, oq, none⟩) (m - 1) (cq - 1)) (td.drop (k + 1)) := by
                have h9 := HQ.out.1.below HV.out
                rw [HQ.out.2.2.2.2.2.2.2] at h9
                have hl9 : m = (td.drop (k + 1)).length + 1 := by rw [List.length_drop, ← HM.out]; omega
                have hl8 : m - 1 = (td.drop (k + 1)).length := by omega
                rw [hl9] at h9
                rw [hl8, ← hoq.2]
                exact h9.tail
              clear hoq
              have HC : Hid (∀ W, Below w4.heap.size w4 W → W.cell? ⟨b4 + 1, 5, none⟩ = some (.slice AL4 rw.l.length cl4) ∧ W.cell? ⟨b4 + 1, 6, none⟩ = some (.int .i64 rw.mt) ∧ W.cell? ⟨b4 + 1, 7, none⟩ = some (.bool rw.tw) ∧ W.heap[bx]? = some (.cells #[.slice A p.ins.length c, .int .i64 p.start, .int .i64 p.caps] 28 (0, 0))) := Lib.hid (fun W hW => by
                have h9 := (hW.block _ (heap_lt hR4.blk)).trans hR4.blk
                have h8 := (HV.out.block _ (heap_lt HQ.out.2.2.2.2.1)).trans HQ.out.2.2.2.2.1
                exact ⟨by rw [cell_of_blk h9]; rfl, by rw [cell_of_blk h9]; rfl, by rw [cell_of_blk h9]; rfl, (hW.block _ (heap_lt h8)).trans h8⟩)
              have HT4 := Lib.hid (And.intro hqt (And.intro hR4 hb4o))
              clear hqt hR4 hb4o
              cases htw : rw.tw with
              | true =>
                rw [htw] at HC
                refine wp_region_scr (fun W' => Below w4.heap.size w4 W') [(true, 0, 49), (true, 1, 50), (true, 2, 51), (true, 3, 52), (true, 4, 53), (true, 5, 54), (true, 6, 55), (true, 7, 56), (true, 8, 57), (true, 9, 58), (true, 10, 59), (true, 11, 60), (true, 12, 61), (true, 13, 62), (true, 14, 63), (true, 15, 64), (true, 16, 65), (false, 17, 66), (true, 18, 67), (true, 19, 68)] (by kernel_rfl) (by kernel_rfl) (fun _ _ _ _ _ h => h) rfl (by kernel_rfl) ?_
                have HV := Lib.hid (show Below w4.heap.size w4 w4.drew from (Below.refl _ _).drew)
                refine Scr.take (v := .pointer (some ⟨b4 + 1, 0, none⟩)) rfl rfl (yw_pure (by rfl) (fun _ => by go_simp)) HV.out ?_
                simp only [Act.put, List.setIfInBounds_toArray, List.set_cons_zero, List.set_cons_succ]
                refine Scr.take (v := .pointer (some ⟨b4 + 1, 0, none⟩)) rfl rfl (yw_pure (by rfl) (fun _ => by go_simp)) HV.out ?_
                simp only [Act.put, List.setIfInBounds_toArray, List.set_cons_zero, List.set_cons_succ]
                refine Scr.take (v := .pointer (some ⟨b4 + 1, 7, none⟩)) rfl rfl (yw_pure (by rfl) (fun _ => by go_simp)) HV.out ?_
                simp only [Act.put, List.setIfInBounds_toArray, List.set_cons_zero, List.set_cons_succ]
                refine Scr.take (v := .bool true) rfl rfl (yw_cell 4 _ rfl ⟨b4 + 1, 7, none⟩ (.bool true) rfl (by rfl) _ Tryd.underlying4 rfl (fun W hS => (HC.out W hS).2.2.1)) HV.out ?_
                simp only [Act.put, List.setIfInBounds_toArray, List.set_cons_zero, List.set_cons_succ]
                refine Scr.take (v := .bool true) rfl rfl (yw_pure (by rfl) (fun _ => by go_simp)) HV.out ?_
                simp only [Act.put, List.setIfInBounds_toArray, List.set_cons_zero, List.set_cons_succ]
                refine Scr.take (v := undef) rfl rfl (yw_no (by rfl)) HV.out ?_
                simp only [Act.put, List.setIfInBounds_toArray, List.set_cons_zero, List.set_cons_succ]
                refine Scr.take (v := undef) rfl rfl (yw_no (by rfl)) HV.out ?_
                simp only [Act.put, List.setIfInBounds_toArray, List.set_cons_zero, List.set_cons_succ]
                refine Scr.take (v := undef) rfl rfl (yw_no (by rfl)) HV.out ?_
                simp only [Act.put, List.setIfInBounds_toArray, List.set_cons_zero, List.set_cons_succ]
                refine Scr.take (v := undef) rfl rfl (yw_no (by rfl)) HV.out ?_
                simp only [Act.put, List.setIfInBounds_toArray, List.set_cons_zero, List.set_cons_succ]
                refine Scr.take (v := undef) rfl rfl (yw_no (by rfl)) HV.out ?_
                simp only [Act.put, List.setIfInBounds_toArray, List.set_cons_zero, List.set_cons_succ]
                refine Scr.take (v := .bool true) rfl rfl (yw_pure (by rfl) (fun _ => by go_simp)) HV.out ?_
                simp only [Act.put, List.setIfInBounds_toArray, List.set_cons_zero, List.set_cons_succ]
                refine Scr.take (v := .bool true) rfl rfl (yw_pure (by rfl) (fun _ => by go_simp)) HV.out ?_
                simp only [Act.put, List.setIfInBounds_toArray, List.set_cons_zero, List.set_cons_succ]
                refine Scr.take (v := undef) rfl rfl (yw_no (by rfl)) HV.out ?_
                simp only [Act.put, List.setIfInBounds_toArray, List.set_cons_zero, List.set_cons_succ]
                refine Scr.take (v := undef) rfl rfl (yw_no (by rfl)) HV.out ?_
                simp only [Act.put, List.setIfInBounds_toArray, List.set_cons_zero, List.set_cons_succ]
                refine Scr.take (v := undef) rfl rfl (yw_no (by rfl)) HV.out ?_
                simp only [Act.put, List.setIfInBounds_toArray, List.set_cons_zero, List.set_cons_succ]
                refine Scr.take (v := undef) rfl rfl (yw_no (by rfl)) HV.out ?_
                simp only [Act.put, List.setIfInBounds_toArray, List.set_cons_zero, List.set_cons_succ]
                refine Scr.take (v := undef) rfl rfl (yw_no (by rfl)) HV.out ?_
                simp only [Act.put, List.setIfInBounds_toArray, List.set_cons_zero, List.set_cons_succ]
                refine Scr.skip rfl rfl (by rfl) HV.out ?_
                simp only [Act.put, List.setIfInBounds_toArray, List.set_cons_zero, List.set_cons_succ]
                refine Scr.take (v := undef) rfl rfl (yw_no (by rfl)) HV.out ?_
                simp only [Act.put, List.setIfInBounds_toArray, List.set_cons_zero, List.set_cons_succ]
                refine Scr.take (v := .bool true) rfl rfl (yw_pure (by rfl) (fun _ => by go_simp)) HV.out ?_
                simp only [Act.put, List.setIfInBounds_toArray, List.set_cons_zero, List.set_cons_succ]
                simp only [Scr]
                clear HC
                have HF : Hid (admB15 p = false) := Lib.hid (by rw [HQ.out.2.2.2.2.2.2.1, if_pos]; show fineR meetB p (fromR p true z) = false; rw [HRW.out]; unfold fineR; rw [htw]; simp)
                go_wp2_with fail
                go_ret
                exact ⟨by rw [HF.out]; rfl, HB4.out.trans (HV.out.mono HB4.out.size)⟩
              | false =>
                by_cases hmt : 1 < rw.mt
                · have hd : decide (1 < rw.mt) = true := decide_eq_true hmt
                  rw [htw] at HC
                  refine wp_region_scr (fun W' => Below w4.heap.size w4 W') [(true, 0, 49), (true, 1, 50), (true, 2, 51), (true, 3, 52), (true, 4, 53), (true, 5, 54), (true, 6, 55), (true, 7, 56), (true, 8, 57), (true, 9, 58), (true, 10, 59), (true, 11, 60), (true, 12, 61), (true, 13, 62), (true, 14, 63), (true, 15, 64), (true, 16, 65), (false, 17, 66), (true, 18, 67), (true, 19, 68)] (by kernel_rfl) (by kernel_rfl) (fun _ _ _ _ _ h => h) rfl (by kernel_rfl) ?_
                  have HV := Lib.hid (show Below w4.heap.size w4 w4.drew from (Below.refl _ _).drew)
                  refine Scr.take (v := .pointer (some ⟨b4 + 1, 0, none⟩)) rfl rfl (yw_pure (by rfl) (fun _ => by go_simp)) HV.out ?_
                  simp only [Act.put, List.setIfInBounds_toArray, List.set_cons_zero, List.set_cons_succ]
                  refine Scr.take (v := .pointer (some ⟨b4 + 1, 0, none⟩)) rfl rfl (yw_pure (by rfl) (fun _ => by go_simp)) HV.out ?_
                  simp only [Act.put, List.setIfInBounds_toArray, List.set_cons_zero, List.set_cons_succ]
                  refine Scr.take (v := .pointer (some ⟨b4 + 1, 7, none⟩)) rfl rfl (yw_pure (by rfl) (fun _ => by go_simp)) HV.out ?_
                  simp only [Act.put, List.setIfInBounds_toArray, List.set_cons_zero, List.set_cons_succ]
                  refine Scr.take (v := .bool false) rfl rfl (yw_cell 4 _ rfl ⟨b4 + 1, 7, none⟩ (.bool false) rfl (by rfl) _ Tryd.underlying4 rfl (fun W hS => (HC.out W hS).2.2.1)) HV.out ?_
                  simp only [Act.put, List.setIfInBounds_toArray, List.set_cons_zero, List.set_cons_succ]
                  refine Scr.take (v := .bool false) rfl rfl (yw_pure (by rfl) (fun _ => by go_simp)) HV.out ?_
                  simp only [Act.put, List.setIfInBounds_toArray, List.set_cons_zero, List.set_cons_succ]
                  refine Scr.take (v := .pointer (some ⟨b4 + 1, 0, none⟩)) rfl rfl (yw_pure (by rfl) (fun _ => by go_simp)) HV.out ?_
                  simp only [Act.put, List.setIfInBounds_toArray, List.set_cons_zero, List.set_cons_succ]
                  refine Scr.take (v := .pointer (some ⟨b4 + 1, 0, none⟩)) rfl rfl (yw_pure (by rfl) (fun _ => by go_simp)) HV.out ?_
                  simp only [Act.put, List.setIfInBounds_toArray, List.set_cons_zero, List.set_cons_succ]
                  refine Scr.take (v := .pointer (some ⟨b4 + 1, 6, none⟩)) rfl rfl (yw_pure (by rfl) (fun _ => by go_simp)) HV.out ?_
                  simp only [Act.put, List.setIfInBounds_toArray, List.set_cons_zero, List.set_cons_succ]
                  refine Scr.take (v := .int .i64 rw.mt) rfl rfl (yw_cell 3 _ rfl ⟨b4 + 1, 6, none⟩ (.int .i64 rw.mt) rfl (by rfl) _ Tryd.underlying3 rfl (fun W hS => (HC.out W hS).2.1)) HV.out ?_
                  simp only [Act.put, List.setIfInBounds_toArray, List.set_cons_zero, List.set_cons_succ]
                  refine Scr.take (v := .bool true) rfl rfl (yw_pure (by rfl) (fun _ => by go_simp)) HV.out ?_
                  simp only [Act.put, List.setIfInBounds_toArray, List.set_cons_zero, List.set_cons_succ]
                  refine Scr.take (v := .bool true) rfl rfl (yw_pure (by rfl) (fun _ => by go_simp)) HV.out ?_
                  simp only [Act.put, List.setIfInBounds_toArray, List.set_cons_zero, List.set_cons_succ]
                  refine Scr.take (v := .bool true) rfl rfl (yw_pure (by rfl) (fun _ => by go_simp)) HV.out ?_
                  simp only [Act.put, List.setIfInBounds_toArray, List.set_cons_zero, List.set_cons_succ]
                  refine Scr.take (v := undef) rfl rfl (yw_no (by rfl)) HV.out ?_
                  simp only [Act.put, List.setIfInBounds_toArray, List.set_cons_zero, List.set_cons_succ]
                  refine Scr.take (v := undef) rfl rfl (yw_no (by rfl)) HV.out ?_
                  simp only [Act.put, List.setIfInBounds_toArray, List.set_cons_zero, List.set_cons_succ]
                  refine Scr.take (v := undef) rfl rfl (yw_no (by rfl)) HV.out ?_
                  simp only [Act.put, List.setIfInBounds_toArray, List.set_cons_zero, List.set_cons_succ]
                  refine Scr.take (v := undef) rfl rfl (yw_no (by rfl)) HV.out ?_
                  simp only [Act.put, List.setIfInBounds_toArray, List.set_cons_zero, List.set_cons_succ]
                  refine Scr.take (v := undef) rfl rfl (yw_no (by rfl)) HV.out ?_
                  simp only [Act.put, List.setIfInBounds_toArray, List.set_cons_zero, List.set_cons_succ]
                  refine Scr.skip rfl rfl (by rfl) HV.out ?_
                  simp only [Act.put, List.setIfInBounds_toArray, List.set_cons_zero, List.set_cons_succ]
                  refine Scr.take (v := undef) rfl rfl (yw_no (by rfl)) HV.out ?_
                  simp only [Act.put, List.setIfInBounds_toArray, List.set_cons_zero, List.set_cons_succ]
                  refine Scr.take (v := .bool true) rfl rfl (yw_pure (by rfl) (fun _ => by go_simp)) HV.out ?_
                  simp only [Act.put, List.setIfInBounds_toArray, List.set_cons_zero, List.set_cons_succ]
                  simp only [Scr]
                  clear hd
                  have HF : Hid (admB15 p = false) := Lib.hid (by rw [HQ.out.2.2.2.2.2.2.1, if_pos]; show fineR meetB p (fromR p true z) = false; rw [HRW.out]; unfold fineR; rw [htw, decide_eq_false (show ¬ rw.mt ≤ 1 by omega)]; simp)
                  go_wp2_with fail
                  go_ret
                  exact ⟨by rw [HF.out]; rfl, HB4.out.trans (HV.out.mono HB4.out.size)⟩
                · have hd : decide (1 < rw.mt) = false := decide_eq_false hmt
                  rw [htw] at HC
                  have hap := HH.out.2.2.2.2.2.2.1 w4.drew HB4.out.drew AL4 cl4 rw.l (ownI64_arr HT4.out.2.1.l |>.move (fun _ _ _ => ⟨rfl, trivial⟩) (by omega)) (fun x hx => by have h9 := HL.out.1; rw [show comeR p true (p.ins.length + 1) z ⟨[], [], 0, false⟩ = rw from HRW.out] at h9; exact (h9 x hx).1) (by have h9 := HL.out.2; rw [show comeR p true (p.ins.length + 1) z ⟨[], [], 0, false⟩ = rw from HRW.out] at h9; have := h9.l; have := h9.few; omega)
                  refine wp_region_scr (fun W' => Below w4.heap.size w4 W') [(true, 0, 49), (true, 1, 50), (true, 2, 51), (true, 3, 52), (true, 4, 53), (true, 5, 54), (true, 6, 55), (true, 7, 56), (true, 8, 57), (true, 9, 58), (true, 10, 59), (true, 11, 60), (true, 12, 61), (true, 13, 62), (true, 14, 63), (true, 15, 64), (true, 16, 65), (false, 17, 66), (true, 18, 67), (true, 19, 68)] (by kernel_rfl) (by kernel_rfl) (fun _ _ _ _ _ h => h) rfl (by kernel_rfl) ?_
                  have HV := Lib.hid (show Below w4.heap.size w4 w4.drew from (Below.refl _ _).drew)
                  refine Scr.take (v := .pointer (some ⟨b4 + 1, 0, none⟩)) rfl rfl (yw_pure (by rfl) (fun _ => by go_simp)) HV.out ?_
                  simp only [Act.put, List.setIfInBounds_toArray, List.set_cons_zero, List.set_cons_succ]
                  refine Scr.take (v := .pointer (some ⟨b4 + 1, 0, none⟩)) rfl rfl (yw_pure (by rfl) (fun _ => by go_simp)) HV.out ?_
                  simp only [Act.put, List.setIfInBounds_toArray, List.set_cons_zero, List.set_cons_succ]
                  refine Scr.take (v := .pointer (some ⟨b4 + 1, 7, none⟩)) rfl rfl (yw_pure (by rfl) (fun _ => by go_simp)) HV.out ?_
                  simp only [Act.put, List.setIfInBounds_toArray, List.set_cons_zero, List.set_cons_succ]
                  refine Scr.take (v := .bool false) rfl rfl (yw_cell 4 _ rfl ⟨b4 + 1, 7, none⟩ (.bool false) rfl (by rfl) _ Tryd.underlying4 rfl (fun W hS => (HC.out W hS).2.2.1)) HV.out ?_
                  simp only [Act.put, List.setIfInBounds_toArray, List.set_cons_zero, List.set_cons_succ]
                  refine Scr.take (v := .bool false) rfl rfl (yw_pure (by rfl) (fun _ => by go_simp)) HV.out ?_
                  simp only [Act.put, List.setIfInBounds_toArray, List.set_cons_zero, List.set_cons_succ]
                  refine Scr.take (v := .pointer (some ⟨b4 + 1, 0, none⟩)) rfl rfl (yw_pure (by rfl) (fun _ => by go_simp)) HV.out ?_
                  simp only [Act.put, List.setIfInBounds_toArray, List.set_cons_zero, List.set_cons_succ]
                  refine Scr.take (v := .pointer (some ⟨b4 + 1, 0, none⟩)) rfl rfl (yw_pure (by rfl) (fun _ => by go_simp)) HV.out ?_
                  simp only [Act.put, List.setIfInBounds_toArray, List.set_cons_zero, List.set_cons_succ]
                  refine Scr.take (v := .pointer (some ⟨b4 + 1, 6, none⟩)) rfl rfl (yw_pure (by rfl) (fun _ => by go_simp)) HV.out ?_
                  simp only [Act.put, List.setIfInBounds_toArray, List.set_cons_zero, List.set_cons_succ]
                  refine Scr.take (v := .int .i64 rw.mt) rfl rfl (yw_cell 3 _ rfl ⟨b4 + 1, 6, none⟩ (.int .i64 rw.mt) rfl (by rfl) _ Tryd.underlying3 rfl (fun W hS => (HC.out W hS).2.1)) HV.out ?_
                  simp only [Act.put, List.setIfInBounds_toArray, List.set_cons_zero, List.set_cons_succ]
                  refine Scr.take (v := .bool false) rfl rfl (yw_pure (by rfl) (fun _ => by go_simp)) HV.out ?_
                  simp only [Act.put, List.setIfInBounds_toArray, List.set_cons_zero, List.set_cons_succ]
                  refine Scr.take (v := .bool false) rfl rfl (yw_pure (by rfl) (fun _ => by go_simp)) HV.out ?_
                  simp only [Act.put, List.setIfInBounds_toArray, List.set_cons_zero, List.set_cons_succ]
                  refine Scr.take (v := .bool false) rfl rfl (yw_pure (by rfl) (fun _ => by go_simp)) HV.out ?_
                  simp only [Act.put, List.setIfInBounds_toArray, List.set_cons_zero, List.set_cons_succ]
                  refine Scr.take (v := .agg #[.slice A p.ins.length c, .int .i64 p.start, .int .i64 p.caps]) rfl rfl (yw_row 28 _ rfl bx ([.slice A p.ins.length c, .int .i64 p.start, .int .i64 p.caps] : List Value) 28 rfl (by rfl) _ Tryd.underlying28 rfl (by rfl) (fun W hS => (HC.out W hS).2.2.2)) HV.out ?_
                  simp only [Act.put, List.setIfInBounds_toArray, List.set_cons_zero, List.set_cons_succ]
                  refine Scr.take (v := .pointer (some ⟨b4 + 1, 0, none⟩)) rfl rfl (yw_pure (by rfl) (fun _ => by go_simp)) HV.out ?_
                  simp only [Act.put, List.setIfInBounds_toArray, List.set_cons_zero, List.set_cons_succ]
                  refine Scr.take (v := .pointer (some ⟨b4 + 1, 0, none⟩)) rfl rfl (yw_pure (by rfl) (fun _ => by go_simp)) HV.out ?_
                  simp only [Act.put, List.setIfInBounds_toArray, List.set_cons_zero, List.set_cons_succ]
                  refine Scr.take (v := .pointer (some ⟨b4 + 1, 5, none⟩)) rfl rfl (yw_pure (by rfl) (fun _ => by go_simp)) HV.out ?_
                  simp only [Act.put, List.setIfInBounds_toArray, List.set_cons_zero, List.set_cons_succ]
                  refine Scr.take (v := .slice AL4 rw.l.length cl4) rfl rfl (yw_cell 35 _ rfl ⟨b4 + 1, 5, none⟩ (.slice AL4 rw.l.length cl4) rfl (by rfl) _ Tryd.underlying35 rfl (fun W hS => (HC.out W hS).1)) HV.out ?_
                  simp only [Act.put, List.setIfInBounds_toArray, List.set_cons_zero, List.set_cons_succ]
                  refine Scr.run rfl (by rfl) (fun K hK => ?_)
                  go_simp
                  refine (hap).mono ?_
                  clear hap
                  rintro e w6 ⟨rfl, hb6⟩
                  dsimp only
                  have hB6 : Below w4.heap.size w4 w6 := below_and (w1 := w4.drew) hb6 (Below.refl _ _).drew
                  refine hK _ _ hB6 ?_
                  clear hK K HV hb6
                  have HV := Lib.hid hB6
                  clear hB6
                  refine Scr.take (v := .bool (!apartB meetB p rw.l)) rfl rfl (yw_pure (by rfl) (fun _ => by go_simp)) HV.out ?_
                  simp only [Act.put, List.setIfInBounds_toArray, List.set_cons_zero, List.set_cons_succ]
                  refine Scr.take (v := .bool (!apartB meetB p rw.l)) rfl rfl (yw_pure (by rfl) (fun _ => by go_simp)) HV.out ?_
                  simp only [Act.put, List.setIfInBounds_toArray, List.set_cons_zero, List.set_cons_succ]
                  simp only [Scr]
                  clear hd
                  cases hab : apartB meetB p rw.l with
                  | false =>
                    have HF : Hid (admB15 p = false) := Lib.hid (by rw [HQ.out.2.2.2.2.2.2.1, if_pos]; show fineR meetB p (fromR p true z) = false; rw [HRW.out]; unfold fineR; rw [hab]; simp)
                    go_wp2_with fail
                    go_ret
                    exact ⟨by rw [HF.out]; rfl, HB4.out.trans (HV.out.mono HB4.out.size)⟩
                  | true =>
                    have HG2 : Hid (admB15 p = admG p (askR p) (p.ins.length - k) (k + 1) (putOuts p rw.l td)) := Lib.hid (by
                      have h9 := HQ.out.2.2.2.2.2.2.1
                      have hfn : fineR meetB p rw = true := by unfold fineR; rw [htw, hab, decide_eq_true (show rw.mt ≤ 1 by omega)]; rfl
                      have ha1 : (askR p z).1 = rw.l := by unfold askR; rw [HRW.out]
                      have ha2 : (askR p z).2 = true := by unfold askR; rw [HRW.out]; exact hfn
                      rw [ha2, ha1, if_neg (by simp)] at h9
                      exact h9)
                    have HLS : Hid (∀ x ∈ rw.l, Pc p x ∧ (p.get x).op = 2) := Lib.hid (by have h9 := HL.out.1; rw [show comeR p true (p.ins.length + 1) z ⟨[], [], 0, false⟩ = rw from HRW.out] at h9; exact h9)
                    have hBwf := HB4.out.trans (HV.out.mono HB4.out.size)
                    have hI0 : QAt w6 B (.slice (some ⟨gq, oq, none⟩) (m - 1) (cq - 1)) (td.drop (k + 1)) := HT4.out.1.below HV.out
                    have hI1 : w6.heap[B + 1]? = some (.cells (boolsOf p.ins.length td) 4 (0, 0)) := by
                      have h8 := HB4O.out
                      exact ((h8.trans (HV.out.mono h8.size)).block _ (heap_lt HQ.out.2.2.1)).trans HQ.out.2.2.1
                    have hI2 : w6.cell? ⟨b4 + 1, 5, none⟩ = some (.slice AL4 rw.l.length cl4) := (HC.out w6 HV.out).1
                    have hI3 := (HC.out w6 HV.out).2.2.2
                    have hI4 := (HT4.out.2.1.below HV.out)
                    have hI5 : gq ≠ B + 1 := HQ.out.2.1 gq rfl
                    have hI6 : gq < b4 := by have h9 := HT4.out.2.2; omega
                    have hI7 : B + 1 < b4 := by have h9 := HT4.out.2.2; have := heap_lt HQ.out.2.2.1; omega
                    have HI9 := Lib.hid (And.intro hI0 (And.intro hI1 (And.intro hI2 (And.intro hI3 (And.intro hI4 (And.intro hI5 (And.intro hI6 (And.intro hI7 hBwf))))))))
                    have HAB := Lib.hid hab
                    clear hab htw hmt hI0 hI1 hI2 hI3 hI4 hI5 hI6 hI7 hBwf
                    go_wp2_with fail
                    obtain ⟨wf, rfl⟩ : ∃ wf : World, wf = w6 := ⟨_, rfl⟩
                    go_loopg [4, 6] rw.l.length (fun g s4 s6 wx => ∃ j : Nat, s6 = .int .i64 j ∧ j ≤ rw.l.length ∧ rw.l.length - j ≤ g ∧ QAt wx B s4 ((putOuts p (rw.l.take j) td).drop (k + 1)) ∧ (∀ q, s4.ownBlock = some q → q ≠ B + 1 ∧ (q < b4 ∨ wf.heap.size ≤ q)) ∧ wx.heap[B + 1]? = some (.cells (boolsOf p.ins.length (putOuts p (rw.l.take j) td)) 4 (0, 0)) ∧ Below w.heap.size w wx ∧ wf.heap.size ≤ wx.heap.size ∧ (∀ q, b4 ≤ q → q < wf.heap.size → wx.heap[q]? = wf.heap[q]?) ∧ wx.heap[bx]? = some (.cells #[.slice A p.ins.length c, .int .i64 p.start, .int .i64 p.caps] 28 (0, 0)))
                    case atStart => exact ⟨0, rfl, Nat.zero_le _, Nat.le_refl _, by rw [List.take_zero]; exact HI9.out.1, fun q hq => by simp [Value.ownBlock] at hq; subst hq; exact ⟨HI9.out.2.2.2.2.2.1, .inl HI9.out.2.2.2.2.2.2.1⟩, by rw [List.take_zero]; exact HI9.out.2.1, HI9.out.2.2.2.2.2.2.2.2, Nat.le_refl _, fun _ _ _ => rfl, HI9.out.2.2.2.1⟩
                    case round =>
                      obtain ⟨j, rfl, hj, hjg, hjq, hjb, hjs, hjB, hjz, hjk, hjx⟩ := hrel
                      have hlb : rw.l.length ≤ 100000 := by
                        have h9 := HL.out.2
                        rw [show comeR p true (p.ins.length + 1) z ⟨[], [], 0, false⟩ = rw from HRW.out] at h9
                        have := h9.l; have := h9.few; omega
                      obtain ⟨GI, hGI⟩ : ∃ GI, GI = gk := ⟨_, rfl⟩
                      rw [← hGI] at hjg
                      have nb4 : b4 + 1 < wf.heap.size := heap_lt HI9.out.2.2.2.2.1.blk
                      have hblk : wr.heap[b4 + 1]? = wf.heap[b4 + 1]? := hjk _ (by omega) nb4
                      have hc5 : wr.cell? ⟨b4 + 1, 5, none⟩ = some (.slice AL4 rw.l.length cl4) := by rw [← HI9.out.2.2.1]; exact World.cell?_of_block hblk
                      obtain ⟨TD, hTD⟩ : ∃ TD, putOuts p (rw.l.take j) td = TD := ⟨_, rfl⟩
                      rw [hTD] at hjq hjs
                      by_cases hjl : j < rw.l.length
                      · have hij : decide ((j : Int) < (rw.l.length : Int)) = true := decide_eq_true (by omega)
                        obtain ⟨hpcx, hopx⟩ := HLS.out _ (List.getElem_mem hjl)
                        obtain ⟨xi, hxi, hxil⟩ : ∃ xi : Nat, rw.l[j] = (xi : Int) ∧ xi < p.ins.length := ⟨rw.l[j].toNat, by have := hpcx.1; omega, by have := hpcx.1; have := hpcx.2; omega⟩
                        obtain ⟨ld, hL, hl1⟩ := ints_at ((ownI64_arr0 HI9.out.2.2.2.2.1.l).move (w' := wr) (ok' := fun _ => True) (fun q hq hlt => ⟨hjk q (by omega) hlt, trivial⟩) (by omega)) j hjl
                        subst hL
                        rw [hxi] at hl1
                        obtain ⟨ad, hA, hout⟩ := ins_out HH.out.2.2.2.2.2.2.2 (Nat.le_refl _) xi hxil
                        subst hA
                        have hgx : p.get rw.l[j] = p.ins[xi] := by rw [hxi, get_nat p hxil]
                        have hpy := (HH.out.1 _ hpcx).1 (.inl hopx)
                        rw [hgx] at hpy
                        have htk := putOuts_take (p := p) (td := td) hjl
                        rw [hgx, hTD] at htk
                        obtain ⟨y, hy, hyl⟩ : ∃ y : Nat, p.ins[xi].out = (y : Int) ∧ y < p.ins.length := ⟨p.ins[xi].out.toNat, by have := hpy.1; omega, by have := hpy.1; have := hpy.2; omega⟩
                        rw [hy] at htk
                        have hcO : Hid (∀ W', Below wr.heap.size wr W' → W'.cell? ⟨bx, 0, none⟩ = some (.slice (some ad) p.ins.length c) ∧ W'.cell? ⟨b4 + 1, 5, none⟩ = some (.slice (some ld) rw.l.length cl4) ∧ W'.cell? (ld.add j) = some (.int .i64 xi) ∧ W'.cell? ⟨(ad.add (xi * 5)).block, (ad.add (xi * 5)).off + 1, none⟩ = some (.int .i64 y)) := Lib.hid (fun W' hW => by
                          refine ⟨?_, (hW.cell (World.block_lt_of_cell? _ _ hc5)).trans hc5, (hW.cell (World.block_lt_of_cell? _ _ hl1)).trans hl1, ?_⟩
                          · have h9 := (hW.block _ (heap_lt hjx)).trans hjx
                            rw [cell_of_blk h9]; rfl
                          · rw [← hy]; exact hout W' (hjB.trans (hW.mono hjB.size)))
                        obtain ⟨n4, hn4⟩ : ∃ n4, (TD.drop (k + 1)).length = n4 := ⟨_, rfl⟩
                        have HJ := Lib.hid (And.intro hjq (And.intro hjb (And.intro hjs (And.intro hjB (And.intro hjz (And.intro hjk (And.intro hjx htk)))))))
                        clear hjq hjb hjs hjB hjz hjk hjx htk hl1 hout hgx hpcx hopx hxi hpy hblk hy
                        have nb5 : b4 + 1 < wr.heap.size := World.block_lt_of_cell? _ _ hc5
                        go_wp2_with fail
                        clear hc5 nb4 nb5
                        refine wp_region_scr (fun W' => Below wr.heap.size wr W') [(true, 0, 78), (true, 1, 79), (true, 2, 80), (true, 3, 81), (true, 4, 82), (true, 5, 83), (true, 6, 84), (true, 7, 85), (true, 8, 86), (true, 9, 87), (true, 10, 88), (true, 11, 89), (true, 12, 7)] (by kernel_rfl) (by kernel_rfl) (fun _ _ _ _ _ h => h) rfl (by kernel_rfl) ?_
                        have HV := Lib.hid (show Below wr.heap.size wr wr.drew from (Below.refl _ _).drew)
                        refine Scr.take (v := .pointer (some ⟨bx, 0, none⟩)) rfl rfl (yw_pure (by rfl) (fun _ => by go_simp)) HV.out ?_
                        simp only [Act.put, List.setIfInBounds_toArray, List.set_cons_zero, List.set_cons_succ]
                        refine Scr.take (v := .slice (some ad) p.ins.length c) rfl rfl (yw_cell 26 _ rfl ⟨bx, 0, none⟩ (.slice (some ad) p.ins.length c) rfl (by rfl) _ Tryd.underlying26 rfl (fun W hS => (hcO.out W hS).1)) HV.out ?_
                        simp only [Act.put, List.setIfInBounds_toArray, List.set_cons_zero, List.set_cons_succ]
                        refine Scr.take (v := .pointer (some ⟨b4 + 1, 0, none⟩)) rfl rfl (yw_pure (by rfl) (fun _ => by go_simp)) HV.out ?_
                        simp only [Act.put, List.setIfInBounds_toArray, List.set_cons_zero, List.set_cons_succ]
                        refine Scr.take (v := .pointer (some ⟨b4 + 1, 0, none⟩)) rfl rfl (yw_pure (by rfl) (fun _ => by go_simp)) HV.out ?_
                        simp only [Act.put, List.setIfInBounds_toArray, List.set_cons_zero, List.set_cons_succ]
                        refine Scr.take (v := .pointer (some ⟨b4 + 1, 5, none⟩)) rfl rfl (yw_pure (by rfl) (fun _ => by go_simp)) HV.out ?_
                        simp only [Act.put, List.setIfInBounds_toArray, List.set_cons_zero, List.set_cons_succ]
                        refine Scr.take (v := .slice (some ld) rw.l.length cl4) rfl rfl (yw_cell 35 _ rfl ⟨b4 + 1, 5, none⟩ (.slice (some ld) rw.l.length cl4) rfl (by rfl) _ Tryd.underlying35 rfl (fun W hS => (hcO.out W hS).2.1)) HV.out ?_
                        simp only [Act.put, List.setIfInBounds_toArray, List.set_cons_zero, List.set_cons_succ]
                        refine Scr.take (v := .int .i64 j) rfl rfl (yw_pure (by rfl) (fun _ => by go_simp)) HV.out ?_
                        simp only [Act.put, List.setIfInBounds_toArray, List.set_cons_zero, List.set_cons_succ]
                        refine Scr.take (v := .pointer (some (ld.add j))) rfl rfl (yw_pure (by rfl) (fun _ => by go_simp)) HV.out ?_
                        simp only [Act.put, List.setIfInBounds_toArray, List.set_cons_zero, List.set_cons_succ]
                        refine Scr.take (v := .int .i64 xi) rfl rfl (yw_cell 3 _ rfl (ld.add j) (.int .i64 xi) rfl (by rfl) _ Tryd.underlying3 rfl (fun W hS => (hcO.out W hS).2.2.1)) HV.out ?_
                        simp only [Act.put, List.setIfInBounds_toArray, List.set_cons_zero, List.set_cons_succ]
                        refine Scr.take (v := .pointer (some (ad.add (xi * 5)))) rfl rfl (yw_pure (by rfl) (fun _ => by go_simp)) HV.out ?_
                        simp only [Act.put, List.setIfInBounds_toArray, List.set_cons_zero, List.set_cons_succ]
                        refine Scr.take (v := .pointer (some ⟨(ad.add (xi * 5)).block, (ad.add (xi * 5)).off + 1, none⟩)) rfl rfl (yw_pure (by rfl) (fun _ => by go_simp)) HV.out ?_
                        simp only [Act.put, List.setIfInBounds_toArray, List.set_cons_zero, List.set_cons_succ]
                        refine Scr.take (v := .int .i64 y) rfl rfl (yw_cell 3 _ rfl ⟨(ad.add (xi * 5)).block, (ad.add (xi * 5)).off + 1, none⟩ (.int .i64 y) rfl (by rfl) _ Tryd.underlying3 rfl (fun W hS => (hcO.out W hS).2.2.2)) HV.out ?_
                        simp only [Act.put, List.setIfInBounds_toArray, List.set_cons_zero, List.set_cons_succ]
                        refine Scr.take (v := .int .i64 y) rfl rfl (yw_pure (by rfl) (fun _ => by go_simp)) HV.out ?_
                        simp only [Act.put, List.setIfInBounds_toArray, List.set_cons_zero, List.set_cons_succ]
                        simp only [Scr]
                        obtain ⟨Y, hY⟩ : ∃ Y, wr.drew = Y := ⟨_, rfl⟩
                        rw [hY] at HV ⊢
                        clear hY
                        have hYs : Y.heap[B + 1]? = some (.cells (boolsOf p.ins.length TD) 4 (0, 0)) := (HV.out.block _ (heap_lt HJ.out.2.2.1)).trans HJ.out.2.2.1
                        have hYc : Y.cell? ⟨B + 1, y, none⟩ = some (.bool (TD.contains (y : Int))) := by rw [cell_of_blk hYs, bools_at hyl]
                        have hYf := frozenOf hYs y
                        have hYn := heap_lt hYs
                        have hYx := (HV.out.block _ (heap_lt HJ.out.2.2.2.2.2.2.1)).trans HJ.out.2.2.2.2.2.2.1
                        have hYq := HJ.out.1.below HV.out
                        have hYB := HJ.out.2.2.2.1.trans (HV.out.mono HJ.out.2.2.2.1.size)
                        have hYz : wf.heap.size ≤ Y.heap.size := Nat.le_trans HJ.out.2.2.2.2.1 HV.out.size
                        have hYk : ∀ q, b4 ≤ q → q < wf.heap.size → Y.heap[q]? = wf.heap[q]? := fun q h1 h2 => (HV.out.block _ (Nat.lt_of_lt_of_le h2 HJ.out.2.2.2.2.1)).trans (HJ.out.2.2.2.2.2.1 q h1 h2)
                        have hBw2 : w.heap.size ≤ B := HI.out.2.2.2.2.2.2
                        have hbxB : bx < B := HI.out.2.2.2.2.2.1
                        have hYl : TD.length ≤ 100000 := by have h9 := putOuts_nodup p (rw.l.take j) td HQ.out.2.2.2.2.2.1; rw [hTD] at h9; have h8 := nodup_len h9 (by rw [← hTD]; exact putOuts_mem p (Pc p) _ _ HP.out (fun x hx => by have h7 := HLS.out x (List.mem_of_mem_take hx); exact (HH.out.1 x h7.1).1 (.inl h7.2))); omega
                        cases hct : TD.contains (y : Int) with
                        | true =>
                          rw [hct] at hYc
                          have htk : putOuts p (rw.l.take (j + 1)) td = TD := by rw [HJ.out.2.2.2.2.2.2.2, if_pos hct]
                          have HY := Lib.hid (And.intro hYs (And.intro hYx (And.intro hYq (And.intro hYB (And.intro hYz (And.intro hYk htk))))))
                          clear hYs hYx hYq hYB hYz hYk htk hYf hct
                          go_wp2_with fail
                          go_roundg (rw.l.length - (j + 1))
                          case measure => omega
                          case rel => exact ⟨j + 1, by go_num, by omega, Nat.le_refl _, by rw [HY.out.2.2.2.2.2.2]; exact HY.out.2.2.1, HJ.out.2.1, by rw [HY.out.2.2.2.2.2.2]; exact HY.out.1, HY.out.2.2.2.1, HY.out.2.2.2.2.1, HY.out.2.2.2.2.2.1, HY.out.2.1⟩
                        | false =>
                          rw [hct] at hYc
                          have htk : putOuts p (rw.l.take (j + 1)) td = TD ++ [(y : Int)] := by rw [HJ.out.2.2.2.2.2.2.2, if_neg (by rw [hct]; simp)]
                          have hdk : (TD ++ [(y : Int)]).drop (k + 1) = TD.drop (k + 1) ++ [(y : Int)] := by
                            obtain ⟨r, hr⟩ := putOuts_pre15 (p := p) (rw.l.take j) td
                            exact List.drop_append_of_le_length (by rw [← hTD, hr, List.length_append]; omega)
                          obtain ⟨s4v, hs4v⟩ : ∃ v : Value, v = u4 := ⟨_, rfl⟩
                          rw [← hs4v] at HJ hYq ⊢
                          clear hs4v
                          have hZq : ∀ q, s4v.ownBlock = some q → q ≠ B + 1 := fun q hq => (HJ.out.2.1 q hq).1
                          have hZQ : QAt ((Y.setCell ⟨B + 1, y, none⟩ (.bool true)).alloc (.cells #[.int .i64 (y : Int)] 3)) B s4v (TD.drop (k + 1)) := (hYq.kept (W' := Y.setCell ⟨B + 1, y, none⟩ (.bool true)) (fun g hg _ => set_ne0 Y _ (hZq g hg))).below (below_al (Below.refl _ _) _)
                          have hZg : ((Y.setCell ⟨B + 1, y, none⟩ (.bool true)).alloc (.cells #[.int .i64 (y : Int)] 3)).heap[Y.heap.size]? = some (.cells #[.int .i64 (y : Int)] 3 (0, 0)) := heap_newX (by simp [World.setCell])
                          have hZb : B ≤ ((Y.setCell ⟨B + 1, y, none⟩ (.bool true)).alloc (.cells #[.int .i64 (y : Int)] 3)).heap.size := by simp [World.setCell]; omega
                          have hdl9 : (TD.drop (k + 1)).length + 1 ≤ 1000000000 := by rw [List.length_drop]; omega
                          have HZ := Lib.hid (And.intro hZQ (And.intro hZg (And.intro hZb hdl9)))
                          have HY := Lib.hid (And.intro hYs (And.intro hYx (And.intro hYq (And.intro hYB (And.intro hYz (And.intro hYk (And.intro htk hdk)))))))
                          clear hYs hYx hYq hYB hYz hYk htk hct hdk hZQ hZg hZb hdl9 hZq
                          go_wp2_with (first | (at_builtin; refine wpList_appQ rfl _ _ rfl B s4v (TD.drop (k + 1)) rfl HZ.out.1 _ (y : Int) rfl HZ.out.2.1 HZ.out.2.2.2 HZ.out.2.2.1 ?_))
                          intro v' w7 hq7 hgr7 hwh7
                          have hk7 : ∀ q, q < Y.heap.size → q ≠ B + 1 → s4v.ownBlock ≠ some q → w7.heap[q]? = Y.heap[q]? := fun q hq1 hq2 hq3 =>
                            (hgr7.block q (by simp [World.setCell]; omega) (fun e => hq3 e.symm)).trans ((Below.heap_alloc _ _ _ (by simpa [World.setCell] using hq1)).trans (set_ne0 Y _ hq2))
                          have hs7 : Y.heap.size + 1 ≤ w7.heap.size := by have := hgr7.size; simpa [World.setCell] using this
                          have hB7 : s4v.ownBlock ≠ some (B + 1) := fun e => (HJ.out.2.1 _ e).1 rfl
                          have h7s : w7.heap[B + 1]? = some (.cells (boolsOf p.ins.length (TD ++ [(y : Int)])) 4 (0, 0)) := by
                            rw [hgr7.block (B + 1) (by simp [World.setCell]; omega) (fun e => hB7 e.symm), Below.heap_alloc _ _ _ (by simpa [World.setCell] using hYn), heap_set0 HY.out.1 y, bools_set, bools_snoc]
                          have h7o : ∀ q, s4v.ownBlock = some q → B ≤ q := fun q e => by
                            obtain ⟨g9, o9, c9, cs9, e9, b9, _⟩ := HY.out.2.2.1
                            rw [e9] at e
                            simp [Value.ownBlock] at e
                            omega
                          have H7 := Lib.hid (And.intro hq7 (And.intro hgr7 (And.intro hwh7 (And.intro hk7 (And.intro hs7 (And.intro h7s h7o))))))
                          clear hq7 hgr7 hwh7 hk7 hs7 h7s h7o hB7
                          go_wp2_with fail
                          go_roundg (rw.l.length - (j + 1))
                          case measure => omega
                          case rel =>
                            refine ⟨j + 1, by go_num, by omega, Nat.le_refl _, by rw [HY.out.2.2.2.2.2.2.1, HY.out.2.2.2.2.2.2.2]; exact H7.out.1, fun q hq => ?_, by rw [HY.out.2.2.2.2.2.2.1]; exact H7.out.2.2.2.2.2.1, ?_, by have := H7.out.2.2.2.2.1; have := HY.out.2.2.2.2.1; omega, fun q h1 h2 => ?_, ?_⟩
                            · rcases H7.out.2.2.1 q hq with h9 | h9
                              · exact HJ.out.2.1 q h9
                              · have h8 : Y.heap.size ≤ q := by omega
                                have := HY.out.2.2.2.2.1
                                exact ⟨by omega, .inr (by omega)⟩
                            · have h9 := ((HY.out.2.2.2.1.setCell (p := ⟨B + 1, y, none⟩) (by show w.heap.size ≤ B + 1; omega) (.bool true)).alloc (by have := HY.out.2.2.2.1.size; simp [World.setCell]; omega) (.cells #[.int .i64 (y : Int)] 3)).grown H7.out.2.1 (by have := HY.out.2.2.2.1.size; simp [World.setCell]; omega) (fun q e => by have := H7.out.2.2.2.2.2.2 q e; omega)
                              exact h9
                            · rw [H7.out.2.2.2.1 q (by have := HY.out.2.2.2.2.1; omega) (by have := HI9.out.2.2.2.2.2.2.2.1; omega) (fun e => by have := (HJ.out.2.1 q e).2; omega)]
                              exact HY.out.2.2.2.2.2.1 q h1 h2
                            · rw [H7.out.2.2.2.1 bx (heap_lt HY.out.2.1) (by omega) (fun e => by have := H7.out.2.2.2.2.2.2 bx e; omega)]
                              exact HY.out.2.1
                      · have hij : decide ((j : Int) < (rw.l.length : Int)) = false := decide_eq_false (by omega)
                        have hje : rw.l.take j = rw.l := List.take_of_length_le (by omega)
                        rw [hje] at hTD
                        have HJ := Lib.hid (And.intro hjq (And.intro hjb (And.intro hjs (And.intro hjB (And.intro hjx hTD)))))
                        clear hjq hjb hjs hjB hjz hjk hjx hTD hje hblk
                        go_wp2_with fail
                        go_roundg (G - 1)
                        case measure => omega
                        case rel => exact ⟨k + 1, TD, by rw [← HJ.out.2.2.2.2.2]; exact putOuts_nodup p _ _ HQ.out.2.2.2.2.2.1, Lib.hid (by rw [← HJ.out.2.2.2.2.2]; exact putOuts_mem p (Pc p) _ _ HP.out (fun x hx => by have h7 := HLS.out x hx; exact (HH.out.1 x h7.1).1 (.inl h7.2))), by have h9 := putOuts_le p rw.l td; rw [HJ.out.2.2.2.2.2] at h9; omega, by omega, Lib.hid (by rw [show p.ins.length + 1 - (k + 1) = p.ins.length - k by omega, ← HJ.out.2.2.2.2.2]; exact HG2.out), HJ.out.1, fun q hq => (HJ.out.2.1 q hq).1, HJ.out.2.2.1, HJ.out.2.2.2.1, HJ.out.2.2.2.2.1⟩
          · have hlq : decide (0 < td.length - k) = false := decide_eq_false (by omega)
            have hlq2 : decide ((0 : Int) < ((td.length - k : Nat) : Int)) = false := decide_eq_false (by omega)
            have hke : td.length - k = 0 := by omega
            have hno : td[k]? = none := List.getElem?_eq_none (by omega)
            have HT : Hid (admB15 p = true) := Lib.hid (by
              have h9 := HG.out
              rw [show p.ins.length + 1 - k = (p.ins.length - k) + 1 by omega, admG, hno] at h9
              exact h9)
            clear hno
            go_wp2_with fail
            go_ret
            exact ⟨by rw [HT.out]; rfl, hBr⟩
      · have hlz : 0 < rr.l.length := List.length_pos_iff.2 hle
        have hd2 : decide (0 < rr.l.length) = true := decide_eq_true hlz
        have hd3 : decide ((0 : Int) < (rr.l.length : Int)) = true := decide_eq_true (by omega)
        have ha : anchR p = false := by rw [hanch, decide_eq_false (p := rr.l = []) hle]; simp
        have HA := Lib.hid (adm15_anch p ha)
        clear ha hanch hmt hle
        go_wp2_with fail
        go_ret
        exact ⟨by rw [HA.out]; rfl, H2.out.1⟩
  · rw [h0] at hck
    have HH := Lib.hid (And.intro hB (adm15_no p (by rw [h0]; omega)))
    clear hB hx h0 hp hw hs
    go_enter Tryd.func24, Tryd.ntmps24
    go_wp2_with (go_at_call 14; refine hck.mono ?_; clear hck; rintro e w1 ⟨rfl, hb1⟩; have H1 := Lib.hid (below_and hb1 HH.out.1); clear hb1)
    go_ret
    exact ⟨by rw [HH.out.2]; rfl, H1.out⟩
end Go.Proofs.YthclpabmbhpohaaDoor
namespace Go.Proofs.YthclpabmbhpohaaDoor
open Go.RowKit
set_option linter.unusedVariables false
/-- Steps; the best match; where the rune leads, with its fit; is it over? -/
structure Rn where
  steps : Int
  best : Option (List Int)
  next : Int
  nf : List Int
  stop : Bool
def hitB (v a : Int) : Bool := (bits .and .i64 v a != 0)
section
variable (p : Pg) (rn av : Int → Int) (lg : Bool)
def walkS : Nat → Int → Int → List Int → Rn → Rn
  | 0, _, _, _, s => s
  | n + 1, pc, pl, fit, s =>
    if s.stop = true then ⟨s.steps + 1, s.best, s.next, s.nf, s.stop⟩ else
    if (p.get pc).op = 1 then ⟨s.steps + 1, some (fit.set 1 pl), s.next, s.nf, !lg⟩ else
    if (p.get pc).op = 2 then (if hasB (p.get pc).set (rn pl) = true then ⟨s.steps + 1, s.best, (p.get pc).out, fit, s.stop⟩ else ⟨s.steps + 1, s.best, s.next, s.nf, s.stop⟩) else
    if (p.get pc).op = 3 then walkS n (p.get pc).arg pl fit (walkS n (p.get pc).out pl fit ⟨s.steps + 1, s.best, s.next, s.nf, s.stop⟩) else
    if (p.get pc).op = 4 then walkS n (p.get pc).out pl (fit.set (p.get pc).arg.toNat pl) ⟨s.steps + 1 + fit.length, s.best, s.next, s.nf, s.stop⟩ else
    if (p.get pc).op = 5 then (if hitB (av pl) (p.get pc).at_ = true then walkS n (p.get pc).out pl fit ⟨s.steps + 1, s.best, s.next, s.nf, s.stop⟩ else ⟨s.steps + 1, s.best, s.next, s.nf, s.stop⟩) else
    ⟨s.steps + 1, s.best, s.next, s.nf, s.stop⟩
variable {p rn av lg}
theorem walkS_new {n : Nat} {pc pl : Int} {fit : List Int} {s : Rn} {x : In} (hs : s.stop = false) (hx : p.get pc = x) : walkS p rn av lg (n + 1) pc pl fit s =
    if x.op = 1 then ⟨s.steps + 1, some (fit.set 1 pl), s.next, s.nf, !lg⟩ else
    if x.op = 2 then (if hasB x.set (rn pl) = true then ⟨s.steps + 1, s.best, x.out, fit, s.stop⟩ else ⟨s.steps + 1, s.best, s.next, s.nf, s.stop⟩) else
    if x.op = 3 then walkS p rn av lg n x.arg pl fit (walkS p rn av lg n x.out pl fit ⟨s.steps + 1, s.best, s.next, s.nf, s.stop⟩) else
    if x.op = 4 then walkS p rn av lg n x.out pl (fit.set x.arg.toNat pl) ⟨s.steps + 1 + fit.length, s.best, s.next, s.nf, s.stop⟩ else
    if x.op = 5 then (if hitB (av pl) x.at_ = true then walkS p rn av lg n x.out pl fit ⟨s.steps + 1, s.best, s.next, s.nf, s.stop⟩ else ⟨s.steps + 1, s.best, s.next, s.nf, s.stop⟩) else
    ⟨s.steps + 1, s.best, s.next, s.nf, s.stop⟩ := by
  subst hx; rw [walkS, if_neg (by rw [hs]; simp)]
end
section
variable {me : List Rg → List Rg → Bool} {un : List Rg → List Rg → List Rg} {p : Pg}
theorem ways_on {n : Nat} {pc : Int} {s : Ow} (h : (waysW me un p (n + 1) pc s).1 = true) : (onW me un p pc s).1 = true := by
  rw [waysW_new rfl rfl] at h
  by_cases c : (onW me un p pc s).1 = false
  · rw [if_pos c] at h; cases h
  · simpa using c
theorem ways_alt {n : Nat} {pc : Int} {s : Ow} {x : In} (h : (waysW me un p (n + 1) pc s).1 = true) (hx : p.get pc = x) (ho : x.op = 3) :
    (waysW me un p n x.out (onW me un p pc s).2).1 = true ∧ (waysW me un p n x.arg (waysW me un p n x.out (onW me un p pc s).2).2).1 = true ∧ (waysW me un p (n + 1) pc s).2 = (waysW me un p n x.arg (waysW me un p n x.out (onW me un p pc s).2).2).2 := by
  have h1 := ways_on h
  have e := waysW_new (me := me) (un := un) (n := n) (s := s) (pc := pc) (p := p) rfl hx
  rw [if_neg (by rw [h1]; simp), if_pos ho] at e
  rw [e] at h ⊢
  by_cases c : (waysW me un p n x.out (onW me un p pc s).2).1 = false
  · rw [if_pos c] at h; cases h
  · rw [if_neg c] at h ⊢
    exact ⟨by simpa using c, h, rfl⟩
theorem ways_one {n : Nat} {pc : Int} {s : Ow} {x : In} (h : (waysW me un p (n + 1) pc s).1 = true) (hx : p.get pc = x) (ho : x.op = 4 ∨ x.op = 5) :
    (waysW me un p n x.out (onW me un p pc s).2).1 = true ∧ (waysW me un p (n + 1) pc s).2 = (waysW me un p n x.out (onW me un p pc s).2).2 := by
  have h1 := ways_on h
  have e := waysW_new (me := me) (un := un) (n := n) (s := s) (pc := pc) (p := p) rfl hx
  rw [if_neg (by rw [h1]; simp), if_neg (by omega), if_pos ho] at e
  rw [e] at h ⊢
  exact ⟨h, rfl⟩
theorem ways_none {n : Nat} {pc : Int} {s : Ow} {x : In} (h : (waysW me un p (n + 1) pc s).1 = true) (hx : p.get pc = x) (ho : x.op ≠ 3 ∧ x.op ≠ 4 ∧ x.op ≠ 5) : (waysW me un p (n + 1) pc s).2 = (onW me un p pc s).2 := by
  have h1 := ways_on h
  have e := waysW_new (me := me) (un := un) (n := n) (s := s) (pc := pc) (p := p) rfl hx
  rw [if_neg (by rw [h1]; simp), if_neg ho.1, if_neg (by omega)] at e
  rw [e]
/-- Steps, and what may still come. -/
def potR (p : Pg) (K : Nat) (s0 : Ow) (s : Rn) : Int := s.steps + ((leftN p.ins.length s0.seen * K : Nat) : Int)
theorem pot_mul {a b K : Nat} (h : a + 1 ≤ b) : a * K + K ≤ b * K := by
  have := Nat.mul_le_mul_right K h
  rwa [Nat.add_mul, Nat.one_mul] at this
theorem pot_mul0 {a b : Nat} (K : Nat) (h : a ≤ b) : a * K ≤ b * K := Nat.mul_le_mul_right K h
theorem walkS_pot (rn av : Int → Int) (lg : Bool) (hl : Leads p) (K : Nat) : ∀ (n : Nat) (pc pl : Int) (fit : List Int) (s : Rn) (s0 : Ow), Pc p pc → (waysW me un p n pc s0).1 = true → 1 + fit.length ≤ K →
    s.steps ≤ (walkS p rn av lg n pc pl fit s).steps ∧ potR p K (waysW me un p n pc s0).2 (walkS p rn av lg n pc pl fit s) ≤ potR p K s0 s := by
  intro n
  induction n with
  | zero => intro pc pl fit s s0 _ h; simp [waysW] at h
  | succ n ih =>
    intro pc pl fit s s0 hp h hK
    have hx := hl pc hp
    have h1 := ways_on h
    have hle := pot_mul (K := K) (onW_left hp h1)
    have hws := pot_mul0 K (leftN_sub (N := p.ins.length) (fun x hx => waysW_seen me un p hl (n + 1) pc s0 hp x hx))
    have hfin : (waysW me un p (n + 1) pc s0).2.seen.length = (waysW me un p (n + 1) pc s0).2.seen.length := rfl
    have hdone : leftN p.ins.length (waysW me un p (n + 1) pc s0).2.seen * K + K ≤ leftN p.ins.length s0.seen * K := by
      refine Nat.le_trans (Nat.add_le_add_right (pot_mul0 K (leftN_sub (N := p.ins.length) ?_)) K) hle
      intro x hxs
      rw [waysW_new rfl rfl, if_neg (by rw [h1]; simp)]
      by_cases c3 : (p.get pc).op = 3
      · rw [if_pos c3]
        have h2 := waysW_seen me un p hl n _ _ (hx.1 (by omega)) x hxs
        split
        · exact h2
        · exact waysW_seen me un p hl n _ _ (hx.2 c3) x h2
      rw [if_neg c3]
      by_cases c4 : (p.get pc).op = 4 ∨ (p.get pc).op = 5
      · rw [if_pos c4]; exact waysW_seen me un p hl n _ _ (hx.1 (by omega)) x hxs
      rw [if_neg c4]; exact hxs
    unfold potR at ih ⊢
    by_cases c0 : s.stop = true
    · rw [walkS, if_pos c0]; dsimp only; omega
    have hr := walkS_new (p := p) (rn := rn) (av := av) (lg := lg) (n := n) (pc := pc) (pl := pl) (fit := fit) (s := s) (by simpa using c0) rfl
    rw [hr]
    by_cases c1 : (p.get pc).op = 1
    · rw [if_pos c1]; dsimp only; omega
    rw [if_neg c1]
    by_cases c2 : (p.get pc).op = 2
    · rw [if_pos c2]; split <;> dsimp only <;> omega
    rw [if_neg c2]
    by_cases c3 : (p.get pc).op = 3
    · rw [if_pos c3]
      obtain ⟨a1, a2, a3⟩ := ways_alt h rfl c3
      rw [a3]
      have i1 := ih (p.get pc).out pl fit ⟨s.steps + 1, s.best, s.next, s.nf, s.stop⟩ _ (hx.1 (by omega)) a1 hK
      have i2 := ih (p.get pc).arg pl fit (walkS p rn av lg n (p.get pc).out pl fit ⟨s.steps + 1, s.best, s.next, s.nf, s.stop⟩) _ (hx.2 c3) a2 hK
      dsimp only at i1 i2
      omega
    rw [if_neg c3]
    by_cases c4 : (p.get pc).op = 4
    · rw [if_pos c4]
      obtain ⟨a1, a3⟩ := ways_one h rfl (.inl c4)
      rw [a3]
      have i1 := ih (p.get pc).out pl (fit.set (p.get pc).arg.toNat pl) ⟨s.steps + 1 + fit.length, s.best, s.next, s.nf, s.stop⟩ _ (hx.1 (by omega)) a1 (by rw [List.length_set]; exact hK)
      dsimp only at i1
      omega
    rw [if_neg c4]
    by_cases c5 : (p.get pc).op = 5
    · rw [if_pos c5]
      split
      · obtain ⟨a1, a3⟩ := ways_one h rfl (.inr c5)
        rw [a3]
        have i1 := ih (p.get pc).out pl fit ⟨s.steps + 1, s.best, s.next, s.nf, s.stop⟩ _ (hx.1 (by omega)) a1 hK
        dsimp only at i1
        omega
      · dsimp only; omega
    rw [if_neg c5]; dsimp only; omega
end
end Go.Proofs.YthclpabmbhpohaaDoor
