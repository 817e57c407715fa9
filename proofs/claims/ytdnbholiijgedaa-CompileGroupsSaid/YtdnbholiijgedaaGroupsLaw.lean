/-
  The law CompileGroups: its walk. No condition.
-/
import Derived.Test.YtdnbholiijgedaaGroups
namespace Go.Proofs.Ytdnbholiijgedaa
open Go.RowKit
set_option linter.unusedVariables false

def GrQ (t : Tr) (g : Int) (x : In) : Prop := x.op = 4 → 0 ≤ x.arg ∧ x.arg ≤ 5000 ∧ x.arg / 2 ≤ g ∧ x.arg / 2 ∈ (gp (parts t)).map (fun p => p.cap)
theorem comp_groups {t : Tr} {g : Int} (h : (compR t g).2.2.2 = 0) : (compR t g).2.2.1 = 2 * g + 2 ∧ 0 ≤ g ∧ g ≤ 2000 ∧ (compR t g).1.length ≤ 10000 ∧ ∀ x ∈ (compR t g).1, GrQ t g x := by
  unfold compR at h ⊢
  split at h
  · rename_i hb
    split at h
    · cases h
    · rename_i hm
      rw [if_pos hb, if_neg hm]
      unfold compB at hb
      simp only [Bool.and_eq_true, decide_eq_true_eq] at hb
      obtain ⟨⟨⟨hsh, hcb⟩, hg0⟩, hg1⟩ := hb
      have hlen : (compS t g).2.1.length ≤ 10000 := codeS_len g t 0 _ (by simp)
      refine ⟨rfl, hg0, hg1, hlen, ?_⟩
      have hcap : ∀ p ∈ parts t, p.op = 6 → 1 ≤ p.cap := fun p hp ho => by
        have h1 := List.all_eq_true.1 hsh p hp
        unfold goodP at h1
        simp [ho] at h1
        omega
      rcases ext_S (GrQ t g) (fun x hx h4 => absurd h4 hx) g t 0 ([⟨1, 0, 0, [], 0⟩], false) (fun p hp ho hc o => by
        have h1 := hcap p hp ho
        have hm : p.cap ∈ (gp (parts t)).map (fun p => p.cap) := List.mem_map.2 ⟨p, List.mem_filter.2 ⟨hp, by simp [ho]⟩, rfl⟩
        refine ⟨fun _ => ?_, fun _ => ?_⟩
        · have e1 : (2 * p.cap + 1) / 2 = p.cap := by omega
          show 0 ≤ 2 * p.cap + 1 ∧ 2 * p.cap + 1 ≤ 5000 ∧ (2 * p.cap + 1) / 2 ≤ g ∧ (2 * p.cap + 1) / 2 ∈ _
          rw [e1]
          exact ⟨by omega, by omega, hc, hm⟩
        · have e1 : (2 * p.cap) / 2 = p.cap := by omega
          show 0 ≤ 2 * p.cap ∧ 2 * p.cap ≤ 5000 ∧ (2 * p.cap) / 2 ≤ g ∧ (2 * p.cap) / 2 ∈ _
          rw [e1]
          exact ⟨by omega, by omega, hc, hm⟩) with h1 | ⟨_, _, l, h1, h2, h3⟩
      · exact absurd h1 hm
      · have h5 : (compS t g).2.1 = ⟨1, 0, 0, [], 0⟩ :: l := h1
        intro x hx
        simp only [h5] at hx
        rcases List.mem_cons.1 hx with rfl | hx
        · intro h4; exact absurd h4 (by simp)
        · exact h3 x hx
  · cases h
theorem cont_snoc (l : List Int) (a q : Int) : (l ++ [a]).contains q = (l.contains q || a == q) := by
  by_cases h : q = a
  · subst h; simp
  · have h2 : (a == q) = false := by
      rw [beq_eq_false_iff_ne]
      exact fun e => h e.symm
    rw [h2]
    simp [h]
theorem prog_cells {W W' : World} {b : Nat} {x y z : Value} {T : TypeId} (h : W.heap[b]? = some (.cells #[x, y, z] T (0, 0))) (hb : Below W.heap.size W W') : W'.cell? ⟨b, 0, none⟩ = some x ∧ W'.cell? ⟨b, 2, none⟩ = some z := by
  obtain ⟨h0, h1, h2, _⟩ := prog3 ((hb.block _ (heap_lt h)).trans h)
  exact ⟨h0, h2⟩
/-- A group's number, in a later world. -/
theorem group_at {W W' : World} {base : Nat} {v : Value} {css : List (List Value)} {l : List Tr} (h : Owns W base 27 10 v css) (hg : GrsC l css) (hb : Below W.heap.size W W') : ∃ A c, v = .slice A l.length c ∧ l.length ≤ c ∧ c ≤ maxLen ∧ ∀ (i : Nat) (hl : i < l.length), ∃ g, A = some ⟨g, 0, none⟩ ∧ W'.cell? ⟨g, i * 10 + 5, none⟩ = some (.int .i64 l[i].cap) := by
  obtain ⟨A, c, rfl, h1, h2⟩ := Owns.shape h
  rw [← hg.1] at h1 ⊢
  refine ⟨A, c, rfl, h1, h2, fun i hl => ?_⟩
  have hl' : i < css.length := by rw [← hg.1]; exact hl
  have hc := (hg.2 (l[i], css[i]) (List.mem_iff_getElem.2 ⟨i, by simp; omega, by simp⟩)).1
  have hsh : ∃ g, A = some ⟨g, 0, none⟩ := by
    rcases h.1.2 with ⟨e, e0⟩ | ⟨g, _, _, e, _⟩
    · omega
    · injection e with e; exact ⟨g, e⟩
  obtain ⟨g, rfl⟩ := hsh
  obtain ⟨hg0, hg1⟩ := h.lt g rfl
  have h9 := h.1.cells (g := g) rfl (i * 10 + 5) _ (flatten_at h.2 (List.getElem?_eq_getElem hl') hc)
  have : (⟨g, 0, none⟩ : Addr).add (i * 10 + 5) = ⟨g, i * 10 + 5, none⟩ := by unfold Addr.add; split <;> simp_all
  rw [this] at h9
  exact ⟨g, rfl, (hb.cell (p := ⟨g, i * 10 + 5, none⟩) hg1).trans h9⟩
set_option maxRecDepth 100000 in
set_option maxHeartbeats 2000000 in
theorem compileGroups_any (ok : Nat → Prop) (w : World) (t : Tr) (cs : List Value) (g : Int) (ht : TrC ok w t cs) (hsm : ∀ p ∈ parts t, SmallP p) :
    Calls Try.prog 3 #[.agg cs.toArray, .int .i64 g] w fun e w' => e = .returned (.bool true) ∧ Below w.heap.size w w' := by
  have hmv : ∀ w1, Below w.heap.size w w1 → TrC (fun b => b < w.heap.size) w1 t cs := fun w1 hb => (ht.old.mono (fun b h => h.2)).move (fun b hok hlt => ⟨hb.block b hlt, hok⟩)
  have hpa := fun w1 hb => parts_any _ (parts t).length t cs 30000 w1 (Nat.le_refl _) (hmv w1 hb) hsm (by omega) (by omega)
  have hgr := fun w1 hb hn => groups_any _ (parts t).length t cs w1 (Nat.le_refl _) hn (hmv w1 hb)
  have hcm := fun w1 hb hs => compile_any _ w1 t cs g (hmv w1 hb) hs
  obtain ⟨A, c, B, d, rfl, _⟩ := trC_iff.1 ht
  clear ht hmv
  have HP := Lib.hid (And.intro hpa (And.intro hgr hcm))
  clear hpa hgr hcm hsm
  go_enter Try.func3, Try.ntmps3
  go_wp2_with fail
  refine (head13_any _).mono ?_
  rintro e w1 ⟨rfl, hb1⟩
  have y1 := (hb1.block _ (by simp)).trans (heap_new1 w (.cells #[.int .i64 t.op, .slice A t.kids.length c, .int .i32 t.rune, .slice B t.set.length d, .int .i64 t.at_, .int .i64 t.cap, .string t.name, .int .i64 t.mn, .int .i64 t.mx, .bool t.lz] 27))
  have yb := below_and hb1 (below_al (Below.refl w.heap.size w) (.cells #[.int .i64 t.op, .slice A t.kids.length c, .int .i32 t.rune, .slice B t.set.length d, .int .i64 t.at_, .int .i64 t.cap, .string t.name, .int .i64 t.mn, .int .i64 t.mx, .bool t.lz] 27))
  clear hb1
  obtain ⟨g0, g1, g2, g3, g4, g5, g6, g7, g8, g9⟩ := cells10 y1
  have H1 := Lib.hid (And.intro y1 yb)
  clear y1 yb
  go_wp2_with fail
  refine (HP.out.1 _ H1.out.2).mono ?_
  clear g0 g1 g2 g3 g4 g5 g6 g7 g8 g9
  rintro e w2 ⟨r, rfl, ⟨hr0, hr1, hr2, hr3⟩, hb2⟩
  have y2 := (hb2.block _ (heap_lt H1.out.1)).trans H1.out.1
  have yb := below_and hb2 H1.out.2
  clear hb2
  obtain ⟨g0, g1, g2, g3, g4, g5, g6, g7, g8, g9⟩ := cells10 y2
  have H2 := Lib.hid (And.intro y2 yb)
  clear y2 yb
  by_cases hr : r ≤ 30000
  · have hpw : pw t ≤ 30000 := by have := hr2 hr; omega
    clear hr2 hr3
    go_wp2_with fail
    refine (HP.out.2.2 _ H2.out.2 (fun p hp => by have := small_of hpw p hp; exact ⟨by omega, by omega⟩)).mono ?_
    clear g0 g1 g2 g3 g4 g5 g6 g7 g8 g9
    rintro e w4 ⟨v4, rfl, ⟨css, ho, hi⟩, hb4⟩
    have hfact := fun h => comp_groups (t := t) (g := g) h
    have hpl : (parts t).length ≤ 1000000000 := by have := (set_le_pw _ t (Nat.le_refl _)).2; omega
    have hgl : (gp (parts t)).length ≤ (parts t).length := List.length_filter_le _ _
    generalize hR : compR t g = R at hfact ho hi ⊢
    clear hR
    obtain ⟨l, st, cp, er⟩ := R
    dsimp only at hfact ho hi ⊢
    obtain ⟨A4, c4, rfl, hl1, hl2, hat⟩ := insts_at ho hi
    have y4 := (hb4.block _ (heap_lt H2.out.1)).trans H2.out.1
    have yb := below_and hb4 H2.out.2
    have hz4 := hb4.size
    obtain ⟨g0, g1, g2, g3, g4, g5, g6, g7, g8, g9⟩ := cells10 y4
    have hlt0 := heap_lt y4
    clear hb4 ho hi
    by_cases hE : er = 0
    · subst hE
      obtain ⟨hcp, hg0', hg1', hl9, hall⟩ := hfact rfl
      subst hcp
      have H4 := Lib.hid (And.intro y4 (And.intro yb (And.intro hat hall)))
      clear hat y4 yb hfact hall
      go_wp2_with fail
      have e1 := heap_new1 w4 (.cells #[.slice A4 l.length c4, .int .i64 st, .int .i64 (2 * g + 2)] 32)
      have eb := below_al (Below.refl w4.heap.size w4) (.cells #[.slice A4 l.length c4, .int .i64 st, .int .i64 (2 * g + 2)] 32)
      have y5 := (eb.block _ (heap_lt H4.out.1)).trans H4.out.1
      have yb := below_and eb H4.out.2.1
      generalize w4.alloc (.cells #[.slice A4 l.length c4, .int .i64 st, .int .i64 (2 * g + 2)] 32) = w5 at *
      refine (HP.out.2.1 _ yb hpl).mono ?_
      clear g0 g1 g2 g3 g4 g5 g6 g7 g8 g9
      rintro e w6 ⟨v6, css6, rfl, ho6, hg6, hb6⟩
      dsimp only
      have hgat := fun W (hW : Below w6.heap.size w6 W) => group_at ho6 hg6 hW
      obtain ⟨A6, c6, rfl, hc6, hm6, _⟩ := hgat w6 (Below.refl _ _)
      have hgat : ∀ W, Below w6.heap.size w6 W → ∀ (i : Nat) (hl : i < (gp (parts t)).length), ∃ gg, A6 = some ⟨gg, 0, none⟩ ∧ W.cell? ⟨gg, i * 10 + 5, none⟩ = some (.int .i64 (gp (parts t))[i].cap) := fun W hW i hl => by
        obtain ⟨A', c', e', _, _, h9⟩ := hgat W hW
        injection e' with e1 e2 e3
        subst e1
        exact h9 i hl
      have hpc := fun W (hW : Below w6.heap.size w6 W) => prog_cells ((hb6.block _ (heap_lt e1)).trans e1) hW
      have hic : ∀ W, Below w6.heap.size w6 W → ∀ (i : Nat) (hl : i < l.length), ∃ gi, A4 = some ⟨gi, 0, none⟩ ∧ W.cell? ⟨gi, i * 5, none⟩ = some (.int .i64 l[i].op) ∧ W.cell? ⟨gi, i * 5 + 1, none⟩ = some (.int .i64 l[i].out) ∧ W.cell? ⟨gi, i * 5 + 2, none⟩ = some (.int .i64 l[i].arg) ∧ (∃ B d, W.cell? ⟨gi, i * 5 + 3, none⟩ = some (.slice B l[i].set.length d)) ∧ W.cell? ⟨gi, i * 5 + 4, none⟩ = some (.int .i64 l[i].at_) := fun W hW i hl => by
        obtain ⟨gi, h0, h1, h2, h3, h4, h5, ⟨B', d', h6, _⟩, h7⟩ := H4.out.2.2.1 i hl
        have hkk : ∀ j, W.cell? ⟨gi, j, none⟩ = w4.cell? ⟨gi, j, none⟩ := fun j => ((hW.cell (p := ⟨gi, j, none⟩) (by have := hb6.size; have := eb.size; show gi < _; omega)).trans (hb6.cell (p := ⟨gi, j, none⟩) (by have := eb.size; show gi < _; omega))).trans (eb.cell (p := ⟨gi, j, none⟩) h2)
        exact ⟨gi, h0, (hkk _).trans h3, (hkk _).trans h4, (hkk _).trans h5, ⟨B', d', (hkk _).trans h6⟩, (hkk _).trans h7⟩
      have hbw6 := below_and hb6 yb
      have hall : ∀ x ∈ l, x.op = 4 → 0 ≤ x.arg ∧ x.arg ≤ 5000 ∧ x.arg / 2 ≤ g ∧ x.arg / 2 ∈ (gp (parts t)).map (fun p => p.cap) := H4.out.2.2.2
      have H6 := Lib.hid (And.intro hgat (And.intro hpc (And.intro hic (And.intro hbw6 hall))))
      have hs6 := hbw6.size
      clear hgat hpc hic hbw6 hall ho6 hg6 hb6 e1 eb y5 yb
      generalize gp (parts t) = gs at *
      clear HP H1 H2 H4
      go_wp2_with fail
      go_loopw [9] (fun s9 wr => ∃ i : Nat, s9 = .int .i64 i ∧ i ≤ l.length ∧ Below w6.heap.size w6 wr) (fun s9 _ => l.length - (intOf s9).toNat)
      case atStart => exact ⟨0, rfl, Nat.zero_le _, Below.refl _ _⟩
      case round =>
        obtain ⟨i, rfl, hi, hB⟩ := hrel
        obtain ⟨p0, p2⟩ := H6.out.2.1 wr hB
        by_cases hlt : i < l.length
        · obtain ⟨gi, rfl, c0, c1, c2, ⟨B', d', c3⟩, c4'⟩ := H6.out.2.2.1 wr hB i hlt
          have hx := H6.out.2.2.2.2 l[i] (List.getElem_mem hlt)
          generalize l[i] = x at *
          by_cases hop : x.op = 4
          · obtain ⟨ha0, ha1, ha2, ha3⟩ := hx hop
            have o4 : (x.op == 4) = true := by rw [hop]; rfl
            have HO := Lib.hid hop
            have HA := Lib.hid (And.intro ha2 ha3)
            have HB := Lib.hid hB
            clear hop hx ha2 ha3 hB
            go_wp2_with fail
            have e9 := heap_new1 wr (.cells #[.int .i64 x.op, .int .i64 x.out, .int .i64 x.arg, .slice B' x.set.length d', .int .i64 x.at_] 39)
            have hB1 := below_and (below_al (Below.refl wr.heap.size wr) (.cells #[.int .i64 x.op, .int .i64 x.out, .int .i64 x.arg, .slice B' x.set.length d', .int .i64 x.at_] 39)) HB.out
            generalize wr.alloc (.cells #[.int .i64 x.op, .int .i64 x.out, .int .i64 x.arg, .slice B' x.set.length d', .int .i64 x.at_] 39) = wr1 at *
            have HE := Lib.hid (And.intro e9 hB1)
            clear e9 hB1
            generalize wr = wz at *
            go_loopw [11, 12] (fun s11 s12 wr2 => ∃ k : Nat, s12 = .int .i64 k ∧ s11 = .bool (((gs.map (fun p => p.cap)).take k).contains (x.arg / 2)) ∧ k ≤ gs.length ∧ Below wr1.heap.size wr1 wr2) (fun _ s12 _ => gs.length - (intOf s12).toNat)
            case atStart => exact ⟨0, rfl, by rw [List.take_zero]; rfl, Nat.zero_le _, Below.refl _ _⟩
            case round =>
              obtain ⟨k, rfl, rfl, hk, hB2⟩ := hrel
              have hBr := below_and hB2 HE.out.2
              have e2 := (hB2.block _ (heap_lt HE.out.1)).trans HE.out.1
              have b2 : wr.cell? ⟨wz.heap.size, 2, none⟩ = some (.int .i64 x.arg) := by rw [cell_of_blk e2]; rfl
              by_cases hkl : k < gs.length
              · obtain ⟨gg, rfl, ck⟩ := H6.out.1 wr hBr k hkl
                have hnx : ((gs.map (fun p => p.cap)).take (k + 1)).contains (x.arg / 2) = (((gs.map (fun p => p.cap)).take k).contains (x.arg / 2) || gs[k].cap == x.arg / 2) := by
                  rw [List.take_succ_eq_append_getElem (by simpa using hkl), cont_snoc]
                  simp
                have HN := Lib.hid hnx
                clear hnx
                generalize gs[k].cap = cc at *
                have HB2 := Lib.hid hB2
                clear hB2 hBr e2
                have htd : x.arg.tdiv 2 = x.arg / 2 := Int.tdiv_eq_ediv_of_nonneg ha0
                cases hbb : ((gs.map (fun p => p.cap)).take k).contains (x.arg / 2) with
                | true =>
                  rw [hbb] at HN
                  have HX := Lib.hid hbb
                  clear hbb
                  go_wp2_with fail
                  go_quiet (fail)
                  go_wp2_with fail
                  go_roundw
                  case rel => exact ⟨k + 1, by go_num, by rw [HN.out]; rfl, by omega, below_drewN HB2.out _⟩
                  case measure => simp [intOf]; omega
                | false =>
                  rw [hbb] at HN
                  have HX := Lib.hid hbb
                  clear hbb
                  go_wp2_with fail
                  go_quiet (fail)
                  go_wp2_with fail
                  go_roundw
                  case rel => exact ⟨k + 1, by go_num, by rw [HN.out, Bool.false_or], by omega, below_drewN HB2.out _⟩
                  case measure => simp [intOf]; omega
              · obtain rfl : k = gs.length := by omega
                have hco : ((gs.map (fun p => p.cap)).take gs.length).contains (x.arg / 2) = true := by
                  rw [List.take_of_length_le (by simp)]
                  simpa using HA.out.2
                have hgt : x.arg / 2 ≤ g := HA.out.1
                rw [hco]
                have htd : x.arg.tdiv 2 = x.arg / 2 := Int.tdiv_eq_ediv_of_nonneg ha0
                have HB2 := Lib.hid (And.intro hB2 hBr)
                clear hB2 hBr e2 hco
                go_wp2_with fail
                go_roundw
                case rel => exact ⟨i + 1, by go_num, by omega, HB2.out.2⟩
                case measure => simp [intOf]; omega
          · have o4 : (x.op == 4) = false := by simpa using hop
            have HO := Lib.hid hop
            have HB := Lib.hid hB
            clear hop hx hB
            go_wp2_with fail
            go_roundw
            case rel => exact ⟨i + 1, by go_num, by omega, below_al HB.out _⟩
            case measure => simp [intOf]; omega
        · obtain rfl : i = l.length := by omega
          have HB := Lib.hid hB
          clear hB
          go_wp2_with fail
          go_ret
          exact ⟨rfl, below_and HB.out H6.out.2.2.2.1⟩
    · have hE2 : (er == 0) = false := by simpa using hE
      have H4 := Lib.hid (And.intro y4 yb)
      clear y4 yb hat hfact
      go_wp2_with fail
      go_ret
      exact ⟨rfl, below_al H4.out.2 _⟩
  · clear hr2 hr3
    go_wp2_with fail
    go_ret
    exact ⟨rfl, H2.out.2⟩
end Go.Proofs.Ytdnbholiijgedaa
