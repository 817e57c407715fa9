/-
  The law CompileSizes: its walk. No condition.
-/
import Derived.Test.YtdnbholiijgedaaHead13
import Derived.Test.YtdnbholiijgedaaCompLaw
import Derived.Test.YtdnbholiijgedaaParts
import Derived.BigQuiet
namespace Go.Proofs.Ytdnbholiijgedaa
open Go.RowKit
set_option linter.unusedVariables false

theorem set_le_pw : ∀ (n : Nat) (t : Tr), (parts t).length ≤ n → (∀ p ∈ parts t, p.set.length ≤ pw t) ∧ (parts t).length ≤ pw t := by
  intro n
  induction n with
  | zero => intro t hn; rw [parts_eq] at hn; simp at hn
  | succ n ih =>
    intro t hn
    have hL : ∀ l : List Tr, (∀ k ∈ l, (parts k).length ≤ n) → (∀ p ∈ l.flatMap parts, p.set.length ≤ pwL l) ∧ (l.flatMap parts).length ≤ pwL l := by
      intro l
      induction l with
      | nil => intro _; simp [pwL]
      | cons x xs ihl =>
        intro hl
        obtain ⟨a1, a2⟩ := ih x (hl x (by simp))
        obtain ⟨b1, b2⟩ := ihl (fun k hk => hl k (by simp [hk]))
        rw [pwL, List.flatMap_cons, List.length_append]
        refine ⟨fun p hp => ?_, by omega⟩
        rcases List.mem_append.1 hp with hp | hp
        · have := a1 p hp; omega
        · have := b1 p hp; omega
    have hkids : ∀ k ∈ t.kids, (parts k).length ≤ n := fun k hk => by
      obtain ⟨i, hi, rfl⟩ := List.mem_iff_getElem.1 hk
      have := parts_kid hi
      omega
    obtain ⟨c1, c2⟩ := hL t.kids hkids
    rw [pw_eq, parts_eq, partsL_flat, List.length_cons]
    refine ⟨fun p hp => ?_, by omega⟩
    rcases List.mem_cons.1 hp with rfl | hp
    · omega
    · have := c1 p hp; omega

theorem flat_ge : ∀ l : List Tr, l.length ≤ (l.flatMap parts).length
  | [] => Nat.le_refl _
  | x :: l => by
    rw [List.flatMap_cons, List.length_append, List.length_cons, parts_eq x, List.length_cons]
    have := flat_ge l
    omega
theorem kids_le (t : Tr) : t.kids.length ≤ (parts t).length := by
  rw [parts_eq, partsL_flat, List.length_cons]
  have := flat_ge t.kids
  omega
theorem small_of {t : Tr} {n : Nat} (h : pw t ≤ n) : ∀ p ∈ parts t, p.set.length ≤ n ∧ p.kids.length ≤ n := by
  intro p hp
  obtain ⟨h1, h2⟩ := set_le_pw _ t (Nat.le_refl _)
  have h3 := h1 p hp
  have h4 : (parts p).length ≤ (parts t).length := by
    have : ∀ (n : Nat) (t : Tr), (parts t).length ≤ n → ∀ p ∈ parts t, (parts p).length ≤ (parts t).length := by
      intro n
      induction n with
      | zero => intro t hn; rw [parts_eq] at hn; simp at hn
      | succ n ih =>
        intro t hn p hp
        rw [parts_eq] at hp
        rcases List.mem_cons.1 hp with rfl | hp
        · exact Nat.le_refl _
        · rw [partsL_flat] at hp
          obtain ⟨k, hk, hpk⟩ := List.mem_flatMap.1 hp
          obtain ⟨i, hi, rfl⟩ := List.getElem_of_mem hk
          have := parts_kid hi
          have := ih t.kids[i] (by omega) p hpk
          omega
    exact this _ t (Nat.le_refl _) p hp
  have := kids_le p
  exact ⟨by omega, by omega⟩
theorem comp_sizes {t : Tr} {g : Int} (h : (compR t g).2.2.2 = 0) (hw : wS t ≤ 4000) : 0 < (compR t g).1.length ∧ ((compR t g).1.length : Int) ≤ wS t + 1 ∧ ∃ l, (compR t g).1 = ⟨1, 0, 0, [], 0⟩ :: l := by
  unfold compR at h ⊢
  split at h
  · rename_i hb
    split at h
    · cases h
    · rename_i hm
      rw [if_pos hb, if_neg hm]
      rcases ext_S (fun _ => True) (fun _ _ => trivial) g t 0 ([⟨1, 0, 0, [], 0⟩], false) (fun _ _ _ _ _ => ⟨trivial, trivial⟩) with h1 | ⟨_, _, l, h1, h2, _⟩
      · exact absurd h1 hm
      · have h3 : (compS t g).2.1 = ⟨1, 0, 0, [], 0⟩ :: l := h1
        have h4 := n_le t hw
        simp only [h3, List.length_cons]
        exact ⟨by omega, by omega, l, rfl⟩
  · cases h
set_option maxRecDepth 100000 in
set_option maxHeartbeats 2000000 in
theorem compileSizes_any (ok : Nat → Prop) (w : World) (t : Tr) (cs : List Value) (g : Int) (ht : TrC ok w t cs) (hsm : ∀ p ∈ parts t, SmallP p) :
    Calls Try.prog 4 #[.agg cs.toArray, .int .i64 g] w fun e w' => e = .returned (.bool true) ∧ Below w.heap.size w w' := by
  have hmv : ∀ w1, Below w.heap.size w w1 → TrC (fun b => b < w.heap.size) w1 t cs := fun w1 hb => (ht.old.mono (fun b h => h.2)).move (fun b hok hlt => ⟨hb.block b hlt, hok⟩)
  have hpa := fun w1 hb => parts_any _ (parts t).length t cs 30000 w1 (Nat.le_refl _) (hmv w1 hb) hsm (by omega) (by omega)
  have hwe := fun w1 hb => weight_any _ (parts t).length t cs w1 (Nat.le_refl _) (hmv w1 hb) (fun p hp => by have := (hsm p hp).2; omega)
  have hcm := fun w1 hb hs => compile_any _ w1 t cs g (hmv w1 hb) hs
  have hwn := wS_nn t
  obtain ⟨A, c, B, d, rfl, _⟩ := trC_iff.1 ht
  clear ht hmv
  have HP := Lib.hid (And.intro hpa (And.intro hwe hcm))
  clear hpa hwe hcm hsm
  go_enter Try.func4, Try.ntmps4
  go_wp2_with fail
  refine (head13_any _).mono ?_
  rintro e w1 ⟨rfl, hb1⟩
  have y1 := (hb1.block _ (by simp)).trans (heap_new1 w (.cells #[.int .i64 t.op, .slice A t.kids.length c, .int .i32 t.rune, .slice B t.set.length d, .int .i64 t.at_, .int .i64 t.cap, .string t.name, .int .i64 t.mn, .int .i64 t.mx, .bool t.lz] 27))
  have yb := below_and hb1 (below_al (Below.refl w.heap.size w) (.cells #[.int .i64 t.op, .slice A t.kids.length c, .int .i32 t.rune, .slice B t.set.length d, .int .i64 t.at_, .int .i64 t.cap, .string t.name, .int .i64 t.mn, .int .i64 t.mx, .bool t.lz] 27))
  clear hb1
  obtain ⟨g0, g1, g2, g3, g4, g5, g6, g7, g8, g9⟩ := cells10 y1
  have H1 := Lib.hid (And.intro y1 yb)
  clear y1 yb
  go_wp2_with fail
  refine (HP.out.1 _ H1.out.2).mono ?_
  clear g0 g1 g2 g3 g4 g5 g6 g7 g8 g9
  rintro e w2 ⟨r, rfl, ⟨hr0, hr1, hr2, hr3⟩, hb2⟩
  have y2 := (hb2.block _ (heap_lt H1.out.1)).trans H1.out.1
  have yb := below_and hb2 H1.out.2
  clear hb2
  obtain ⟨g0, g1, g2, g3, g4, g5, g6, g7, g8, g9⟩ := cells10 y2
  have H2 := Lib.hid (And.intro y2 yb)
  clear y2 yb
  by_cases hr : r ≤ 30000
  · have hpw : pw t ≤ 30000 := by have := hr2 hr; omega
    clear hr2 hr3
    go_wp2_with fail
    refine (HP.out.2.1 _ H2.out.2).mono ?_
    clear g0 g1 g2 g3 g4 g5 g6 g7 g8 g9
    rintro e w3 ⟨rfl, hb3⟩
    have y3 := (hb3.block _ (heap_lt H2.out.1)).trans H2.out.1
    have yb := below_and hb3 H2.out.2
    clear hb3
    obtain ⟨g0, g1, g2, g3, g4, g5, g6, g7, g8, g9⟩ := cells10 y3
    have H3 := Lib.hid (And.intro y3 yb)
    clear y3 yb
    by_cases hw : wS t ≤ 4000
    · go_wp2_with fail
      refine (HP.out.2.2 _ H3.out.2 (fun p hp => by have := small_of hpw p hp; exact ⟨by omega, by omega⟩)).mono ?_
      clear g0 g1 g2 g3 g4 g5 g6 g7 g8 g9
      rintro e w4 ⟨v4, rfl, ⟨css, ho, hi⟩, hb4⟩
      have hfact := fun h => comp_sizes (t := t) (g := g) h hw
      have hlen : (compR t g).1.length ≤ maxLen := by obtain ⟨_, _, _, h1, h2, _⟩ := insts_at ho hi; omega
      generalize hR : compR t g = R at hfact ho hi hlen ⊢
      clear hR
      obtain ⟨l, st, cp, er⟩ := R
      dsimp only at hfact ho hi hlen ⊢
      obtain ⟨A4, c4, rfl, hl1, hl2, hat⟩ := insts_at ho hi
      have y4 := (hb4.block _ (heap_lt H3.out.1)).trans H3.out.1
      have yb := below_and hb4 H3.out.2
      have hz4 := hb4.size
      clear hb4 ho hi
      by_cases hE : er = 0
      · subst hE
        obtain ⟨hp0, hp1, l', rfl⟩ := hfact rfl
        obtain ⟨gi, rfl, hg0, hg1, hop, _⟩ := hat 0 (by simp)
        obtain ⟨n, hn⟩ : ∃ n : Nat, ((⟨1, 0, 0, [], 0⟩ : In) :: l').length = n := ⟨_, rfl⟩
        rw [hn] at hl1 hlen hp1 hp0 ⊢
        clear hn
        have hop' : w4.cell? ⟨gi, 0, none⟩ = some (.int .i64 1) := hop
        have H4 := Lib.hid (And.intro y4 (And.intro yb hop'))
        clear hat hop hop' y4 yb hfact
        go_wp2_with fail
        have e1 := heap_new1 w4 (.cells #[.slice (some ⟨gi, 0, none⟩) n c4, .int .i64 st, .int .i64 cp] 32)
        have eb := below_al (Below.refl w4.heap.size w4) (.cells #[.slice (some ⟨gi, 0, none⟩) n c4, .int .i64 st, .int .i64 cp] 32)
        have y5 := (eb.block _ (heap_lt H4.out.1)).trans H4.out.1
        have yb := below_and eb H4.out.2.1
        have go := (eb.cell (p := ⟨gi, 0, none⟩) hg1).trans H4.out.2.2
        have n0 := heap_lt y5
        have n1 := heap_lt e1
        have n2 : gi < (w4.alloc (.cells #[.slice (some ⟨gi, 0, none⟩) n c4, .int .i64 st, .int .i64 cp] 32)).heap.size := by simp; omega
        generalize w4.alloc (.cells #[.slice (some ⟨gi, 0, none⟩) n c4, .int .i64 st, .int .i64 cp] 32) = w5 at *
        obtain ⟨g0, g1, g2, g3, g4, g5, g6, g7, g8, g9⟩ := cells10 y5
        obtain ⟨gp, _, _, _⟩ := prog3 e1
        have H5 := Lib.hid yb
        have HW := Lib.hid hp1
        have hwr : IntKind.i64.wrap (wS t + 1) = wS t + 1 := IntWalk.i64_in _ (by omega)
        have hle : decide ((n : Int) ≤ wS t + 1) = true := decide_eq_true (by omega)
        have hl0 : (0 : Int) < (n : Int) := by omega
        clear e1 eb y5 yb hg0 hg1
        go_region_held3 (fun w' => w'.cell? ⟨w.heap.size, 0, none⟩ = some (.int .i64 t.op) ∧ w'.cell? ⟨w.heap.size, 1, none⟩ = some (.slice A t.kids.length c) ∧ w'.cell? ⟨w.heap.size, 2, none⟩ = some (.int .i32 t.rune) ∧ w'.cell? ⟨w.heap.size, 3, none⟩ = some (.slice B t.set.length d) ∧ w'.cell? ⟨w.heap.size, 4, none⟩ = some (.int .i64 t.at_) ∧ w'.cell? ⟨w.heap.size, 5, none⟩ = some (.int .i64 t.cap) ∧ w'.cell? ⟨w.heap.size, 6, none⟩ = some (.string t.name) ∧ w'.cell? ⟨w.heap.size, 7, none⟩ = some (.int .i64 t.mn) ∧ w'.cell? ⟨w.heap.size, 8, none⟩ = some (.int .i64 t.mx) ∧ w'.cell? ⟨w.heap.size, 9, none⟩ = some (.bool t.lz) ∧ w'.cell? ⟨w4.heap.size, 0, none⟩ = some (.slice (some ⟨gi, 0, none⟩) n c4) ∧ w'.cell? ⟨gi, 0, none⟩ = some (.int .i64 1)) (go_keep) ((go_at_call 13; (refine (HP.out.2.1 _ (by first | exact H5.out | exact H5.out.drew)).mono ?_); rintro e w6 ⟨rfl, hb6⟩; (have hc6 : Below w5.heap.size w5 w6 := by first | exact hb6 | exact (Below.refl _ _).drew.trans hb6); have s0 := (hc6.cell (p := ⟨w.heap.size, 0, none⟩) n0).trans g0; have s1 := (hc6.cell (p := ⟨w.heap.size, 1, none⟩) n0).trans g1; have s2 := (hc6.cell (p := ⟨w.heap.size, 2, none⟩) n0).trans g2; have s3 := (hc6.cell (p := ⟨w.heap.size, 3, none⟩) n0).trans g3; have s4 := (hc6.cell (p := ⟨w.heap.size, 4, none⟩) n0).trans g4; have s5 := (hc6.cell (p := ⟨w.heap.size, 5, none⟩) n0).trans g5; have s6 := (hc6.cell (p := ⟨w.heap.size, 6, none⟩) n0).trans g6; have s7 := (hc6.cell (p := ⟨w.heap.size, 7, none⟩) n0).trans g7; have s8 := (hc6.cell (p := ⟨w.heap.size, 8, none⟩) n0).trans g8; have s9 := (hc6.cell (p := ⟨w.heap.size, 9, none⟩) n0).trans g9; have s10 := (hc6.cell (p := ⟨w4.heap.size, 0, none⟩) n1).trans gp; have s11 := (hc6.cell (p := ⟨gi, 0, none⟩) n2).trans go; have H6 := Lib.hid hc6; clear hc6 hb6))
        all_goals
          go_wp2_with fail
          go_ret
          exact ⟨rfl, below_and H6.out H5.out⟩
      · have hE2 : (er == 0) = false := by simpa using hE
        have H4 := Lib.hid (And.intro y4 yb)
        clear y4 yb hat hfact
        go_wp2_with fail
        go_quiet (fail)
        go_wp2_with fail
        go_ret
        exact ⟨rfl, by repeat (first | exact H4.out.2 | refine below_drewN ?_ _ | refine below_al ?_ _)⟩
    · go_wp2_with fail
      go_ret
      exact ⟨rfl, H3.out.2⟩
  · clear hr2 hr3
    go_wp2_with fail
    go_ret
    exact ⟨rfl, H2.out.2⟩
end Go.Proofs.Ytdnbholiijgedaa
