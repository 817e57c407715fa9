/-
  The law CompileRight: its walk. No condition.
-/
import Derived.Test.YtdnbholiijgedaaCheck
import Derived.Test.YtdnbholiijgedaaFit
import Derived.Test.YtdnbholiijgedaaNormLaw
import Derived.Test.YtdnbholiijgedaaHead13
import Derived.Test.YtdnbholiijgedaaPlainW
namespace Go.Proofs.Ytdnbholiijgedaa
open Go.RowKit
set_option linter.unusedVariables false

theorem set_short : ∀ (l : List Rg) (a : Int), SetOK l → (∀ x ∈ l, a ≤ x.lo) → a ≤ 1114112 → a + (l.length : Int) ≤ 1114112
  | [], a, _, _, h => by simpa using h
  | x :: l, a, h, ha, h0 => by
    obtain ⟨h1, h2⟩ := h
    obtain ⟨h3, h4⟩ := List.pairwise_cons.1 h2
    have hx := h1 x (by simp)
    have h5 := ha x (by simp)
    have hx1 : x.lo ≤ x.hi := hx.2.1
    have hx2 : x.hi ≤ 1114111 := hx.2.2
    have h6 := set_short l (a + 1) ⟨fun y hy => h1 y (by simp [hy]), h4⟩ (fun y hy => by have := h3 y hy; omega) (by omega)
    rw [List.length_cons]
    omega
theorem comp_sets {t : Tr} {g : Int} : ∀ x ∈ (compR t g).1, x.op = 2 → RightOK rightR x.set := by
  unfold compR
  by_cases hb : compB t g = true
  · rw [if_pos hb]
    obtain ⟨hp, hg0, hg1⟩ := comp_parts hb
    by_cases ho : (compS t g).2.2 = true
    · rw [if_pos ho]; intro x hx; simp at hx
    · rw [if_neg ho]
      have ho' : (compS t g).2.2 = false := by simpa using ho
      have hw := code_w g t 0 ([⟨1, 0, 0, [], 0⟩], false) hp (start_w g).1 (start_w g).2
      have hs : StW g (compS t g).2 := hw.st
      obtain ⟨h1, h2⟩ := hs ho'
      intro x hx h9
      rcases h2 x hx with h | ⟨h0, h1, h3, h4, h⟩ | ⟨h0, h⟩ | ⟨h0, h⟩ | ⟨h0, h⟩
      · omega
      · have := set_short x.set 0 ((right_iff _).1 h4) (fun y hy => (((right_iff _).1 h4).1 y hy).1) (by omega)
        exact right_ok _ (by omega)
      all_goals omega
  · rw [if_neg hb]; intro x hx; simp at hx
theorem comp_len (t : Tr) (g : Int) : (compR t g).1.length ≤ 10000 := by
  unfold compR
  split
  · split
    · simp
    · exact codeS_len g t 0 _ (by simp)
  · simp
theorem comp_pg {W : World} {base : Nat} {v : Value} {css : List (List Value)} {l : List In} (h : Owns W base 39 5 v css) (hi : InsC W css l) (st cp : Int) : PgC (fun _ => True) W ⟨l, st, cp⟩ [v, .int .i64 st, .int .i64 cp] := by
  obtain ⟨A, c, rfl, h1, h2⟩ := Owns.shape h
  obtain ⟨A', c', he, h1', h2', hat⟩ := insts_at h hi
  injection he with e1 e2 e3
  subst e1 e3
  rw [hi.1]
  refine ⟨A, c, rfl, h1', h2', fun i x hx => ?_⟩
  obtain ⟨hl, rfl⟩ := List.getElem?_eq_some_iff.1 hx
  obtain ⟨g, rfl, _, _, c0, c1, c2, ⟨B, d, c3, b1, b2, b3⟩, c4⟩ := hat i hl
  refine ⟨⟨g, 0, none⟩, [.int .i64 l[i].op, .int .i64 l[i].out, .int .i64 l[i].arg, .slice B l[i].set.length d, .int .i64 l[i].at_], rfl, trivial, ⟨B, d, rfl, b1, b2, fun i' x' hx' => by obtain ⟨ad, cs', h7, _, h8⟩ := b3 i' x' hx'; exact ⟨ad, cs', h7, trivial, h8⟩⟩, rfl, fun j u hu => ?_⟩
  have e : (⟨g, 0, none⟩ : Addr).add (i * 5 + j) = ⟨g, i * 5 + j, none⟩ := by unfold Addr.add; split <;> simp_all
  rw [e]
  match j, hu with
  | 0, hu => simp at hu; subst hu; exact c0
  | 1, hu => simp at hu; subst hu; exact c1
  | 2, hu => simp at hu; subst hu; exact c2
  | 3, hu => simp at hu; subst hu; exact c3
  | 4, hu => simp at hu; subst hu; exact c4
  | n + 5, hu => simp at hu
set_option maxRecDepth 100000 in
set_option maxHeartbeats 4000000 in
theorem compileRight_any (ok : Nat → Prop) (w : World) (t : Tr) (cs : List Value) (g : Int) (ht : TrC ok w t cs) (hsm : ∀ p ∈ parts t, SmallP p) (hf : ∀ p ∈ parts t, FieldsW p) :
    Calls Try.prog 8 #[.agg cs.toArray, .int .i64 g] w fun e w' => e = .returned (.bool true) ∧ Below w.heap.size w w' := by
  have hmv : ∀ w1, Below w.heap.size w w1 → TrC (fun b => b < w.heap.size) w1 t cs := fun w1 hb => (ht.old.mono (fun b h => h.2)).move (fun b hok hlt => ⟨hb.block b hlt, hok⟩)
  have hpa := fun w1 hb => parts_any _ (parts t).length t cs 30000 w1 (Nat.le_refl _) (hmv w1 hb) hsm (by omega) (by omega)
  have hcm := fun w1 hb hs => compile_any _ w1 t cs g (hmv w1 hb) hs
  have hRi := fun w1 hb (hS : SmallT t) => hS.right _ w1 cs (hmv w1 hb)
  have hSi := fun w1 hb (hS : SmallT t) => Simple_any _ w1 t cs (hmv w1 hb) hS
  obtain ⟨A, c, B, d, rfl, _⟩ := trC_iff.1 ht
  clear ht hmv
  have HP := Lib.hid (And.intro hpa (And.intro hcm (And.intro hRi (And.intro hSi hf))))
  clear hpa hcm hRi hSi hsm hf
  go_enter Try.func8, Try.ntmps8
  go_wp2_with fail
  refine (head13_any _).mono ?_
  rintro e w1 ⟨rfl, hb1⟩
  dsimp only
  have y1 := (hb1.block _ (by simp)).trans (heap_new1 w (.cells #[.int .i64 t.op, .slice A t.kids.length c, .int .i32 t.rune, .slice B t.set.length d, .int .i64 t.at_, .int .i64 t.cap, .string t.name, .int .i64 t.mn, .int .i64 t.mx, .bool t.lz] 27))
  have yb := below_and hb1 (below_al (Below.refl w.heap.size w) (.cells #[.int .i64 t.op, .slice A t.kids.length c, .int .i32 t.rune, .slice B t.set.length d, .int .i64 t.at_, .int .i64 t.cap, .string t.name, .int .i64 t.mn, .int .i64 t.mx, .bool t.lz] 27))
  clear hb1
  obtain ⟨g0, g1, g2, g3, g4, g5, g6, g7, g8, g9⟩ := cells10 y1
  have H1 := Lib.hid (And.intro y1 yb)
  clear y1 yb
  go_wp2_with fail
  refine (HP.out.1 _ H1.out.2).mono ?_
  clear g0 g1 g2 g3 g4 g5 g6 g7 g8 g9
  rintro e w2 ⟨r, rfl, ⟨hr0, hr1, hr2, hr3⟩, hb2⟩
  dsimp only
  have y2 := (hb2.block _ (heap_lt H1.out.1)).trans H1.out.1
  have yb := below_and hb2 H1.out.2
  clear hb2
  obtain ⟨g0, g1, g2, g3, g4, g5, g6, g7, g8, g9⟩ := cells10 y2
  have H2 := Lib.hid (And.intro y2 yb)
  clear y2 yb
  by_cases hr : r ≤ 30000
  · have hpw : pw t ≤ 30000 := by have := hr2 hr; omega
    have hS := smallT_of hpw (by omega) HP.out.2.2.2.2
    clear hr2 hr3 hpw
    have HS := Lib.hid hS
    clear hS
    go_wp2_with fail
    refine (HP.out.2.1 _ H2.out.2 (fun p hp => by have := HS.out.1 p hp; exact ⟨by omega, by omega⟩)).mono ?_
    clear g0 g1 g2 g3 g4 g5 g6 g7 g8 g9
    rintro e w4 ⟨v4, rfl, ⟨css, ho, hi⟩, hb4⟩
    dsimp only
    have hpg := comp_pg ho hi (compR t g).2.1 (compR t g).2.2.1
    have hck := fun h => comp_check (t := t) (g := g) h
    have hno := fun h => comp_none' (t := t) (g := g) h
    have hst := comp_sets (t := t) (g := g)
    have hln := comp_len t g
    generalize compR t g = R at *
    obtain ⟨l, st, cp, er⟩ := R
    dsimp only at *
    obtain ⟨A4, c4, rfl, hl1, hl2, hat⟩ := insts_at ho hi
    have y4 := (hb4.block _ (heap_lt H2.out.1)).trans H2.out.1
    have yb := below_and hb4 H2.out.2
    have e1 := heap_new1 w4 (.cells #[.slice A4 l.length c4, .int .i64 st, .int .i64 cp] 32)
    have eb := below_al (Below.refl w4.heap.size w4) (.cells #[.slice A4 l.length c4, .int .i64 st, .int .i64 cp] 32)
    have y5 := (eb.block _ (heap_lt y4)).trans y4
    have yb5 := below_and eb yb
    have hcc := fun (W : World) (hW : Below (w4.alloc (.cells #[.slice A4 l.length c4, .int .i64 st, .int .i64 cp] 32)).heap.size (w4.alloc (.cells #[.slice A4 l.length c4, .int .i64 st, .int .i64 cp] 32)) W) => check_any rightR (fun _ => True) W ⟨l, st, cp⟩ _ ((hpg.below eb).below hW) (by show l.length ≤ _; omega) hst
    clear ho hi hat hb4 y4 yb eb hpg hst
    by_cases hE : er = 0
    · subst hE
      have hk := hck rfl
      clear hck hno
      rw [hk] at hcc
      have HC := Lib.hid (And.intro hcc (And.intro y5 yb5))
      clear hk hcc y5 yb5
      obtain ⟨k0, k1, k2⟩ := cells3 e1
      clear e1
      go_wp2_with fail
      refine (HC.out.1 _ (Below.refl _ _)).mono ?_
      clear k0 k1 k2
      rintro e w6 ⟨rfl, hb6⟩
      dsimp only
      have y6 := (hb6.block _ (heap_lt HC.out.2.1)).trans HC.out.2.1
      have yb6 := below_and hb6 HC.out.2.2
      clear hb6 HC
      have H6 := Lib.hid (And.intro y6 yb6)
      clear y6 yb6
      obtain ⟨g0, g1, g2, g3, g4, g5, g6, g7, g8, g9⟩ := cells10 H6.out.1
      go_wp2_with fail
      refine (HP.out.2.2.1 _ H6.out.2 HS.out).mono ?_
      clear g0 g1 g2 g3 g4 g5 g6 g7 g8 g9
      rintro e w7 ⟨rfl, hb7⟩
      dsimp only
      have y7 := (hb7.block _ (heap_lt H6.out.1)).trans H6.out.1
      have yb7 := below_and hb7 H6.out.2
      have hgood := fun h => simpR_good (t := t) HS.out h
      have hsmall := fun h => simpR_small (t := t) HS.out h
      have hT : rightTB rightR t = true → simpR t = simpleS t := fun h => by unfold simpR; rw [if_pos h]
      have hcs := fun h => comp_simple (t := t) (g := g) (hgood h) h
      have HG := Lib.hid (And.intro hsmall (And.intro hT hcs))
      clear hb7 hgood hsmall hT hcs
      have H7 := Lib.hid (And.intro y7 yb7)
      clear y7 yb7 H6
      generalize rightTB rightR t = rb at *
      cases rb with
      | false =>
        go_wp2_with fail
        go_ret
        exact ⟨rfl, H7.out.2⟩
      | true =>
        by_cases hg : 0 ≤ g ∧ g ≤ 2000
        · obtain ⟨hg0, hg1⟩ := hg
          obtain ⟨g0, g1, g2, g3, g4, g5, g6, g7, g8, g9⟩ := cells10 H7.out.1
          go_wp2_with fail
          refine (HP.out.2.2.2.1 _ H7.out.2 HS.out).mono ?_
          clear g0 g1 g2 g3 g4 g5 g6 g7 g8 g9
          rintro e w8 ⟨c8, rfl, ht8, hb8⟩
          dsimp only
          rw [HG.out.2.1 (by trivial)] at ht8
          have hk := HG.out.2.2 (by trivial) hg0 hg1
          have hsm8 := HG.out.1 (by trivial)
          clear HG
          generalize simpleS t = T at *
          obtain ⟨A8, e8, B8, d8, rfl, _⟩ := trC_iff.1 ht8
          have H8 := Lib.hid (below_and hb8 H7.out.2)
          have hc9 := compile_any _ w8 T _ g ht8 (fun p hp => by have := hsm8.1 p hp; exact ⟨by omega, by omega⟩)
          clear ht8 hb8 hsm8
          have HK := Lib.hid hk
          clear hk
          have hpl := fun (W : World) v css hown hins => comp_pg (W := W) (base := w8.heap.size) (v := v) (css := css) (l := (compR T g).1) hown hins (compR T g).2.1 (compR T g).2.2.1
          have hck := comp_check HK.out
          have hst := comp_sets (t := T) (g := g)
          have hln9 := comp_len T g
          have hk9 := HK.out
          clear HK
          generalize compR T g = R at *
          obtain ⟨l9, st9, cp9, er9⟩ := R
          dsimp only at *
          subst hk9
          have HL := Lib.hid (And.intro hpl (And.intro hck hst))
          clear hpl hck hst
          go_wp2_with (go_at_call 11; refine hc9.mono ?_; clear hc9; rintro e w9 ⟨v9, rfl, ⟨css9, ho9, hi9⟩, hb9⟩; dsimp only; have hp9 := HL.out.1 _ _ _ ho9 hi9; obtain ⟨A9, c9, rfl, hl19, hl29, hat9⟩ := insts_at ho9 hi9; clear ho9 hi9 hat9; have H9 := Lib.hid (And.intro hp9 (below_and hb9 H8.out)); clear hp9 hb9)
          have eb := below_al (Below.refl w9.heap.size w9) (.cells #[.slice A9 l9.length c9, .int .i64 st9, .int .i64 cp9] 32)
          have hcc := check_any rightR (fun _ => True) (w9.alloc (.cells #[.slice A9 l9.length c9, .int .i64 st9, .int .i64 cp9] 32)) ⟨l9, st9, cp9⟩ _ (H9.out.1.below eb) (by show l9.length ≤ _; omega) HL.out.2.2
          rw [HL.out.2.1] at hcc
          have yb9 := below_and eb H9.out.2
          clear eb
          refine hcc.mono ?_
          clear hcc
          rintro e w10 ⟨rfl, hb10⟩
          have H10 := Lib.hid (below_and hb10 yb9)
          clear hb10 yb9
          go_wp2_with fail
          go_ret
          exact ⟨rfl, H10.out⟩
        · go_wp2_with fail
          all_goals
            go_ret
            exact ⟨rfl, H7.out.2⟩
    · have hl0 : ¬ (0 : Int) < (l.length : Int) := by rw [hno hE]; simp
      clear hck hno hcc hln hl1
      generalize l.length = n at *
      have hE2 : (er == 0) = false := by simpa using hE
      obtain ⟨k0, k1, k2⟩ := cells3 e1
      have y6 := y5
      have yb6 := yb5
      clear y5 yb5 e1
      have H6 := Lib.hid (And.intro y6 yb6)
      obtain ⟨g0, g1, g2, g3, g4, g5, g6, g7, g8, g9⟩ := cells10 y6
      clear y6 yb6
      go_wp2_with fail
      refine (HP.out.2.2.1 _ H6.out.2 HS.out).mono ?_
      clear g0 g1 g2 g3 g4 g5 g6 g7 g8 g9
      rintro e w7 ⟨rfl, hb7⟩
      dsimp only
      have y7 := (hb7.block _ (heap_lt H6.out.1)).trans H6.out.1
      have yb7 := below_and hb7 H6.out.2
      have hgood := fun h => simpR_good (t := t) HS.out h
      have hsmall := fun h => simpR_small (t := t) HS.out h
      have hT : rightTB rightR t = true → simpR t = simpleS t := fun h => by unfold simpR; rw [if_pos h]
      have hcs := fun h => comp_simple (t := t) (g := g) (hgood h) h
      have HG := Lib.hid (And.intro hsmall (And.intro hT hcs))
      clear hb7 hgood hsmall hT hcs
      have H7 := Lib.hid (And.intro y7 yb7)
      clear y7 yb7 H6
      generalize rightTB rightR t = rb at *
      cases rb with
      | false =>
        go_wp2_with fail
        go_ret
        exact ⟨rfl, H7.out.2⟩
      | true =>
        by_cases hg : 0 ≤ g ∧ g ≤ 2000
        · obtain ⟨hg0, hg1⟩ := hg
          obtain ⟨g0, g1, g2, g3, g4, g5, g6, g7, g8, g9⟩ := cells10 H7.out.1
          go_wp2_with fail
          refine (HP.out.2.2.2.1 _ H7.out.2 HS.out).mono ?_
          clear g0 g1 g2 g3 g4 g5 g6 g7 g8 g9
          rintro e w8 ⟨c8, rfl, ht8, hb8⟩
          dsimp only
          rw [HG.out.2.1 (by trivial)] at ht8
          have hk := HG.out.2.2 (by trivial) hg0 hg1
          have hsm8 := HG.out.1 (by trivial)
          clear HG
          generalize simpleS t = T at *
          obtain ⟨A8, e8, B8, d8, rfl, _⟩ := trC_iff.1 ht8
          have H8 := Lib.hid (below_and hb8 H7.out.2)
          have hc9 := compile_any _ w8 T _ g ht8 (fun p hp => by have := hsm8.1 p hp; exact ⟨by omega, by omega⟩)
          clear ht8 hb8 hsm8
          have HK := Lib.hid hk
          clear hk
          have hpl := fun (W : World) v css hown hins => comp_pg (W := W) (base := w8.heap.size) (v := v) (css := css) (l := (compR T g).1) hown hins (compR T g).2.1 (compR T g).2.2.1
          have hck := comp_check HK.out
          have hst := comp_sets (t := T) (g := g)
          have hln9 := comp_len T g
          have hk9 := HK.out
          clear HK
          generalize compR T g = R at *
          obtain ⟨l9, st9, cp9, er9⟩ := R
          dsimp only at *
          subst hk9
          have HL := Lib.hid (And.intro hpl (And.intro hck hst))
          clear hpl hck hst
          go_wp2_with (go_at_call 11; refine hc9.mono ?_; clear hc9; rintro e w9 ⟨v9, rfl, ⟨css9, ho9, hi9⟩, hb9⟩; dsimp only; have hp9 := HL.out.1 _ _ _ ho9 hi9; obtain ⟨A9, c9, rfl, hl19, hl29, hat9⟩ := insts_at ho9 hi9; clear ho9 hi9 hat9; have H9 := Lib.hid (And.intro hp9 (below_and hb9 H8.out)); clear hp9 hb9)
          have eb := below_al (Below.refl w9.heap.size w9) (.cells #[.slice A9 l9.length c9, .int .i64 st9, .int .i64 cp9] 32)
          have hcc := check_any rightR (fun _ => True) (w9.alloc (.cells #[.slice A9 l9.length c9, .int .i64 st9, .int .i64 cp9] 32)) ⟨l9, st9, cp9⟩ _ (H9.out.1.below eb) (by show l9.length ≤ _; omega) HL.out.2.2
          rw [HL.out.2.1] at hcc
          have yb9 := below_and eb H9.out.2
          clear eb
          refine hcc.mono ?_
          clear hcc
          rintro e w10 ⟨rfl, hb10⟩
          have H10 := Lib.hid (below_and hb10 yb9)
          clear hb10 yb9
          go_wp2_with fail
          go_ret
          exact ⟨rfl, H10.out⟩
        · go_wp2_with fail
          all_goals
            go_ret
            exact ⟨rfl, H7.out.2⟩
  · clear hr2 hr3
    go_wp2_with fail
    go_ret
    exact ⟨rfl, H2.out.2⟩
end Go.Proofs.Ytdnbholiijgedaa
