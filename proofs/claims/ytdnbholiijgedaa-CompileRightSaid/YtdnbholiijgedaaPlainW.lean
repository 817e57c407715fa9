/-
  Law 10's counted, tidy, of trees that were made plain; SimplifyPlain. No condition but small lists.
  SimplifyPlain: its walk. No condition but the reach.
-/
import Derived.Test.YtdnbholiijgedaaSimple
import Derived.Test.YtdnbholiijgedaaParts
import Derived.Test.YtdnbholiijgedaaTree
namespace Go.Proofs.Ytdnbholiijgedaa
open Go.RowKit
set_option linter.unusedVariables false

def LoopRel (w : World) (ct : List Value) (n : Nat) (s : Value) (wr : World) : Prop :=
  ∃ j : Nat, s = .int .i64 j ∧ j ≤ n ∧ Below w.heap.size w wr ∧ wr.heap[w.heap.size]? = some (.cells ct.toArray 27 (0, 0))
set_option maxRecDepth 100000 in
set_option maxHeartbeats 1000000 in
theorem counted10_any (ok : Nat → Prop) : ∀ (n : Nat) (t : Tr) (cs : List Value) (w : World), szT t ≤ n → TrC ok w t cs → GoodT t → n ≤ 1000000000 →
    Calls Try.prog 20 #[.agg cs.toArray] w fun e w' => e = .returned (.bool false) ∧ Below w.heap.size w w' := by
  intro n
  induction n with
  | zero => intro t cs w hn; rw [szT_eq] at hn; omega
  | succ n ih =>
    intro t cs w hn ht hg hn9
    obtain ⟨A, c, B, d, rfl, h1, h2, h3, h4, h5, h6⟩ := trC_iff.1 ht
    have hkl : t.kids.length ≤ 1000000001 := by have := kids_szT t; omega
    have o10 : (t.op == 10) = false := (by simpa using (good_iff.1 hg).1.no10)
    have HS := Lib.hid (And.intro (good_iff.1 hg).2 h6)
    clear hg ht h5 h6
    go_enter Try.func20, Try.ntmps20
    have hx := heap_new1 w (.cells #[.int .i64 t.op, .slice A t.kids.length c, .int .i32 t.rune, .slice B t.set.length d, .int .i64 t.at_, .int .i64 t.cap, .string t.name, .int .i64 t.mn, .int .i64 t.mx, .bool t.lz] 27)
    have hxb : Below w.heap.size w (w.alloc (.cells #[.int .i64 t.op, .slice A t.kids.length c, .int .i32 t.rune, .slice B t.set.length d, .int .i64 t.at_, .int .i64 t.cap, .string t.name, .int .i64 t.mn, .int .i64 t.mx, .bool t.lz] 27)) := below_al (Below.refl _ _) _
    have HX := Lib.hid (And.intro hx hxb)
    clear hx hxb
    go_wp2_with fail
    go_loopw [3] (fun s3 wr => LoopRel w [.int .i64 t.op, .slice A t.kids.length c, .int .i32 t.rune, .slice B t.set.length d, .int .i64 t.at_, .int .i64 t.cap, .string t.name, .int .i64 t.mn, .int .i64 t.mx, .bool t.lz] t.kids.length s3 wr) (fun s3 _ => t.kids.length - (intOf s3).toNat)
    case atStart => exact ⟨0, rfl, Nat.zero_le _, HX.out.2, HX.out.1⟩
    case round =>
      obtain ⟨j, rfl, hj, hBr, hbx⟩ := hrel
      obtain ⟨g0, g1, g2, g3, g4, g5, g6, g7, g8, g9⟩ := cells10 hbx
      have hn0 := heap_lt hbx
      by_cases hlt : j < t.kids.length
      · obtain ⟨ad, A1, c1, A3, c3, rfl, hTk, k0, k1, k2, k3, k4, k5, k6, k7, k8, k9⟩ := trArr_at HS.out.2 wr (fun b _ hb' => hBr.block b hb') j hlt
        have hkk := parts_kid hlt
        have hih := ih t.kids[j] _ wr (by unfold szT at *; omega) (hTk.move (fun b hb' hlt' => ⟨hBr.block b hlt', hb'⟩)) (HS.out.1 _ (List.getElem_mem hlt)) (by omega)
        generalize t.kids[j] = kj at *
        have HB := Lib.hid (And.intro hBr hbx)
        clear hBr hbx hTk hkk
        go_wp2_with fail
        refine hih.mono ?_
        clear hih g0 g1 g2 g3 g4 g5 g6 g7 g8 g9 k0 k1 k2 k3 k4 k5 k6 k7 k8 k9
        rintro e w1 ⟨rfl, hb1⟩
        dsimp only
        have HZ := Lib.hid (And.intro ((hb1.block _ hn0).trans HB.out.2) (below_and hb1 HB.out.1))
        clear hb1
        go_wp2_with fail
        go_roundw
        case rel => exact ⟨j + 1, by go_num, by omega, HZ.out.2, HZ.out.1⟩
        case measure => simp [intOf]; omega
      · obtain rfl : j = t.kids.length := by omega
        have HB := Lib.hid hBr
        clear hBr hbx
        go_wp2_with fail
        go_ret
        exact ⟨rfl, HB.out⟩
set_option maxRecDepth 100000 in
set_option maxHeartbeats 2000000 in
theorem tidy_any (ok : Nat → Prop) : ∀ (n : Nat) (t : Tr) (cs : List Value) (w : World), szT t ≤ n → TrC ok w t cs → GoodT t → n ≤ 1000000000 →
    Calls Try.prog 21 #[.agg cs.toArray] w fun e w' => e = .returned (.bool true) ∧ Below w.heap.size w w' := by
  intro n
  induction n with
  | zero => intro t cs w hn; rw [szT_eq] at hn; omega
  | succ n ih =>
    intro t cs w hn ht hg hn9
    obtain ⟨A, c, B, d, rfl, h1, h2, h3, h4, h5, h6⟩ := trC_iff.1 ht
    have hkl : t.kids.length ≤ 1000000001 := by have := kids_szT t; omega
    have htwo := (good_iff.1 hg).1.two
    have HS := Lib.hid (And.intro (good_iff.1 hg).2 (And.intro h6 (good_iff.1 hg).1.kid))
    clear hg ht h5 h6
    have hx := heap_new1 w (.cells #[.int .i64 t.op, .slice A t.kids.length c, .int .i32 t.rune, .slice B t.set.length d, .int .i64 t.at_, .int .i64 t.cap, .string t.name, .int .i64 t.mn, .int .i64 t.mx, .bool t.lz] 27)
    have hxb : Below w.heap.size w (w.alloc (.cells #[.int .i64 t.op, .slice A t.kids.length c, .int .i32 t.rune, .slice B t.set.length d, .int .i64 t.at_, .int .i64 t.cap, .string t.name, .int .i64 t.mn, .int .i64 t.mx, .bool t.lz] 27)) := below_al (Below.refl _ _) _
    have HX := Lib.hid (And.intro hx hxb)
    clear hx hxb
    have HT := Lib.hid htwo
    clear htwo
    go_enter Try.func21, Try.ntmps21
    go_wp2_with fail
    go_loopw [3] (fun s3 wr => LoopRel w [.int .i64 t.op, .slice A t.kids.length c, .int .i32 t.rune, .slice B t.set.length d, .int .i64 t.at_, .int .i64 t.cap, .string t.name, .int .i64 t.mn, .int .i64 t.mx, .bool t.lz] t.kids.length s3 wr) (fun s3 _ => t.kids.length - (intOf s3).toNat)
    case atStart => exact ⟨0, rfl, Nat.zero_le _, HX.out.2, HX.out.1⟩
    case round =>
      obtain ⟨j, rfl, hj, hBr, hbx⟩ := hrel
      obtain ⟨g0, g1, g2, g3, g4, g5, g6, g7, g8, g9⟩ := cells10 hbx
      have hn0 := heap_lt hbx
      by_cases hlt : j < t.kids.length
      · obtain ⟨ad, A1, c1, A3, c3, rfl, hTk, k0, k1, k2, k3, k4, k5, k6, k7, k8, k9⟩ := trArr_at HS.out.2.1 wr (fun b _ hb' => hBr.block b hb') j hlt
        have hkk := parts_kid hlt
        have hmem := List.getElem_mem hlt
        have hih := fun (W : World) (hW : Below wr.heap.size wr W) => ih t.kids[j] _ W (by unfold szT at *; omega) (hTk.move (fun b hb' hlt' => ⟨(hW.block b (by have := hBr.size; omega)).trans (hBr.block b hlt'), hb'⟩)) (HS.out.1 _ hmem) (by omega)
        obtain ⟨q1, q2, _⟩ := HS.out.2.2 _ hmem
        generalize t.kids[j] = kj at *
        have HB := Lib.hid (And.intro hBr hbx)
        have b1 : (kj.op == 1) = false := (by simpa using q1)
        clear hBr hbx hTk hkk hmem q1
        by_cases e11 : t.op = 11
        · have o11 : (t.op == 11) = true := (by rw [e11]; rfl)
          have b2 : (kj.op == 2) = false := (by simpa using (q2 e11).1)
          have b3 : (kj.op == 11) = false := (by simpa using (q2 e11).2)
          clear e11 q2
          go_wp2_with fail
          refine (hih _ (below_al (Below.refl _ _) _)).mono ?_
          clear hih g0 g1 g2 g3 g4 g5 g6 g7 g8 g9 k0 k1 k2 k3 k4 k5 k6 k7 k8 k9
          rintro e w1 ⟨rfl, hb1⟩
          dsimp only
          have hB1 := below_and hb1 (below_al (Below.refl _ _) _)
          have HZ := Lib.hid (And.intro ((hB1.block _ hn0).trans HB.out.2) (below_and hB1 HB.out.1))
          clear hb1 hB1
          go_wp2_with fail
          go_roundw
          case rel => exact ⟨j + 1, by go_num, by omega, HZ.out.2, HZ.out.1⟩
          case measure => simp [intOf]; omega
        · have o11 : (t.op == 11) = false := (by simpa using e11)
          clear e11 q2
          go_wp2_with fail
          refine (hih _ (below_al (Below.refl _ _) _)).mono ?_
          clear hih g0 g1 g2 g3 g4 g5 g6 g7 g8 g9 k0 k1 k2 k3 k4 k5 k6 k7 k8 k9
          rintro e w1 ⟨rfl, hb1⟩
          dsimp only
          have hB1 := below_and hb1 (below_al (Below.refl _ _) _)
          have HZ := Lib.hid (And.intro ((hB1.block _ hn0).trans HB.out.2) (below_and hB1 HB.out.1))
          clear hb1 hB1
          go_wp2_with fail
          go_roundw
          case rel => exact ⟨j + 1, by go_num, by omega, HZ.out.2, HZ.out.1⟩
          case measure => simp [intOf]; omega
      · obtain rfl : j = t.kids.length := by omega
        have HB := Lib.hid hBr
        clear hBr hbx
        by_cases e : t.op = 11 ∨ t.op = 12
        · have h2 := HT.out e
          have h2' : decide (1 < t.kids.length) = true := decide_eq_true h2
          have h3' : decide (1 < (t.kids.length : Int)) = true := decide_eq_true (by omega)
          rcases e with e | e
          · have o11 : (t.op != 11) = false := (by rw [e]; rfl)
            clear e
            go_wp2_with fail
            go_ret
            exact ⟨rfl, HB.out⟩
          · have o11 : (t.op != 11) = true := (by rw [e]; rfl)
            have o12 : (t.op != 12) = false := (by rw [e]; rfl)
            clear e
            go_wp2_with fail
            go_ret
            exact ⟨rfl, HB.out⟩
        · have o11 : (t.op != 11) = true := (by simp; omega)
          have o12 : (t.op != 12) = true := (by simp; omega)
          clear e
          go_wp2_with fail
          go_ret
          exact ⟨rfl, HB.out⟩
end Go.Proofs.Ytdnbholiijgedaa
namespace Go.Proofs.Ytdnbholiijgedaa
open Go.RowKit
set_option linter.unusedVariables false

theorem setLePw : ∀ (n : Nat) (t : Tr), (parts t).length ≤ n → (∀ p ∈ parts t, p.set.length ≤ pw t) ∧ (parts t).length ≤ pw t := by
  intro n
  induction n with
  | zero => intro t hn; rw [parts_eq] at hn; simp at hn
  | succ n ih =>
    intro t hn
    have hL : ∀ l : List Tr, (∀ k ∈ l, (parts k).length ≤ n) → (∀ p ∈ l.flatMap parts, p.set.length ≤ pwL l) ∧ (l.flatMap parts).length ≤ pwL l := by
      intro l
      induction l with
      | nil => intro _; simp [pwL]
      | cons x xs ihl =>
        intro hl
        obtain ⟨a1, a2⟩ := ih x (hl x (by simp))
        obtain ⟨b1, b2⟩ := ihl (fun k hk => hl k (by simp [hk]))
        rw [pwL, List.flatMap_cons, List.length_append]
        refine ⟨fun p hp => ?_, by omega⟩
        rcases List.mem_append.1 hp with hp | hp
        · have := a1 p hp; omega
        · have := b1 p hp; omega
    have hkids : ∀ k ∈ t.kids, (parts k).length ≤ n := fun k hk => by
      obtain ⟨i, hi, rfl⟩ := List.mem_iff_getElem.1 hk
      have := parts_kid hi
      omega
    obtain ⟨c1, c2⟩ := hL t.kids hkids
    rw [pw_eq, parts_eq, partsL_flat, List.length_cons]
    refine ⟨fun p hp => ?_, by omega⟩
    rcases List.mem_cons.1 hp with rfl | hp
    · omega
    · have := c1 p hp; omega

theorem flat_ge : ∀ l : List Tr, l.length ≤ (l.flatMap parts).length
  | [] => Nat.le_refl _
  | x :: l => by
    rw [List.flatMap_cons, List.length_append, List.length_cons, parts_eq x, List.length_cons]
    have := flat_ge l
    omega
theorem kids_le (t : Tr) : t.kids.length ≤ (parts t).length := by
  rw [parts_eq, partsL_flat, List.length_cons]
  have := flat_ge t.kids
  omega
theorem smallOf {t : Tr} {n : Nat} (h : pw t ≤ n) : ∀ p ∈ parts t, p.set.length ≤ n ∧ p.kids.length ≤ n := by
  intro p hp
  obtain ⟨h1, h2⟩ := setLePw _ t (Nat.le_refl _)
  have h3 := h1 p hp
  have h4 : (parts p).length ≤ (parts t).length := by
    have : ∀ (n : Nat) (t : Tr), (parts t).length ≤ n → ∀ p ∈ parts t, (parts p).length ≤ (parts t).length := by
      intro n
      induction n with
      | zero => intro t hn; rw [parts_eq] at hn; simp at hn
      | succ n ih =>
        intro t hn p hp
        rw [parts_eq] at hp
        rcases List.mem_cons.1 hp with rfl | hp
        · exact Nat.le_refl _
        · rw [partsL_flat] at hp
          obtain ⟨k, hk, hpk⟩ := List.mem_flatMap.1 hp
          obtain ⟨i, hi, rfl⟩ := List.getElem_of_mem hk
          have := parts_kid hi
          have := ih t.kids[i] (by omega) p hpk
          omega
    exact this _ t (Nat.le_refl _) p hp
  have := kids_le p
  exact ⟨by omega, by omega⟩
theorem smallT_of {t : Tr} {n : Nat} (h : pw t ≤ n) (hn : n ≤ 1000000) (hf : ∀ p ∈ parts t, FieldsW p) : SmallT t := by
  have h1 := smallOf h
  have h2 := (setLePw _ t (Nat.le_refl _)).2
  exact ⟨fun p hp => ⟨by have := (h1 p hp).1; omega, by have := (h1 p hp).2; omega, (hf p hp).2.1⟩, by unfold szT; omega⟩
theorem good_shaped {t : Tr} (h : GoodT t) : shapedB rightR t = true := by
  unfold shapedB
  rw [List.all_eq_true]
  intro p hp
  have hN := h p hp
  unfold goodP
  rw [plainF_iff.2 hN.pl]
  have hc := hN.cap
  simp
  omega
theorem TrC.drewN {ok : Nat → Prop} {w : World} {t : Tr} {cs : List Value} (h : TrC ok w t cs) : TrC ok w t cs := h
set_option maxRecDepth 100000 in
set_option maxHeartbeats 4000000 in
theorem simplifyPlain_any (ok : Nat → Prop) (w : World) (t : Tr) (cs : List Value) (ht : TrC ok w t cs) (hsm : ∀ p ∈ parts t, SmallP p) (hf : ∀ p ∈ parts t, FieldsW p) :
    Calls Try.prog 7 #[.agg cs.toArray] w fun e w' => e = .returned (.bool true) ∧ Below w.heap.size w w' := by
  have hmv : ∀ w1, Below w.heap.size w w1 → TrC (fun b => b < w.heap.size) w1 t cs := fun w1 hb => (ht.old.mono (fun b h => h.2)).move (fun b hok hlt => ⟨hb.block b hlt, hok⟩)
  have hpa := fun w1 hb => parts_any _ (parts t).length t cs 20000 w1 (Nat.le_refl _) (hmv w1 hb) hsm (by omega) (by omega)
  have hSi := fun w1 hb (hS : SmallT t) => Simple_any _ w1 t cs (hmv w1 hb) hS
  have hRi := fun w1 hb (hS : SmallT t) => hS.right _ w1 cs (hmv w1 hb)
  obtain ⟨A, c, B, d, rfl, _⟩ := trC_iff.1 ht
  clear ht hmv
  have HP := Lib.hid (And.intro hpa (And.intro hSi (And.intro hRi hf)))
  clear hpa hSi hRi hsm hf
  go_enter Try.func7, Try.ntmps7
  go_wp2_with fail
  refine (head10_any _).mono ?_
  rintro e w1 ⟨rfl, hb1⟩
  dsimp only
  have y1 := (hb1.block _ (by simp)).trans (heap_new1 w (.cells #[.int .i64 t.op, .slice A t.kids.length c, .int .i32 t.rune, .slice B t.set.length d, .int .i64 t.at_, .int .i64 t.cap, .string t.name, .int .i64 t.mn, .int .i64 t.mx, .bool t.lz] 27))
  have yb := below_and hb1 (below_al (Below.refl w.heap.size w) (.cells #[.int .i64 t.op, .slice A t.kids.length c, .int .i32 t.rune, .slice B t.set.length d, .int .i64 t.at_, .int .i64 t.cap, .string t.name, .int .i64 t.mn, .int .i64 t.mx, .bool t.lz] 27))
  clear hb1
  obtain ⟨g0, g1, g2, g3, g4, g5, g6, g7, g8, g9⟩ := cells10 y1
  have H1 := Lib.hid (And.intro y1 yb)
  clear y1 yb
  go_wp2_with fail
  refine (HP.out.1 _ H1.out.2).mono ?_
  clear g0 g1 g2 g3 g4 g5 g6 g7 g8 g9
  rintro e w2 ⟨r, rfl, ⟨hr0, hr1, hr2, hr3⟩, hb2⟩
  dsimp only
  have y2 := (hb2.block _ (heap_lt H1.out.1)).trans H1.out.1
  have yb := below_and hb2 H1.out.2
  clear hb2
  obtain ⟨g0, g1, g2, g3, g4, g5, g6, g7, g8, g9⟩ := cells10 y2
  have H2 := Lib.hid (And.intro y2 yb)
  clear y2 yb
  by_cases hr : r ≤ 20000
  · have hpw : pw t ≤ 20000 := by have := hr2 hr; omega
    have hS := smallT_of hpw (by omega) HP.out.2.2.2
    clear hr2 hr3 hpw
    have HS := Lib.hid hS
    clear hS
    go_wp2_with fail
    refine (HP.out.2.1 _ H2.out.2 HS.out).mono ?_
    clear g0 g1 g2 g3 g4 g5 g6 g7 g8 g9
    rintro e w3 ⟨c3, rfl, ht3, hb3⟩
    dsimp only
    have y3 := (hb3.block _ (heap_lt H2.out.1)).trans H2.out.1
    have yb := below_and hb3 H2.out.2
    have ht3' := ht3
    obtain ⟨A3, e3, B3, d3, rfl, _⟩ := trC_iff.1 ht3'
    clear hb3 ht3'
    obtain ⟨g0, g1, g2, g3, g4, g5, g6, g7, g8, g9⟩ := cells10 y3
    have hn3 := heap_lt y3
    have H3 := Lib.hid (And.intro y3 (And.intro yb ht3))
    clear y3 yb ht3
    go_wp2_with fail
    have hxb := below_al (Below.refl w3.heap.size w3) (.cells #[.int .i64 (simpR t).op, .slice A3 (simpR t).kids.length e3, .int .i32 (simpR t).rune, .slice B3 (simpR t).set.length d3, .int .i64 (simpR t).at_, .int .i64 (simpR t).cap, .string (simpR t).name, .int .i64 (simpR t).mn, .int .i64 (simpR t).mx, .bool (simpR t).lz] 27)
    have hxn := heap_new1 w3 (.cells #[.int .i64 (simpR t).op, .slice A3 (simpR t).kids.length e3, .int .i32 (simpR t).rune, .slice B3 (simpR t).set.length d3, .int .i64 (simpR t).at_, .int .i64 (simpR t).cap, .string (simpR t).name, .int .i64 (simpR t).mn, .int .i64 (simpR t).mx, .bool (simpR t).lz] 27)
    refine (HP.out.2.2.1 _ (below_and hxb H3.out.2.1) HS.out).mono ?_
    clear g0 g1 g2 g3 g4 g5 g6 g7 g8 g9
    rintro e w4 ⟨rfl, hb4⟩
    dsimp only
    have hB4 := below_and hb4 hxb
    have z4 := (hb4.block _ (heap_lt hxn)).trans hxn
    have ht4 := H3.out.2.2.move (w' := w4) (ok' := fun _ => True) (fun b hb hlt => ⟨hB4.block b hlt, trivial⟩)
    have hbw := below_and hB4 H3.out.2.1
    clear hb4 hxb hxn hB4
    obtain ⟨g0, g1, g2, g3, g4, g5, g6, g7, g8, g9⟩ := cells10 z4
    cases hrb : rightTB rightR t with
    | false =>
      have hT : simpR t = opT 0 [] false := by unfold simpR; rw [if_neg (by rw [hrb]; simp)]
      have o0 : ((simpR t).op == 0) = true := by rw [hT]; rfl
      have n0 : (((simpR t).kids.length : Int) == 0) = true := by rw [hT]; rfl
      have HZ := Lib.hid hbw
      clear hbw ht4 z4 hT hrb
      generalize simpR t = T at *
      go_wp2_with fail
      go_ret
      exact ⟨rfl, HZ.out⟩
    | true =>
      have hT : simpR t = simpleS t := by unfold simpR; rw [if_pos hrb]
      have hg := simpR_good HS.out hrb
      have hss := simpR_small HS.out hrb
      have hsz := simpR_size hrb
      rw [hT] at ht4 z4 g0 g1 g2 g3 g4 g5 g6 g7 g8 g9 ⊢
      generalize simpleS t = T at *
      clear hT H3 hrb
      have hsh := fun (W : World) (hW : Below w4.heap.size w4 W) => shaped_any rightR _ W T _ (ht4.move (w' := W) (ok' := fun _ => True) (fun b hb hlt => ⟨hW.block b hlt, trivial⟩)) (fun p hp _ => right_ok p.set (by have := (hss.1 p hp).1; omega))
      have hco := fun (W : World) (hW : Below w4.heap.size w4 W) => counted10_any _ _ T _ W (Nat.le_refl _) (ht4.move (w' := W) (ok' := fun _ => True) (fun b hb hlt => ⟨hW.block b hlt, trivial⟩)) hg (by omega)
      have hti := fun (W : World) (hW : Below w4.heap.size w4 W) => tidy_any _ _ T _ W (Nat.le_refl _) (ht4.move (w' := W) (ok' := fun _ => True) (fun b hb hlt => ⟨hW.block b hlt, trivial⟩)) hg (by omega)
      rw [good_shaped hg] at hsh
      have HC := Lib.hid (And.intro hsh (And.intro hco (And.intro hti (And.intro z4 hbw))))
      clear hsh hco hti z4 hbw hg hss hsz ht4
      go_wp2_with fail
      refine (HC.out.1 _ (Below.refl _ _)).mono ?_
      clear g0 g1 g2 g3 g4 g5 g6 g7 g8 g9
      rintro e w5 ⟨rfl, hb5⟩
      dsimp only
      have z5 := (hb5.block _ (heap_lt HC.out.2.2.2.1)).trans HC.out.2.2.2.1
      obtain ⟨g0, g1, g2, g3, g4, g5, g6, g7, g8, g9⟩ := cells10 z5
      have H5 := Lib.hid (And.intro z5 hb5)
      clear z5 hb5
      go_wp2_with fail
      refine (HC.out.2.1 _ H5.out.2).mono ?_
      clear g0 g1 g2 g3 g4 g5 g6 g7 g8 g9
      rintro e w6 ⟨rfl, hb6⟩
      dsimp only
      have z6 := (hb6.block _ (heap_lt H5.out.1)).trans H5.out.1
      obtain ⟨g0, g1, g2, g3, g4, g5, g6, g7, g8, g9⟩ := cells10 z6
      have H6 := Lib.hid (And.intro z6 (below_and hb6 H5.out.2))
      clear z6 hb6
      go_wp2_with fail
      refine (HC.out.2.2.1 _ H6.out.2).mono ?_
      clear g0 g1 g2 g3 g4 g5 g6 g7 g8 g9
      rintro e w7 ⟨rfl, hb7⟩
      dsimp only
      have H7 := Lib.hid (below_and (below_and hb7 H6.out.2) HC.out.2.2.2.2)
      clear hb7
      go_wp2_with fail
      go_ret
      exact ⟨rfl, H7.out⟩
  · clear hr2 hr3
    go_wp2_with fail
    go_ret
    exact ⟨rfl, H2.out.2⟩
end Go.Proofs.Ytdnbholiijgedaa
