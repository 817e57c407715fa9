/-
  The document's Prefix in memory; the program's Prefix at a tree that is not shaped; the law PrefixTrees, walked. No condition but the row's reach.
-/
import Derived.Test.YtdnbholiijgedaaDoorRef2
import Derived.Test.YtdnbholiijgedaaDoorParts
import Derived.Test.YtdnbholiijgedaaDoorHead
namespace Go.Proofs.YtdnbholiijgedaaDoor
open Go.RowKit Go.Proofs.YtdnbholiijgedaaDoor.PPrefix Go.Proofs.YtdnbholiijgedaaDoorW.PrintWords
set_option linter.unusedVariables false

theorem c_of_arr {α β : Type} {d : Kd β} {f : α → β} {E : α → List Value → Prop} {ok : Nat → Prop} {w : World} {A : Option Addr} {l : List α} (h : Arr ok w d.sz E A l) (hE : ∀ x ∈ l, ∀ cs, E x cs → d.K w (f x) cs) (hn : l.length ≤ 9223372036854775807) : d.C w A l.length (l.map f) := by
  refine ⟨by simp, hn, fun h0 => ?_⟩
  obtain ⟨ad, _, hA, _⟩ := h 0 _ (List.getElem?_eq_getElem h0)
  refine ⟨ad, hA, fun j p hp => ?_⟩
  rw [List.getElem?_map, Option.map_eq_some_iff] at hp
  obtain ⟨x, hx, rfl⟩ := hp
  obtain ⟨ad2, cs, hA2, _, hc, hl, hr⟩ := h j x hx
  rw [hA] at hA2
  cases hA2
  exact ⟨cs, hl, hE x (List.mem_of_getElem? hx) cs hc, hr⟩
theorem c_rg {ok : Nat → Prop} {w : World} {A : Option Addr} {l : List Rg} (h : Arr ok w 2 RgC A l) (hn : l.length ≤ 9223372036854775807) : Kd.C k84 w A l.length (l.map toR) :=
  c_of_arr (d := k84) h (fun x _ cs hc => by rw [hc]; exact k84_mk w (toR x)) hn
theorem k_tr {ok : Nat → Prop} {w : World} : ∀ (n : Nat) (t : Tr) (cs : List Value), (parts t).length ≤ n → (∀ p ∈ parts t, PartW p) → TrC ok w t cs → k27.K w (toS t) cs := by
  intro n
  induction n with
  | zero => intro t cs hn; rw [parts_eq] at hn; simp at hn
  | succ n ih =>
    intro t cs hn hw ht
    obtain ⟨w1, w2, w3⟩ := hw t (mem_parts_self t)
    obtain ⟨A, c, B, d, rfl, h1, h2, h3, h4, h5, h6⟩ := trC_iff.1 ht
    have hk : Kd.C k27 w A t.kids.length (t.kids.map toS) := c_of_arr (d := k27) h6 (fun x hx cs hc => by
      obtain ⟨i, hi, rfl⟩ := List.mem_iff_getElem.1 hx
      have hkk := parts_kid hi
      exact ih _ _ (by omega) (fun p hp => hw p (mem_parts_kid hi hp)) hc) (by omega)
    have hs := c_rg h5 (by omega)
    have hm := k27_mk w (toS t) (A1 := A) (c1 := c) (A3 := B) (c3 := d)
    rw [toS_eq] at hm ⊢
    simp only [List.length_map] at hm
    exact hm h1 hk h3 hs
/-- The document's Prefix. -/
def RefPost (t : Tr) (w : World) (e : Ending) (w' : World) : Prop := ∃ A c, e = .returned (.tuple #[.slice A (prefixOf t).1.length c, .bool (prefixOf t).2]) ∧ Arr (fun _ => True) w' 1 (IntC .i32) A (prefixOf t).1 ∧ Below w.heap.size w w'
theorem ref_prefix (ok : Nat → Prop) (w : World) (t : Tr) (cs : List Value) (ht : TrC ok w t cs) (hw : ∀ p ∈ parts t, PartW p) (hN : (parts t).length ≤ 1000000000) :
    Calls Tryd.prog 10 #[.agg cs.toArray] w (RefPost t w) := by
  obtain ⟨k, hk⟩ := refPrefix_ev t hN hw
  obtain ⟨w1, w2, w3⟩ := hw t (mem_parts_self t)
  obtain ⟨A, c, B, d, rfl, h1, h2, h3, h4, h5, h6⟩ := trC_iff.1 ht
  have hkc : Kd.C k27 w A t.kids.length (t.kids.map toS) := c_of_arr (d := k27) h6 (fun x hx cs hc => by
    obtain ⟨i, hi, rfl⟩ := List.mem_iff_getElem.1 hx
    exact k_tr _ _ _ (Nat.le_refl _) (fun p hp => hw p (mem_parts_kid hi hp)) hc) (by omega)
  have hs := c_rg h5 (by omega)
  have h := martelloref14_Prefix.calls k t.op A c (t.kids.map toS) t.rune B d (t.set.map toR) t.at_ t.cap t.name t.mn t.mx t.lz (prefixOf t).1 (prefixOf t).2 w
    (by rw [List.length_map]; exact hkc) (by rw [List.length_map]; exact h1) (by rw [List.length_map]; exact hs) (by rw [List.length_map]; exact h3) hk
  rw [List.length_map, List.length_map] at h
  refine h.mono fun e w' ⟨v, he, hr, hb⟩ => ?_
  obtain ⟨A2, c2, rfl, _, _, _, hc⟩ := Kd.R_reads hr
  refine ⟨A2, c2, he, fun i x hx => ?_, hb⟩
  have hil := (List.getElem?_eq_some_iff.1 hx).1
  obtain ⟨ad, hA, hq⟩ := hc (by omega)
  obtain ⟨cs, hl, hcs, hcell⟩ := hq i x hx
  exact ⟨ad, cs, hA, trivial, hcs, hl, hcell⟩

set_option maxHeartbeats 400000 in
/-- prefix.Prefix of what is no tree. -/
theorem prefix_no (R : List Rg → Bool) (w : World) (ok : Nat → Prop) (t : Tr) (cs : List Value) (ht : TrC ok w t cs) (hR : ∀ p ∈ parts t, p.op = 4 → RightOK R p.set) (hs : shapedB R t = false) :
    Calls Tryd.prog 9 #[.agg cs.toArray] w fun e w' => e = .returned (.tuple #[.slice none 0 0, .bool false]) ∧ Below w.heap.size w w' := by
  have hsh := shaped_any R ok (w.alloc (.cells cs.toArray 27)) t cs (ht.move (fun b hb hlt => ⟨Below.heap_alloc _ _ _ hlt, hb⟩)) hR
  rw [hs] at hsh
  obtain ⟨A, c, B, d, rfl, _⟩ := trC_iff.1 ht
  clear ht hR hs
  go_enter Tryd.func9, Tryd.ntmps9
  go_wp2_with fail
  refine hsh.mono ?_
  rintro e w1 ⟨rfl, hb1⟩
  have HB := Lib.hid hb1
  clear hb1 hsh
  go_wp2_with fail
  go_ret2
  exact ⟨rfl, below_and HB.out (below_al (Below.refl _ _) _)⟩

/-- prefix.Prefix of whatever tree. -/
theorem prefix_any (w : World) (ok : Nat → Prop) (t : Tr) (cs : List Value) (ht : TrC ok w t cs) (hR : ∀ p ∈ parts t, p.op = 4 → RightOK rightR p.set) (hN : (parts t).length ≤ 1000000000) :
    Calls Tryd.prog 9 #[.agg cs.toArray] w (RefPost t w) := by
  by_cases hs : shapedB rightR t = true
  · refine (prefix_yes rightR w ok t cs ht hR hs hN).mono fun e w' ⟨v, he, ho, hb⟩ => ?_
    rw [List.nil_append] at ho
    obtain ⟨A3, c3, rfl, _, _⟩ := Owns.shape ho
    rw [List.length_map] at he ho
    have hp : prefixOf t = pfx t := by unfold prefixOf; rw [if_pos hs]
    refine ⟨A3, c3, by rw [hp]; exact he, ?_, hb⟩
    rw [hp]
    exact (ownI_arr ho).move (fun b _ _ => ⟨rfl, trivial⟩) (by omega)
  · have hs' : shapedB rightR t = false := by simpa using hs
    refine (prefix_no rightR w ok t cs ht hR hs').mono fun e w' ⟨he, hb⟩ => ?_
    have hp : prefixOf t = ([], false) := by unfold prefixOf; rw [if_neg hs]
    exact ⟨none, 0, by rw [hp]; exact he, by rw [hp]; exact Arr.nil, hb⟩

theorem set_le_pw : ∀ (n : Nat) (t : Tr), (parts t).length ≤ n → (∀ p ∈ parts t, p.set.length ≤ pw t) ∧ (parts t).length ≤ pw t := by
  intro n
  induction n with
  | zero => intro t hn; rw [parts_eq] at hn; simp at hn
  | succ n ih =>
    intro t hn
    have hL : ∀ l : List Tr, (∀ k ∈ l, (parts k).length ≤ n) → (∀ p ∈ l.flatMap parts, p.set.length ≤ pwL l) ∧ (l.flatMap parts).length ≤ pwL l := by
      intro l
      induction l with
      | nil => intro _; simp [pwL]
      | cons x xs ihl =>
        intro hl
        obtain ⟨a1, a2⟩ := ih x (hl x (by simp))
        obtain ⟨b1, b2⟩ := ihl (fun k hk => hl k (by simp [hk]))
        rw [pwL, List.flatMap_cons, List.length_append]
        refine ⟨fun p hp => ?_, by omega⟩
        rcases List.mem_append.1 hp with hp | hp
        · have := a1 p hp; omega
        · have := b1 p hp; omega
    have hkids : ∀ k ∈ t.kids, (parts k).length ≤ n := fun k hk => by
      obtain ⟨i, hi, rfl⟩ := List.mem_iff_getElem.1 hk
      have := parts_kid hi
      omega
    obtain ⟨c1, c2⟩ := hL t.kids hkids
    rw [pw_eq, parts_eq, partsL_flat, List.length_cons]
    refine ⟨fun p hp => ?_, by omega⟩
    rcases List.mem_cons.1 hp with rfl | hp
    · omega
    · have := c1 p hp; omega

set_option maxRecDepth 100000 in
set_option maxHeartbeats 1000000 in
theorem prefixTrees_any (ok : Nat → Prop) (w : World) (t : Tr) (cs : List Value) (ht : TrC ok w t cs) (hw : ∀ p ∈ parts t, PartW p) :
    Calls Tryd.prog 3 #[.agg cs.toArray] w fun e w' => e = .returned (.bool true) ∧ Below w.heap.size w w' := by
  have hsm : ∀ p ∈ parts t, SmallP p := fun p hp => (hw p hp).2
  have hmv : ∀ w1, Below w.heap.size w w1 → TrC ok w1 t cs := fun w1 hb => ht.move (fun b hok hlt => ⟨hb.block b hlt, hok⟩)
  have hpa := fun w1 hb => parts_any ok (parts t).length t cs 30000 w1 (Nat.le_refl _) (hmv w1 hb) hsm (by omega) (by omega)
  have hle := set_le_pw _ t (Nat.le_refl _)
  obtain ⟨A, c, B, d, hcs, _⟩ := trC_iff.1 ht
  have HH := Lib.hid (And.intro hmv (And.intro hle hw))
  clear hmv hle hw hsm ht
  subst hcs
  have hhd := head_any (w.alloc (.cells #[.int .i64 t.op, .slice A t.kids.length c, .int .i32 t.rune, .slice B t.set.length d, .int .i64 t.at_, .int .i64 t.cap, .string t.name, .int .i64 t.mn, .int .i64 t.mx, .bool t.lz] 27))
  have hn1 := heap_new1 w (.cells #[.int .i64 t.op, .slice A t.kids.length c, .int .i32 t.rune, .slice B t.set.length d, .int .i64 t.at_, .int .i64 t.cap, .string t.name, .int .i64 t.mn, .int .i64 t.mx, .bool t.lz] 27)
  have hhd2 := hhd.mono (R' := fun e w1 => e = .returned (.bool true) ∧ Below w.heap.size w w1 ∧ w1.heap[w.heap.size]? = some (.cells #[.int .i64 t.op, .slice A t.kids.length c, .int .i32 t.rune, .slice B t.set.length d, .int .i64 t.at_, .int .i64 t.cap, .string t.name, .int .i64 t.mn, .int .i64 t.mx, .bool t.lz] 27 (0, 0)))
    (fun e w1 h => ⟨h.1, below_and h.2 (below_al (Below.refl _ _) _), (h.2.block _ (heap_lt hn1)).trans hn1⟩)
  clear hhd hn1
  go_enter Tryd.func3, Tryd.ntmps3
  go_wp2_with fail
  refine hhd2.mono ?_
  rintro e w1 ⟨rfl, hb1, hx1⟩
  clear hhd2
  obtain ⟨g0, g1, g2, g3, g4, g5, g6, g7, g8, g9⟩ := cells10 hx1
  have hp1 := (hpa w1 hb1).mono (R' := fun e w2 => ∃ r : Int, e = .returned (.int .i64 r) ∧ PartsR t 30000 r ∧ Below w.heap.size w w2 ∧ w2.heap[w.heap.size]? = some (.cells #[.int .i64 t.op, .slice A t.kids.length c, .int .i32 t.rune, .slice B t.set.length d, .int .i64 t.at_, .int .i64 t.cap, .string t.name, .int .i64 t.mn, .int .i64 t.mx, .bool t.lz] 27 (0, 0)))
    (fun e w2 ⟨r, h1, h2, h3⟩ => ⟨r, h1, h2, hb1.trans (h3.mono hb1.size), (h3.block _ (heap_lt hx1)).trans hx1⟩)
  clear hpa hb1 hx1
  go_wp2_with fail
  refine hp1.mono ?_
  rintro e w2 ⟨r, rfl, ⟨hr0, hr1, hr2, hr3⟩, hb2, hx2⟩
  clear hp1 g0 g1 g2 g3 g4 g5 g6 g7 g8 g9
  obtain ⟨g0, g1, g2, g3, g4, g5, g6, g7, g8, g9⟩ := cells10 hx2
  by_cases hr : r ≤ 30000
  · have hpw : pw t ≤ 30000 := by have := hr2 hr; omega
    clear hr2 hr3
    obtain ⟨hmv, ⟨hle1, hle2⟩, hw⟩ := HH.out
    have hpr := (prefix_any w2 ok t _ (hmv w2 hb2) (fun p hp _ => right_ok p.set (by have := hle1 p hp; omega)) (by omega)).mono
      (R' := fun e w3 => ∃ A3 c3, e = .returned (.tuple #[.slice A3 (prefixOf t).1.length c3, .bool (prefixOf t).2]) ∧ Arr (fun _ => True) w3 1 (IntC .i32) A3 (prefixOf t).1 ∧ Below w.heap.size w w3 ∧ w3.heap[w.heap.size]? = some (.cells #[.int .i64 t.op, .slice A t.kids.length c, .int .i32 t.rune, .slice B t.set.length d, .int .i64 t.at_, .int .i64 t.cap, .string t.name, .int .i64 t.mn, .int .i64 t.mx, .bool t.lz] 27 (0, 0)))
      (fun e w3 ⟨A3, c3, h1, h2, h3⟩ => ⟨A3, c3, h1, h2, hb2.trans (h3.mono hb2.size), (h3.block _ (heap_lt hx2)).trans hx2⟩)
    have hl3 : (prefixOf t).1.length ≤ 9223372036854775807 := by
      unfold prefixOf
      split
      · have := pfx_len t; omega
      · simp
    clear hmv hle1 hle2 hw hx2 hb2
    go_wp2_with fail
    refine hpr.mono ?_
    rintro e w3 ⟨A3, c3, rfl, ha3, hb3, hx3⟩
    clear hpr g0 g1 g2 g3 g4 g5 g6 g7 g8 g9
    obtain ⟨g0, g1, g2, g3, g4, g5, g6, g7, g8, g9⟩ := cells10 hx3
    obtain ⟨hmv, ⟨hle1, hle2⟩, hw⟩ := HH.out
    have hpr := (ref_prefix ok w3 t _ (hmv w3 hb3) hw (by omega)).mono
      (R' := fun e w4 => ∃ A4 c4, e = .returned (.tuple #[.slice A4 (prefixOf t).1.length c4, .bool (prefixOf t).2]) ∧ Arr (fun _ => True) w4 1 (IntC .i32) A4 (prefixOf t).1 ∧ Arr (fun _ => True) w4 1 (IntC .i32) A3 (prefixOf t).1 ∧ Below w.heap.size w w4)
      (fun e w4 ⟨A4, c4, h1, h2, h3⟩ => ⟨A4, c4, h1, h2, ha3.move (fun b _ hlt => ⟨h3.block b hlt, trivial⟩) (by omega), hb3.trans (h3.mono hb3.size)⟩)
    clear hmv hle1 hle2 hw hx3 hb3 ha3
    generalize prefixOf t = pp at *
    obtain ⟨l, x⟩ := pp
    simp only at hpr hl3 ⊢
    have hbb : (x == x) = true := by simp
    go_wp2_with fail
    refine hpr.mono ?_
    rintro e w4 ⟨A4, c4, rfl, ha4, ha5, hb4⟩
    clear hpr g0 g1 g2 g3 g4 g5 g6 g7 g8 g9
    have hs := same_any w4 _ _ A3 A4 c3 c4 l l ha5 ha4 hl3 hl3
    rw [decide_eq_true (rfl : l = l)] at hs
    have H4 := Lib.hid hb4
    clear ha4 ha5 hb4
    go_wp2_with (go_at_call 11; refine hs.mono ?_; rintro e w5 ⟨rfl, nq, rfl⟩)
    go_ret
    exact ⟨rfl, below_drewN H4.out nq⟩
  · have HB := Lib.hid hb2
    clear hr2 hr3 hb2 hx2
    go_wp2_with fail
    go_ret
    exact ⟨rfl, HB.out⟩
end Go.Proofs.YtdnbholiijgedaaDoor
