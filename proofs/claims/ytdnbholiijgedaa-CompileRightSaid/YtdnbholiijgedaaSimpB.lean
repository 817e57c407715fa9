/-
  simplify: moves, kept. No condition.
-/
import Derived.Test.YtdnbholiijgedaaSimpA
namespace Go.Proofs.Ytdnbholiijgedaa
open Go.RowKit
set_option linter.unusedVariables false

def movesB (t : Tr) : Bool := (parts t).any (fun p => [3, 4].contains p.op)
theorem moves_step (t : Tr) : movesB t = ([3, 4].contains t.op || t.kids.any movesB) := by
  unfold movesB
  rw [parts_eq, List.any_cons, partsL_flat, List.any_flatMap]
set_option maxRecDepth 100000 in
set_option maxHeartbeats 1000000 in
theorem moves_any (ok : Nat → Prop) : ∀ (n : Nat) (t : Tr) (cs : List Value) (w : World), (parts t).length ≤ n → TrC ok w t cs → (∀ p ∈ parts t, p.kids.length ≤ 140737488351232) →
    Calls Try.prog 65 #[.agg cs.toArray] w fun e w' => e = .returned (.bool (movesB t)) ∧ Below w.heap.size w w' := by
  intro n
  induction n with
  | zero => intro t cs w hn; rw [parts_eq] at hn; simp at hn
  | succ n ih =>
    intro t cs w hn ht hs
    have hst := moves_step t
    have hkn := hs t (mem_parts_self t)
    obtain ⟨A, c, B, d, rfl, h1, h2, h3, h4, h5, h6⟩ := trC_iff.1 ht
    have hco := fun (W : World) (hW : Below w.heap.size w W) => contains_moves ok W A c t.kids movesB (h6.move (fun b hb hlt => ⟨hW.block b hlt, hb⟩) (by omega) |>.weak (fun x _ cs hx => hx.move (fun b hb hlt => ⟨hW.block b hlt, hb⟩))) hkn
      (fun k hk cs W2 hW2 hT => by
        obtain ⟨i, hi, rfl⟩ := List.getElem_of_mem hk
        have := parts_kid hi
        exact ih _ cs W2 (by omega) hT (fun p hp => hs p (mem_parts_kid hi hp)))
    have his := fun (W : World) (g : Nat) hg => is_lit W t A c B d [3, 4] g 2 rfl hg (by simp)
    unfold treeC at his
    generalize movesB t = C at *
    generalize t.kids.any movesB = D at *
    generalize ([3, 4] : List Int).contains t.op = E at *
    clear ih hs hn ht h5 h6
    have hx := (below_al (Below.refl (w.alloc (.cells #[.int .i64 t.op, .slice A t.kids.length c, .int .i32 t.rune, .slice B t.set.length d, .int .i64 t.at_, .int .i64 t.cap, .string t.name, .int .i64 t.mn, .int .i64 t.mx, .bool t.lz] 27)).heap.size (w.alloc (.cells #[.int .i64 t.op, .slice A t.kids.length c, .int .i32 t.rune, .slice B t.set.length d, .int .i64 t.at_, .int .i64 t.cap, .string t.name, .int .i64 t.mn, .int .i64 t.mx, .bool t.lz] 27))) (.cells #[.int .i64 3, .int .i64 4] 22))
    go_enter Try.func65, Try.ntmps65
    go_wp2_with fail
    refine (his _ _ (heap_new2 _ _ _)).mono ?_
    clear his
    rintro e w1 ⟨rfl, hb1⟩
    have yb := below_and hb1 (below_al (below_al (Below.refl w.heap.size w) (.cells #[.int .i64 t.op, .slice A t.kids.length c, .int .i32 t.rune, .slice B t.set.length d, .int .i64 t.at_, .int .i64 t.cap, .string t.name, .int .i64 t.mn, .int .i64 t.mx, .bool t.lz] 27)) _)
    have yt := (hb1.block w.heap.size (by simp; omega)).trans ((Below.heap_alloc _ _ _ (by simp)).trans (heap_new1 w (.cells #[.int .i64 t.op, .slice A t.kids.length c, .int .i32 t.rune, .slice B t.set.length d, .int .i64 t.at_, .int .i64 t.cap, .string t.name, .int .i64 t.mn, .int .i64 t.mx, .bool t.lz] 27)))
    obtain ⟨g0, g1, g2, g3, g4, g5, g6, g7, g8, g9⟩ := cells10 yt
    have HB := Lib.hid yb
    clear hb1 hx yb yt
    dsimp only
    cases E with
    | true =>
      subst hst
      go_wp2_with fail
      go_ret
      exact ⟨rfl, HB.out⟩
    | false =>
      subst hst
      go_wp2_with fail
      refine (hco _ HB.out).mono ?_
      clear hco
      rintro e w2 ⟨rfl, hb2⟩
      have HC := Lib.hid (below_and hb2 HB.out)
      clear hb2
      dsimp only
      go_wp2_with fail
      go_ret
      exact ⟨rfl, HC.out⟩

/-- Trees, as their cells lie. -/
def TsC (ok : Nat → Prop) (w : World) (ts : List Tr) (css : List (List Value)) : Prop := css.length = ts.length ∧ ∀ (i : Nat) (p : Tr) (c : List Value), ts[i]? = some p → css[i]? = some c → TrC ok w p c
theorem TsC.nil (ok : Nat → Prop) (w : World) : TsC ok w [] [] := ⟨rfl, fun i p c h => by simp at h⟩
theorem TsC.one {ok : Nat → Prop} {w : World} {t : Tr} {c : List Value} (h : TrC ok w t c) : TsC ok w [t] [c] := ⟨rfl, fun i p c' hp hc => by
  have hi : i < 1 := (List.getElem?_eq_some_iff.1 hp).1
  obtain rfl : i = 0 := by omega
  simp at hp hc
  subst hp; subst hc; exact h⟩
theorem TsC.app {ok : Nat → Prop} {w : World} {a b : List Tr} {x y : List (List Value)} (h : TsC ok w a x) (k : TsC ok w b y) : TsC ok w (a ++ b) (x ++ y) := by
  refine ⟨by rw [List.length_append, List.length_append, h.1, k.1], fun i p c hp hc => ?_⟩
  by_cases hi : i < a.length
  · rw [List.getElem?_append_left hi] at hp
    rw [List.getElem?_append_left (by rw [h.1]; exact hi)] at hc
    exact h.2 i p c hp hc
  · rw [List.getElem?_append_right (by omega)] at hp
    rw [List.getElem?_append_right (by rw [h.1]; omega), h.1] at hc
    exact k.2 _ p c hp hc
theorem TsC.move {ok ok' : Nat → Prop} {w w' : World} {ts : List Tr} {css : List (List Value)} (h : TsC ok w ts css) (hm : ∀ b, ok b → b < w.heap.size → w'.heap[b]? = w.heap[b]? ∧ ok' b) : TsC ok' w' ts css := ⟨h.1, fun i p c hp hc => (h.2 i p c hp hc).move hm⟩
theorem TsC.len {ok : Nat → Prop} {w : World} {ts : List Tr} {css : List (List Value)} (h : TsC ok w ts css) : ∀ c ∈ css, c.length = 10 := fun c hc => by
  obtain ⟨i, hi, rfl⟩ := List.getElem_of_mem hc
  have hi' : i < ts.length := by rw [← h.1]; exact hi
  exact (h.2 i ts[i] css[i] (List.getElem?_eq_getElem hi') (List.getElem?_eq_getElem hi)).len
theorem trC_cells {ok : Nat → Prop} {w : World} {t : Tr} {c : List Value} (h : TrC ok w t c) : ∀ u ∈ c, u.oneCell' = true := by
  obtain ⟨A, c, B, d, rfl, _⟩ := trC_iff.1 h
  intro u hu
  simp at hu
  rcases hu with rfl | rfl | rfl | rfl | rfl | rfl | rfl | rfl | rfl | rfl <;> rfl
/-- An own list of trees, handed on as an argument. -/
theorem TsC.arr {ok : Nat → Prop} {w : World} {base : Nat} {A : Option Addr} {n c : Nat} {css : List (List Value)} {ts : List Tr} (ho : Owns w base 27 10 (.slice A n c) css) (h : TsC ok w ts css) : Arr (fun b => ok b ∨ base ≤ b) w 10 (TrC (fun b => ok b ∨ base ≤ b) w) A ts :=
  Owns.arr ho h.1.symm (fun i x c hx hc => (h.2 i x c hx hc).mono (fun b hb => .inl hb)) (fun a ha => .inr (by
    subst ha
    have := (ho.lt a.block rfl).1
    exact this))
def KeptPost (ok : Nat → Prop) (ts : List Tr) (w : World) (e : Ending) (w' : World) : Prop := ∃ v css, e = .returned v ∧ Owns w' w.heap.size 27 10 v css ∧ TsC (fun b => ok b ∧ b < w.heap.size) w' ts css ∧ Below w.heap.size w w'
theorem infoTr2 : (Try.prog.info? 27).map (fun i => (i.zero, i.size, i.bytes)) = some (some (.agg #[.int .i64 0, .slice none 0 0, .int .i32 0, .slice none 0 0, .int .i64 0, .int .i64 0, .string ⟨#[]⟩, .int .i64 0, .int .i64 0, .bool false]), 10, 120) := by kernel_rfl
set_option maxRecDepth 100000 in
set_option maxHeartbeats 2000000 in
theorem kept_simple1 (ok : Nat → Prop) (w : World) (A : Option Addr) (c : Nat) (kids : List Tr) (h6 : Arr ok w 10 (TrC ok w) A kids) (hN : kids.length ≤ 1000000000) :
    Calls Try.prog 43 #[.slice A kids.length c, .func (.func 44) #[] #[]] w (KeptPost ok (kids.filter (fun t => !(t.op == 1))) w) := by
  have HE := Lib.hid h6
  clear h6
  have hIr := infoTr2
  obtain ⟨i0, hi0, hxx⟩ := Option.map_eq_some_iff.1 hIr
  simp only [Prod.mk.injEq] at hxx
  obtain ⟨hz0, hz1, hz2⟩ := hxx
  clear hIr
  go_enter Try.func43, Try.ntmps43
  go_wp2_with fail
  go_loopw [5, 10] (fun s5 s10 wr => ∃ (j : Nat) (css : List (List Value)), s10 = .int .i64 j ∧ j ≤ kids.length ∧ Owns wr w.heap.size 27 10 s5 css ∧ TsC (fun b => ok b ∧ b < w.heap.size) wr ((kids.take j).filter (fun t => !(t.op == 1))) css ∧ Below w.heap.size w wr) (fun _ s10 _ => kids.length - (intOf s10).toNat)
  case atStart => exact ⟨0, [], rfl, Nat.zero_le _, Owns.nil _ _ _ _, TsC.nil _ _, Below.refl _ _⟩
  case round =>
    obtain ⟨j, css, rfl, hj, hown, hts, hBr⟩ := hrel
    obtain ⟨A9, c9, rfl, q1, q2⟩ := Owns.shape hown
    have hcl : css.length ≤ j := by
      have h1 := List.length_filter_le (fun t : Tr => !(t.op == 1)) (kids.take j)
      rw [List.length_take] at h1
      have := hts.1
      omega
    by_cases hlt : j < kids.length
    · obtain ⟨ad, A1, c1, A3, c3, rfl, hTk, k0, k1, k2, k3, k4, k5, k6, k7, k8, k9⟩ := trArr_at HE.out wr (fun b _ hb' => hBr.block b hb') j hlt
      have hTo : TrC (fun b => ok b ∧ b < w.heap.size) wr kids[j] _ := TrC.move (fun b hb hlt' => ⟨hBr.block b hb.2, hb⟩) hTk.old
      have hfn := fun (W : World) (hW : Below w.heap.size wr W) => simple1_any W kids[j] _ _ (hTo.move (fun b hb hlt' => ⟨hW.block b hb.2, hb⟩))
      have hsT : (!(kids[j].op == 1)) = true → (kids.take (j + 1)).filter (fun t => !(t.op == 1)) = (kids.take j).filter (fun t => !(t.op == 1)) ++ [kids[j]] := fun h => by
        rw [List.take_succ_eq_append_getElem hlt, List.filter_append, List.filter_cons, List.filter_nil, if_pos h]
      have hsF : (!(kids[j].op == 1)) = false → (kids.take (j + 1)).filter (fun t => !(t.op == 1)) = (kids.take j).filter (fun t => !(t.op == 1)) := fun h => by
        rw [List.take_succ_eq_append_getElem hlt, List.filter_append, List.filter_cons, List.filter_nil, if_neg (by rw [h]; simp), List.append_nil]
      generalize kids[j] = kj at *
      cases hq : !(kj.op == 1) with
      | true =>
        rw [hq] at hfn
        have hsn := hsT hq
        clear hsT hsF
        have HB := Lib.hid (And.intro hown (And.intro hts (And.intro hBr (And.intro hTo hsn))))
        clear hown hts hBr hTo hTk hsn hq
        go_wp2_with fail
        refine (hfn _ ((Below.refl _ _).alloc (HB.out.2.2.1.size) _)).mono ?_
        clear hfn k0 k1 k2 k3 k4 k5 k6 k7 k8 k9
        rintro e w1 ⟨rfl, hb1⟩
        dsimp only
        obtain ⟨hown, hts, hBr, hTo, hsn⟩ := HB.out
        have eb := below_al (Below.refl wr.heap.size wr) (.cells #[.int .i64 kj.op, .slice A1 kj.kids.length c1, .int .i32 kj.rune, .slice A3 kj.set.length c3, .int .i64 kj.at_, .int .i64 kj.cap, .string kj.name, .int .i64 kj.mn, .int .i64 kj.mx, .bool kj.lz] 27)
        have yx := (hb1.block _ (by simp)).trans (heap_new1 wr (.cells #[.int .i64 kj.op, .slice A1 kj.kids.length c1, .int .i32 kj.rune, .slice A3 kj.set.length c3, .int .i64 kj.at_, .int .i64 kj.cap, .string kj.name, .int .i64 kj.mn, .int .i64 kj.mx, .bool kj.lz] 27))
        obtain ⟨g0, g1, g2, g3, g4, g5, g6, g7, g8, g9⟩ := cells10 yx
        have hb2 := below_and hb1 eb
        have ho1 := hown.below hb2
        have hs1 := hb2.size
        have hss := hBr.size
        have ht1 : TsC (fun b => ok b ∧ b < w.heap.size) w1 _ css := hts.move (fun b hb hlt' => ⟨hb2.block b hlt', hb⟩)
        have hT1 : TrC (fun b => ok b ∧ b < w.heap.size) w1 kj _ := hTo.move (fun b hb hlt' => ⟨hb2.block b hlt', hb⟩)
        have HC := Lib.hid (And.intro ht1 (And.intro hT1 (And.intro (below_and hb2 hBr) hsn)))
        have HO := Lib.hid ho1
        clear hown hts hBr hTo hsn eb yx hb2 ht1 hT1 hb1 ho1
        go_wp2_with (at_builtin; refine wpList_app1 rfl _ _ 23 rfl w.heap.size 27 i0 _ 10 120 Try.underlying23 hi0 hz0 hz1 hz2 rfl (by decide) _ css rfl (HO.out.alloc _) _ [.int .i64 kj.op, .slice A1 kj.kids.length c1, .int .i32 kj.rune, .slice A3 kj.set.length c3, .int .i64 kj.at_, .int .i64 kj.cap, .string kj.name, .int .i64 kj.mn, .int .i64 kj.mx, .bool kj.lz] rfl rfl (heap_new1 _ _) ?c2 ?c3 ?c4 ?c5 ?_)
        case c2 => exact trC_cells HC.out.2.1
        case c3 => unfold maxLen; omega
        case c4 => omega
        case c5 => simp; omega
        intro v4 w4 hown4 hgrow
        obtain ⟨ht1, hT1, hB1, hsn⟩ := HC.out
        have hB2 := below_al hB1 (.cells #[.int .i64 kj.op, .slice A1 kj.kids.length c1, .int .i32 kj.rune, .slice A3 kj.set.length c3, .int .i64 kj.at_, .int .i64 kj.cap, .string kj.name, .int .i64 kj.mn, .int .i64 kj.mx, .bool kj.lz] 27)
        have hB4 := hB2.grown hgrow (by simp; omega) (fun k e => (HO.out.lt k e).1)
        have hT4 : TsC (fun b => ok b ∧ b < w.heap.size) w4 _ _ := (ht1.app (TsC.one hT1)).move (fun b hb hlt' => ⟨(hgrow.block b (by simp; omega) (fun e => by have := (HO.out.lt _ e.symm).1; omega)).trans (Below.heap_alloc _ _ _ hlt'), hb⟩)
        rw [← hsn] at hT4
        have H4 := Lib.hid (And.intro hown4 (And.intro hT4 hB4))
        clear ht1 hT1 hB1 hB2 hB4 hT4 hown4 hgrow hsn
        go_wp2_with fail
        go_roundw
        case rel => exact ⟨j + 1, _, by go_num, by omega, H4.out.1, H4.out.2.1, H4.out.2.2⟩
        case measure => simp [intOf]; omega
      | false =>
        rw [hq] at hfn
        have hsn := hsF hq
        clear hsT hsF
        have HB := Lib.hid (And.intro hown (And.intro hts (And.intro hBr (And.intro hTo hsn))))
        clear hown hts hBr hTo hTk hsn hq
        go_wp2_with fail
        refine (hfn _ ((Below.refl _ _).alloc (HB.out.2.2.1.size) _)).mono ?_
        clear hfn k0 k1 k2 k3 k4 k5 k6 k7 k8 k9
        rintro e w1 ⟨rfl, hb1⟩
        dsimp only
        obtain ⟨hown, hts, hBr, hTo, hsn⟩ := HB.out
        have eb := below_al (Below.refl wr.heap.size wr) (.cells #[.int .i64 kj.op, .slice A1 kj.kids.length c1, .int .i32 kj.rune, .slice A3 kj.set.length c3, .int .i64 kj.at_, .int .i64 kj.cap, .string kj.name, .int .i64 kj.mn, .int .i64 kj.mx, .bool kj.lz] 27)
        have hb2 := below_and hb1 eb
        have ht1 : TsC (fun b => ok b ∧ b < w.heap.size) w1 _ css := hts.move (fun b hb hlt' => ⟨hb2.block b hlt', hb⟩)
        rw [← hsn] at ht1
        have H4 := Lib.hid (And.intro (hown.below hb2) (And.intro ht1 (below_and hb2 hBr)))
        clear hown hts hBr hTo hsn eb hb2 ht1 hb1
        go_wp2_with fail
        go_roundw
        case rel => exact ⟨j + 1, _, by go_num, by omega, H4.out.1, H4.out.2.1, H4.out.2.2⟩
        case measure => simp [intOf]; omega
    · obtain rfl : j = kids.length := by omega
      rw [List.take_length] at hts
      have HB := Lib.hid (And.intro hown (And.intro hts hBr))
      clear hown hts hBr
      go_wp2_with fail
      go_ret
      exact ⟨_, css, rfl, HB.out.1, HB.out.2.1, HB.out.2.2⟩
set_option maxRecDepth 100000 in
set_option maxHeartbeats 2000000 in
theorem kept_joined1 (ok : Nat → Prop) (w : World) (A : Option Addr) (c : Nat) (kids : List Tr) (h6 : Arr ok w 10 (TrC ok w) A kids) (hN : kids.length ≤ 1000000000) :
    Calls Try.prog 43 #[.slice A kids.length c, .func (.func 62) #[] #[]] w (KeptPost ok (kids.filter (fun t => !(t.op == 2))) w) := by
  have HE := Lib.hid h6
  clear h6
  have hIr := infoTr2
  obtain ⟨i0, hi0, hxx⟩ := Option.map_eq_some_iff.1 hIr
  simp only [Prod.mk.injEq] at hxx
  obtain ⟨hz0, hz1, hz2⟩ := hxx
  clear hIr
  go_enter Try.func43, Try.ntmps43
  go_wp2_with fail
  go_loopw [5, 10] (fun s5 s10 wr => ∃ (j : Nat) (css : List (List Value)), s10 = .int .i64 j ∧ j ≤ kids.length ∧ Owns wr w.heap.size 27 10 s5 css ∧ TsC (fun b => ok b ∧ b < w.heap.size) wr ((kids.take j).filter (fun t => !(t.op == 2))) css ∧ Below w.heap.size w wr) (fun _ s10 _ => kids.length - (intOf s10).toNat)
  case atStart => exact ⟨0, [], rfl, Nat.zero_le _, Owns.nil _ _ _ _, TsC.nil _ _, Below.refl _ _⟩
  case round =>
    obtain ⟨j, css, rfl, hj, hown, hts, hBr⟩ := hrel
    obtain ⟨A9, c9, rfl, q1, q2⟩ := Owns.shape hown
    have hcl : css.length ≤ j := by
      have h1 := List.length_filter_le (fun t : Tr => !(t.op == 2)) (kids.take j)
      rw [List.length_take] at h1
      have := hts.1
      omega
    by_cases hlt : j < kids.length
    · obtain ⟨ad, A1, c1, A3, c3, rfl, hTk, k0, k1, k2, k3, k4, k5, k6, k7, k8, k9⟩ := trArr_at HE.out wr (fun b _ hb' => hBr.block b hb') j hlt
      have hTo : TrC (fun b => ok b ∧ b < w.heap.size) wr kids[j] _ := TrC.move (fun b hb hlt' => ⟨hBr.block b hb.2, hb⟩) hTk.old
      have hfn := fun (W : World) (hW : Below w.heap.size wr W) => joined1_any W kids[j] _ _ (hTo.move (fun b hb hlt' => ⟨hW.block b hb.2, hb⟩))
      have hsT : (!(kids[j].op == 2)) = true → (kids.take (j + 1)).filter (fun t => !(t.op == 2)) = (kids.take j).filter (fun t => !(t.op == 2)) ++ [kids[j]] := fun h => by
        rw [List.take_succ_eq_append_getElem hlt, List.filter_append, List.filter_cons, List.filter_nil, if_pos h]
      have hsF : (!(kids[j].op == 2)) = false → (kids.take (j + 1)).filter (fun t => !(t.op == 2)) = (kids.take j).filter (fun t => !(t.op == 2)) := fun h => by
        rw [List.take_succ_eq_append_getElem hlt, List.filter_append, List.filter_cons, List.filter_nil, if_neg (by rw [h]; simp), List.append_nil]
      generalize kids[j] = kj at *
      cases hq : !(kj.op == 2) with
      | true =>
        rw [hq] at hfn
        have hsn := hsT hq
        clear hsT hsF
        have HB := Lib.hid (And.intro hown (And.intro hts (And.intro hBr (And.intro hTo hsn))))
        clear hown hts hBr hTo hTk hsn hq
        go_wp2_with fail
        refine (hfn _ ((Below.refl _ _).alloc (HB.out.2.2.1.size) _)).mono ?_
        clear hfn k0 k1 k2 k3 k4 k5 k6 k7 k8 k9
        rintro e w1 ⟨rfl, hb1⟩
        dsimp only
        obtain ⟨hown, hts, hBr, hTo, hsn⟩ := HB.out
        have eb := below_al (Below.refl wr.heap.size wr) (.cells #[.int .i64 kj.op, .slice A1 kj.kids.length c1, .int .i32 kj.rune, .slice A3 kj.set.length c3, .int .i64 kj.at_, .int .i64 kj.cap, .string kj.name, .int .i64 kj.mn, .int .i64 kj.mx, .bool kj.lz] 27)
        have yx := (hb1.block _ (by simp)).trans (heap_new1 wr (.cells #[.int .i64 kj.op, .slice A1 kj.kids.length c1, .int .i32 kj.rune, .slice A3 kj.set.length c3, .int .i64 kj.at_, .int .i64 kj.cap, .string kj.name, .int .i64 kj.mn, .int .i64 kj.mx, .bool kj.lz] 27))
        obtain ⟨g0, g1, g2, g3, g4, g5, g6, g7, g8, g9⟩ := cells10 yx
        have hb2 := below_and hb1 eb
        have ho1 := hown.below hb2
        have hs1 := hb2.size
        have hss := hBr.size
        have ht1 : TsC (fun b => ok b ∧ b < w.heap.size) w1 _ css := hts.move (fun b hb hlt' => ⟨hb2.block b hlt', hb⟩)
        have hT1 : TrC (fun b => ok b ∧ b < w.heap.size) w1 kj _ := hTo.move (fun b hb hlt' => ⟨hb2.block b hlt', hb⟩)
        have HC := Lib.hid (And.intro ht1 (And.intro hT1 (And.intro (below_and hb2 hBr) hsn)))
        have HO := Lib.hid ho1
        clear hown hts hBr hTo hsn eb yx hb2 ht1 hT1 hb1 ho1
        go_wp2_with (at_builtin; refine wpList_app1 rfl _ _ 23 rfl w.heap.size 27 i0 _ 10 120 Try.underlying23 hi0 hz0 hz1 hz2 rfl (by decide) _ css rfl (HO.out.alloc _) _ [.int .i64 kj.op, .slice A1 kj.kids.length c1, .int .i32 kj.rune, .slice A3 kj.set.length c3, .int .i64 kj.at_, .int .i64 kj.cap, .string kj.name, .int .i64 kj.mn, .int .i64 kj.mx, .bool kj.lz] rfl rfl (heap_new1 _ _) ?c2 ?c3 ?c4 ?c5 ?_)
        case c2 => exact trC_cells HC.out.2.1
        case c3 => unfold maxLen; omega
        case c4 => omega
        case c5 => simp; omega
        intro v4 w4 hown4 hgrow
        obtain ⟨ht1, hT1, hB1, hsn⟩ := HC.out
        have hB2 := below_al hB1 (.cells #[.int .i64 kj.op, .slice A1 kj.kids.length c1, .int .i32 kj.rune, .slice A3 kj.set.length c3, .int .i64 kj.at_, .int .i64 kj.cap, .string kj.name, .int .i64 kj.mn, .int .i64 kj.mx, .bool kj.lz] 27)
        have hB4 := hB2.grown hgrow (by simp; omega) (fun k e => (HO.out.lt k e).1)
        have hT4 : TsC (fun b => ok b ∧ b < w.heap.size) w4 _ _ := (ht1.app (TsC.one hT1)).move (fun b hb hlt' => ⟨(hgrow.block b (by simp; omega) (fun e => by have := (HO.out.lt _ e.symm).1; omega)).trans (Below.heap_alloc _ _ _ hlt'), hb⟩)
        rw [← hsn] at hT4
        have H4 := Lib.hid (And.intro hown4 (And.intro hT4 hB4))
        clear ht1 hT1 hB1 hB2 hB4 hT4 hown4 hgrow hsn
        go_wp2_with fail
        go_roundw
        case rel => exact ⟨j + 1, _, by go_num, by omega, H4.out.1, H4.out.2.1, H4.out.2.2⟩
        case measure => simp [intOf]; omega
      | false =>
        rw [hq] at hfn
        have hsn := hsF hq
        clear hsT hsF
        have HB := Lib.hid (And.intro hown (And.intro hts (And.intro hBr (And.intro hTo hsn))))
        clear hown hts hBr hTo hTk hsn hq
        go_wp2_with fail
        refine (hfn _ ((Below.refl _ _).alloc (HB.out.2.2.1.size) _)).mono ?_
        clear hfn k0 k1 k2 k3 k4 k5 k6 k7 k8 k9
        rintro e w1 ⟨rfl, hb1⟩
        dsimp only
        obtain ⟨hown, hts, hBr, hTo, hsn⟩ := HB.out
        have eb := below_al (Below.refl wr.heap.size wr) (.cells #[.int .i64 kj.op, .slice A1 kj.kids.length c1, .int .i32 kj.rune, .slice A3 kj.set.length c3, .int .i64 kj.at_, .int .i64 kj.cap, .string kj.name, .int .i64 kj.mn, .int .i64 kj.mx, .bool kj.lz] 27)
        have hb2 := below_and hb1 eb
        have ht1 : TsC (fun b => ok b ∧ b < w.heap.size) w1 _ css := hts.move (fun b hb hlt' => ⟨hb2.block b hlt', hb⟩)
        rw [← hsn] at ht1
        have H4 := Lib.hid (And.intro (hown.below hb2) (And.intro ht1 (below_and hb2 hBr)))
        clear hown hts hBr hTo hsn eb hb2 ht1 hb1
        go_wp2_with fail
        go_roundw
        case rel => exact ⟨j + 1, _, by go_num, by omega, H4.out.1, H4.out.2.1, H4.out.2.2⟩
        case measure => simp [intOf]; omega
    · obtain rfl : j = kids.length := by omega
      rw [List.take_length] at hts
      have HB := Lib.hid (And.intro hown (And.intro hts hBr))
      clear hown hts hBr
      go_wp2_with fail
      go_ret
      exact ⟨_, css, rfl, HB.out.1, HB.out.2.1, HB.out.2.2⟩
end Go.Proofs.Ytdnbholiijgedaa
