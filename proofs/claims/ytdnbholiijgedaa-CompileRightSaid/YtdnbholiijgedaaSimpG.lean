/-
  simplify.simple. No condition but on the tree's form and size.
-/
import Derived.Test.YtdnbholiijgedaaSimpF
namespace Go.Proofs.Ytdnbholiijgedaa
open Go.RowKit
set_option linter.unusedVariables false

theorem own_elem {ok : Nat → Prop} {w : World} {base : Nat} {A : Option Addr} {n c : Nat} {css : List (List Value)} {ts : List Tr} (ho : Owns w base 27 10 (.slice A n c) css) (h : TsC ok w ts css) (j : Nat) (hj : j < ts.length) :
    ∃ ad A1 c1 A3 c3, A = some ad ∧ base ≤ ad.block ∧ ad.block < w.heap.size ∧ TrC ok w ts[j] [.int .i64 ts[j].op, .slice A1 ts[j].kids.length c1, .int .i32 ts[j].rune, .slice A3 ts[j].set.length c3, .int .i64 ts[j].at_, .int .i64 ts[j].cap, .string ts[j].name, .int .i64 ts[j].mn, .int .i64 ts[j].mx, .bool ts[j].lz] ∧
      w.cell? (ad.add (j * 10)) = some (.int .i64 ts[j].op) ∧ w.cell? ⟨(ad.add (j * 10)).block, (ad.add (j * 10)).off + 1, none⟩ = some (.slice A1 ts[j].kids.length c1) ∧
      w.cell? ⟨(ad.add (j * 10)).block, (ad.add (j * 10)).off + 2, none⟩ = some (.int .i32 ts[j].rune) ∧ w.cell? ⟨(ad.add (j * 10)).block, (ad.add (j * 10)).off + 3, none⟩ = some (.slice A3 ts[j].set.length c3) ∧
      w.cell? ⟨(ad.add (j * 10)).block, (ad.add (j * 10)).off + 4, none⟩ = some (.int .i64 ts[j].at_) ∧ w.cell? ⟨(ad.add (j * 10)).block, (ad.add (j * 10)).off + 5, none⟩ = some (.int .i64 ts[j].cap) ∧
      w.cell? ⟨(ad.add (j * 10)).block, (ad.add (j * 10)).off + 6, none⟩ = some (.string ts[j].name) ∧ w.cell? ⟨(ad.add (j * 10)).block, (ad.add (j * 10)).off + 7, none⟩ = some (.int .i64 ts[j].mn) ∧
      w.cell? ⟨(ad.add (j * 10)).block, (ad.add (j * 10)).off + 8, none⟩ = some (.int .i64 ts[j].mx) ∧ w.cell? ⟨(ad.add (j * 10)).block, (ad.add (j * 10)).off + 9, none⟩ = some (.bool ts[j].lz) := by
  have hjc : j < css.length := by rw [h.1]; exact hj
  have hT := h.2 j ts[j] css[j] (List.getElem?_eq_getElem hj) (List.getElem?_eq_getElem hjc)
  have hcj : css[j]? = some css[j] := List.getElem?_eq_getElem hjc
  generalize css[j] = cj at *
  have hT0 := hT
  obtain ⟨A1, c1, A3, c3, rfl, _⟩ := trC_iff.1 hT
  rcases ho.1.2 with ⟨hv, h0⟩ | ⟨g, cap', cur, hv, hb, hg, _⟩
  · omega
  simp only [Value.slice.injEq] at hv
  obtain ⟨rfl, _, _⟩ := hv
  have hc : ∀ r u, ([.int .i64 ts[j].op, .slice A1 ts[j].kids.length c1, .int .i32 ts[j].rune, .slice A3 ts[j].set.length c3, .int .i64 ts[j].at_, .int .i64 ts[j].cap, .string ts[j].name, .int .i64 ts[j].mn, .int .i64 ts[j].mx, .bool ts[j].lz] : List Value)[r]? = some u → w.cell? ((⟨g, 0, none⟩ : Addr).add (j * 10 + r)) = some u := fun r u hu => ho.1.cells rfl _ _ (flatten_at ho.2 hcj hu)
  refine ⟨⟨g, 0, none⟩, A1, c1, A3, c3, rfl, hb, heap_lt hg, hT0, hc 0 _ rfl, ?_, ?_, ?_, ?_, ?_, ?_, ?_, ?_, ?_⟩
  · rw [← add_field _ _ 1 (by omega)]; exact hc 1 _ rfl
  · rw [← add_field _ _ 2 (by omega)]; exact hc 2 _ rfl
  · rw [← add_field _ _ 3 (by omega)]; exact hc 3 _ rfl
  · rw [← add_field _ _ 4 (by omega)]; exact hc 4 _ rfl
  · rw [← add_field _ _ 5 (by omega)]; exact hc 5 _ rfl
  · rw [← add_field _ _ 6 (by omega)]; exact hc 6 _ rfl
  · rw [← add_field _ _ 7 (by omega)]; exact hc 7 _ rfl
  · rw [← add_field _ _ 8 (by omega)]; exact hc 8 _ rfl
  · rw [← add_field _ _ 9 (by omega)]; exact hc 9 _ rfl
theorem TrC.drew {ok : Nat → Prop} {w : World} {t : Tr} {cs : List Value} (h : TrC ok w t cs) : TrC ok w.drew t cs := @TrC.move ok ok w w.drew (fun b hb hlt => ⟨rfl, hb⟩) t cs h
theorem sim_fin {ok okF : Nat → Prop} {w W w3 : World} {T : Tr} {cs : List Value} (hB : Below w.heap.size w W) (ht : TrC okF W T cs) (hok : ∀ b, okF b → b ≠ w.heap.size + 1 ∧ (ok b ∨ w.heap.size ≤ b)) (hg : W.grownBy w3 (some (w.heap.size + 1))) :
    TreePost ok T w (.returned (.agg cs.toArray)) w3 :=
  ⟨cs, rfl, ht.move fun b hb hlt => ⟨grown_ne hg hlt (hok b hb).1, (hok b hb).2⟩, below_grown hB hB.size (by omega) hg⟩
theorem rows10 {w : World} {ad : Addr} {a0 a1 a2 a3 a4 a5 a6 a7 a8 a9 : Value} (h0 : w.cell? ad = some a0) (h1 : w.cell? ⟨ad.block, ad.off + 1, none⟩ = some a1) (h2 : w.cell? ⟨ad.block, ad.off + 2, none⟩ = some a2) (h3 : w.cell? ⟨ad.block, ad.off + 3, none⟩ = some a3) (h4 : w.cell? ⟨ad.block, ad.off + 4, none⟩ = some a4)
    (h5 : w.cell? ⟨ad.block, ad.off + 5, none⟩ = some a5) (h6 : w.cell? ⟨ad.block, ad.off + 6, none⟩ = some a6) (h7 : w.cell? ⟨ad.block, ad.off + 7, none⟩ = some a7) (h8 : w.cell? ⟨ad.block, ad.off + 8, none⟩ = some a8) (h9 : w.cell? ⟨ad.block, ad.off + 9, none⟩ = some a9) :
    ∀ r u, ([a0, a1, a2, a3, a4, a5, a6, a7, a8, a9] : List Value)[r]? = some u → w.cell? (ad.add r) = some u := by
  intro r u hu
  have hr : r < 10 := (List.getElem?_eq_some_iff.1 hu).1
  have hadd : ∀ j, 0 < j → ad.add j = ⟨ad.block, ad.off + j, none⟩ := fun j hj => by unfold Addr.add; rw [if_neg (by omega)]
  rcases (show r = 0 ∨ r = 1 ∨ r = 2 ∨ r = 3 ∨ r = 4 ∨ r = 5 ∨ r = 6 ∨ r = 7 ∨ r = 8 ∨ r = 9 by omega) with rfl | rfl | rfl | rfl | rfl | rfl | rfl | rfl | rfl | rfl
  · rw [show ad.add 0 = ad by unfold Addr.add; simp]; simp at hu; rw [h0, hu]
  all_goals (rw [hadd _ (by omega)]; simp at hu; subst hu; assumption)
def SimpleOK (n : Nat) : Prop := ∀ (ok : Nat → Prop) (t : Tr) (cs : List Value) (w : World), (parts t).length ≤ n → TrC ok w t cs → SimOK t →
    Calls Try.prog 25 #[.agg cs.toArray] w (TreePost ok (simpleS t) w)
set_option maxRecDepth 100000 in
set_option maxHeartbeats 8000000 in
theorem simple_any : ∀ n, SimpleOK n := by
  intro n
  induction n with
  | zero => intro ok t cs w hn; rw [parts_eq] at hn; simp at hn
  | succ n ih =>
    intro ok t cs w hn ht hsim
    have ht0 := ht.old
    have h1s := hsim t (mem_parts_self t)
    have hkn := h1s.kids
    obtain ⟨A, c, B, d, rfl, _, hcm, _, hdm, h5, h6⟩ := trC_iff.1 ht0
    have hcl := fun (W : World) (hW : Below w.heap.size w W) => cloneTree Tr (TrC (fun b => ok b ∧ b < w.heap.size) w) (fun x c hx => trC_cells hx) (fun b => ok b ∧ b < w.heap.size) W A c t.kids (h6.move (fun b hb hlt => ⟨hW.block b hlt, hb⟩) (by omega)) (by omega)
    have HS := Lib.hid (And.intro hsim (And.intro h1s (And.intro h5 (simpleS_eq t))))
    have HI := Lib.hid ih
    clear ht ht0 hsim h1s h5 h6 ih
    go_enter Try.func25, Try.ntmps25
    go_wp2_with fail
    have yb := below_al (below_al (Below.refl w.heap.size w) (.cells #[.int .i64 t.op, .slice A t.kids.length c, .int .i32 t.rune, .slice B t.set.length d, .int .i64 t.at_, .int .i64 t.cap, .string t.name, .int .i64 t.mn, .int .i64 t.mx, .bool t.lz] 27)) (.cells #[.int .i64 0, .slice none 0 0, .int .i32 0, .slice none 0 0, .int .i64 0, .int .i64 0, .string ⟨#[]⟩, .int .i64 0, .int .i64 0, .bool false] 27)
    have y1 : ((w.alloc (.cells #[.int .i64 t.op, .slice A t.kids.length c, .int .i32 t.rune, .slice B t.set.length d, .int .i64 t.at_, .int .i64 t.cap, .string t.name, .int .i64 t.mn, .int .i64 t.mx, .bool t.lz] 27)).alloc (.cells #[.int .i64 0, .slice none 0 0, .int .i32 0, .slice none 0 0, .int .i64 0, .int .i64 0, .string ⟨#[]⟩, .int .i64 0, .int .i64 0, .bool false] 27)).heap[w.heap.size]? = some (.cells #[.int .i64 t.op, .slice A t.kids.length c, .int .i32 t.rune, .slice B t.set.length d, .int .i64 t.at_, .int .i64 t.cap, .string t.name, .int .i64 t.mn, .int .i64 t.mx, .bool t.lz] 27) := (Below.heap_alloc _ _ _ (by simp)).trans (heap_new1 _ _)
    have y2 : ((w.alloc (.cells #[.int .i64 t.op, .slice A t.kids.length c, .int .i32 t.rune, .slice B t.set.length d, .int .i64 t.at_, .int .i64 t.cap, .string t.name, .int .i64 t.mn, .int .i64 t.mx, .bool t.lz] 27)).alloc (.cells #[.int .i64 0, .slice none 0 0, .int .i32 0, .slice none 0 0, .int .i64 0, .int .i64 0, .string ⟨#[]⟩, .int .i64 0, .int .i64 0, .bool false] 27)).heap[w.heap.size + 1]? = some (.cells #[.int .i64 0, .slice none 0 0, .int .i32 0, .slice none 0 0, .int .i64 0, .int .i64 0, .string ⟨#[]⟩, .int .i64 0, .int .i64 0, .bool false] 27) := heap_new2 _ _ _
    refine (hcl _ yb).mono ?_
    rintro e w1 ⟨v1, css1, rfl, hl1, hE1, ho1, hb1⟩
    clear hcl
    dsimp only
    obtain ⟨L, c1, rfl, hc1, hc1m⟩ := Owns.shape ho1
    have hst : SimSt ok w [.int .i64 t.op, .slice A t.kids.length c, .int .i32 t.rune, .slice B t.set.length d, .int .i64 t.at_, .int .i64 t.cap, .string t.name, .int .i64 t.mn, .int .i64 t.mx, .bool t.lz] L t.kids.length c1 t.kids w1 := by
      refine ⟨below_and hb1 yb, (hb1.block _ (heap_lt y1)).trans y1, (hb1.block _ (heap_lt y2)).trans y2, css1, by rw [← hl1]; simpa using ho1, hl1, fun i p c hp hc => (hE1 i p c hp hc).move fun b hb hlt => ⟨(below_and hb1 yb).block b hlt, .inl hb, ?_⟩⟩
      intro ad e
      have := (ho1.lt ad.block (by rw [e]; rfl)).1
      simp at this
      omega
    rw [hl1] at hc1 ⊢
    have HS1 := Lib.hid hst
    clear hst ho1 hE1 hl1 hb1 y1 y2 yb css1
    go_wp2_with fail
    go_loopw [12] (fun s wr => SimRel ok w [.int .i64 t.op, .slice A t.kids.length c, .int .i32 t.rune, .slice B t.set.length d, .int .i64 t.at_, .int .i64 t.cap, .string t.name, .int .i64 t.mn, .int .i64 t.mx, .bool t.lz] L t.kids.length c1 t.kids s wr) (fun s _ => t.kids.length - (intOf s).toNat)
    case atStart => exact ⟨0, rfl, Nat.zero_le _, by simpa using HS1.out⟩
    case round =>
      obtain ⟨j, rfl, hj, hst⟩ := hrel
      clear HS1
      by_cases hlt : j < t.kids.length
      · obtain ⟨css, ho, hts⟩ := hst.own
        have hcur := simCur hlt
        have hjl : j < ((t.kids.take j).map simpleS ++ t.kids.drop j).length := (List.getElem?_eq_some_iff.1 hcur).1
        have hje : ((t.kids.take j).map simpleS ++ t.kids.drop j)[j] = t.kids[j] := (List.getElem?_eq_some_iff.1 hcur).2
        obtain ⟨ad, A1, e1, A3, e3, rfl, hlo, hhi, hTk, k0, k1, k2, k3, k4, k5, k6, k7, k8, k9⟩ := own_elem ho hts j hjl
        rw [hje] at hTk k0 k1 k2 k3 k4 k5 k6 k7 k8 k9
        have hkk := parts_kid hlt
        have hnx := simNext hlt
        have hih := fun (W : World) (hW : Below wr.heap.size wr W) => HI.out (fun b => (ok b ∧ b < w.heap.size ∨ w.heap.size + 2 ≤ b) ∧ ∀ ad', some ad = some ad' → b ≠ ad'.block) t.kids[j] _ W (by omega) (hTk.move (fun b hb hlt' => ⟨hW.block b hlt', hb⟩)) (fun p hp => HS.out.1 p (mem_parts_kid hlt hp))
        have hcl : j < css.length := by rw [hts.1]; exact hjl
        generalize t.kids[j] = kj at *
        have hszw := hst.bel.size
        have HB := Lib.hid (And.intro hst (And.intro ho (And.intro hts (And.intro hnx hcl))))
        clear hst ho hts hnx hTk hcur hje hjl hkk
        go_wp2_with fail
        refine (hih _ (below_al (Below.refl _ _) _)).mono ?_
        clear hih k0 k1 k2 k3 k4 k5 k6 k7 k8 k9
        rintro e w2 ⟨c2, rfl, ht2, hb2⟩
        dsimp only
        have hB2 := below_and hb2 (below_al (Below.refl _ _) _)
        have ho2 := HB.out.2.1.below hB2
        have hl2 := Lib.hid ht2.len
        have H2 := Lib.hid (And.intro hB2 (And.intro ho2 ht2))
        have hs2 := hb2.size
        rw [World.size_alloc] at hs2
        clear hB2 ho2 ht2 hb2
        go_wp2_with ((refine wpList_storeO rfl 27 _ _ rfl (w.heap.size + 2) 27 10 ad t.kids.length c1 css H2.out.2.1 j HB.out.2.2.2.2 c2 hl2.out rfl rfl infoTrS (trC_cells H2.out.2.2) ?_))
        intro w3 ho3 hg3 hs3
        obtain ⟨hst, ho, hts, hnx, hcl⟩ := HB.out
        obtain ⟨hB2, ho2, ht2⟩ := H2.out
        have hBB := below_and hB2 hst.bel
        have hst3 : SimSt ok w [.int .i64 t.op, .slice A t.kids.length c, .int .i32 t.rune, .slice B t.set.length d, .int .i64 t.at_, .int .i64 t.cap, .string t.name, .int .i64 t.mn, .int .i64 t.mx, .bool t.lz] (some ad) t.kids.length c1 ((t.kids.take (j + 1)).map simpleS ++ t.kids.drop (j + 1)) w3 := by
          refine ⟨below_grown hBB hBB.size (by omega) hg3, ?_, ?_, css.set j c2, ho3, ?_⟩
          · exact (grown_ne hg3 (by have := heap_lt hst.tre; omega) (by omega)).trans ((hB2.block _ (heap_lt hst.tre)).trans hst.tre)
          · exact (grown_ne hg3 (by have := heap_lt hst.res; omega) (by omega)).trans ((hB2.block _ (heap_lt hst.res)).trans hst.res)
          · rw [← hnx]
            refine TsC.set (hts.move fun b hb hlt' => ⟨?_, hb⟩) (ht2.move fun b hb hlt' => ⟨?_, ?_⟩)
            · exact (grown_ne hg3 (by omega) (hb.2 ad rfl)).trans (hB2.block _ hlt')
            · refine grown_ne hg3 hlt' ?_
              rcases hb with hb | hb
              · exact hb.2 ad rfl
              · rw [World.size_alloc] at hb; omega
            · rcases hb with hb | hb
              · exact hb
              · rw [World.size_alloc] at hb
                exact ⟨.inr (by omega), fun ad' e => by cases e; omega⟩
        have H3 := Lib.hid hst3
        clear hst ho hts hnx hcl hB2 ho2 ht2 hBB ho3 hg3 hst3
        go_wp2_with fail
        go_roundw
        case rel => exact ⟨j + 1, by go_num, by omega, H3.out⟩
        case measure => simp [intOf]; omega
      · obtain rfl : j = t.kids.length := by omega
        simp only [List.take_length, List.drop_length, List.append_nil] at hst
        obtain ⟨css, ho, hts⟩ := hst.own
        obtain ⟨g0, g1, g2, g3, g4, g5, g6, g7, g8, g9⟩ := cells10 hst.tre
        have hls : (t.kids.map simpleS).length = t.kids.length := by simp
        have hSE := HS.out.2.2.2
        have h1s := HS.out.2.1
        generalize t.kids.map simpleS = l at *
        have harr := TsC.arr ho hts
        have hflat := h1s.flat
        have hn2 := heap_lt hst.res
        have hokl : ∀ b, ((ok b ∧ b < w.heap.size ∨ w.heap.size + 2 ≤ b) ∧ ∀ ad, L = some ad → b ≠ ad.block) ∨ w.heap.size + 2 ≤ b → b ≠ w.heap.size + 1 ∧ (ok b ∨ w.heap.size ≤ b) := fun b hb => by
          rcases hb with ⟨h | h, _⟩ | h
          · exact ⟨by omega, .inl h.1⟩
          · exact ⟨by omega, .inr (by omega)⟩
          · exact ⟨by omega, .inr (by omega)⟩
        have HW := Lib.hid (And.intro hst (And.intro ho (And.intro hts (And.intro harr (And.intro h1s (And.intro hSE hokl))))))
        clear hst ho hts harr h1s hSE hokl
        by_cases ho11 : t.op = 11
        · have ho := ho11; clear ho11; have o11 : (t.op == 11) = true := (by rw [ho]; rfl); have o12 : (t.op == 12) = false := (by rw [ho]; rfl); have o6 : (t.op == 6) = false := (by rw [ho]; rfl); have o7 : (t.op == 7) = false := (by rw [ho]; rfl); have o8 : (t.op == 8) = false := (by rw [ho]; rfl); have o9 : (t.op == 9) = false := (by rw [ho]; rfl); have o10 : (t.op == 10) = false := (by rw [ho]; rfl)
          have hj := joined_any _ wr L c1 l HW.out.2.2.2.1 (by omega) (by omega)
          rw [hls] at hj
          have HO := Lib.hid (And.intro ho ho)
          clear ho
          go_wp2_with fail
          refine hj.mono ?_
          clear hj
          rintro e w1 ⟨c2, rfl, ht1, hb1⟩
          dsimp only
          have hl9 := Lib.hid ht1.len
          have H9 := Lib.hid (And.intro ht1 (And.intro (below_and hb1 HW.out.1.bel) ((hb1.block _ hn2).trans HW.out.1.res)))
          clear ht1 hb1
          go_wp2_with ((refine wpList_storeB rfl 27 _ _ rfl (w.heap.size + 1) c2 [.int .i64 0, .slice none 0 0, .int .i32 0, .slice none 0 0, .int .i64 0, .int .i64 0, .string ⟨#[]⟩, .int .i64 0, .int .i64 0, .bool false] 27 rfl rfl H9.out.2.2 (by rw [hl9.out]; rfl) (by rw [hl9.out]; exact infoTrS) (trC_cells H9.out.1) ?_))
          intro w3 hn9 hg9 hs9
          have HN := Lib.hid hn9
          clear hn9
          go_wp2_with fail
          have hn9 := HN.out
          refine bodyPost_ret (results_cell_row rfl _ _ (w.heap.size + 1) _ _ _ _ rfl hn9 Try.underlying27 rfl (by rw [List.size_toArray, hl9.out]; exact infoTrS)) rfl ?_
          rw [HW.out.2.2.2.2.2.1, simpleN, if_pos HO.out.1]
          refine sim_fin H9.out.2.1 H9.out.1 (fun b hb => ?_) hg9
          rcases hb with hb | hb
          · exact HW.out.2.2.2.2.2.2 b hb
          · exact ⟨by omega, .inr (by omega)⟩
        by_cases ho7 : t.op = 7
        · have ho := ho7; clear ho7; have o11 : (t.op == 11) = false := (by rw [ho]; rfl); have o12 : (t.op == 12) = false := (by rw [ho]; rfl); have o6 : (t.op == 6) = false := (by rw [ho]; rfl); have o7 : (t.op == 7) = true := (by rw [ho]; rfl); have o8 : (t.op == 8) = false := (by rw [ho]; rfl); have o9 : (t.op == 9) = false := (by rw [ho]; rfl); have o10 : (t.op == 10) = false := (by rw [ho]; rfl)
          have hone := HW.out.2.2.2.2.1.one (by omega) (by omega)
          obtain ⟨ad, A1, e1, A3, e3, rfl, hlo, hhi, hTk, k0, k1, k2, k3, k4, k5, k6, k7, k8, k9⟩ := own_elem HW.out.2.1 HW.out.2.2.1 0 (by omega)
          have hhd : hdT l = l[0]'(by omega) := by cases l with | nil => simp at hls; omega | cons a r => rfl
          have hprt := HW.out.2.2.2.2.1.part l[0] (List.getElem_mem (by omega))
          generalize l[0] = x at *
          have had : ad.add (0 * 10) = ad := by unfold Addr.add; simp
          rw [had] at k0 k1 k2 k3 k4 k5 k6 k7 k8 k9
          have HO := Lib.hid (And.intro ho (And.intro hTk (And.intro hhd hprt)))
          clear ho hTk hhd hprt had
          go_wp2_with fail
          have hbk : wr.heap[w.heap.size]? = wr.heap[w.heap.size]? := rfl
          refine wp_region_seq (fun W' => W'.heap[w.heap.size]? = some (.cells ([.int .i64 t.op, .slice A t.kids.length c, .int .i32 t.rune, .slice B t.set.length d, .int .i64 t.at_, .int .i64 t.cap, .string t.name, .int .i64 t.mn, .int .i64 t.mx, .bool t.lz] : List Value).toArray 27 (0, 0)) ∧ W'.heap[ad.block]? = wr.heap[ad.block]?) (by kernel_rfl) (by kernel_rfl) (fun _ _ _ _ _ h => h)
            [(0, 55, .slice (some ad) t.kids.length c1), (1, 56, .pointer (some ad)), (2, 57, .agg ([.int .i64 x.op, .slice A1 x.kids.length e1, .int .i32 x.rune, .slice A3 x.set.length e3, .int .i64 x.at_, .int .i64 x.cap, .string x.name, .int .i64 x.mn, .int .i64 x.mx, .bool x.lz] : List Value).toArray), (3, 58, .pointer (some ⟨w.heap.size, 9, none⟩)), (4, 59, .bool t.lz)] [5, 6] rfl (by kernel_rfl) ⟨HW.out.1.tre, rfl⟩
            ⟨⟨_, rfl, rfl, yi_pure rfl (fun _ => by go_simp)⟩, ⟨_, rfl, rfl, yi_pure rfl (fun _ => by go_simp)⟩, ⟨_, rfl, rfl, ?_⟩, ⟨_, rfl, rfl, yi_pure rfl (fun _ => by go_simp)⟩, ⟨_, rfl, rfl, ?_⟩, trivial⟩ ?_
          · exact yi_rowA 27 _ rfl ad [.int .i64 x.op, .slice A1 x.kids.length e1, .int .i32 x.rune, .slice A3 x.set.length e3, .int .i64 x.at_, .int .i64 x.cap, .string x.name, .int .i64 x.mn, .int .i64 x.mx, .bool x.lz] rfl rfl _ Try.underlying27 rfl infoTrS (fun W hS r u hu => (World.cell?_of_block (by rw [add_block]; exact hS.2)).trans (rows10 k0 k1 k2 k3 k4 k5 k6 k7 k8 k9 r u hu))
          · exact yi_cell 4 _ rfl ⟨w.heap.size, 9, none⟩ (.bool t.lz) rfl rfl _ Try.underlying4 rfl (fun W hS => by rw [cell_of_blk hS.1]; rfl)
          clear k0 k1 k2 k3 k4 k5 k6 k7 k8 k9 g0 g1 g2 g3 g4 g5 g6 g7 g8 g9
          simp only [putAll, Act.put, List.setIfInBounds_toArray, List.set_cons_zero, List.set_cons_succ]
          refine Seq.cons rfl rfl (fun K hK => ?_)
          go_simp
          refine (star_any (fun b => (ok b ∧ b < w.heap.size ∨ w.heap.size + 2 ≤ b) ∧ ∀ ad_1, some ad = some ad_1 → b ≠ ad_1.block) wr.drew x _ t.lz (TrC.drew HO.out.2.1) (fun p hp => Nat.le_trans (HO.out.2.2.2 p hp) (by omega))).mono ?_
          rintro e w1 ⟨c2, rfl, ht1, hb1⟩
          dsimp only
          have hs1 := hb1.size
          rw [World.size_drew] at hs1
          have hS1 := (hb1.block w.heap.size (by rw [World.size_drew]; omega)).trans HW.out.1.tre
          have hS2 : w1.heap[ad.block]? = wr.heap[ad.block]? := hb1.block ad.block (by rw [World.size_drew]; omega)
          refine hK _ _ ⟨hS1, hS2⟩ ?_
          clear hK K
          have hl9 := Lib.hid ht1.len
          have H9 := Lib.hid (And.intro ht1 (And.intro (below_and hb1 HW.out.1.bel.drew) ((hb1.block _ (by rw [World.size_drew]; exact hn2)).trans HW.out.1.res)))
          have HS12 := Lib.hid (And.intro hS1 hS2)
          clear ht1 hb1 hS1 hS2
          refine Seq.cons rfl rfl (fun K hK => ?_)
          (refine wp_storeB 27 _ _ rfl (w.heap.size + 1) c2 [.int .i64 0, .slice none 0 0, .int .i32 0, .slice none 0 0, .int .i64 0, .int .i64 0, .string ⟨#[]⟩, .int .i64 0, .int .i64 0, .bool false] 27 rfl rfl H9.out.2.2 (by rw [hl9.out]; rfl) (by rw [hl9.out]; exact infoTrS) (trC_cells H9.out.1) ?_)
          intro w3 hn9 hg9 hs9
          have HN := Lib.hid hn9
          clear hn9
          refine hK _ _ ⟨(grown_ne hg9 (by omega) (by omega)).trans HS12.out.1, (grown_ne hg9 (by omega) (by omega)).trans HS12.out.2⟩ ?_
          clear hK K
          simp only [Seq]
          go_wp2_with fail
          have hn9 := HN.out
          refine bodyPost_ret (results_cell_row rfl _ _ (w.heap.size + 1) _ _ _ _ rfl hn9 Try.underlying27 rfl (by rw [List.size_toArray, hl9.out]; exact infoTrS)) rfl ?_
          rw [HW.out.2.2.2.2.2.1, simpleN, if_neg (by rw [HO.out.1]; omega), if_neg (by rw [HO.out.1]; omega), if_neg (by rw [HO.out.1]; omega), if_pos HO.out.1, HO.out.2.2.1]
          refine sim_fin H9.out.2.1 H9.out.1 (fun b hb => ?_) hg9
          rcases hb with hb | hb
          · exact HW.out.2.2.2.2.2.2 b (.inl hb)
          · rw [World.size_drew] at hb; exact ⟨by omega, .inr (by omega)⟩
        by_cases ho8 : t.op = 8
        · have ho := ho8; clear ho8; have o11 : (t.op == 11) = false := (by rw [ho]; rfl); have o12 : (t.op == 12) = false := (by rw [ho]; rfl); have o6 : (t.op == 6) = false := (by rw [ho]; rfl); have o7 : (t.op == 7) = false := (by rw [ho]; rfl); have o8 : (t.op == 8) = true := (by rw [ho]; rfl); have o9 : (t.op == 9) = false := (by rw [ho]; rfl); have o10 : (t.op == 10) = false := (by rw [ho]; rfl)
          have hone := HW.out.2.2.2.2.1.one (by omega) (by omega)
          obtain ⟨ad, A1, e1, A3, e3, rfl, hlo, hhi, hTk, k0, k1, k2, k3, k4, k5, k6, k7, k8, k9⟩ := own_elem HW.out.2.1 HW.out.2.2.1 0 (by omega)
          have hhd : hdT l = l[0]'(by omega) := by cases l with | nil => simp at hls; omega | cons a r => rfl
          have hprt := HW.out.2.2.2.2.1.part l[0] (List.getElem_mem (by omega))
          generalize l[0] = x at *
          have had : ad.add (0 * 10) = ad := by unfold Addr.add; simp
          rw [had] at k0 k1 k2 k3 k4 k5 k6 k7 k8 k9
          have HO := Lib.hid (And.intro ho (And.intro hTk (And.intro hhd hprt)))
          clear ho hTk hhd hprt had
          go_wp2_with fail
          have hbk : wr.heap[w.heap.size]? = wr.heap[w.heap.size]? := rfl
          refine wp_region_seq (fun W' => W'.heap[w.heap.size]? = some (.cells ([.int .i64 t.op, .slice A t.kids.length c, .int .i32 t.rune, .slice B t.set.length d, .int .i64 t.at_, .int .i64 t.cap, .string t.name, .int .i64 t.mn, .int .i64 t.mx, .bool t.lz] : List Value).toArray 27 (0, 0)) ∧ W'.heap[ad.block]? = wr.heap[ad.block]?) (by kernel_rfl) (by kernel_rfl) (fun _ _ _ _ _ h => h)
            [(0, 63, .slice (some ad) t.kids.length c1), (1, 64, .pointer (some ad)), (2, 65, .agg ([.int .i64 x.op, .slice A1 x.kids.length e1, .int .i32 x.rune, .slice A3 x.set.length e3, .int .i64 x.at_, .int .i64 x.cap, .string x.name, .int .i64 x.mn, .int .i64 x.mx, .bool x.lz] : List Value).toArray), (3, 66, .pointer (some ⟨w.heap.size, 9, none⟩)), (4, 67, .bool t.lz)] [5, 6] rfl (by kernel_rfl) ⟨HW.out.1.tre, rfl⟩
            ⟨⟨_, rfl, rfl, yi_pure rfl (fun _ => by go_simp)⟩, ⟨_, rfl, rfl, yi_pure rfl (fun _ => by go_simp)⟩, ⟨_, rfl, rfl, ?_⟩, ⟨_, rfl, rfl, yi_pure rfl (fun _ => by go_simp)⟩, ⟨_, rfl, rfl, ?_⟩, trivial⟩ ?_
          · exact yi_rowA 27 _ rfl ad [.int .i64 x.op, .slice A1 x.kids.length e1, .int .i32 x.rune, .slice A3 x.set.length e3, .int .i64 x.at_, .int .i64 x.cap, .string x.name, .int .i64 x.mn, .int .i64 x.mx, .bool x.lz] rfl rfl _ Try.underlying27 rfl infoTrS (fun W hS r u hu => (World.cell?_of_block (by rw [add_block]; exact hS.2)).trans (rows10 k0 k1 k2 k3 k4 k5 k6 k7 k8 k9 r u hu))
          · exact yi_cell 4 _ rfl ⟨w.heap.size, 9, none⟩ (.bool t.lz) rfl rfl _ Try.underlying4 rfl (fun W hS => by rw [cell_of_blk hS.1]; rfl)
          clear k0 k1 k2 k3 k4 k5 k6 k7 k8 k9 g0 g1 g2 g3 g4 g5 g6 g7 g8 g9
          simp only [putAll, Act.put, List.setIfInBounds_toArray, List.set_cons_zero, List.set_cons_succ]
          refine Seq.cons rfl rfl (fun K hK => ?_)
          go_simp
          refine (plus_any (fun b => (ok b ∧ b < w.heap.size ∨ w.heap.size + 2 ≤ b) ∧ ∀ ad_1, some ad = some ad_1 → b ≠ ad_1.block) wr.drew x _ t.lz (TrC.drew HO.out.2.1) (fun p hp => Nat.le_trans (HO.out.2.2.2 p hp) (by omega))).mono ?_
          rintro e w1 ⟨c2, rfl, ht1, hb1⟩
          dsimp only
          have hs1 := hb1.size
          rw [World.size_drew] at hs1
          have hS1 := (hb1.block w.heap.size (by rw [World.size_drew]; omega)).trans HW.out.1.tre
          have hS2 : w1.heap[ad.block]? = wr.heap[ad.block]? := hb1.block ad.block (by rw [World.size_drew]; omega)
          refine hK _ _ ⟨hS1, hS2⟩ ?_
          clear hK K
          have hl9 := Lib.hid ht1.len
          have H9 := Lib.hid (And.intro ht1 (And.intro (below_and hb1 HW.out.1.bel.drew) ((hb1.block _ (by rw [World.size_drew]; exact hn2)).trans HW.out.1.res)))
          have HS12 := Lib.hid (And.intro hS1 hS2)
          clear ht1 hb1 hS1 hS2
          refine Seq.cons rfl rfl (fun K hK => ?_)
          (refine wp_storeB 27 _ _ rfl (w.heap.size + 1) c2 [.int .i64 0, .slice none 0 0, .int .i32 0, .slice none 0 0, .int .i64 0, .int .i64 0, .string ⟨#[]⟩, .int .i64 0, .int .i64 0, .bool false] 27 rfl rfl H9.out.2.2 (by rw [hl9.out]; rfl) (by rw [hl9.out]; exact infoTrS) (trC_cells H9.out.1) ?_)
          intro w3 hn9 hg9 hs9
          have HN := Lib.hid hn9
          clear hn9
          refine hK _ _ ⟨(grown_ne hg9 (by omega) (by omega)).trans HS12.out.1, (grown_ne hg9 (by omega) (by omega)).trans HS12.out.2⟩ ?_
          clear hK K
          simp only [Seq]
          go_wp2_with fail
          have hn9 := HN.out
          refine bodyPost_ret (results_cell_row rfl _ _ (w.heap.size + 1) _ _ _ _ rfl hn9 Try.underlying27 rfl (by rw [List.size_toArray, hl9.out]; exact infoTrS)) rfl ?_
          rw [HW.out.2.2.2.2.2.1, simpleN, if_neg (by rw [HO.out.1]; omega), if_neg (by rw [HO.out.1]; omega), if_neg (by rw [HO.out.1]; omega), if_neg (by rw [HO.out.1]; omega), if_pos HO.out.1, HO.out.2.2.1]
          refine sim_fin H9.out.2.1 H9.out.1 (fun b hb => ?_) hg9
          rcases hb with hb | hb
          · exact HW.out.2.2.2.2.2.2 b (.inl hb)
          · rw [World.size_drew] at hb; exact ⟨by omega, .inr (by omega)⟩
        by_cases ho9 : t.op = 9
        · have ho := ho9; clear ho9; have o11 : (t.op == 11) = false := (by rw [ho]; rfl); have o12 : (t.op == 12) = false := (by rw [ho]; rfl); have o6 : (t.op == 6) = false := (by rw [ho]; rfl); have o7 : (t.op == 7) = false := (by rw [ho]; rfl); have o8 : (t.op == 8) = false := (by rw [ho]; rfl); have o9 : (t.op == 9) = true := (by rw [ho]; rfl); have o10 : (t.op == 10) = false := (by rw [ho]; rfl)
          have hone := HW.out.2.2.2.2.1.one (by omega) (by omega)
          obtain ⟨ad, A1, e1, A3, e3, rfl, hlo, hhi, hTk, k0, k1, k2, k3, k4, k5, k6, k7, k8, k9⟩ := own_elem HW.out.2.1 HW.out.2.2.1 0 (by omega)
          have hhd : hdT l = l[0]'(by omega) := by cases l with | nil => simp at hls; omega | cons a r => rfl
          have hprt := HW.out.2.2.2.2.1.part l[0] (List.getElem_mem (by omega))
          generalize l[0] = x at *
          have had : ad.add (0 * 10) = ad := by unfold Addr.add; simp
          rw [had] at k0 k1 k2 k3 k4 k5 k6 k7 k8 k9
          have HO := Lib.hid (And.intro ho (And.intro hTk (And.intro hhd hprt)))
          clear ho hTk hhd hprt had
          go_wp2_with fail
          have hbk : wr.heap[w.heap.size]? = wr.heap[w.heap.size]? := rfl
          refine wp_region_seq (fun W' => W'.heap[w.heap.size]? = some (.cells ([.int .i64 t.op, .slice A t.kids.length c, .int .i32 t.rune, .slice B t.set.length d, .int .i64 t.at_, .int .i64 t.cap, .string t.name, .int .i64 t.mn, .int .i64 t.mx, .bool t.lz] : List Value).toArray 27 (0, 0)) ∧ W'.heap[ad.block]? = wr.heap[ad.block]?) (by kernel_rfl) (by kernel_rfl) (fun _ _ _ _ _ h => h)
            [(0, 71, .slice (some ad) t.kids.length c1), (1, 72, .pointer (some ad)), (2, 73, .agg ([.int .i64 x.op, .slice A1 x.kids.length e1, .int .i32 x.rune, .slice A3 x.set.length e3, .int .i64 x.at_, .int .i64 x.cap, .string x.name, .int .i64 x.mn, .int .i64 x.mx, .bool x.lz] : List Value).toArray), (3, 74, .pointer (some ⟨w.heap.size, 9, none⟩)), (4, 75, .bool t.lz)] [5, 6] rfl (by kernel_rfl) ⟨HW.out.1.tre, rfl⟩
            ⟨⟨_, rfl, rfl, yi_pure rfl (fun _ => by go_simp)⟩, ⟨_, rfl, rfl, yi_pure rfl (fun _ => by go_simp)⟩, ⟨_, rfl, rfl, ?_⟩, ⟨_, rfl, rfl, yi_pure rfl (fun _ => by go_simp)⟩, ⟨_, rfl, rfl, ?_⟩, trivial⟩ ?_
          · exact yi_rowA 27 _ rfl ad [.int .i64 x.op, .slice A1 x.kids.length e1, .int .i32 x.rune, .slice A3 x.set.length e3, .int .i64 x.at_, .int .i64 x.cap, .string x.name, .int .i64 x.mn, .int .i64 x.mx, .bool x.lz] rfl rfl _ Try.underlying27 rfl infoTrS (fun W hS r u hu => (World.cell?_of_block (by rw [add_block]; exact hS.2)).trans (rows10 k0 k1 k2 k3 k4 k5 k6 k7 k8 k9 r u hu))
          · exact yi_cell 4 _ rfl ⟨w.heap.size, 9, none⟩ (.bool t.lz) rfl rfl _ Try.underlying4 rfl (fun W hS => by rw [cell_of_blk hS.1]; rfl)
          clear k0 k1 k2 k3 k4 k5 k6 k7 k8 k9 g0 g1 g2 g3 g4 g5 g6 g7 g8 g9
          simp only [putAll, Act.put, List.setIfInBounds_toArray, List.set_cons_zero, List.set_cons_succ]
          refine Seq.cons rfl rfl (fun K hK => ?_)
          go_simp
          refine (quest_any (fun b => (ok b ∧ b < w.heap.size ∨ w.heap.size + 2 ≤ b) ∧ ∀ ad_1, some ad = some ad_1 → b ≠ ad_1.block) wr.drew x _ t.lz (TrC.drew HO.out.2.1)).mono ?_
          rintro e w1 ⟨c2, rfl, ht1, hb1⟩
          dsimp only
          have hs1 := hb1.size
          rw [World.size_drew] at hs1
          have hS1 := (hb1.block w.heap.size (by rw [World.size_drew]; omega)).trans HW.out.1.tre
          have hS2 : w1.heap[ad.block]? = wr.heap[ad.block]? := hb1.block ad.block (by rw [World.size_drew]; omega)
          refine hK _ _ ⟨hS1, hS2⟩ ?_
          clear hK K
          have hl9 := Lib.hid ht1.len
          have H9 := Lib.hid (And.intro ht1 (And.intro (below_and hb1 HW.out.1.bel.drew) ((hb1.block _ (by rw [World.size_drew]; exact hn2)).trans HW.out.1.res)))
          have HS12 := Lib.hid (And.intro hS1 hS2)
          clear ht1 hb1 hS1 hS2
          refine Seq.cons rfl rfl (fun K hK => ?_)
          (refine wp_storeB 27 _ _ rfl (w.heap.size + 1) c2 [.int .i64 0, .slice none 0 0, .int .i32 0, .slice none 0 0, .int .i64 0, .int .i64 0, .string ⟨#[]⟩, .int .i64 0, .int .i64 0, .bool false] 27 rfl rfl H9.out.2.2 (by rw [hl9.out]; rfl) (by rw [hl9.out]; exact infoTrS) (trC_cells H9.out.1) ?_)
          intro w3 hn9 hg9 hs9
          have HN := Lib.hid hn9
          clear hn9
          refine hK _ _ ⟨(grown_ne hg9 (by omega) (by omega)).trans HS12.out.1, (grown_ne hg9 (by omega) (by omega)).trans HS12.out.2⟩ ?_
          clear hK K
          simp only [Seq]
          go_wp2_with fail
          have hn9 := HN.out
          refine bodyPost_ret (results_cell_row rfl _ _ (w.heap.size + 1) _ _ _ _ rfl hn9 Try.underlying27 rfl (by rw [List.size_toArray, hl9.out]; exact infoTrS)) rfl ?_
          rw [HW.out.2.2.2.2.2.1, simpleN, if_neg (by rw [HO.out.1]; omega), if_neg (by rw [HO.out.1]; omega), if_neg (by rw [HO.out.1]; omega), if_neg (by rw [HO.out.1]; omega), if_neg (by rw [HO.out.1]; omega), if_pos HO.out.1, HO.out.2.2.1]
          refine sim_fin H9.out.2.1 H9.out.1 (fun b hb => ?_) hg9
          rcases hb with hb | hb
          · exact HW.out.2.2.2.2.2.2 b (.inl hb)
          · rw [World.size_drew] at hb; exact ⟨by omega, .inr (by omega)⟩
        by_cases ho12 : t.op = 12
        · have ho := ho12; clear ho12; have o11 : (t.op == 11) = false := (by rw [ho]; rfl); have o12 : (t.op == 12) = true := (by rw [ho]; rfl); have o6 : (t.op == 6) = false := (by rw [ho]; rfl); have o7 : (t.op == 7) = false := (by rw [ho]; rfl); have o8 : (t.op == 8) = false := (by rw [ho]; rfl); have o9 : (t.op == 9) = false := (by rw [ho]; rfl); have o10 : (t.op == 10) = false := (by rw [ho]; rfl)
          have hk := kept_simple1 _ wr L c1 l HW.out.2.2.2.1 (by omega)
          rw [hls] at hk
          have HO := Lib.hid (And.intro ho ho)
          clear ho g0 g1 g2 g3 g4 g5 g6 g7 g8 g9
          obtain ⟨gg0, _⟩ := cells10 HW.out.1.tre
          go_wp2_with fail
          refine hk.mono ?_
          clear hk
          rintro e w1 ⟨v2, css2, rfl, ho2, ht2, hb1⟩
          dsimp only
          obtain ⟨A2, c2, rfl, m1, m2⟩ := Owns.shape ho2
          have e9 := ht2.1
          have hSA : simpleS t = altS t (l.filter (fun k => !(k.op == 1))) := by rw [HW.out.2.2.2.2.2.1, simpleN, if_neg (by rw [HO.out.1]; omega), if_pos HO.out.1]
          generalize l.filter (fun t => !(t.op == 1)) = out at *
          rw [e9] at ho2 m1 ⊢
          have hs1 := hb1.size
          have harr2 := TsC.arr ho2 ht2
          have H1 := Lib.hid (And.intro ((hb1.block _ (heap_lt HW.out.1.tre)).trans HW.out.1.tre) (And.intro ((hb1.block _ hn2).trans HW.out.1.res) (And.intro (below_and hb1 HW.out.1.bel) (And.intro harr2 (And.intro ho2 (And.intro ht2 hSA))))))
          clear harr2 ho2 ht2 hb1 hSA e9 gg0
          by_cases e0 : out.length = 0
          · have hl0 : out = [] := List.length_eq_zero_iff.1 e0
            rw [e0] at m1 ⊢
            obtain ⟨r0, r1, r2, r3, r4, r5, r6, r7, r8, r9⟩ := cells10 H1.out.2.1
            have fz := frozen_of H1.out.2.1
            have HL := Lib.hid hl0
            clear hl0
            go_wp2_with ((refine wpList_storeB rfl 27 _ _ rfl (w.heap.size + 1) [.int .i64 1, .slice none 0 0, .int .i32 0, .slice none 0 0, .int .i64 0, .int .i64 0, .string ⟨#[]⟩, .int .i64 0, .int .i64 0, .bool false] [.int .i64 0, .slice none 0 0, .int .i32 0, .slice none 0 0, .int .i64 0, .int .i64 0, .string ⟨#[]⟩, .int .i64 0, .int .i64 0, .bool false] 27 rfl rfl H1.out.2.1 rfl infoTrS (by intro u hu; simp at hu; rcases hu with rfl | rfl | rfl | rfl | rfl | rfl | rfl | rfl | rfl | rfl <;> rfl) ?_))
            intro w3 hn9 hg9 hs9
            have HN := Lib.hid (And.intro hn9 hg9)
            clear hn9 hg9
            go_wp2_with fail
            refine bodyPost_ret (results_cell_row rfl _ _ (w.heap.size + 1) _ _ _ _ rfl HN.out.1 Try.underlying27 rfl infoTrS) rfl ?_
            rw [H1.out.2.2.2.2.2.2, HL.out]
            exact sim_fin (okF := fun _ => False) H1.out.2.2.1 (opTrC Arr.nil (Nat.le_refl _) (Nat.zero_le _)) (fun b hb => hb.elim) HN.out.2
          by_cases e1 : out.length = 1
          · obtain ⟨ad, A1, d1, A3, d3, rfl, hlo, hhi, hTk, k0, k1, k2, k3, k4, k5, k6, k7, k8, k9⟩ := own_elem H1.out.2.2.2.2.1 H1.out.2.2.2.2.2.1 0 (by omega)
            have had : ad.add (0 * 10) = ad := by unfold Addr.add; simp
            rw [had] at k0 k1 k2 k3 k4 k5 k6 k7 k8 k9
            have hlx : out = [out[0]] := List.ext_getElem (by simp [e1]) (fun i h1 h2 => by
              have hi0 : i = 0 := by omega
              subst hi0
              rfl)
            have hJ := H1.out.2.2.2.2.2.2
            rw [hlx] at hJ
            have hJ2 : simpleS t = out[0] := hJ
            generalize out[0] = x at *
            rw [e1] at m1 ⊢
            have HT := Lib.hid (And.intro hTk hJ2)
            have HX1 := H1.out.2.1
            have HXX := Lib.hid HX1
            clear hTk hJ hJ2 hlx had HX1
            go_wp2_with ((refine wpList_storeB rfl 27 _ _ rfl (w.heap.size + 1) [.int .i64 x.op, .slice A1 x.kids.length d1, .int .i32 x.rune, .slice A3 x.set.length d3, .int .i64 x.at_, .int .i64 x.cap, .string x.name, .int .i64 x.mn, .int .i64 x.mx, .bool x.lz] [.int .i64 0, .slice none 0 0, .int .i32 0, .slice none 0 0, .int .i64 0, .int .i64 0, .string ⟨#[]⟩, .int .i64 0, .int .i64 0, .bool false] 27 rfl rfl HXX.out rfl infoTrS (trC_cells HT.out.1) ?_))
            intro w3 hn9 hg9 hs9
            have HN := Lib.hid (And.intro hn9 hg9)
            clear hn9 hg9
            go_wp2_with fail
            refine bodyPost_ret (results_cell_row rfl _ _ (w.heap.size + 1) _ _ _ _ rfl HN.out.1 Try.underlying27 rfl infoTrS) rfl ?_
            rw [HT.out.2]
            refine sim_fin H1.out.2.2.1 HT.out.1 (fun b hb => ?_) HN.out.2
            exact HW.out.2.2.2.2.2.2 b hb.1
          · have hJ : simpleS t = { t with kids := out } := by
              have h9 := H1.out.2.2.2.2.2.2
              cases out with
              | nil => simp at e0
              | cons a r => cases r with
                | nil => simp at e1
                | cons b r => exact h9
            obtain ⟨nn, hnn⟩ : ∃ nn, out.length = nn := ⟨_, rfl⟩
            have HTT := Lib.hid hJ
            have HT := Lib.hid (And.intro H1.out.1 (And.intro H1.out.2.1 (And.intro H1.out.2.2.1 (And.intro H1.out.2.2.2.1 (And.intro (show ∀ b, (fun b => ((fun b => ((fun b => ((ok b ∧ b < w.heap.size ∨ w.heap.size + 2 ≤ b) ∧ ∀ ad_1 : Addr, L = some ad_1 → b ≠ ad_1.block) ∨ w.heap.size + 2 ≤ b)) b ∧ b < wr.heap.size) b) ∨ wr.heap.size ≤ b) b → b ≠ w.heap.size ∧ b ≠ w.heap.size + 1 ∧ (ok b ∨ w.heap.size ≤ b) from fun b hb => by
              rcases hb with ⟨hb, _⟩ | hb
              · exact ⟨by rcases hb with ⟨h | h, _⟩ | h <;> omega, HW.out.2.2.2.2.2.2 b hb⟩
              · exact ⟨by omega, by omega, .inr (by omega)⟩) (And.intro hnn (And.intro (hnn ▸ m1) m2)))))))
            have m1' := hnn ▸ m1
            clear hJ m1 
            rw [hnn] at e0 e1 ⊢
            have e0' : ((nn : Int) == 0) = false := by simp; omega
            have e1' : ((nn : Int) == 1) = false := by simp; omega
            have HNN := Lib.hid hnn
            clear hnn
            obtain ⟨g0, g1, g2, g3, g4, g5, g6, g7, g8, g9⟩ := cells10 HT.out.1
            have hts1 := HW.out.2.2.2.2.1.set
            have hcr := fun (V : World) (hV : Below w.heap.size w V) => cloneRange Rg RgC (fun x c hx => by unfold RgC at hx; subst hx; intro u hu; simp at hu; rcases hu with rfl | rfl <;> rfl) (fun b => ok b ∧ b < w.heap.size) V B d t.set (HS.out.2.2.1.move (fun b hb hlt => ⟨hV.block b hb.2, hb⟩) (by omega)) (by omega)
            go_wp2_with fail
            refine (hcr _ HT.out.2.2.1).mono ?_
            clear hcr
            rintro e w5 ⟨v5, css5, rfl, hl5, hE5, ho5, hb5⟩
            dsimp only
            obtain ⟨B5, d5, rfl, m5, m6⟩ := Owns.shape ho5
            obtain ⟨q1, q2, q3, q4, q5, q6, q7, q8⟩ := HT.out
            have x0 := (hb5.block _ (heap_lt q1)).trans q1
            have x1 := (hb5.block _ (heap_lt q2)).trans q2
            have xb := below_and hb5 q3
            have xs := hb5.size
            have hn5 := heap_lt q2
            have hset := Owns.arr ho5 (E := RgC) (xs := t.set) hl5.symm hE5 (ok := fun b => w.heap.size + 2 ≤ b) (fun a ha => by subst ha; have := (ho5.lt a.block rfl).1; omega)
            have hkid := (q4.move (fun b hb hlt => ⟨hb5.block b hlt, hb⟩) (by omega)).weak (fun x _ cs hx => hx.move (fun b hb hlt => ⟨hb5.block b hlt, hb⟩))
            rw [hl5] at m5 ⊢
            have fz := frozen_of x0
            clear g0 g1 g2 g3 g4 g5 g6 g7 g8 g9
            obtain ⟨g0, g1, g2, g3, g4, g5, g6, g7, g8, g9⟩ := cells10 x0
            have y1 : ∀ (u v : Value), ((w5.setCell ⟨w.heap.size, 3, none⟩ u).setCell ⟨w.heap.size, 1, none⟩ v).heap[w.heap.size + 1]? = some (.cells ([.int .i64 0, .slice none 0 0, .int .i32 0, .slice none 0 0, .int .i64 0, .int .i64 0, .string ⟨#[]⟩, .int .i64 0, .int .i64 0, .bool false] : List Value).toArray 27 (0, 0)) := fun u v => (Below.heap_setCell _ _ _ _ (show w.heap.size + 1 ≠ w.heap.size by omega)).trans ((Below.heap_setCell _ _ _ _ (show w.heap.size + 1 ≠ w.heap.size by omega)).trans x1)
            have H5 := Lib.hid (And.intro x0 (And.intro xb (And.intro hset (And.intro hkid (And.intro y1 (And.intro q5 (And.intro q6 (And.intro q7 q8))))))))
            clear hE5 ho5 hb5 hl5 x0 x1 xb hset hkid y1 q1 q2 q3 q4 q5 q6 q7 q8
            go_wp2_with ((refine wpList_storeB rfl 27 _ _ rfl (w.heap.size + 1) [.int .i64 t.op, .slice A2 (nn) c2, .int .i32 t.rune, .slice B5 t.set.length d5, .int .i64 t.at_, .int .i64 t.cap, .string t.name, .int .i64 t.mn, .int .i64 t.mx, .bool t.lz] [.int .i64 0, .slice none 0 0, .int .i32 0, .slice none 0 0, .int .i64 0, .int .i64 0, .string ⟨#[]⟩, .int .i64 0, .int .i64 0, .bool false] 27 rfl rfl (H5.out.2.2.2.2.1 _ _) rfl infoTrS (by intro u hu; simp at hu; rcases hu with rfl | rfl | rfl | rfl | rfl | rfl | rfl | rfl | rfl | rfl <;> rfl) ?_))
            intro w3 hn9 hg9 hs9
            have HN := Lib.hid (And.intro hn9 hg9)
            clear hn9 hg9
            go_wp2_with fail
            refine bodyPost_ret (results_cell_row rfl _ _ (w.heap.size + 1) _ _ _ _ rfl HN.out.1 Try.underlying27 rfl infoTrS) rfl ?_
            obtain ⟨x0, xb, hset, hkid, y1, q5, q6, q7, q8⟩ := H5.out
            rw [HTT.out]
            have hmv : ∀ b, b ≠ w.heap.size → ((w5.setCell ⟨w.heap.size, 3, none⟩ (.slice B5 t.set.length d5)).setCell ⟨w.heap.size, 1, none⟩ (.slice A2 (nn) c2)).heap[b]? = w5.heap[b]? := fun b hb => (Below.heap_setCell _ _ _ _ (show b ≠ w.heap.size from hb)).trans (Below.heap_setCell _ _ _ _ (show b ≠ w.heap.size from hb))
            refine sim_fin (okF := fun b => (fun b => (fun b => ((fun b => ((ok b ∧ b < w.heap.size ∨ w.heap.size + 2 ≤ b) ∧ ∀ ad_1 : Addr, L = some ad_1 → b ≠ ad_1.block) ∨ w.heap.size + 2 ≤ b)) b ∧ b < wr.heap.size) b ∨ wr.heap.size ≤ b) b ∨ w.heap.size + 2 ≤ b) ((xb.setCell (by simp) _).setCell (by simp) _) (trC_iff.2 ⟨A2, c2, B5, d5, ?_, ?_, q8, m5, m6, ?_, ?_⟩) (fun b hb => ?_) HN.out.2
            · show _ = ([_, Value.slice A2 (out).length c2, _, _, _, _, _, _, _, _] : List Value)
              rw [q6]
            · show (out).length ≤ c2
              rw [q6]; exact q7
            · exact hset.move (fun b hb hlt => ⟨hmv b (by omega), .inr hb⟩) (by omega)
            · exact (hkid.move (fun b hb hlt => ⟨hmv b (q5 b hb).1, .inl hb⟩) (by omega)).weak (fun x _ cs hx => hx.move (fun b hb hlt => ⟨hmv b (q5 b hb).1, .inl hb⟩))
            · rcases hb with hb | hb
              · exact (q5 b hb).2
              · exact ⟨by omega, .inr (by omega)⟩
        by_cases ho6 : t.op = 6
        · have ho := ho6; clear ho6; have o11 : (t.op == 11) = false := (by rw [ho]; rfl); have o12 : (t.op == 12) = false := (by rw [ho]; rfl); have o6 : (t.op == 6) = true := (by rw [ho]; rfl); have o7 : (t.op == 7) = false := (by rw [ho]; rfl); have o8 : (t.op == 8) = false := (by rw [ho]; rfl); have o9 : (t.op == 9) = false := (by rw [ho]; rfl); have o10 : (t.op == 10) = false := (by rw [ho]; rfl)
          have hone := HW.out.2.2.2.2.1.one (by omega) (by omega)
          obtain ⟨ad, A1, e1, A3, e3, rfl, hlo, hhi, hTk, k0, k1, k2, k3, k4, k5, k6, k7, k8, k9⟩ := own_elem HW.out.2.1 HW.out.2.2.1 0 (by omega)
          have hhd : hdT l = l[0]'(by omega) := by cases l with | nil => simp at hls; omega | cons a r => rfl
          have hprt := HW.out.2.2.2.2.1.part l[0] (List.getElem_mem (by omega))
          generalize l[0] = x at *
          have had : ad.add (0 * 10) = ad := by unfold Addr.add; simp
          rw [had] at k0 k1 k2 k3 k4 k5 k6 k7 k8 k9
          have HO := Lib.hid (And.intro ho (And.intro hTk (And.intro hhd hprt)))
          clear ho hTk hhd hprt had
          have his := fun (W : World) (gg : Nat) hg => is_lit W x A1 e1 A3 e3 [1] gg 1 rfl hg (by simp)
          unfold treeC at his
          have hb11 : ([1] : List Int).contains x.op = (x.op == 1) := by rw [Bool.eq_iff_iff]; simp
          rw [hb11] at his
          clear hb11
          go_wp2_with fail
          refine (his _ _ (heap_new1 _ _)).mono ?_
          clear his
          rintro e w1 ⟨rfl, hb1⟩
          dsimp only
          have hB1 := below_and hb1 (below_al (Below.refl _ _) _)
          have hmb := hB1.block ad.block hhi
          have k00 := k0
          have k0 := (World.cell?_of_block (a := ad) hmb).trans k0
          have k1 := (World.cell?_of_block (a := ⟨ad.block, ad.off + 1, none⟩) hmb).trans k1
          have k2 := (World.cell?_of_block (a := ⟨ad.block, ad.off + 2, none⟩) hmb).trans k2
          have k3 := (World.cell?_of_block (a := ⟨ad.block, ad.off + 3, none⟩) hmb).trans k3
          have k4 := (World.cell?_of_block (a := ⟨ad.block, ad.off + 4, none⟩) hmb).trans k4
          have k5 := (World.cell?_of_block (a := ⟨ad.block, ad.off + 5, none⟩) hmb).trans k5
          have k6 := (World.cell?_of_block (a := ⟨ad.block, ad.off + 6, none⟩) hmb).trans k6
          have k7 := (World.cell?_of_block (a := ⟨ad.block, ad.off + 7, none⟩) hmb).trans k7
          have k8 := (World.cell?_of_block (a := ⟨ad.block, ad.off + 8, none⟩) hmb).trans k8
          have k9 := (World.cell?_of_block (a := ⟨ad.block, ad.off + 9, none⟩) hmb).trans k9
          have x0 := (hB1.block _ (heap_lt HW.out.1.tre)).trans HW.out.1.tre
          have x1 := (hB1.block _ hn2).trans HW.out.1.res
          have hs1 := hB1.size
          have H1 := Lib.hid (And.intro x0 (And.intro x1 (And.intro (below_and hB1 HW.out.1.bel) (And.intro (HW.out.2.2.2.1.move (fun b hb hlt => ⟨hB1.block b hlt, hb⟩) (by omega) |>.weak (fun x _ cs hx => hx.move (fun b hb hlt => ⟨hB1.block b hlt, hb⟩))) (HO.out.2.1.move (fun b hb hlt => ⟨hB1.block b hlt, hb⟩))))))
          have fz := frozen_of x1
          clear hb1 hB1 hmb k00 x0 x1 g0 g1 g2 g3 g4 g5 g6 g7 g8 g9
          cases hx1 : (x.op == 1) with
          | true =>
            have HX := Lib.hid hx1
            clear hx1
            go_wp2_with ((refine wpList_storeB rfl 27 _ _ rfl (w.heap.size + 1) [.int .i64 x.op, .slice A1 x.kids.length e1, .int .i32 x.rune, .slice A3 x.set.length e3, .int .i64 x.at_, .int .i64 x.cap, .string x.name, .int .i64 x.mn, .int .i64 x.mx, .bool x.lz] [.int .i64 0, .slice none 0 0, .int .i32 0, .slice none 0 0, .int .i64 0, .int .i64 0, .string ⟨#[]⟩, .int .i64 0, .int .i64 0, .bool false] 27 rfl rfl H1.out.2.1 rfl infoTrS (by intro u hu; simp at hu; rcases hu with rfl | rfl | rfl | rfl | rfl | rfl | rfl | rfl | rfl | rfl <;> rfl) ?_))
            intro w3 hn9 hg9 hs9
            have HN := Lib.hid (And.intro hn9 hg9)
            clear hn9 hg9
            go_wp2_with fail
            refine bodyPost_ret (results_cell_row rfl _ _ (w.heap.size + 1) _ _ _ _ rfl HN.out.1 Try.underlying27 rfl infoTrS) rfl ?_
            rw [HW.out.2.2.2.2.2.1, simpleN, if_neg (by rw [HO.out.1]; omega), if_neg (by rw [HO.out.1]; omega), if_pos HO.out.1, HO.out.2.2.1, if_pos (by simpa using HX.out)]
            refine sim_fin H1.out.2.2.1 H1.out.2.2.2.2 (fun b hb => ?_) HN.out.2
            exact HW.out.2.2.2.2.2.2 b (.inl hb)
          | false =>
            have hJ : simpleS t = { t with kids := l } := by
              rw [HW.out.2.2.2.2.2.1, simpleN, if_neg (by rw [HO.out.1]; omega), if_neg (by rw [HO.out.1]; omega), if_pos HO.out.1, HO.out.2.2.1, if_neg (by simpa using hx1)]
            have HTT := Lib.hid hJ
            clear hJ k0 k1 k2 k3 k4 k5 k6 k7 k8 k9 fz
            have HX := Lib.hid hx1
            clear hx1
            have HT := Lib.hid (And.intro H1.out.1 (And.intro H1.out.2.1 (And.intro H1.out.2.2.1 (And.intro H1.out.2.2.2.1 (And.intro (show ∀ b, (fun b => ((ok b ∧ b < w.heap.size ∨ w.heap.size + 2 ≤ b) ∧ ∀ ad_1 : Addr, some ad = some ad_1 → b ≠ ad_1.block) ∨ w.heap.size + 2 ≤ b) b → b ≠ w.heap.size ∧ b ≠ w.heap.size + 1 ∧ (ok b ∨ w.heap.size ≤ b) from fun b hb => ⟨by rcases hb with ⟨h | h, _⟩ | h <;> omega, HW.out.2.2.2.2.2.2 b hb⟩) (And.intro (show l.length = 1 by omega) (And.intro (show 1 ≤ c1 by omega) hc1m)))))))
            obtain ⟨g0, g1, g2, g3, g4, g5, g6, g7, g8, g9⟩ := cells10 HT.out.1
            have hts1 := HW.out.2.2.2.2.1.set
            have hcr := fun (V : World) (hV : Below w.heap.size w V) => cloneRange Rg RgC (fun x c hx => by unfold RgC at hx; subst hx; intro u hu; simp at hu; rcases hu with rfl | rfl <;> rfl) (fun b => ok b ∧ b < w.heap.size) V B d t.set (HS.out.2.2.1.move (fun b hb hlt => ⟨hV.block b hb.2, hb⟩) (by omega)) (by omega)
            go_wp2_with fail
            refine (hcr _ HT.out.2.2.1).mono ?_
            clear hcr
            rintro e w5 ⟨v5, css5, rfl, hl5, hE5, ho5, hb5⟩
            dsimp only
            obtain ⟨B5, d5, rfl, m5, m6⟩ := Owns.shape ho5
            obtain ⟨q1, q2, q3, q4, q5, q6, q7, q8⟩ := HT.out
            have x0 := (hb5.block _ (heap_lt q1)).trans q1
            have x1 := (hb5.block _ (heap_lt q2)).trans q2
            have xb := below_and hb5 q3
            have xs := hb5.size
            have hn5 := heap_lt q2
            have hset := Owns.arr ho5 (E := RgC) (xs := t.set) hl5.symm hE5 (ok := fun b => w.heap.size + 2 ≤ b) (fun a ha => by subst ha; have := (ho5.lt a.block rfl).1; omega)
            have hkid := (q4.move (fun b hb hlt => ⟨hb5.block b hlt, hb⟩) (by omega)).weak (fun x _ cs hx => hx.move (fun b hb hlt => ⟨hb5.block b hlt, hb⟩))
            rw [hl5] at m5 ⊢
            have fz := frozen_of x0
            clear g0 g1 g2 g3 g4 g5 g6 g7 g8 g9
            obtain ⟨g0, g1, g2, g3, g4, g5, g6, g7, g8, g9⟩ := cells10 x0
            have y1 : ∀ (u v : Value), ((w5.setCell ⟨w.heap.size, 3, none⟩ u).setCell ⟨w.heap.size, 1, none⟩ v).heap[w.heap.size + 1]? = some (.cells ([.int .i64 0, .slice none 0 0, .int .i32 0, .slice none 0 0, .int .i64 0, .int .i64 0, .string ⟨#[]⟩, .int .i64 0, .int .i64 0, .bool false] : List Value).toArray 27 (0, 0)) := fun u v => (Below.heap_setCell _ _ _ _ (show w.heap.size + 1 ≠ w.heap.size by omega)).trans ((Below.heap_setCell _ _ _ _ (show w.heap.size + 1 ≠ w.heap.size by omega)).trans x1)
            have H5 := Lib.hid (And.intro x0 (And.intro xb (And.intro hset (And.intro hkid (And.intro y1 (And.intro q5 (And.intro q6 (And.intro q7 q8))))))))
            clear hE5 ho5 hb5 hl5 x0 x1 xb hset hkid y1 q1 q2 q3 q4 q5 q6 q7 q8
            go_wp2_with ((refine wpList_storeB rfl 27 _ _ rfl (w.heap.size + 1) [.int .i64 t.op, .slice (some ad) (1) c1, .int .i32 t.rune, .slice B5 t.set.length d5, .int .i64 t.at_, .int .i64 t.cap, .string t.name, .int .i64 t.mn, .int .i64 t.mx, .bool t.lz] [.int .i64 0, .slice none 0 0, .int .i32 0, .slice none 0 0, .int .i64 0, .int .i64 0, .string ⟨#[]⟩, .int .i64 0, .int .i64 0, .bool false] 27 rfl rfl (H5.out.2.2.2.2.1 _ _) rfl infoTrS (by intro u hu; simp at hu; rcases hu with rfl | rfl | rfl | rfl | rfl | rfl | rfl | rfl | rfl | rfl <;> rfl) ?_))
            intro w3 hn9 hg9 hs9
            have HN := Lib.hid (And.intro hn9 hg9)
            clear hn9 hg9
            go_wp2_with fail
            refine bodyPost_ret (results_cell_row rfl _ _ (w.heap.size + 1) _ _ _ _ rfl HN.out.1 Try.underlying27 rfl infoTrS) rfl ?_
            obtain ⟨x0, xb, hset, hkid, y1, q5, q6, q7, q8⟩ := H5.out
            rw [HTT.out]
            have hmv : ∀ b, b ≠ w.heap.size → ((w5.setCell ⟨w.heap.size, 3, none⟩ (.slice B5 t.set.length d5)).setCell ⟨w.heap.size, 1, none⟩ (.slice (some ad) (1) c1)).heap[b]? = w5.heap[b]? := fun b hb => (Below.heap_setCell _ _ _ _ (show b ≠ w.heap.size from hb)).trans (Below.heap_setCell _ _ _ _ (show b ≠ w.heap.size from hb))
            refine sim_fin (okF := fun b => (fun b => ((ok b ∧ b < w.heap.size ∨ w.heap.size + 2 ≤ b) ∧ ∀ ad_1 : Addr, some ad = some ad_1 → b ≠ ad_1.block) ∨ w.heap.size + 2 ≤ b) b ∨ w.heap.size + 2 ≤ b) ((xb.setCell (by simp) _).setCell (by simp) _) (trC_iff.2 ⟨(some ad), c1, B5, d5, ?_, ?_, q8, m5, m6, ?_, ?_⟩) (fun b hb => ?_) HN.out.2
            · show _ = ([_, Value.slice (some ad) (l).length c1, _, _, _, _, _, _, _, _] : List Value)
              rw [q6]
            · show (l).length ≤ c1
              rw [q6]; exact q7
            · exact hset.move (fun b hb hlt => ⟨hmv b (by omega), .inr hb⟩) (by omega)
            · exact (hkid.move (fun b hb hlt => ⟨hmv b (q5 b hb).1, .inl hb⟩) (by omega)).weak (fun x _ cs hx => hx.move (fun b hb hlt => ⟨hmv b (q5 b hb).1, .inl hb⟩))
            · rcases hb with hb | hb
              · exact (q5 b hb).2
              · exact ⟨by omega, .inr (by omega)⟩
        by_cases ho10 : t.op = 10
        · have ho := ho10; clear ho10; have o11 : (t.op == 11) = false := (by rw [ho]; rfl); have o12 : (t.op == 12) = false := (by rw [ho]; rfl); have o6 : (t.op == 6) = false := (by rw [ho]; rfl); have o7 : (t.op == 7) = false := (by rw [ho]; rfl); have o8 : (t.op == 8) = false := (by rw [ho]; rfl); have o9 : (t.op == 9) = false := (by rw [ho]; rfl); have o10 : (t.op == 10) = true := (by rw [ho]; rfl)
          have hrep := HW.out.2.2.2.2.1.rep ho
          have hone := HW.out.2.2.2.2.1.one (by omega) (by omega)
          obtain ⟨ad, A1, e1, A3, e3, rfl, hlo, hhi, hTk, k0, k1, k2, k3, k4, k5, k6, k7, k8, k9⟩ := own_elem HW.out.2.1 HW.out.2.2.1 0 (by omega)
          have hhd : hdT l = l[0]'(by omega) := by cases l with | nil => simp at hls; omega | cons a r => rfl
          have hprt := HW.out.2.2.2.2.1.part l[0] (List.getElem_mem (by omega))
          generalize l[0] = x at *
          have had : ad.add (0 * 10) = ad := by unfold Addr.add; simp
          rw [had] at k0 k1 k2 k3 k4 k5 k6 k7 k8 k9
          have HO := Lib.hid (And.intro ho (And.intro hTk (And.intro hhd hprt)))
          clear ho hTk hhd hprt had
          have hsw := HW.out.1.bel.size
          have hn1 : w.heap.size < wr.heap.size := (by omega)
          by_cases hmx0 : t.mx = 0
          · have hTT : simpleS t = opT 2 [] false := by rw [HW.out.2.2.2.2.2.1, simpleN, if_neg (by rw [HO.out.1]; omega), if_neg (by rw [HO.out.1]; omega), if_neg (by rw [HO.out.1]; omega), if_neg (by rw [HO.out.1]; omega), if_neg (by rw [HO.out.1]; omega), if_neg (by rw [HO.out.1]; omega), if_pos HO.out.1, if_pos hmx0]
            have b0 : (t.mx == 0) = true := (by rw [hmx0]; rfl)
            have HTT := Lib.hid hTT
            have x1 := (Below.heap_alloc _ (.cells #[.int .i64 x.op, .slice A1 x.kids.length e1, .int .i32 x.rune, .slice A3 x.set.length e3, .int .i64 x.at_, .int .i64 x.cap, .string x.name, .int .i64 x.mn, .int .i64 x.mx, .bool x.lz] 27) _ hn2).trans HW.out.1.res
            have HX := Lib.hid (And.intro x1 (below_al HW.out.1.bel (.cells #[.int .i64 x.op, .slice A1 x.kids.length e1, .int .i32 x.rune, .slice A3 x.set.length e3, .int .i64 x.at_, .int .i64 x.cap, .string x.name, .int .i64 x.mn, .int .i64 x.mx, .bool x.lz] 27)))
            clear hTT hmx0 x1 hrep
            go_wp2_with ((refine wpList_storeB rfl 27 _ _ rfl (w.heap.size + 1) [.int .i64 2, .slice none 0 0, .int .i32 0, .slice none 0 0, .int .i64 0, .int .i64 0, .string ⟨#[]⟩, .int .i64 0, .int .i64 0, .bool false] [.int .i64 0, .slice none 0 0, .int .i32 0, .slice none 0 0, .int .i64 0, .int .i64 0, .string ⟨#[]⟩, .int .i64 0, .int .i64 0, .bool false] 27 rfl rfl HX.out.1 rfl infoTrS (by intro u hu; simp at hu; rcases hu with rfl | rfl | rfl | rfl | rfl | rfl | rfl | rfl | rfl | rfl <;> rfl) ?_))
            intro w3 hn9 hg9 hs9
            have HN := Lib.hid (And.intro hn9 hg9)
            clear hn9 hg9
            go_wp2_with fail
            refine bodyPost_ret (results_cell_row rfl _ _ (w.heap.size + 1) _ _ _ _ rfl HN.out.1 Try.underlying27 rfl infoTrS) rfl ?_
            rw [HTT.out]
            exact sim_fin (okF := fun _ => False) HX.out.2 (opTrC Arr.nil (Nat.le_refl _) (Nat.zero_le _)) (fun b hb => hb.elim) HN.out.2
          have b0 : (t.mx == 0) = false := (by simpa using hmx0)
          by_cases hmxp : 0 < t.mx
          · obtain ⟨m, hm⟩ : ∃ m : Nat, t.mn = m := ⟨t.mn.toNat, by omega⟩
            obtain ⟨q, hq⟩ : ∃ q : Nat, t.mx - t.mn = q := ⟨(t.mx - t.mn).toNat, by omega⟩
            have hm1 : m ≤ 1000 := by omega
            have hq1 : q ≤ 1000 := by omega
            have hTT : simpleS t = joinedS (List.replicate m x ++ [restS x t.lz q]) := by rw [HW.out.2.2.2.2.2.1, simpleN, if_neg (by rw [HO.out.1]; omega), if_neg (by rw [HO.out.1]; omega), if_neg (by rw [HO.out.1]; omega), if_neg (by rw [HO.out.1]; omega), if_neg (by rw [HO.out.1]; omega), if_neg (by rw [HO.out.1]; omega), if_pos HO.out.1, if_neg hmx0, if_pos hmxp, HO.out.2.2.1, hq, hm]; rfl
            have hq9 : IntKind.i64.wrap (t.mx - t.mn) = (q : Int) := by rw [hq]; exact IntWalk.i64_in _ (by omega)
            have HTT := Lib.hid hTT
            have HM := Lib.hid hm
            clear hTT hrep hq hm
            go_wp2_with fail
            have HA := Lib.hid (And.intro ((Below.heap_alloc _ (.cells #[.int .i64 x.op, .slice A1 x.kids.length e1, .int .i32 x.rune, .slice A3 x.set.length e3, .int .i64 x.at_, .int .i64 x.cap, .string x.name, .int .i64 x.mn, .int .i64 x.mx, .bool x.lz] 27) _ (heap_lt HW.out.1.tre)).trans HW.out.1.tre) (And.intro (heap_new1 wr (.cells #[.int .i64 x.op, .slice A1 x.kids.length e1, .int .i32 x.rune, .slice A3 x.set.length e3, .int .i64 x.at_, .int .i64 x.cap, .string x.name, .int .i64 x.mn, .int .i64 x.mx, .bool x.lz] 27)) (And.intro hone ((Below.heap_alloc _ (.cells #[.int .i64 x.op, .slice A1 x.kids.length e1, .int .i32 x.rune, .slice A3 x.set.length e3, .int .i64 x.at_, .int .i64 x.cap, .string x.name, .int .i64 x.mn, .int .i64 x.mx, .bool x.lz] 27) _ hn2).trans HW.out.1.res))))
            refine wp_region_seq (fun W' => W'.heap[w.heap.size]? = some (.cells ([.int .i64 t.op, .slice A t.kids.length c, .int .i32 t.rune, .slice B t.set.length d, .int .i64 t.at_, .int .i64 t.cap, .string t.name, .int .i64 t.mn, .int .i64 t.mx, .bool t.lz] : List Value).toArray 27 (0, 0)) ∧ W'.heap[wr.heap.size]? = (some (.cells ([.int .i64 x.op, .slice A1 x.kids.length e1, .int .i32 x.rune, .slice A3 x.set.length e3, .int .i64 x.at_, .int .i64 x.cap, .string x.name, .int .i64 x.mn, .int .i64 x.mx, .bool x.lz] : List Value).toArray 27 (0, 0)))) (by kernel_rfl) (by kernel_rfl) (fun _ _ _ _ _ h => h)
              [(0, 91, .agg ([.int .i64 x.op, .slice A1 x.kids.length e1, .int .i32 x.rune, .slice A3 x.set.length e3, .int .i64 x.at_, .int .i64 x.cap, .string x.name, .int .i64 x.mn, .int .i64 x.mx, .bool x.lz] : List Value).toArray), (2, 93, .pointer (some ⟨w.heap.size, 7, none⟩)), (3, 94, .int .i64 t.mn), (5, 96, .agg ([.int .i64 x.op, .slice A1 x.kids.length e1, .int .i32 x.rune, .slice A3 x.set.length e3, .int .i64 x.at_, .int .i64 x.cap, .string x.name, .int .i64 x.mn, .int .i64 x.mx, .bool x.lz] : List Value).toArray), (6, 97, .pointer (some ⟨w.heap.size, 8, none⟩)), (7, 98, .int .i64 t.mx), (8, 99, .pointer (some ⟨w.heap.size, 7, none⟩)), (9, 100, .int .i64 t.mn), (10, 101, .int .i64 (q : Nat)), (11, 102, .pointer (some ⟨w.heap.size, 9, none⟩)), (12, 103, .bool t.lz)] [1, 4, 13, 14, 15, 16, 17] rfl (by kernel_rfl) ⟨HA.out.1, HA.out.2.1⟩ ?_ ?_
            · refine ⟨⟨_, rfl, rfl, yi_row 27 _ rfl wr.heap.size [.int .i64 x.op, .slice A1 x.kids.length e1, .int .i32 x.rune, .slice A3 x.set.length e3, .int .i64 x.at_, .int .i64 x.cap, .string x.name, .int .i64 x.mn, .int .i64 x.mx, .bool x.lz] 27 rfl rfl _ Try.underlying27 rfl infoTrS (fun W hS => hS.2)⟩, ?_⟩
              simp only [Act.put, List.setIfInBounds_toArray, List.set_cons_zero, List.set_cons_succ]
              refine ⟨⟨_, rfl, rfl, yi_pure rfl (fun _ => by go_simp)⟩, ?_⟩
              simp only [Act.put, List.setIfInBounds_toArray, List.set_cons_zero, List.set_cons_succ]
              refine ⟨⟨_, rfl, rfl, yi_cell 3 _ rfl ⟨w.heap.size, 7, none⟩ _ rfl rfl _ Try.underlying3 rfl (fun W hS => by rw [cell_of_blk hS.1]; rfl)⟩, ?_⟩
              simp only [Act.put, List.setIfInBounds_toArray, List.set_cons_zero, List.set_cons_succ]
              refine ⟨⟨_, rfl, rfl, yi_row 27 _ rfl wr.heap.size [.int .i64 x.op, .slice A1 x.kids.length e1, .int .i32 x.rune, .slice A3 x.set.length e3, .int .i64 x.at_, .int .i64 x.cap, .string x.name, .int .i64 x.mn, .int .i64 x.mx, .bool x.lz] 27 rfl rfl _ Try.underlying27 rfl infoTrS (fun W hS => hS.2)⟩, ?_⟩
              simp only [Act.put, List.setIfInBounds_toArray, List.set_cons_zero, List.set_cons_succ]
              refine ⟨⟨_, rfl, rfl, yi_pure rfl (fun _ => by go_simp)⟩, ?_⟩
              simp only [Act.put, List.setIfInBounds_toArray, List.set_cons_zero, List.set_cons_succ]
              refine ⟨⟨_, rfl, rfl, yi_cell 3 _ rfl ⟨w.heap.size, 8, none⟩ _ rfl rfl _ Try.underlying3 rfl (fun W hS => by rw [cell_of_blk hS.1]; rfl)⟩, ?_⟩
              simp only [Act.put, List.setIfInBounds_toArray, List.set_cons_zero, List.set_cons_succ]
              refine ⟨⟨_, rfl, rfl, yi_pure rfl (fun _ => by go_simp)⟩, ?_⟩
              simp only [Act.put, List.setIfInBounds_toArray, List.set_cons_zero, List.set_cons_succ]
              refine ⟨⟨_, rfl, rfl, yi_cell 3 _ rfl ⟨w.heap.size, 7, none⟩ _ rfl rfl _ Try.underlying3 rfl (fun W hS => by rw [cell_of_blk hS.1]; rfl)⟩, ?_⟩
              simp only [Act.put, List.setIfInBounds_toArray, List.set_cons_zero, List.set_cons_succ]
              refine ⟨⟨_, rfl, rfl, yi_pure rfl (fun _ => by go_simp)⟩, ?_⟩
              simp only [Act.put, List.setIfInBounds_toArray, List.set_cons_zero, List.set_cons_succ]
              refine ⟨⟨_, rfl, rfl, yi_pure rfl (fun _ => by go_simp)⟩, ?_⟩
              simp only [Act.put, List.setIfInBounds_toArray, List.set_cons_zero, List.set_cons_succ]
              refine ⟨⟨_, rfl, rfl, yi_cell 4 _ rfl ⟨w.heap.size, 9, none⟩ _ rfl rfl _ Try.underlying4 rfl (fun W hS => by rw [cell_of_blk hS.1]; rfl)⟩, ?_⟩
              simp only [Act.put, List.setIfInBounds_toArray, List.set_cons_zero, List.set_cons_succ]
              trivial
            simp only [putAll, Act.put, List.setIfInBounds_toArray, List.set_cons_zero, List.set_cons_succ]
            obtain ⟨y1, y6, yb, yr⟩ := HA.out
            clear HA g0 g1 g2 g3 g4 g5 g6 g7 g8 g9 k0 k1 k2 k3 k4 k5 k6 k7 k8 k9
            obtain ⟨W, hW⟩ : ∃ W, (wr.alloc (.cells #[.int .i64 x.op, .slice A1 x.kids.length e1, .int .i32 x.rune, .slice A3 x.set.length e3, .int .i64 x.at_, .int .i64 x.cap, .string x.name, .int .i64 x.mn, .int .i64 x.mx, .bool x.lz] 27)).drew = W := ⟨_, rfl⟩
            have hWs : wr.heap.size + 1 ≤ W.heap.size := by rw [← hW]; simp
            have hWu : W.heap.size ≤ wr.heap.size + 1 := by rw [← hW]; simp
            have hWb : Below wr.heap.size wr W := by rw [← hW]; exact (below_al (Below.refl _ _) _).drew
            have z1 : W.heap[w.heap.size]? = some (.cells ([.int .i64 t.op, .slice A t.kids.length c, .int .i32 t.rune, .slice B t.set.length d, .int .i64 t.at_, .int .i64 t.cap, .string t.name, .int .i64 t.mn, .int .i64 t.mx, .bool t.lz] : List Value).toArray 27 (0, 0)) := by rw [← hW]; exact y1
            have z6 : W.heap[wr.heap.size]? = (some (.cells ([.int .i64 x.op, .slice A1 x.kids.length e1, .int .i32 x.rune, .slice A3 x.set.length e3, .int .i64 x.at_, .int .i64 x.cap, .string x.name, .int .i64 x.mn, .int .i64 x.mx, .bool x.lz] : List Value).toArray 27 (0, 0))) := by rw [← hW]; exact y6
            have zr : W.heap[w.heap.size + 1]? = some (.cells ([.int .i64 0, .slice none 0 0, .int .i32 0, .slice none 0 0, .int .i64 0, .int .i64 0, .string ⟨#[]⟩, .int .i64 0, .int .i64 0, .bool false] : List Value).toArray 27 (0, 0)) := by rw [← hW]; exact yr
            clear y1 y6 yr yb
            rw [hW]
            clear hW
            refine Seq.cons rfl rfl (fun K hK => ?_)
            go_simp
            refine hK _ _ ⟨(Below.heap_alloc _ _ _ (heap_lt z1)).trans z1, (Below.heap_alloc _ _ _ (heap_lt z6)).trans z6⟩ ?_
            clear hK K
            obtain ⟨W2, hW2⟩ : ∃ W2, W.alloc (.cells #[.int .i64 x.op, .slice A1 x.kids.length e1, .int .i32 x.rune, .slice A3 x.set.length e3, .int .i64 x.at_, .int .i64 x.cap, .string x.name, .int .i64 x.mn, .int .i64 x.mx, .bool x.lz] 27) = W2 := ⟨_, rfl⟩
            have hs2 : W.heap.size + 1 ≤ W2.heap.size := by rw [← hW2]; simp
            have hu2 : W2.heap.size ≤ W.heap.size + 1 := by rw [← hW2]; simp
            have hb2 : Below W.heap.size W W2 := by rw [← hW2]; exact below_al (Below.refl _ _) _
            have v2 : W2.heap[W.heap.size]? = (some (.cells ([.int .i64 x.op, .slice A1 x.kids.length e1, .int .i32 x.rune, .slice A3 x.set.length e3, .int .i64 x.at_, .int .i64 x.cap, .string x.name, .int .i64 x.mn, .int .i64 x.mx, .bool x.lz] : List Value).toArray 27 (0, 0))) := by rw [← hW2]; exact heap_new1 _ _
            rw [hW2]
            clear hW2
            refine Seq.cons rfl rfl (fun K hK => ?_)
            go_simp
            have hrr := repTree W2 W.heap.size m [.int .i64 x.op, .slice A1 x.kids.length e1, .int .i32 x.rune, .slice A3 x.set.length e3, .int .i64 x.at_, .int .i64 x.cap, .string x.name, .int .i64 x.mn, .int .i64 x.mx, .bool x.lz] rfl (trC_cells HO.out.2.1) v2 (by omega)
            rw [← HM.out] at hrr
            refine hrr.mono ?_
            clear hrr
            rintro e w3 ⟨vR, rfl, hoR, hb3⟩
            dsimp only
            have hs3 := hb3.size
            have hB3 := below_and hb3 hb2
            refine hK _ _ ⟨(hB3.block _ (heap_lt z1)).trans z1, (hB3.block _ (heap_lt z6)).trans z6⟩ ?_
            clear hK K
            have hx3 : TrC (fun b => (ok b ∧ b < w.heap.size ∨ w.heap.size + 2 ≤ b) ∧ ∀ ad_1, some ad = some ad_1 → b ≠ ad_1.block) w3 x _ := HO.out.2.1.move (fun b hb hlt => ⟨(hB3.block b (by omega)).trans (hWb.block b hlt), hb⟩)
            refine Seq.cons rfl rfl (fun K hK => ?_)
            go_simp
            refine (rest_any (fun b => (fun b => (ok b ∧ b < w.heap.size ∨ w.heap.size + 2 ≤ b) ∧ ∀ ad_1, some ad = some ad_1 → b ≠ ad_1.block) b ∧ b < W.heap.size) w3 x _ q t.lz (HO.out.2.1.move (ok' := (fun b => (fun b => (ok b ∧ b < w.heap.size ∨ w.heap.size + 2 ≤ b) ∧ ∀ ad_1, some ad = some ad_1 → b ≠ ad_1.block) b ∧ b < W.heap.size)) (fun b hb hlt => ⟨(hB3.block b (by omega)).trans (hWb.block b hlt), hb, by omega⟩)) (Nat.le_trans (HO.out.2.2.2 x (mem_parts_self x)) (by omega)) (by omega)).mono ?_
            rintro e w4 ⟨cR, rfl, htR, hb4⟩
            dsimp only
            have hs4 := hb4.size
            have hB4 := below_and hb4 hB3
            refine hK _ _ ⟨(hB4.block _ (heap_lt z1)).trans z1, (hB4.block _ (heap_lt z6)).trans z6⟩ ?_
            clear hK K
            obtain ⟨qA, qc, qB, qd, hcR, _⟩ := trC_iff.1 htR
            subst hcR
            refine Seq.cons rfl rfl (fun K hK => ?_)
            go_simp
            have hB5 := below_al hB4 (.cells #[.int .i64 (restS x t.lz q).op, .slice qA (restS x t.lz q).kids.length qc, .int .i32 (restS x t.lz q).rune, .slice qB (restS x t.lz q).set.length qd, .int .i64 (restS x t.lz q).at_, .int .i64 (restS x t.lz q).cap, .string (restS x t.lz q).name, .int .i64 (restS x t.lz q).mn, .int .i64 (restS x t.lz q).mx, .bool (restS x t.lz q).lz] 27)
            refine hK _ _ ⟨(hB5.block _ (heap_lt z1)).trans z1, (hB5.block _ (heap_lt z6)).trans z6⟩ ?_
            clear hK K
            have hn5 := heap_new1 w4 (.cells #[.int .i64 (restS x t.lz q).op, .slice qA (restS x t.lz q).kids.length qc, .int .i32 (restS x t.lz q).rune, .slice qB (restS x t.lz q).set.length qd, .int .i64 (restS x t.lz q).at_, .int .i64 (restS x t.lz q).cap, .string (restS x t.lz q).name, .int .i64 (restS x t.lz q).mn, .int .i64 (restS x t.lz q).mx, .bool (restS x t.lz q).lz] 27)
            have ho5 := (hoR.below hb4).alloc (.cells #[.int .i64 (restS x t.lz q).op, .slice qA (restS x t.lz q).kids.length qc, .int .i32 (restS x t.lz q).rune, .slice qB (restS x t.lz q).set.length qd, .int .i64 (restS x t.lz q).at_, .int .i64 (restS x t.lz q).cap, .string (restS x t.lz q).name, .int .i64 (restS x t.lz q).mn, .int .i64 (restS x t.lz q).mx, .bool (restS x t.lz q).lz] 27)
            have hs5 := World.size_alloc w4 (.cells #[.int .i64 (restS x t.lz q).op, .slice qA (restS x t.lz q).kids.length qc, .int .i32 (restS x t.lz q).rune, .slice qB (restS x t.lz q).set.length qd, .int .i64 (restS x t.lz q).at_, .int .i64 (restS x t.lz q).cap, .string (restS x t.lz q).name, .int .i64 (restS x t.lz q).mn, .int .i64 (restS x t.lz q).mx, .bool (restS x t.lz q).lz] 27)
            refine Seq.cons rfl rfl (fun K hK => ?_)
            refine wp_app1 _ _ 23 rfl W2.heap.size 27 _ 10 120 Try.underlying23 infoTr2 rfl (by decide) vR (List.replicate m [.int .i64 x.op, .slice A1 x.kids.length e1, .int .i32 x.rune, .slice A3 x.set.length e3, .int .i64 x.at_, .int .i64 x.cap, .string x.name, .int .i64 x.mn, .int .i64 x.mx, .bool x.lz]) rfl ho5 w4.heap.size [.int .i64 (restS x t.lz q).op, .slice qA (restS x t.lz q).kids.length qc, .int .i32 (restS x t.lz q).rune, .slice qB (restS x t.lz q).set.length qd, .int .i64 (restS x t.lz q).at_, .int .i64 (restS x t.lz q).cap, .string (restS x t.lz q).name, .int .i64 (restS x t.lz q).mn, .int .i64 (restS x t.lz q).mx, .bool (restS x t.lz q).lz] rfl rfl hn5 (trC_cells htR) (by rw [List.length_replicate]; unfold maxLen; omega) (by rw [List.length_replicate]; omega) (by omega) ?_
            intro v6 w6 ho6 hg6 _
            have hlt6 : ∀ k, vR.ownBlock = some k → W2.heap.size ≤ k := fun k e => (ho5.lt k e).1
            have hmv6 : ∀ b, b < w4.heap.size → (b < W2.heap.size ∨ w3.heap.size ≤ b) → w6.heap[b]? = w4.heap[b]? := fun b hb hlt => by
              refine (hg6.block b (by omega) (fun e => ?_)).trans (Below.heap_alloc _ _ _ hb)
              have h1 := hlt6 b e.symm
              have h2 := (hoR.lt b e.symm).2
              omega
            have hB6 : Below W.heap.size W w6 := hB5.grown hg6 (by omega) (fun k e => by have := hlt6 k e; omega)
            refine hK _ _ ⟨(hB6.block _ (heap_lt z1)).trans z1, (hB6.block _ (heap_lt z6)).trans z6⟩ ?_
            clear hK K
            have hs6 := hB6.size
            have htx6 : TrC (fun b => b < W.heap.size ∧ (fun b => (ok b ∧ b < w.heap.size ∨ w.heap.size + 2 ≤ b) ∧ ∀ ad_1, some ad = some ad_1 → b ≠ ad_1.block) b ∨ w3.heap.size ≤ b) w6 x _ := HO.out.2.1.move (fun b hb hlt => ⟨(hmv6 b (by omega) (.inl (by omega))).trans ((hB4.block b (by omega)).trans (hWb.block b hlt)), .inl ⟨by omega, hb⟩⟩)
            have htR6 : TrC (fun b => b < W.heap.size ∧ (fun b => (ok b ∧ b < w.heap.size ∨ w.heap.size + 2 ≤ b) ∧ ∀ ad_1, some ad = some ad_1 → b ≠ ad_1.block) b ∨ w3.heap.size ≤ b) w6 (restS x t.lz q) _ := htR.move (fun b hb hlt => by
              by_cases hbW : w3.heap.size ≤ b
              · exact ⟨hmv6 b hlt (.inr hbW), .inr hbW⟩
              · have hbk : (fun b => (fun b => (ok b ∧ b < w.heap.size ∨ w.heap.size + 2 ≤ b) ∧ ∀ ad_1, some ad = some ad_1 → b ≠ ad_1.block) b ∧ b < W.heap.size) b := by
                  rcases hb with hb | hb
                  · exact hb
                  · exact absurd hb hbW
                exact ⟨hmv6 b hlt (.inl (by have := hbk.2; omega)), .inl ⟨hbk.2, hbk.1⟩⟩)
            have hts6 := (TsC.rep htx6 m).app (TsC.one htR6)
            obtain ⟨A6, c6, rfl, m6, m7⟩ := Owns.shape ho6
            have harr6 := TsC.arr ho6 hts6
            have hln : (List.replicate m ([.int .i64 x.op, .slice A1 x.kids.length e1, .int .i32 x.rune, .slice A3 x.set.length e3, .int .i64 x.at_, .int .i64 x.cap, .string x.name, .int .i64 x.mn, .int .i64 x.mx, .bool x.lz] : List Value) ++ [([.int .i64 (restS x t.lz q).op, .slice qA (restS x t.lz q).kids.length qc, .int .i32 (restS x t.lz q).rune, .slice qB (restS x t.lz q).set.length qd, .int .i64 (restS x t.lz q).at_, .int .i64 (restS x t.lz q).cap, .string (restS x t.lz q).name, .int .i64 (restS x t.lz q).mn, .int .i64 (restS x t.lz q).mx, .bool (restS x t.lz q).lz] : List Value)]).length = (List.replicate m x ++ [(restS x t.lz q)]).length := by simp
            rw [hln]
            refine Seq.cons rfl rfl (fun K hK => ?_)
            go_simp
            have hj := joined_any _ w6 A6 c6 (List.replicate m x ++ [(restS x t.lz q)]) harr6 (by simp; omega) (Nat.le_trans (flatK_rep (HO.out.2.2.2 x (mem_parts_self x)) (Nat.le_trans (restS_kids _ _ _) (by omega)) (by omega)) (by omega))
            simp only [List.length_append, List.length_replicate, List.length_cons, List.length_nil] at hj
            refine hj.mono ?_
            rintro e w7 ⟨c7, rfl, ht7, hb7⟩
            dsimp only
            have hB7 := below_and hb7 hB6
            refine hK _ _ ⟨(hB7.block _ (heap_lt z1)).trans z1, (hB7.block _ (heap_lt z6)).trans z6⟩ ?_
            clear hK K
            have hl9 := Lib.hid ht7.len
            have H9 := Lib.hid (And.intro ht7 (And.intro (below_and hB7 (below_and hWb HW.out.1.bel)) ((hB7.block _ (heap_lt zr)).trans zr)))
            refine Seq.cons rfl rfl (fun K hK => ?_)
            (refine wp_storeB 27 _ _ rfl (w.heap.size + 1) c7 [.int .i64 0, .slice none 0 0, .int .i32 0, .slice none 0 0, .int .i64 0, .int .i64 0, .string ⟨#[]⟩, .int .i64 0, .int .i64 0, .bool false] 27 rfl rfl H9.out.2.2 (by rw [hl9.out]; rfl) (by rw [hl9.out]; exact infoTrS) (trC_cells H9.out.1) ?_)
            intro w8 hn9 hg9 hs9
            refine hK _ _ ⟨(grown_ne hg9 (by have := heap_lt z1; have := hB7.size; omega) (by omega)).trans ((hB7.block _ (heap_lt z1)).trans z1), (grown_ne hg9 (by have := heap_lt z6; have := hB7.size; omega) (by omega)).trans ((hB7.block _ (heap_lt z6)).trans z6)⟩ ?_
            clear hK K
            simp only [Seq]
            have HN := Lib.hid (And.intro hn9 hg9)
            have HE := Lib.hid (And.intro hWs (And.intro hs2 (And.intro hs3 (And.intro hs4 (And.intro hs6 hWb.size)))))
            clear hn9 hg9 hts6 harr6 hj hln htR6 htx6 hB6 hB7 hB5 hB4 hB3 hb7 hb4 hb3 hb2 htR ht7 ho6 ho5 hoR hg6 hn5 hs5 hmv6 hlt6 z1 z6 zr v2 hx3
            go_wp2_with fail
            refine bodyPost_ret (results_cell_row rfl _ _ (w.heap.size + 1) _ _ _ _ rfl HN.out.1 Try.underlying27 rfl (by rw [List.size_toArray, hl9.out]; exact infoTrS)) rfl ?_
            rw [HTT.out]
            refine sim_fin H9.out.2.1 H9.out.1 (fun b hb => ?_) HN.out.2
            obtain ⟨e1, e2, e3, e4, e5, e6⟩ := HE.out
            have hsw := HW.out.1.bel.size
            rcases hb with ((hb | hb) | hb) | hb
            · exact HW.out.2.2.2.2.2.2 b (.inl hb.2)
            · exact ⟨by omega, .inr (by omega)⟩
            · exact ⟨by omega, .inr (by omega)⟩
            · exact ⟨by omega, .inr (by omega)⟩

          have hmxm : t.mx = -1 := by omega
          clear hmxp
          have b1 : decide (0 < t.mx) = false := (by rw [hmxm]; rfl)
          by_cases hmn0 : t.mn = 0
          · have hTT : simpleS t = starS x t.lz := by rw [HW.out.2.2.2.2.2.1, simpleN, if_neg (by rw [HO.out.1]; omega), if_neg (by rw [HO.out.1]; omega), if_neg (by rw [HO.out.1]; omega), if_neg (by rw [HO.out.1]; omega), if_neg (by rw [HO.out.1]; omega), if_neg (by rw [HO.out.1]; omega), if_pos HO.out.1, if_neg hmx0, if_neg (by omega), if_pos hmn0, HO.out.2.2.1]
            have b2 : (t.mn == 0) = true := (by rw [hmn0]; rfl)
            have HTT := Lib.hid hTT
            have hxb := below_al (Below.refl wr.heap.size wr) (.cells #[.int .i64 x.op, .slice A1 x.kids.length e1, .int .i32 x.rune, .slice A3 x.set.length e3, .int .i64 x.at_, .int .i64 x.cap, .string x.name, .int .i64 x.mn, .int .i64 x.mx, .bool x.lz] 27)
            have hst := star_any (fun b => (ok b ∧ b < w.heap.size ∨ w.heap.size + 2 ≤ b) ∧ ∀ ad_1, some ad = some ad_1 → b ≠ ad_1.block) (wr.alloc (.cells #[.int .i64 x.op, .slice A1 x.kids.length e1, .int .i32 x.rune, .slice A3 x.set.length e3, .int .i64 x.at_, .int .i64 x.cap, .string x.name, .int .i64 x.mn, .int .i64 x.mx, .bool x.lz] 27)) x _ t.lz (HO.out.2.1.move (fun b hb hlt => ⟨hxb.block b hlt, hb⟩)) (fun p hp => Nat.le_trans (HO.out.2.2.2 p hp) (by omega))
            have HX := Lib.hid hxb
            clear hTT hrep hmxm hmn0 hmx0 hxb
            go_wp2_with fail
            refine hst.mono ?_
            clear hst
            rintro e w5 ⟨c2, rfl, ht1, hb1⟩
            dsimp only
            have hB1 := below_and hb1 HX.out
            have hl9 := Lib.hid ht1.len
            have hs5 : wr.heap.size + 1 ≤ w5.heap.size := by have := hb1.size; rwa [World.size_alloc] at this
            have H9 := Lib.hid (And.intro ht1 (And.intro (below_and hB1 HW.out.1.bel) ((hB1.block _ hn2).trans HW.out.1.res)))
            clear ht1 hb1 hB1
            go_wp2_with ((refine wpList_storeB rfl 27 _ _ rfl (w.heap.size + 1) c2 [.int .i64 0, .slice none 0 0, .int .i32 0, .slice none 0 0, .int .i64 0, .int .i64 0, .string ⟨#[]⟩, .int .i64 0, .int .i64 0, .bool false] 27 rfl rfl H9.out.2.2 (by rw [hl9.out]; rfl) (by rw [hl9.out]; exact infoTrS) (trC_cells H9.out.1) ?_))
            intro w3 hn9 hg9 hs9
            have HN := Lib.hid (And.intro hn9 hg9)
            clear hn9 hg9
            go_wp2_with fail
            refine bodyPost_ret (results_cell_row rfl _ _ (w.heap.size + 1) _ _ _ _ rfl HN.out.1 Try.underlying27 rfl (by rw [List.size_toArray, hl9.out]; exact infoTrS)) rfl ?_
            rw [HTT.out]
            refine sim_fin H9.out.2.1 H9.out.1 (fun b hb => ?_) HN.out.2
            rcases hb with hb | hb
            · exact HW.out.2.2.2.2.2.2 b (.inl hb)
            · rw [World.size_alloc] at hb; exact ⟨by omega, .inr (by omega)⟩
          · have b2 : (t.mn == 0) = false := (by simpa using hmn0)
            obtain ⟨q, hq⟩ : ∃ q : Nat, t.mn - 1 = q := ⟨(t.mn - 1).toNat, by omega⟩
            have hq1 : q ≤ 1000 := by omega
            have hTT : simpleS t = joinedS (List.replicate q x ++ [plusS x t.lz]) := by rw [HW.out.2.2.2.2.2.1, simpleN, if_neg (by rw [HO.out.1]; omega), if_neg (by rw [HO.out.1]; omega), if_neg (by rw [HO.out.1]; omega), if_neg (by rw [HO.out.1]; omega), if_neg (by rw [HO.out.1]; omega), if_neg (by rw [HO.out.1]; omega), if_pos HO.out.1, if_neg hmx0, if_neg (by omega), if_neg hmn0, HO.out.2.2.1, hq]; rfl
            have hq9 : IntKind.i64.wrap (t.mn - 1) = (q : Int) := by rw [hq]; exact IntWalk.i64_in _ (by omega)
            have HTT := Lib.hid hTT
            clear hTT hrep hq hmxm hmn0 hmx0
            go_wp2_with fail
            have HA := Lib.hid (And.intro ((Below.heap_alloc _ (.cells #[.int .i64 x.op, .slice A1 x.kids.length e1, .int .i32 x.rune, .slice A3 x.set.length e3, .int .i64 x.at_, .int .i64 x.cap, .string x.name, .int .i64 x.mn, .int .i64 x.mx, .bool x.lz] 27) _ (heap_lt HW.out.1.tre)).trans HW.out.1.tre) (And.intro (heap_new1 wr (.cells #[.int .i64 x.op, .slice A1 x.kids.length e1, .int .i32 x.rune, .slice A3 x.set.length e3, .int .i64 x.at_, .int .i64 x.cap, .string x.name, .int .i64 x.mn, .int .i64 x.mx, .bool x.lz] 27)) (And.intro hone ((Below.heap_alloc _ (.cells #[.int .i64 x.op, .slice A1 x.kids.length e1, .int .i32 x.rune, .slice A3 x.set.length e3, .int .i64 x.at_, .int .i64 x.cap, .string x.name, .int .i64 x.mn, .int .i64 x.mx, .bool x.lz] 27) _ hn2).trans HW.out.1.res))))
            refine wp_region_seq (fun W' => W'.heap[w.heap.size]? = some (.cells ([.int .i64 t.op, .slice A t.kids.length c, .int .i32 t.rune, .slice B t.set.length d, .int .i64 t.at_, .int .i64 t.cap, .string t.name, .int .i64 t.mn, .int .i64 t.mx, .bool t.lz] : List Value).toArray 27 (0, 0)) ∧ W'.heap[wr.heap.size]? = (some (.cells ([.int .i64 x.op, .slice A1 x.kids.length e1, .int .i32 x.rune, .slice A3 x.set.length e3, .int .i64 x.at_, .int .i64 x.cap, .string x.name, .int .i64 x.mn, .int .i64 x.mx, .bool x.lz] : List Value).toArray 27 (0, 0)))) (by kernel_rfl) (by kernel_rfl) (fun _ _ _ _ _ h => h)
              [(0, 116, .agg ([.int .i64 x.op, .slice A1 x.kids.length e1, .int .i32 x.rune, .slice A3 x.set.length e3, .int .i64 x.at_, .int .i64 x.cap, .string x.name, .int .i64 x.mn, .int .i64 x.mx, .bool x.lz] : List Value).toArray), (2, 118, .pointer (some ⟨w.heap.size, 7, none⟩)), (3, 119, .int .i64 t.mn), (4, 120, .int .i64 (q : Nat)), (6, 122, .agg ([.int .i64 x.op, .slice A1 x.kids.length e1, .int .i32 x.rune, .slice A3 x.set.length e3, .int .i64 x.at_, .int .i64 x.cap, .string x.name, .int .i64 x.mn, .int .i64 x.mx, .bool x.lz] : List Value).toArray), (7, 123, .pointer (some ⟨w.heap.size, 9, none⟩)), (8, 124, .bool t.lz)] [1, 5, 9, 10, 11, 12, 13] rfl (by kernel_rfl) ⟨HA.out.1, HA.out.2.1⟩ ?_ ?_
            · refine ⟨⟨_, rfl, rfl, yi_row 27 _ rfl wr.heap.size [.int .i64 x.op, .slice A1 x.kids.length e1, .int .i32 x.rune, .slice A3 x.set.length e3, .int .i64 x.at_, .int .i64 x.cap, .string x.name, .int .i64 x.mn, .int .i64 x.mx, .bool x.lz] 27 rfl rfl _ Try.underlying27 rfl infoTrS (fun W hS => hS.2)⟩, ?_⟩
              simp only [Act.put, List.setIfInBounds_toArray, List.set_cons_zero, List.set_cons_succ]
              refine ⟨⟨_, rfl, rfl, yi_pure rfl (fun _ => by go_simp)⟩, ?_⟩
              simp only [Act.put, List.setIfInBounds_toArray, List.set_cons_zero, List.set_cons_succ]
              refine ⟨⟨_, rfl, rfl, yi_cell 3 _ rfl ⟨w.heap.size, 7, none⟩ _ rfl rfl _ Try.underlying3 rfl (fun W hS => by rw [cell_of_blk hS.1]; rfl)⟩, ?_⟩
              simp only [Act.put, List.setIfInBounds_toArray, List.set_cons_zero, List.set_cons_succ]
              refine ⟨⟨_, rfl, rfl, yi_pure rfl (fun _ => by go_simp)⟩, ?_⟩
              simp only [Act.put, List.setIfInBounds_toArray, List.set_cons_zero, List.set_cons_succ]
              refine ⟨⟨_, rfl, rfl, yi_row 27 _ rfl wr.heap.size [.int .i64 x.op, .slice A1 x.kids.length e1, .int .i32 x.rune, .slice A3 x.set.length e3, .int .i64 x.at_, .int .i64 x.cap, .string x.name, .int .i64 x.mn, .int .i64 x.mx, .bool x.lz] 27 rfl rfl _ Try.underlying27 rfl infoTrS (fun W hS => hS.2)⟩, ?_⟩
              simp only [Act.put, List.setIfInBounds_toArray, List.set_cons_zero, List.set_cons_succ]
              refine ⟨⟨_, rfl, rfl, yi_pure rfl (fun _ => by go_simp)⟩, ?_⟩
              simp only [Act.put, List.setIfInBounds_toArray, List.set_cons_zero, List.set_cons_succ]
              refine ⟨⟨_, rfl, rfl, yi_cell 4 _ rfl ⟨w.heap.size, 9, none⟩ _ rfl rfl _ Try.underlying4 rfl (fun W hS => by rw [cell_of_blk hS.1]; rfl)⟩, ?_⟩
              simp only [Act.put, List.setIfInBounds_toArray, List.set_cons_zero, List.set_cons_succ]
              trivial
            simp only [putAll, Act.put, List.setIfInBounds_toArray, List.set_cons_zero, List.set_cons_succ]
            obtain ⟨y1, y6, yb, yr⟩ := HA.out
            clear HA g0 g1 g2 g3 g4 g5 g6 g7 g8 g9 k0 k1 k2 k3 k4 k5 k6 k7 k8 k9
            obtain ⟨W, hW⟩ : ∃ W, (wr.alloc (.cells #[.int .i64 x.op, .slice A1 x.kids.length e1, .int .i32 x.rune, .slice A3 x.set.length e3, .int .i64 x.at_, .int .i64 x.cap, .string x.name, .int .i64 x.mn, .int .i64 x.mx, .bool x.lz] 27)).drew = W := ⟨_, rfl⟩
            have hWs : wr.heap.size + 1 ≤ W.heap.size := by rw [← hW]; simp
            have hWu : W.heap.size ≤ wr.heap.size + 1 := by rw [← hW]; simp
            have hWb : Below wr.heap.size wr W := by rw [← hW]; exact (below_al (Below.refl _ _) _).drew
            have z1 : W.heap[w.heap.size]? = some (.cells ([.int .i64 t.op, .slice A t.kids.length c, .int .i32 t.rune, .slice B t.set.length d, .int .i64 t.at_, .int .i64 t.cap, .string t.name, .int .i64 t.mn, .int .i64 t.mx, .bool t.lz] : List Value).toArray 27 (0, 0)) := by rw [← hW]; exact y1
            have z6 : W.heap[wr.heap.size]? = (some (.cells ([.int .i64 x.op, .slice A1 x.kids.length e1, .int .i32 x.rune, .slice A3 x.set.length e3, .int .i64 x.at_, .int .i64 x.cap, .string x.name, .int .i64 x.mn, .int .i64 x.mx, .bool x.lz] : List Value).toArray 27 (0, 0))) := by rw [← hW]; exact y6
            have zr : W.heap[w.heap.size + 1]? = some (.cells ([.int .i64 0, .slice none 0 0, .int .i32 0, .slice none 0 0, .int .i64 0, .int .i64 0, .string ⟨#[]⟩, .int .i64 0, .int .i64 0, .bool false] : List Value).toArray 27 (0, 0)) := by rw [← hW]; exact yr
            clear y1 y6 yr yb
            rw [hW]
            clear hW
            refine Seq.cons rfl rfl (fun K hK => ?_)
            go_simp
            refine hK _ _ ⟨(Below.heap_alloc _ _ _ (heap_lt z1)).trans z1, (Below.heap_alloc _ _ _ (heap_lt z6)).trans z6⟩ ?_
            clear hK K
            obtain ⟨W2, hW2⟩ : ∃ W2, W.alloc (.cells #[.int .i64 x.op, .slice A1 x.kids.length e1, .int .i32 x.rune, .slice A3 x.set.length e3, .int .i64 x.at_, .int .i64 x.cap, .string x.name, .int .i64 x.mn, .int .i64 x.mx, .bool x.lz] 27) = W2 := ⟨_, rfl⟩
            have hs2 : W.heap.size + 1 ≤ W2.heap.size := by rw [← hW2]; simp
            have hu2 : W2.heap.size ≤ W.heap.size + 1 := by rw [← hW2]; simp
            have hb2 : Below W.heap.size W W2 := by rw [← hW2]; exact below_al (Below.refl _ _) _
            have v2 : W2.heap[W.heap.size]? = (some (.cells ([.int .i64 x.op, .slice A1 x.kids.length e1, .int .i32 x.rune, .slice A3 x.set.length e3, .int .i64 x.at_, .int .i64 x.cap, .string x.name, .int .i64 x.mn, .int .i64 x.mx, .bool x.lz] : List Value).toArray 27 (0, 0))) := by rw [← hW2]; exact heap_new1 _ _
            rw [hW2]
            clear hW2
            refine Seq.cons rfl rfl (fun K hK => ?_)
            go_simp
            have hrr := repTree W2 W.heap.size q [.int .i64 x.op, .slice A1 x.kids.length e1, .int .i32 x.rune, .slice A3 x.set.length e3, .int .i64 x.at_, .int .i64 x.cap, .string x.name, .int .i64 x.mn, .int .i64 x.mx, .bool x.lz] rfl (trC_cells HO.out.2.1) v2 (by omega)
            refine hrr.mono ?_
            clear hrr
            rintro e w3 ⟨vR, rfl, hoR, hb3⟩
            dsimp only
            have hs3 := hb3.size
            have hB3 := below_and hb3 hb2
            refine hK _ _ ⟨(hB3.block _ (heap_lt z1)).trans z1, (hB3.block _ (heap_lt z6)).trans z6⟩ ?_
            clear hK K
            have hx3 : TrC (fun b => (ok b ∧ b < w.heap.size ∨ w.heap.size + 2 ≤ b) ∧ ∀ ad_1, some ad = some ad_1 → b ≠ ad_1.block) w3 x _ := HO.out.2.1.move (fun b hb hlt => ⟨(hB3.block b (by omega)).trans (hWb.block b hlt), hb⟩)
            refine Seq.cons rfl rfl (fun K hK => ?_)
            go_simp
            refine (plus_any (fun b => (fun b => (ok b ∧ b < w.heap.size ∨ w.heap.size + 2 ≤ b) ∧ ∀ ad_1, some ad = some ad_1 → b ≠ ad_1.block) b ∧ b < W.heap.size) w3 x _ t.lz (HO.out.2.1.move (ok' := (fun b => (fun b => (ok b ∧ b < w.heap.size ∨ w.heap.size + 2 ≤ b) ∧ ∀ ad_1, some ad = some ad_1 → b ≠ ad_1.block) b ∧ b < W.heap.size)) (fun b hb hlt => ⟨(hB3.block b (by omega)).trans (hWb.block b hlt), hb, by omega⟩)) (fun p hp => Nat.le_trans (HO.out.2.2.2 p hp) (by omega))).mono ?_
            rintro e w4 ⟨cR, rfl, htR, hb4⟩
            dsimp only
            have hs4 := hb4.size
            have hB4 := below_and hb4 hB3
            refine hK _ _ ⟨(hB4.block _ (heap_lt z1)).trans z1, (hB4.block _ (heap_lt z6)).trans z6⟩ ?_
            clear hK K
            obtain ⟨qA, qc, qB, qd, hcR, _⟩ := trC_iff.1 htR
            subst hcR
            refine Seq.cons rfl rfl (fun K hK => ?_)
            go_simp
            have hB5 := below_al hB4 (.cells #[.int .i64 (plusS x t.lz).op, .slice qA (plusS x t.lz).kids.length qc, .int .i32 (plusS x t.lz).rune, .slice qB (plusS x t.lz).set.length qd, .int .i64 (plusS x t.lz).at_, .int .i64 (plusS x t.lz).cap, .string (plusS x t.lz).name, .int .i64 (plusS x t.lz).mn, .int .i64 (plusS x t.lz).mx, .bool (plusS x t.lz).lz] 27)
            refine hK _ _ ⟨(hB5.block _ (heap_lt z1)).trans z1, (hB5.block _ (heap_lt z6)).trans z6⟩ ?_
            clear hK K
            have hn5 := heap_new1 w4 (.cells #[.int .i64 (plusS x t.lz).op, .slice qA (plusS x t.lz).kids.length qc, .int .i32 (plusS x t.lz).rune, .slice qB (plusS x t.lz).set.length qd, .int .i64 (plusS x t.lz).at_, .int .i64 (plusS x t.lz).cap, .string (plusS x t.lz).name, .int .i64 (plusS x t.lz).mn, .int .i64 (plusS x t.lz).mx, .bool (plusS x t.lz).lz] 27)
            have ho5 := (hoR.below hb4).alloc (.cells #[.int .i64 (plusS x t.lz).op, .slice qA (plusS x t.lz).kids.length qc, .int .i32 (plusS x t.lz).rune, .slice qB (plusS x t.lz).set.length qd, .int .i64 (plusS x t.lz).at_, .int .i64 (plusS x t.lz).cap, .string (plusS x t.lz).name, .int .i64 (plusS x t.lz).mn, .int .i64 (plusS x t.lz).mx, .bool (plusS x t.lz).lz] 27)
            have hs5 := World.size_alloc w4 (.cells #[.int .i64 (plusS x t.lz).op, .slice qA (plusS x t.lz).kids.length qc, .int .i32 (plusS x t.lz).rune, .slice qB (plusS x t.lz).set.length qd, .int .i64 (plusS x t.lz).at_, .int .i64 (plusS x t.lz).cap, .string (plusS x t.lz).name, .int .i64 (plusS x t.lz).mn, .int .i64 (plusS x t.lz).mx, .bool (plusS x t.lz).lz] 27)
            refine Seq.cons rfl rfl (fun K hK => ?_)
            refine wp_app1 _ _ 23 rfl W2.heap.size 27 _ 10 120 Try.underlying23 infoTr2 rfl (by decide) vR (List.replicate q [.int .i64 x.op, .slice A1 x.kids.length e1, .int .i32 x.rune, .slice A3 x.set.length e3, .int .i64 x.at_, .int .i64 x.cap, .string x.name, .int .i64 x.mn, .int .i64 x.mx, .bool x.lz]) rfl ho5 w4.heap.size [.int .i64 (plusS x t.lz).op, .slice qA (plusS x t.lz).kids.length qc, .int .i32 (plusS x t.lz).rune, .slice qB (plusS x t.lz).set.length qd, .int .i64 (plusS x t.lz).at_, .int .i64 (plusS x t.lz).cap, .string (plusS x t.lz).name, .int .i64 (plusS x t.lz).mn, .int .i64 (plusS x t.lz).mx, .bool (plusS x t.lz).lz] rfl rfl hn5 (trC_cells htR) (by rw [List.length_replicate]; unfold maxLen; omega) (by rw [List.length_replicate]; omega) (by omega) ?_
            intro v6 w6 ho6 hg6 _
            have hlt6 : ∀ k, vR.ownBlock = some k → W2.heap.size ≤ k := fun k e => (ho5.lt k e).1
            have hmv6 : ∀ b, b < w4.heap.size → (b < W2.heap.size ∨ w3.heap.size ≤ b) → w6.heap[b]? = w4.heap[b]? := fun b hb hlt => by
              refine (hg6.block b (by omega) (fun e => ?_)).trans (Below.heap_alloc _ _ _ hb)
              have h1 := hlt6 b e.symm
              have h2 := (hoR.lt b e.symm).2
              omega
            have hB6 : Below W.heap.size W w6 := hB5.grown hg6 (by omega) (fun k e => by have := hlt6 k e; omega)
            refine hK _ _ ⟨(hB6.block _ (heap_lt z1)).trans z1, (hB6.block _ (heap_lt z6)).trans z6⟩ ?_
            clear hK K
            have hs6 := hB6.size
            have htx6 : TrC (fun b => b < W.heap.size ∧ (fun b => (ok b ∧ b < w.heap.size ∨ w.heap.size + 2 ≤ b) ∧ ∀ ad_1, some ad = some ad_1 → b ≠ ad_1.block) b ∨ w3.heap.size ≤ b) w6 x _ := HO.out.2.1.move (fun b hb hlt => ⟨(hmv6 b (by omega) (.inl (by omega))).trans ((hB4.block b (by omega)).trans (hWb.block b hlt)), .inl ⟨by omega, hb⟩⟩)
            have htR6 : TrC (fun b => b < W.heap.size ∧ (fun b => (ok b ∧ b < w.heap.size ∨ w.heap.size + 2 ≤ b) ∧ ∀ ad_1, some ad = some ad_1 → b ≠ ad_1.block) b ∨ w3.heap.size ≤ b) w6 (plusS x t.lz) _ := htR.move (fun b hb hlt => by
              by_cases hbW : w3.heap.size ≤ b
              · exact ⟨hmv6 b hlt (.inr hbW), .inr hbW⟩
              · have hbk : (fun b => (fun b => (ok b ∧ b < w.heap.size ∨ w.heap.size + 2 ≤ b) ∧ ∀ ad_1, some ad = some ad_1 → b ≠ ad_1.block) b ∧ b < W.heap.size) b := by
                  rcases hb with hb | hb
                  · exact hb
                  · exact absurd hb hbW
                exact ⟨hmv6 b hlt (.inl (by have := hbk.2; omega)), .inl ⟨hbk.2, hbk.1⟩⟩)
            have hts6 := (TsC.rep htx6 q).app (TsC.one htR6)
            obtain ⟨A6, c6, rfl, m6, m7⟩ := Owns.shape ho6
            have harr6 := TsC.arr ho6 hts6
            have hln : (List.replicate q ([.int .i64 x.op, .slice A1 x.kids.length e1, .int .i32 x.rune, .slice A3 x.set.length e3, .int .i64 x.at_, .int .i64 x.cap, .string x.name, .int .i64 x.mn, .int .i64 x.mx, .bool x.lz] : List Value) ++ [([.int .i64 (plusS x t.lz).op, .slice qA (plusS x t.lz).kids.length qc, .int .i32 (plusS x t.lz).rune, .slice qB (plusS x t.lz).set.length qd, .int .i64 (plusS x t.lz).at_, .int .i64 (plusS x t.lz).cap, .string (plusS x t.lz).name, .int .i64 (plusS x t.lz).mn, .int .i64 (plusS x t.lz).mx, .bool (plusS x t.lz).lz] : List Value)]).length = (List.replicate q x ++ [(plusS x t.lz)]).length := by simp
            rw [hln]
            refine Seq.cons rfl rfl (fun K hK => ?_)
            go_simp
            have hj := joined_any _ w6 A6 c6 (List.replicate q x ++ [(plusS x t.lz)]) harr6 (by simp; omega) (Nat.le_trans (flatK_rep (HO.out.2.2.2 x (mem_parts_self x)) (plusS_kids _ (HO.out.2.2.2 x (mem_parts_self x))) (by omega)) (by omega))
            simp only [List.length_append, List.length_replicate, List.length_cons, List.length_nil] at hj
            refine hj.mono ?_
            rintro e w7 ⟨c7, rfl, ht7, hb7⟩
            dsimp only
            have hB7 := below_and hb7 hB6
            refine hK _ _ ⟨(hB7.block _ (heap_lt z1)).trans z1, (hB7.block _ (heap_lt z6)).trans z6⟩ ?_
            clear hK K
            have hl9 := Lib.hid ht7.len
            have H9 := Lib.hid (And.intro ht7 (And.intro (below_and hB7 (below_and hWb HW.out.1.bel)) ((hB7.block _ (heap_lt zr)).trans zr)))
            refine Seq.cons rfl rfl (fun K hK => ?_)
            (refine wp_storeB 27 _ _ rfl (w.heap.size + 1) c7 [.int .i64 0, .slice none 0 0, .int .i32 0, .slice none 0 0, .int .i64 0, .int .i64 0, .string ⟨#[]⟩, .int .i64 0, .int .i64 0, .bool false] 27 rfl rfl H9.out.2.2 (by rw [hl9.out]; rfl) (by rw [hl9.out]; exact infoTrS) (trC_cells H9.out.1) ?_)
            intro w8 hn9 hg9 hs9
            refine hK _ _ ⟨(grown_ne hg9 (by have := heap_lt z1; have := hB7.size; omega) (by omega)).trans ((hB7.block _ (heap_lt z1)).trans z1), (grown_ne hg9 (by have := heap_lt z6; have := hB7.size; omega) (by omega)).trans ((hB7.block _ (heap_lt z6)).trans z6)⟩ ?_
            clear hK K
            simp only [Seq]
            have HN := Lib.hid (And.intro hn9 hg9)
            have HE := Lib.hid (And.intro hWs (And.intro hs2 (And.intro hs3 (And.intro hs4 (And.intro hs6 hWb.size)))))
            clear hn9 hg9 hts6 harr6 hj hln htR6 htx6 hB6 hB7 hB5 hB4 hB3 hb7 hb4 hb3 hb2 htR ht7 ho6 ho5 hoR hg6 hn5 hs5 hmv6 hlt6 z1 z6 zr v2 hx3
            go_wp2_with fail
            refine bodyPost_ret (results_cell_row rfl _ _ (w.heap.size + 1) _ _ _ _ rfl HN.out.1 Try.underlying27 rfl (by rw [List.size_toArray, hl9.out]; exact infoTrS)) rfl ?_
            rw [HTT.out]
            refine sim_fin H9.out.2.1 H9.out.1 (fun b hb => ?_) HN.out.2
            obtain ⟨e1, e2, e3, e4, e5, e6⟩ := HE.out
            have hsw := HW.out.1.bel.size
            rcases hb with ((hb | hb) | hb) | hb
            · exact HW.out.2.2.2.2.2.2 b (.inl hb.2)
            · exact ⟨by omega, .inr (by omega)⟩
            · exact ⟨by omega, .inr (by omega)⟩
            · exact ⟨by omega, .inr (by omega)⟩
        have o11 : (t.op == 11) = false := (by simpa using ho11); have o12 : (t.op == 12) = false := (by simpa using ho12); have o6 : (t.op == 6) = false := (by simpa using ho6); have o7 : (t.op == 7) = false := (by simpa using ho7); have o8 : (t.op == 8) = false := (by simpa using ho8); have o9 : (t.op == 9) = false := (by simpa using ho9); have o10 : (t.op == 10) = false := (by simpa using ho10)
        have hTT : simpleS t = { t with kids := l } := by rw [HW.out.2.2.2.2.2.1, simpleN, if_neg ho11, if_neg ho12, if_neg ho6, if_neg ho7, if_neg ho8, if_neg ho9, if_neg ho10]
        have HTT := Lib.hid hTT
        clear hTT ho11 ho12 ho6 ho7 ho8 ho9 ho10 g0 g1 g2 g3 g4 g5 g6 g7 g8 g9
        have HT := Lib.hid (And.intro HW.out.1.tre (And.intro HW.out.1.res (And.intro HW.out.1.bel (And.intro HW.out.2.2.2.1 (And.intro (show ∀ b, (fun b => ((ok b ∧ b < w.heap.size ∨ w.heap.size + 2 ≤ b) ∧ ∀ ad_1 : Addr, L = some ad_1 → b ≠ ad_1.block) ∨ w.heap.size + 2 ≤ b) b → b ≠ w.heap.size ∧ b ≠ w.heap.size + 1 ∧ (ok b ∨ w.heap.size ≤ b) from fun b hb => ⟨by rcases hb with ⟨h | h, _⟩ | h <;> omega, HW.out.2.2.2.2.2.2 b hb⟩) (And.intro hls (And.intro hc1 hc1m)))))))
        obtain ⟨gg0, _⟩ := cells10 HT.out.1
        obtain ⟨g0, g1, g2, g3, g4, g5, g6, g7, g8, g9⟩ := cells10 HT.out.1
        have hts1 := HW.out.2.2.2.2.1.set
        have hcr := fun (V : World) (hV : Below w.heap.size w V) => cloneRange Rg RgC (fun x c hx => by unfold RgC at hx; subst hx; intro u hu; simp at hu; rcases hu with rfl | rfl <;> rfl) (fun b => ok b ∧ b < w.heap.size) V B d t.set (HS.out.2.2.1.move (fun b hb hlt => ⟨hV.block b hb.2, hb⟩) (by omega)) (by omega)
        go_wp2_with fail
        refine (hcr _ HT.out.2.2.1).mono ?_
        clear hcr
        rintro e w5 ⟨v5, css5, rfl, hl5, hE5, ho5, hb5⟩
        dsimp only
        obtain ⟨B5, d5, rfl, m5, m6⟩ := Owns.shape ho5
        obtain ⟨q1, q2, q3, q4, q5, q6, q7, q8⟩ := HT.out
        have x0 := (hb5.block _ (heap_lt q1)).trans q1
        have x1 := (hb5.block _ (heap_lt q2)).trans q2
        have xb := below_and hb5 q3
        have xs := hb5.size
        have hn5 := heap_lt q2
        have hset := Owns.arr ho5 (E := RgC) (xs := t.set) hl5.symm hE5 (ok := fun b => w.heap.size + 2 ≤ b) (fun a ha => by subst ha; have := (ho5.lt a.block rfl).1; omega)
        have hkid := (q4.move (fun b hb hlt => ⟨hb5.block b hlt, hb⟩) (by omega)).weak (fun x _ cs hx => hx.move (fun b hb hlt => ⟨hb5.block b hlt, hb⟩))
        rw [hl5] at m5 ⊢
        have fz := frozen_of x0
        clear g0 g1 g2 g3 g4 g5 g6 g7 g8 g9
        obtain ⟨g0, g1, g2, g3, g4, g5, g6, g7, g8, g9⟩ := cells10 x0
        have y1 : ∀ (u v : Value), ((w5.setCell ⟨w.heap.size, 3, none⟩ u).setCell ⟨w.heap.size, 1, none⟩ v).heap[w.heap.size + 1]? = some (.cells ([.int .i64 0, .slice none 0 0, .int .i32 0, .slice none 0 0, .int .i64 0, .int .i64 0, .string ⟨#[]⟩, .int .i64 0, .int .i64 0, .bool false] : List Value).toArray 27 (0, 0)) := fun u v => (Below.heap_setCell _ _ _ _ (show w.heap.size + 1 ≠ w.heap.size by omega)).trans ((Below.heap_setCell _ _ _ _ (show w.heap.size + 1 ≠ w.heap.size by omega)).trans x1)
        have H5 := Lib.hid (And.intro x0 (And.intro xb (And.intro hset (And.intro hkid (And.intro y1 (And.intro q5 (And.intro q6 (And.intro q7 q8))))))))
        clear hE5 ho5 hb5 hl5 x0 x1 xb hset hkid y1 q1 q2 q3 q4 q5 q6 q7 q8
        go_wp2_with ((refine wpList_storeB rfl 27 _ _ rfl (w.heap.size + 1) [.int .i64 t.op, .slice L (t.kids.length) c1, .int .i32 t.rune, .slice B5 t.set.length d5, .int .i64 t.at_, .int .i64 t.cap, .string t.name, .int .i64 t.mn, .int .i64 t.mx, .bool t.lz] [.int .i64 0, .slice none 0 0, .int .i32 0, .slice none 0 0, .int .i64 0, .int .i64 0, .string ⟨#[]⟩, .int .i64 0, .int .i64 0, .bool false] 27 rfl rfl (H5.out.2.2.2.2.1 _ _) rfl infoTrS (by intro u hu; simp at hu; rcases hu with rfl | rfl | rfl | rfl | rfl | rfl | rfl | rfl | rfl | rfl <;> rfl) ?_))
        intro w3 hn9 hg9 hs9
        have HN := Lib.hid (And.intro hn9 hg9)
        clear hn9 hg9
        go_wp2_with fail
        refine bodyPost_ret (results_cell_row rfl _ _ (w.heap.size + 1) _ _ _ _ rfl HN.out.1 Try.underlying27 rfl infoTrS) rfl ?_
        obtain ⟨x0, xb, hset, hkid, y1, q5, q6, q7, q8⟩ := H5.out
        rw [HTT.out]
        have hmv : ∀ b, b ≠ w.heap.size → ((w5.setCell ⟨w.heap.size, 3, none⟩ (.slice B5 t.set.length d5)).setCell ⟨w.heap.size, 1, none⟩ (.slice L (t.kids.length) c1)).heap[b]? = w5.heap[b]? := fun b hb => (Below.heap_setCell _ _ _ _ (show b ≠ w.heap.size from hb)).trans (Below.heap_setCell _ _ _ _ (show b ≠ w.heap.size from hb))
        refine sim_fin (okF := fun b => (fun b => ((ok b ∧ b < w.heap.size ∨ w.heap.size + 2 ≤ b) ∧ ∀ ad_1 : Addr, L = some ad_1 → b ≠ ad_1.block) ∨ w.heap.size + 2 ≤ b) b ∨ w.heap.size + 2 ≤ b) ((xb.setCell (by simp) _).setCell (by simp) _) (trC_iff.2 ⟨L, c1, B5, d5, ?_, ?_, q8, m5, m6, ?_, ?_⟩) (fun b hb => ?_) HN.out.2
        · show _ = ([_, Value.slice L (l).length c1, _, _, _, _, _, _, _, _] : List Value)
          rw [q6]
        · show (l).length ≤ c1
          rw [q6]; exact q7
        · exact hset.move (fun b hb hlt => ⟨hmv b (by omega), .inr hb⟩) (by omega)
        · exact (hkid.move (fun b hb hlt => ⟨hmv b (q5 b hb).1, .inl hb⟩) (by omega)).weak (fun x _ cs hx => hx.move (fun b hb hlt => ⟨hmv b (q5 b hb).1, .inl hb⟩))
        · rcases hb with hb | hb
          · exact (q5 b hb).2
          · exact ⟨by omega, .inr (by omega)⟩
end Go.Proofs.Ytdnbholiijgedaa
