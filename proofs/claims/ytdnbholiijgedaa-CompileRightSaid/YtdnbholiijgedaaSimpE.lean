/-
  simplify.rest. No condition but on the number.
-/
import Derived.Test.YtdnbholiijgedaaSimpD
import Derived.Test.YtdnbholiijgedaaRep
namespace Go.Proofs.Ytdnbholiijgedaa
open Go.RowKit
set_option linter.unusedVariables false

theorem arr_two {ok : Nat → Prop} {w : World} {b : Nat} {t t' : Tr} {cs cs' : List Value} (h : w.heap[b]? = some (.cells (cs ++ cs').toArray 27 (0, 0))) (hok : ok b) (ht : TrC ok w t cs) (ht' : TrC ok w t' cs') : Arr ok w 10 (TrC ok w) (some ⟨b, 0, none⟩) [t, t'] := by
  intro i x hx
  have hi : i < 2 := (List.getElem?_eq_some_iff.1 hx).1
  have hadd : ∀ j, (⟨b, 0, none⟩ : Addr).add j = ⟨b, j, none⟩ := fun j => by unfold Addr.add; split <;> simp_all
  rcases (show i = 0 ∨ i = 1 by omega) with rfl | rfl
  · simp at hx
    subst hx
    refine ⟨_, cs, rfl, hok, ht, ht.len, fun j u hu => ?_⟩
    rw [hadd, cell_of_blk h]
    simp only [Nat.zero_mul, Nat.zero_add, List.getElem?_toArray]
    rw [List.getElem?_append_left (List.getElem?_eq_some_iff.1 hu).1]; exact hu
  · simp at hx
    subst hx
    refine ⟨_, cs', rfl, hok, ht', ht'.len, fun j u hu => ?_⟩
    rw [hadd, cell_of_blk h]
    simp only [List.getElem?_toArray]
    rw [List.getElem?_append_right (by rw [ht.len]; omega), ht.len, show 1 * 10 + j - 10 = j by omega]; exact hu
def restS (x : Tr) (lz : Bool) : Nat → Tr
  | 0 => opT 2 [] false
  | n + 1 => questS (joinedS [x, restS x lz n]) lz
theorem restS_op (x : Tr) (lz : Bool) (n : Nat) : (restS x lz n).op = 2 ∨ (restS x lz n).op = 9 := by
  cases n with
  | zero => exact .inl rfl
  | succ n => rw [restS]; unfold questS; split
              · exact .inl rfl
              · exact .inr rfl
theorem infoTrS : (Try.prog.info? 27).map (·.size) = some 10 := by kernel_rfl
/-- What a loop keeps that has a tree in a variable of its own: the block of x, the result's, the variable's. -/
def RestRel (ok : Nat → Prop) (w : World) (x : Tr) (cx : List Value) (lz : Bool) (n : Nat) (s : Value) (wr : World) : Prop :=
  ∃ (k : Nat) (co : List Value), s = .int .i64 k ∧ k ≤ n ∧ Below w.heap.size w wr ∧ wr.heap[w.heap.size]? = some (.cells cx.toArray 27 (0, 0)) ∧
    wr.heap[w.heap.size + 1]? = some (.cells #[.int .i64 0, .slice none 0 0, .int .i32 0, .slice none 0 0, .int .i64 0, .int .i64 0, .string ⟨#[]⟩, .int .i64 0, .int .i64 0, .bool false] 27 (0, 0)) ∧
    wr.heap[w.heap.size + 2]? = some (.cells co.toArray 27 (0, 0)) ∧ TrC (fun b => ok b ∧ b < w.heap.size ∨ w.heap.size + 3 ≤ b) wr (restS x lz k) co
set_option maxRecDepth 100000 in
set_option maxHeartbeats 4000000 in
theorem rest_any (ok : Nat → Prop) (w : World) (x : Tr) (cs : List Value) (n : Nat) (lz : Bool) (ht : TrC ok w x cs) (hN : x.kids.length ≤ 999999990) (hn : n ≤ 1000000) :
    Calls Try.prog 50 #[.agg cs.toArray, .int .i64 n, .bool lz] w (TreePost ok (restS x lz n) w) := by
  have ht0 := ht.old
  obtain ⟨A, c, B, d, rfl, _⟩ := trC_iff.1 ht
  have HT := Lib.hid ht0
  clear ht ht0
  have hnn : (n : Int) ≤ 1000000 := by omega
  go_enter Try.func50, Try.ntmps50
  go_wp2_with fail
  go_loopw [10] (fun s wr => RestRel ok w x [.int .i64 x.op, .slice A x.kids.length c, .int .i32 x.rune, .slice B x.set.length d, .int .i64 x.at_, .int .i64 x.cap, .string x.name, .int .i64 x.mn, .int .i64 x.mx, .bool x.lz] lz n s wr) (fun s _ => n - (intOf s).toNat)
  case atStart =>
    refine ⟨0, [.int .i64 2, .slice none 0 0, .int .i32 0, .slice none 0 0, .int .i64 0, .int .i64 0, .string ⟨#[]⟩, .int .i64 0, .int .i64 0, .bool false], rfl, Nat.zero_le _, below_al (below_al (below_al (Below.refl _ _) _) _) _, ?_, ?_, heap_new3 _ _ _ _, opTrC Arr.nil (Nat.le_refl _) (Nat.zero_le _)⟩
    · exact (Below.heap_alloc _ _ _ (by simp; omega)).trans ((Below.heap_alloc _ _ _ (by simp)).trans (heap_new1 _ _))
    · exact (Below.heap_alloc _ _ _ (by simp)).trans (heap_new2 _ _ _)
  case round =>
    obtain ⟨k, co, rfl, hk, hBr, hbx, hbr, hbo, hto⟩ := hrel
    have hop := restS_op x lz k
    have hsz := heap_lt hbo
    have hbs := hBr.size
    by_cases hlt : k < n
    · obtain ⟨A2, c2, B2, d2, rfl, _⟩ := trC_iff.1 hto
      have hstep : restS x lz (k + 1) = questS (joinedS [x, restS x lz k]) lz := by rw [restS]
      generalize restS x lz k = o at *
      have hflat : (flatK [x, o]).length ≤ 1000000000 := by
        unfold flatK
        simp only [List.flatMap_cons, List.flatMap_nil, List.length_append]
        have h1 : (if x.op = 11 then x.kids else [x]).length ≤ 999999990 := by split <;> simp_all
        have h2 : (if o.op = 11 then o.kids else [o]).length = 1 := by rw [if_neg (by omega)]; rfl
        rw [h2]; simp; omega
      have hj : ∀ (W : World), Below wr.heap.size wr W → W.heap[wr.heap.size]? = some (.cells (([.int .i64 x.op, .slice A x.kids.length c, .int .i32 x.rune, .slice B x.set.length d, .int .i64 x.at_, .int .i64 x.cap, .string x.name, .int .i64 x.mn, .int .i64 x.mx, .bool x.lz] : List Value) ++ ([.int .i64 o.op, .slice A2 o.kids.length c2, .int .i32 o.rune, .slice B2 o.set.length d2, .int .i64 o.at_, .int .i64 o.cap, .string o.name, .int .i64 o.mn, .int .i64 o.mx, .bool o.lz] : List Value)).toArray 27 (0, 0)) →
          Calls Try.prog 42 #[.slice (some ⟨wr.heap.size, 0, none⟩) 2 2] W (TreePost (fun b => ok b ∧ b < w.heap.size ∨ w.heap.size + 3 ≤ b) (joinedS [x, o]) W) := fun W hW hh => by
        refine joined_any (fun b => ok b ∧ b < w.heap.size ∨ w.heap.size + 3 ≤ b) W (some ⟨wr.heap.size, 0, none⟩) 2 [x, o] (arr_two hh (.inr (by omega)) ?_ ?_) (by simp) hflat
        · exact HT.out.move fun b hb hlt => ⟨(hW.block b (by omega)).trans (hBr.block b hlt), .inl hb⟩
        · exact hto.move fun b hb hlt => ⟨hW.block b hlt, hb⟩
      have HJ := Lib.hid (And.intro hj (And.intro hstep (And.intro hBr (And.intro hbx (And.intro hbr hbo)))))
      obtain ⟨g0, g1, g2, g3, g4, g5, g6, g7, g8, g9⟩ := cells10 hbx
      obtain ⟨k0, k1, k2, k3, k4, k5, k6, k7, k8, k9⟩ := cells10 hbo
      clear hj hstep hBr hbx hbr hbo hto hop hflat
      go_wp2_with fail
      refine (HJ.out.1 _ (below_al (Below.refl _ _) _) (heap_new1 _ _)).mono ?_
      clear g0 g1 g2 g3 g4 g5 g6 g7 g8 g9 k0 k1 k2 k3 k4 k5 k6 k7 k8 k9
      rintro e w1 ⟨c1, rfl, ht1, hb1⟩
      dsimp only
      have hq := quest_any _ w1 _ _ lz ht1
      have hs1 := hb1.size
      have HB1 := Lib.hid (below_and hb1 (below_al (Below.refl _ _) _))
      clear ht1 hb1
      go_wp2_with fail
      refine hq.mono ?_
      clear hq
      rintro e w2 ⟨c2', rfl, ht2, hb2⟩
      dsimp only
      rw [← HJ.out.2.1] at ht2
      obtain ⟨_, _, hBr, hbx, hbr, hbo⟩ := HJ.out
      have hB2 := below_and hb2 HB1.out
      have hbx2 := (hB2.block _ (heap_lt hbx)).trans hbx
      have hbr2 := (hB2.block _ (heap_lt hbr)).trans hbr
      have hbo2 := (hB2.block _ (heap_lt hbo)).trans hbo
      have hs2 := hB2.size
      have hsA : wr.heap.size + 1 ≤ w1.heap.size := by simpa using hs1
      have H2 := Lib.hid (And.intro (below_and hB2 hBr) (And.intro hbx2 (And.intro hbr2 (And.intro hbo2 ht2))))
      have hl2 := ht2.len
      have HL := Lib.hid hl2
      clear hBr hbx hbr hbo hb2 hB2 hbx2 hbr2 hbo2 ht2 hl2 HJ
      go_wp2_with ((refine wpList_storeB rfl 27 _ _ rfl (w.heap.size + 2) c2' [.int .i64 o.op, .slice A2 o.kids.length c2, .int .i32 o.rune, .slice B2 o.set.length d2, .int .i64 o.at_, .int .i64 o.cap, .string o.name, .int .i64 o.mn, .int .i64 o.mx, .bool o.lz] 27 rfl rfl H2.out.2.2.2.1 (by rw [HL.out]; rfl) (by rw [HL.out]; exact infoTrS) (trC_cells H2.out.2.2.2.2) ?_))
      intro w3 hn3 hg3 hs3
      have hx3 := (grown_ne hg3 (heap_lt H2.out.2.1) (by omega)).trans H2.out.2.1
      have hr3 := (grown_ne hg3 (heap_lt H2.out.2.2.1) (by omega)).trans H2.out.2.2.1
      have hB3 := below_grown H2.out.1 H2.out.1.size (by omega) hg3
      have ht3 : TrC (fun b => ok b ∧ b < w.heap.size ∨ w.heap.size + 3 ≤ b) w3 (restS x lz (k + 1)) c2' := H2.out.2.2.2.2.move fun b hb hlt => by
        have hne : b ≠ w.heap.size + 2 := by rcases hb with ((h | h) | h) | h <;> (try rw [World.size_alloc] at h) <;> omega
        refine ⟨grown_ne hg3 hlt hne, ?_⟩
        rcases hb with ((h | h) | h) | h
        · exact .inl h
        · exact .inr h
        · exact .inr (by simp at h; omega)
        · exact .inr (by omega)
      have H3 := Lib.hid (And.intro hB3 (And.intro hx3 (And.intro hr3 (And.intro hn3 ht3))))
      clear hB3 hx3 hr3 hn3 ht3 hg3
      go_wp2_with fail
      go_roundw
      case rel => exact ⟨k + 1, c2', by go_num, by omega, H3.out.1, H3.out.2.1, H3.out.2.2.1, H3.out.2.2.2.1, H3.out.2.2.2.2⟩
      case measure => simp [intOf]; omega
    · obtain rfl : k = n := by omega
      have HB := Lib.hid (And.intro hBr (And.intro hbr (And.intro hbo hto)))
      have hl := Lib.hid hto.len
      clear hBr hbx hbr hbo hto hop
      go_wp2_with (first | (refine wpList_loadB rfl 27 _ rfl (w.heap.size + 2) co 27 _ rfl HB.out.2.2.1 Try.underlying27 rfl (by rw [hl.out]; exact infoTrS) ?_) | (refine wpList_storeB rfl 27 _ _ rfl (w.heap.size + 1) co [.int .i64 0, .slice none 0 0, .int .i32 0, .slice none 0 0, .int .i64 0, .int .i64 0, .string ⟨#[]⟩, .int .i64 0, .int .i64 0, .bool false] 27 rfl rfl HB.out.2.1 (by rw [hl.out]; rfl) (by rw [hl.out]; exact infoTrS) (trC_cells HB.out.2.2.2) ?_))
      intro w3 hn3 hg3 hs3
      have ht3 : TrC (fun b => ok b ∨ w.heap.size ≤ b) w3 (restS x lz k) co := HB.out.2.2.2.move fun b hb hlt => by
        refine ⟨grown_ne hg3 hlt (by rcases hb with h | h <;> omega), ?_⟩
        rcases hb with h | h
        · exact .inl h.1
        · exact .inr (by omega)
      have hB3 := below_grown HB.out.1 HB.out.1.size (by omega) hg3
      have H3 := Lib.hid (And.intro hn3 (And.intro ht3 hB3))
      clear hn3 ht3 hB3 hg3
      go_wp2_with fail
      exact bodyPost_ret (results_cell_row rfl _ _ (w.heap.size + 1) _ _ _ _ rfl H3.out.1 Try.underlying27 rfl (by rw [List.size_toArray, hl.out]; exact infoTrS)) rfl ⟨co, rfl, H3.out.2.1, H3.out.2.2⟩
end Go.Proofs.Ytdnbholiijgedaa
