/-
  bitstate.New; martellolaw16.head: what is asked of one program and one text. No condition.
  unicode/utf8.DecodeRune, by the shelf's contract; the two tables that it reads. No condition but that they are laid.
  A rune in memory. No condition.
  The document's input of a text: martelloref01.New, martellolaw11.Doc, (*martelloref01.Input).Len. No condition but that the two tables stand.
  The document's input and its index: martellolaw11.Doc, (*martelloref01.Input).Len, martelloref14.Index. No condition but that the two tables stand.
  The document's runes and places: martelloref02.Has, martelloref01.Word, (*martelloref01.Input).Rune, At. No condition but bounds.
  The match of a program that needs no choice, in plain words: place by place. No condition.
  The match of a program that needs no choice is that of the walk with bits: the plain law. No condition.
  The document's runes and places are the program's; so is the match of a program that needs no choice. No condition.
  A program that comes to nothing but at the beginning of a text has no match from a place above 0. No program here, no condition.
  (*martelloref15.Ways).come: all ways from an instruction, as the document tells it. No condition but that the program is right.
  Plain laws for the document's Norm: a range put into its place, and ranges that touch put together.
  martelloref02.Norm: a set of the same runes. No condition but a bound on the list.
  Words of this seat's own: a list of ints of one's own whose head is taken off: slices of it, and appends to it. No condition.
-/
import Derived.Test.YthclpabmbhpohaaDoorBOneG8
import Derived.Lib.SlBytesConst
import Derived.Test.YthclpabmbhpohaaDoorRows
import Derived.Shelf.Spec.DecodeRune
import Derived.Lib.LaidU8T
import Derived.Lib.RuneCountTail
import Derived.PinnedBridge
import Derived.Test.YthclpabmbhpohaaDoorProg
import Derived.Lib.SmallJoins
import Derived.Lib.OwnKind
import Derived.Lib.MapLaws
import Derived.Lib.TrimU
import Derived.Deep.LoopGhost
import Derived.Deep.RegionLaw
import Derived.Maps.AppendAt
import Derived.Deep.Onto
import Derived.ArgAppend
import Derived.Deep.MidRow
set_option linter.unusedVariables false
set_option linter.unusedSimpArgs false
namespace Go.Proofs.YthclpabmbhpohaaDoor
open Go.RowKit
set_option linter.unusedVariables false
def NewMaPost (w : World) (e : Ending) (w' : World) : Prop := e = .returned (.pointer (some ⟨w.heap.size, 0, none⟩)) ∧ w' = w.alloc (.cells #[.slice none 0 0, .slice none 0 0, .slice none 0 0, .slice none 0 0, .int .i64 0] 70)
theorem new_any (w : World) : Calls Tryd.prog 10 #[] w (NewMaPost w) := by
  go_enter Tryd.func10, Tryd.ntmps10
  go_wp2_with fail
  go_ret
  exact ⟨rfl, rfl⟩
theorem ma_new {w : World} {G : Nat} (h : w.heap[G]? = some (.cells #[.slice none 0 0, .slice none 0 0, .slice none 0 0, .slice none 0 0, .int .i64 0] 70 (0, 0))) : MaOK w G (fun k => k = G) :=
  ⟨_, _, _, _, [], [], [], none, 0, ⟨h, Owns.nil _ _ _ _, Owns.nil _ _ _ _, Owns.nil _ _ _ _, rfl⟩, fun k hk => by
    rcases hk with hk | hk | hk | hk | hk
    · exact hk
    all_goals (simp [Value.ownBlock] at hk)⟩
def pHb : Pg := ⟨[⟨1, 0, 0, [], 0⟩, ⟨2, 0, 0, [⟨97, 97⟩], 0⟩], 1, 2⟩
def txBA : ByteArray := ⟨#[98, 97]⟩
theorem symsBA : symsOf txBA = [(98, 0), (97, 1), (-1, 2)] := by kernel_rfl
theorem edges_a : edgesOf [[⟨97, 97⟩]] = [(97, 1), (98, -1)] := by kernel_rfl
theorem rightR_a : rightR [⟨97, 97⟩] = true := by
  have h : normOf [[⟨97, 97⟩]] = [⟨97, 97⟩] := by
    rw [← norm_any [[⟨97, 97⟩]] [(97, 1), (98, -1)] (by rw [edges_a]) (by simp)]
    kernel_rfl
  unfold rightR
  rw [h]
  rfl
theorem admit_hb : admitB pHb 3 = true := by
  have h : pHb.ins.any (fun x => !rightI rightR pHb.ins.length pHb.caps x) = false := by simp [pHb, rightI, rightR_a, hereB]
  unfold admitB checkS
  rw [if_neg (by decide), h]
  decide
theorem find_hb : findB pHb (runeAt [(98, 0), (97, 1), (-1, 2)]) (atOf [(98, 0), (97, 1), (-1, 2)]) false 3 0 false = some [1, 2] := by kernel_rfl
theorem len_hb2 : (symsOf txBA).length = 3 := by rw [symsBA]; rfl
theorem find_hb2 : findB pHb (runeAt (symsOf txBA)) (atOf (symsOf txBA)) false (symsOf txBA).length 0 false = some [1, 2] := by rw [symsBA]; exact find_hb
theorem MaOK.wide {W : World} {G : Nat} {D D' : Nat → Prop} (h : MaOK W G D) (hD : ∀ k, D k → D' k) : MaOK W G D' := by
  obtain ⟨bv, jv, fv, sv, ws, js, fit, best, st, h1, h2⟩ := h
  exact ⟨bv, jv, fv, sv, ws, js, fit, best, st, h1, fun k hk => hD k (h2 k hk)⟩
/-- Find, whatever the program. -/
theorem bfind_any (p : Pg) (A : Option Addr) (c G : Nat) (ia : Addr) (rs : List (Int × Int)) (lg anch : Bool) (fr : Int) (hfr : -9223372036854775808 ≤ fr ∧ fr ≤ 9223372036854775807) (D : Nat → Prop) (W : World) (hM : MaOK W G D) (pg : PgC (fun k => ¬ D k) W p [.slice A p.ins.length c, .int .i64 p.start, .int .i64 p.caps]) (inp : InpC (fun k => ¬ D k) W ia rs) (new : ∀ k, W.heap.size ≤ k → D k)
    (lo : 1 ≤ rs.length) (hi : rs.length ≤ 1000000) (set : ∀ x ∈ p.ins, x.set.length ≤ 1000000000) (out : runeAt rs ((rs.length : Int) - 1) < 0) (hA : admitB p rs.length = true) :
    Calls Tryd.prog 13 #[.pointer (some ⟨G, 0, none⟩), .agg #[.slice A p.ins.length c, .int .i64 p.start, .int .i64 p.caps], .pointer (some ia), .int .i64 fr, .bool anch, .bool lg] W (FindPost p rs.length G D (findB p (runeAt rs) (atOf rs) lg rs.length fr anch) W) := by
  have hck : checkS rightR p = 0 := by unfold admitB at hA; simp only [Bool.and_eq_true, beq_iff_eq] at hA; exact hA.1
  have hk := check_ok hck
  obtain ⟨ad, rfl⟩ : ∃ ad, A = some ad := by
    obtain ⟨A', c', he, _, _, ha⟩ := pg
    obtain ⟨ad, cs, h9, _⟩ := ha 0 p.ins[0] (List.getElem?_eq_getElem (by omega))
    simp only [List.cons.injEq, Value.slice.injEq] at he
    exact ⟨ad, he.1.1.trans h9⟩
  obtain ⟨bv, jv, fv, sv, ws, js, fit, best, st, hm, hD⟩ := hM
  exact bfind_start p ad c G ia rs lg anch fr hfr D W bv jv fv sv ws js fit best st hm hD pg inp new lo hi set out hA
def insHb (b9 : Nat) : List Value := [.int .i64 1, .int .i64 0, .int .i64 0, .slice none 0 0, .int .i64 0, .int .i64 2, .int .i64 0, .int .i64 0, .slice (some ⟨b9, 0, none⟩) 1 1, .int .i64 0]
theorem pg_hb (W : World) (b b9 : Nat) (fr fr9 : Nat × Nat) (h : W.heap[b]? = some (.cells (insHb b9).toArray 64 fr)) (h9 : W.heap[b9]? = some (.cells #[.int .i32 97, .int .i32 97] 66 fr9)) : PgC (fun k => k = b ∨ k = b9) W pHb [.slice (some ⟨b, 0, none⟩) 2 2, .int .i64 1, .int .i64 2] := by
  refine ⟨some ⟨b, 0, none⟩, 2, rfl, Nat.le_refl _, by unfold maxLen; omega, fun i x hx => ?_⟩
  have hadd : ∀ n, (⟨b, 0, none⟩ : Addr).add n = ⟨b, n, none⟩ := fun n => by unfold Addr.add; split <;> simp_all
  have hadd9 : ∀ n, (⟨b9, 0, none⟩ : Addr).add n = ⟨b9, n, none⟩ := fun n => by unfold Addr.add; split <;> simp_all
  match i, hx with
  | 0, hx =>
    simp [pHb] at hx
    subst hx
    refine ⟨_, [.int .i64 1, .int .i64 0, .int .i64 0, .slice none 0 0, .int .i64 0], rfl, .inl rfl, ⟨none, 0, rfl, Nat.le_refl _, Nat.zero_le _, Arr.nil⟩, rfl, fun j u hu => ?_⟩
    rw [hadd, cell_of_blk h]
    match j, hu with
    | 0, hu => exact hu
    | 1, hu => exact hu
    | 2, hu => exact hu
    | 3, hu => exact hu
    | 4, hu => exact hu
  | 1, hx =>
    simp [pHb] at hx
    subst hx
    refine ⟨_, [.int .i64 2, .int .i64 0, .int .i64 0, .slice (some ⟨b9, 0, none⟩) 1 1, .int .i64 0], rfl, .inl rfl, ⟨some ⟨b9, 0, none⟩, 1, rfl, Nat.le_refl _, by unfold maxLen; omega, fun i' x' hx' => ?_⟩, rfl, fun j u hu => ?_⟩
    · match i', hx' with
      | 0, hx' =>
        simp at hx'
        subst hx'
        refine ⟨_, [.int .i32 97, .int .i32 97], rfl, .inr rfl, rfl, rfl, fun j u hu => ?_⟩
        rw [hadd9, cell_of_blk h9]
        match j, hu with
        | 0, hu => exact hu
        | 1, hu => exact hu
    · rw [hadd, cell_of_blk h]
      match j, hu with
      | 0, hu => exact hu
      | 1, hu => exact hu
      | 2, hu => exact hu
      | 3, hu => exact hu
      | 4, hu => exact hu
theorem set_hb : ∀ x ∈ pHb.ins, x.set.length ≤ 1000000000 := by intro x hx; simp [pHb] at hx; rcases hx with rfl | rfl <;> simp
theorem textBA (W : World) (b : Nat) (fr : Nat × Nat) (hb : W.heap[b]? = some (.cells #[.int .u8 98, .int .u8 97] 5 fr)) : TextC (fun _ => True) W (some ⟨b, 0, none⟩) txBA := by
  intro i x hi
  have hadd : ∀ n, (⟨b, 0, none⟩ : Addr).add n = ⟨b, n, none⟩ := fun n => by unfold Addr.add; split <;> simp_all
  change ([98, 97] : List UInt8)[i]? = some x at hi
  refine ⟨_, _, rfl, trivial, rfl, rfl, fun j u hj => ?_⟩
  rw [hadd, cell_of_blk hb]
  simp only [List.getElem?_singleton] at hj
  split at hj
  · rename_i h0
    subst h0
    cases hj
    rcases i with _ | _ | i <;> simp at hi <;> subst hi <;> rfl
  · cases hj
set_option maxRecDepth 100000 in
set_option maxHeartbeats 4000000 in
theorem head16_any (w : World) : Calls Tryd.prog 9 #[] w fun e w' => e = .returned (.bool true) ∧ Below w.heap.size w w' := by
  obtain ⟨w1, hw1⟩ : ∃ w1, w.alloc (.cells #[.slice none 0 0, .slice none 0 0, .slice none 0 0, .slice none 0 0, .int .i64 0] 70) = w1 := ⟨_, rfl⟩
  have n1 : w1.heap.size = w.heap.size + 1 := by rw [← hw1]; simp
  have g0 : w1.heap[w.heap.size]? = some (.cells #[.slice none 0 0, .slice none 0 0, .slice none 0 0, .slice none 0 0, .int .i64 0] 70 (0, 0)) := by rw [← hw1]; exact heap_new1 _ _
  have b1 : Below w.heap.size w w1 := by rw [← hw1]; exact below_al (Below.refl _ _) _
  obtain ⟨w4, hw4⟩ : ∃ w4, ((w1.alloc (.cells #[.int .i32 97, .int .i32 97] 66)).alloc (.cells #[.int .i64 1, .int .i64 0, .int .i64 0, .slice none 0 0, .int .i64 0, .int .i64 2, .int .i64 0, .int .i64 0, .slice (some ⟨w1.heap.size, 0, none⟩) 1 1, .int .i64 0] 64)).alloc (.cells #[.slice (some ⟨w1.heap.size + 1, 0, none⟩) 2 2, .int .i64 1, .int .i64 2] 28) = w4 := ⟨_, rfl⟩
  have n4 : w4.heap.size = w1.heap.size + 3 := by rw [← hw4]; simp
  have b4 : Below w1.heap.size w1 w4 := by rw [← hw4]; exact below_al (below_al (below_al (Below.refl _ _) _) _) _
  have g1 : w4.heap[w1.heap.size]? = some (.cells #[.int .i32 97, .int .i32 97] 66 (0, 0)) := by
    rw [← hw4, Below.heap_alloc _ _ _ (by simp; omega), Below.heap_alloc _ _ _ (by simp)]; exact heap_new1 _ _
  have g2 : w4.heap[w1.heap.size + 1]? = some (.cells (insHb w1.heap.size).toArray 64 (0, 0)) := by
    rw [← hw4, Below.heap_alloc _ _ _ (by simp)]; exact heap_new2 _ _ _
  have g3 : w4.heap[w1.heap.size + 1 + 1]? = some (.cells #[.slice (some ⟨w1.heap.size + 1, 0, none⟩) 2 2, .int .i64 1, .int .i64 2] 28 (0, 0)) := by
    rw [← hw4]; have h := heap_new1 ((w1.alloc (.cells #[.int .i32 97, .int .i32 97] 66)).alloc (.cells #[.int .i64 1, .int .i64 0, .int .i64 0, .slice none 0 0, .int .i64 0, .int .i64 2, .int .i64 0, .int .i64 0, .slice (some ⟨w1.heap.size, 0, none⟩) 1 1, .int .i64 0] 64)) (.cells #[.slice (some ⟨w1.heap.size + 1, 0, none⟩) 2 2, .int .i64 1, .int .i64 2] 28)
    simpa using h
  have kd : Sem.run Tryd.prog (convert 29 29 (.slice (some ⟨w1.heap.size + 1 + 1 + 1, 0, none⟩) 2 2)) (w4.alloc (.cells #[.int .u8 98, .int .u8 97] 5)) = .ok (.slice (some ⟨w1.heap.size + 1 + 1 + 1, 0, none⟩) 2 2) (w4.alloc (.cells #[.int .u8 98, .int .u8 97] 5 (2, 3))) := by
    have h := Lib.run_convert_bytes_const (P := Tryd.prog) w4 29 5 #[.int .u8 98, .int .u8 97] 2 2 Tryd.underlying29 Tryd.underlying5
    rw [n4] at h
    exact h
  obtain ⟨w5, hw5⟩ : ∃ w5, w4.alloc (.cells #[.int .u8 98, .int .u8 97] 5 (2, 3)) = w5 := ⟨_, rfl⟩
  have htx := text_small (fun _ => True) w5 (some ⟨w4.heap.size, 0, none⟩) 2 txBA (by rw [← hw5]; exact textBA _ _ _ (heap_new1 w4 _)) (by decide)
  have b5 : Below w4.heap.size w4 w5 := by rw [← hw5]; exact below_al (Below.refl _ _) _
  rw [n4] at htx
  have H4 := Lib.hid (And.intro b4 (And.intro g1 (And.intro g2 g3)))
  have H5 := Lib.hid b5
  clear b4 g1 g2 g3 b5
  have hnw := new_any w
  unfold NewMaPost at hnw
  go_enter Tryd.func9, Tryd.ntmps9
  go_wp2_with fail
  refine hnw.mono ?_
  clear hnw
  rintro e W ⟨rfl, hW⟩
  dsimp only
  have e9 : W = w1 := hW.trans hw1
  have HW := Lib.hid (And.intro n1 (And.intro b1 g0))
  clear n1 b1 g0 hw1 hW
  subst e9
  go_wp2_with fail
  refine htx.mono ?_
  clear htx
  rintro e w6 ⟨b3, rfl, hI, hb6⟩
  dsimp only
  have hB5 : Below W.heap.size W w5 := below_then H4.out.1 H4.out.1.size H5.out
  have hB6 : Below W.heap.size W w6 := below_then hB5 hB5.size hb6
  have sz5 := H5.out.size
  have sz6 := hb6.size
  have e1 := HW.out.1
  have k4 : ∀ k, k < w4.heap.size → w6.heap[k]? = w4.heap[k]? := fun k hk => (hb6.block k (by omega)).trans (H5.out.block k hk)
  have m6 : w6.heap[w.heap.size]? = some (.cells #[.slice none 0 0, .slice none 0 0, .slice none 0 0, .slice none 0 0, .int .i64 0] 70 (0, 0)) := (hB6.block _ (by omega)).trans HW.out.2.2
  have r6 := (k4 _ (by omega)).trans H4.out.2.1
  have i6 : w6.heap[W.heap.size + 1]? = some (.cells (insHb W.heap.size).toArray 64 (0, 0)) := (k4 _ (by omega)).trans H4.out.2.2.1
  have p6 := (k4 _ (by omega)).trans H4.out.2.2.2
  have hP : PgC (fun k => k = W.heap.size + 1 ∨ k = W.heap.size) w6 pHb [.slice (some ⟨W.heap.size + 1, 0, none⟩) 2 2, .int .i64 1, .int .i64 2] := pg_hb w6 _ _ _ _ i6 r6
  have hf := bfind_any pHb (some ⟨W.heap.size + 1, 0, none⟩) 2 w.heap.size ⟨b3, 0, none⟩ (symsOf txBA) false false 0 (by decide) (fun k => k = w.heap.size ∨ w6.heap.size ≤ k) w6
    ((ma_new m6).wide fun k hk => .inl hk) (hP.move fun k hk hlt => ⟨rfl, by omega⟩) (hI.move fun k hk hlt => ⟨rfl, by omega⟩) (fun k hk => .inr hk)
    (by rw [len_hb2]; decide) (by rw [len_hb2]; decide) set_hb (by rw [symsBA]; decide) (by rw [len_hb2]; exact admit_hb)
  rw [find_hb2] at hf
  have HQ := Lib.hid (And.intro hB6 (And.intro hP hI))
  have HP6 := Lib.hid p6
  have hn := heap_lt p6
  obtain ⟨q0, q1, q2⟩ := cells3 p6
  clear e1 hB5 hb6 sz5 sz6 k4 r6 i6 hP hI m6 p6 hB6 n4 hw4 hw5 kd
  go_wp2_with fail
  refine hf.mono ?_
  clear hf
  rintro e w7 ⟨A7, c7, n7, rfl, g1, g2, g3, g4, hT, D7, hD7, hM7, hR7⟩
  dsimp only
  have e1 := HW.out.1
  have hB7 : Below w.heap.size w w7 := (below_then HW.out.2.1 HW.out.2.1.size HQ.out.1).trans (hT.below fun k hk => by have := HQ.out.1.size; rcases hk with hk | hk <;> omega)
  have hP7 := HQ.out.2.1.move (ok' := fun _ => True) (w' := w7) (fun k hk hlt => ⟨hT.block k (by omega), trivial⟩)
  have hI7 := HQ.out.2.2.move (ok' := fun _ => True) (w' := w7) (fun k hk hlt => ⟨hT.block k (by have := H4.out.1.size; have := H5.out.size; omega), trivial⟩)
  have hA := badmits_any (fun _ => True) w7 pHb (some ⟨W.heap.size + 1, 0, none⟩) 2 hP7 (by decide) set_hb ⟨b3, 0, none⟩ (symsOf txBA) (fun _ => True) hI7 (by rw [len_hb2]; decide) (by rw [len_hb2]; decide)
  rw [len_hb2, admit_hb] at hA
  simp only [Option.getD_some, List.length_cons, List.length_nil, Nat.zero_add, Nat.reduceAdd, Option.isSome_some] at g1 hR7 ⊢
  obtain ⟨ad, rfl, z0⟩ := ints_at hR7 0 (by decide)
  obtain ⟨ad', e', z1⟩ := ints_at hR7 1 (by decide)
  cases e'
  have z0 : w7.cell? ad = some (.int .i64 1) := by simpa [Addr.add] using z0
  have z1 : w7.cell? ⟨ad.block, ad.off + 1, none⟩ = some (.int .i64 2) := by
    have h9 : ad.add 1 = ⟨ad.block, ad.off + 1, none⟩ := by unfold Addr.add; rw [if_neg (by decide)]
    rw [← h9]; exact z1
  have hp7 : w7.heap[W.heap.size + 1 + 1]? = some (.cells #[.slice (some ⟨W.heap.size + 1, 0, none⟩) 2 2, .int .i64 1, .int .i64 2] 28 (0, 0)) := by
    exact (hT.block _ (by omega)).trans HP6.out
  clear hn q0 q1 q2
  obtain ⟨q0, q1, q2⟩ := cells3 hp7
  have hn := heap_lt hp7
  have H7 := Lib.hid hB7
  clear hp7 hB7 hP7 hI7 hT hD7 hM7 hR7 g2 g3 g4 e1
  go_wp2_with fail
  refine hA.mono ?_
  clear hA
  rintro e w8 ⟨rfl, hb8⟩
  dsimp only
  have H8 := Lib.hid (below_and hb8 H7.out)
  clear hb8 q0 q1 q2 hn z0 z1
  go_wp2_with fail
  go_ret
  exact ⟨rfl, H8.out⟩
end Go.Proofs.YthclpabmbhpohaaDoor
namespace Go.Proofs.YthclpabmbhpohaaDoor
open Go.RowKit Go.Shelf
set_option linter.unusedVariables false
set_option maxRecDepth 100000
/-- The two tables stand. -/
def Tabs (w : World) : Prop := Lib.Utf8Tabs 0 1 w
theorem Tabs.below {w w' : World} (h : Tabs w) (hb : Below w.heap.size w w') : Tabs w' := by
  have hl : ∀ {p : Addr} {v : Value}, w.cell? p = some v → w'.cell? p = some v := fun {p v} hc => (hb.cell (World.block_lt_of_cell? w p hc)).trans hc
  exact ⟨fun c hc => hl (h.1 c hc), fun i hi => ⟨hl (h.2 i hi).1, hl (h.2 i hi).2⟩⟩
end Go.Proofs.YthclpabmbhpohaaDoor
namespace Go.Proofs.YthclpabmbhpohaaDoor
open Go.RowKit
set_option linter.unusedVariables false
/-- A list of runes of one's own. -/
def runeC (x : Int) : List Value := [.int .i32 x]
end Go.Proofs.YthclpabmbhpohaaDoor
namespace Go.Proofs.YthclpabmbhpohaaDoor
open Go.RowKit Go.Shelf
set_option linter.unusedVariables false
def codesOf (s : ByteArray) : List Int := (symsFrom s s.size 0).map (·.1)
def offC (x : Int) : List Value := [.int .i64 x]
/-- The document's input while it is being filled: its block b; what it has so far. -/
def Doc2 (B b : Nat) (kv bv : Value) (rs os : List Int) (w : World) : Prop :=
  ∃ rv ov, w.heap[b]? = some (.cells #[kv, bv, rv, ov] 115 (0, 0)) ∧ Owns w B 21 1 rv (rs.map runeC) ∧ Owns w B 3 1 ov (os.map offC)
theorem Owns.setOther {w : World} {B : Nat} {e : TypeId} {sz : Nat} {v : Value} {css : List (List Value)} (h : Owns w B e sz v css) {a : Addr} (ha : v.ownBlock ≠ some a.block) (u : Value) : Owns (w.setCell a u) B e sz v css := ⟨ownsRow_setCell_other h.1 ha u, h.2⟩
theorem Doc2.below {B b : Nat} {kv bv : Value} {rs os : List Int} {w w' : World} (h : Doc2 B b kv bv rs os w) (hb : Below w.heap.size w w') : Doc2 B b kv bv rs os w' := by
  obtain ⟨rv, ov, h1, h2, h3⟩ := h
  exact ⟨rv, ov, (hb.block _ (heap_lt h1)).trans h1, h2.below hb, h3.below hb⟩
end Go.Proofs.YthclpabmbhpohaaDoor
namespace Go.Proofs.YthclpabmbhpohaaDoor
open Go.RowKit Go.Shelf
set_option linter.unusedVariables false
/-- The document's runes are the program's. -/
def SameRunes (rs : List (Int × Int)) (cs : List Int) : Prop := rs.length = cs.length + 1 ∧ ∀ (k : Nat) (hk : k < cs.length), runeAt rs (k : Int) = cs[k]
theorem same_runes (s : ByteArray) : SameRunes (symsOf s) (codesOf s) := by
  refine ⟨by simp [symsOf, codesOf], fun k hk => ?_⟩
  have hk' : k < (symsFrom s s.size 0).length := by simpa [codesOf] using hk
  unfold runeAt
  rw [if_pos (by omega), Int.toNat_natCast]
  simp [symsOf, codesOf, List.getElem?_append_left hk', List.getElem?_eq_getElem hk']
end Go.Proofs.YthclpabmbhpohaaDoor
namespace Go.Proofs.YthclpabmbhpohaaDoor
open Go.RowKit
set_option linter.unusedVariables false
def codeAt (cs : List Int) (i : Int) : Int := if 0 ≤ i then (cs[i.toNat]?).getD (-1) else -1
def RefB (ok : Nat → Prop) (w : World) (b : Nat) (cs : List Int) : Prop := ∃ A c, ok b ∧ w.cell? ⟨b, 2, none⟩ = some (.slice A cs.length c) ∧ cs.length ≤ 1000000 ∧ Arr ok w 1 (IntC .i32) A cs
theorem RefB.move {ok ok' : Nat → Prop} {w w' : World} {b : Nat} {cs : List Int} (h : RefB ok w b cs) (hm : ∀ k, ok k → k < w.heap.size → w'.heap[k]? = w.heap[k]? ∧ ok' k) : RefB ok' w' b cs := by
  obtain ⟨A, c, h0, h1, h2, h3⟩ := h
  obtain ⟨m1, m2⟩ := hm b h0 (World.block_lt_of_cell? w _ h1)
  exact ⟨A, c, m2, by rw [← h1]; exact World.cell?_of_block m1, h2, h3.move hm (by omega)⟩
/-- What a place is, of what is on both sides. -/
def atD (z0 zn a10 n10 nw : Bool) : Int := (if z0 = true then 5 else if a10 = true then 4 else 0) + (if zn = true then 10 else if n10 = true then 8 else 0) + (if nw = true then 16 else 32)
def docAt (cs : List Int) (i : Int) : Int := if i < 0 ∨ (cs.length : Int) < i then 0 else atD (i == 0) (i == (cs.length : Int)) (codeAt cs (i - 1) == 10) (codeAt cs i == 10) (!(wordB (codeAt cs (i - 1)) == wordB (codeAt cs i)))
end Go.Proofs.YthclpabmbhpohaaDoor
namespace Go.Proofs.YthclpabmbhpohaaDoor
open Go.RowKit
set_option linter.unusedVariables false
section
variable (p : Pg) (rn av : Int → Int) (lg : Bool)
/-- All that is done at one place. -/
def placeS (pl : Int) (s : Rn) : Rn := walkS p rn av lg (p.ins.length + 1) s.next pl s.nf ⟨s.steps, s.best, -1, s.nf, false⟩
/-- From a place on; len: the last place. -/
def runL (len : Int) : Nat → Int → Rn → Rn
  | 0, _, s => s
  | n + 1, pl, s => if s.next < 0 ∨ len < pl then s else runL len n (pl + 1) (placeS p rn av lg pl s)
end
def fit0 (p : Pg) : List Int := (List.replicate p.caps.toNat (-1)).set 0 0
def matchS (p : Pg) (rs : List (Int × Int)) (lg : Bool) : Rn := runL p (runeAt rs) (atOf rs) lg ((rs.length : Int) - 1) rs.length 0 ⟨0, none, p.start, fit0 p, false⟩
section
variable {p : Pg} {ask : Int → List Int × Bool}
/-- What was asked for so far. -/
def Asked (p : Pg) (ask : Int → List Int × Bool) (i : Nat) (td : List Int) : Prop := ∀ j (h : j < td.length), j < i → (ask td[j]).2 = true ∧ ∀ x ∈ (ask td[j]).1, (p.get x).out ∈ td
theorem putOuts_sub (p : Pg) : ∀ (l td : List Int), ∀ x ∈ td, x ∈ putOuts p l td
  | [], td, x, h => h
  | y :: l, td, x, h => by
    show x ∈ putOuts p l (if td.contains (p.get y).out = true then td else td ++ [(p.get y).out])
    refine putOuts_sub p l _ x ?_
    split
    · exact h
    · simp [h]
theorem putOuts_has (p : Pg) : ∀ (l td : List Int), ∀ x ∈ l, (p.get x).out ∈ putOuts p l td
  | [], td, x, h => by simp at h
  | y :: l, td, x, h => by
    show (p.get x).out ∈ putOuts p l (if td.contains (p.get y).out = true then td else td ++ [(p.get y).out])
    rcases List.mem_cons.1 h with rfl | h
    · refine putOuts_sub p l _ _ ?_
      split
      · rename_i hc; simpa using hc
      · simp
    · exact putOuts_has p l _ x h
theorem putOuts_pre (p : Pg) : ∀ (l td : List Int), ∃ r, putOuts p l td = td ++ r
  | [], td => ⟨[], by simp [putOuts]⟩
  | y :: l, td => by
    show ∃ r, putOuts p l (if td.contains (p.get y).out = true then td else td ++ [(p.get y).out]) = td ++ r
    split
    · exact putOuts_pre p l td
    · obtain ⟨r, hr⟩ := putOuts_pre p l (td ++ [(p.get y).out])
      exact ⟨(p.get y).out :: r, by rw [hr]; simp⟩
theorem adm_closed (hl : Leads p) (hq : ∀ pc, Pc p pc → ∀ x ∈ (ask pc).1, Pc p x ∧ (p.get x).op = 2) : ∀ (n i : Nat) (td : List Int), admG p ask n i td = true → p.ins.length + 1 ≤ n + i → td.Nodup → (∀ x ∈ td, Pc p x) → Asked p ask i td →
    ∃ T : List Int, (∀ x ∈ td, x ∈ T) ∧ (∀ x ∈ T, Pc p x ∧ (ask x).2 = true ∧ ∀ y ∈ (ask x).1, (p.get y).out ∈ T)
  | 0, i, td, _, hn, hnd, hp, hA => by
    have := nodup_len hnd hp
    refine ⟨td, fun x h => h, fun x hx => ?_⟩
    obtain ⟨j, hj, rfl⟩ := List.getElem_of_mem hx
    have := hA j hj (by omega)
    exact ⟨hp _ (List.getElem_mem hj), this.1, this.2⟩
  | n + 1, i, td, h, hn, hnd, hp, hA => by
    rw [admG] at h
    cases hi : td[i]? with
    | none =>
      rw [List.getElem?_eq_none_iff] at hi
      refine ⟨td, fun x h => h, fun x hx => ?_⟩
      obtain ⟨j, hj, rfl⟩ := List.getElem_of_mem hx
      have := hA j hj (by omega)
      exact ⟨hp _ (List.getElem_mem hj), this.1, this.2⟩
    | some pc =>
      rw [hi] at h
      dsimp only at h
      obtain ⟨hil, hipc⟩ := List.getElem?_eq_some_iff.1 hi
      by_cases c : (ask pc).2 = false
      · rw [if_pos c] at h; cases h
      rw [if_neg c] at h
      have hpc : Pc p pc := hp _ (List.mem_of_getElem? hi)
      obtain ⟨r, hr⟩ := putOuts_pre p (ask pc).1 td
      have hA2 : Asked p ask (i + 1) (putOuts p (ask pc).1 td) := by
        intro j hj hji
        have hjt : j < td.length := by omega
        have e : (putOuts p (ask pc).1 td)[j] = td[j] := by simp only [hr]; exact List.getElem_append_left hjt
        rw [e]
        by_cases hji2 : j = i
        · subst hji2
          rw [hipc]
          exact ⟨by simpa using c, fun x hx => putOuts_has p _ _ x hx⟩
        · have := hA j hjt (by omega)
          exact ⟨this.1, fun x hx => putOuts_sub p _ _ _ (this.2 x hx)⟩
      obtain ⟨T, h1, h2⟩ := adm_closed hl hq n (i + 1) _ h (by omega) (putOuts_nodup p _ _ hnd) (putOuts_mem p (Pc p) _ _ hp (fun x hx => (hl x (hq pc hpc x hx).1).1 (.inl (hq pc hpc x hx).2))) hA2
      exact ⟨T, fun x hx => h1 x (putOuts_sub p _ _ x hx), h2⟩
end
/-- All places to which a rune leads. -/
theorem adm_leads {me : List Rg → List Rg → Bool} {un : List Rg → List Rg → List Rg} {p : Pg} (hl : Leads p) (hs : Pc p p.start) (h : admG p (simpleW me un p) (p.ins.length + 1) 0 [p.start] = true) :
    ∃ T : List Int, p.start ∈ T ∧ ∀ x ∈ T, Pc p x ∧ (simpleW me un p x).2 = true ∧ ∀ y ∈ (simpleW me un p x).1, (p.get y).out ∈ T := by
  obtain ⟨T, h1, h2⟩ := adm_closed hl (fun pc hp => simpleW_list me un p hl pc hp) (p.ins.length + 1) 0 [p.start] h (by omega) (by simp) (fun x hx => by rw [List.mem_singleton.1 hx]; exact hs) (fun j h hj => by omega)
  exact ⟨T, h1 _ (by simp), h2⟩
section
variable {me : List Rg → List Rg → Bool} {un : List Rg → List Rg → List Rg} {p : Pg} {rn av : Int → Int} {lg : Bool}
theorem onW_l (me : List Rg → List Rg → Bool) (un : List Rg → List Rg → List Rg) (p : Pg) (pc : Int) (s : Ow) : ∀ x ∈ s.l, x ∈ (onW me un p pc s).2.l := by
  intro x h
  unfold onW
  repeat' split
  all_goals first | exact h | simp [h]
theorem waysW_l (me : List Rg → List Rg → Bool) (un : List Rg → List Rg → List Rg) (p : Pg) : ∀ (n : Nat) (pc : Int) (s : Ow), ∀ x ∈ s.l, x ∈ (waysW me un p n pc s).2.l
  | 0, _, s, x, h => h
  | n + 1, pc, s, x, h => by
    have ih := waysW_l me un p n
    have h1 := onW_l me un p pc s x h
    rw [waysW_new rfl rfl]
    by_cases c0 : (onW me un p pc s).1 = false
    · rw [if_pos c0]; exact h1
    rw [if_neg c0]
    by_cases c3 : (p.get pc).op = 3
    · rw [if_pos c3]
      split
      · exact ih _ _ x h1
      · exact ih _ _ x (ih _ _ x h1)
    rw [if_neg c3]
    by_cases c4 : (p.get pc).op = 4 ∨ (p.get pc).op = 5
    · rw [if_pos c4]; exact ih _ _ x h1
    rw [if_neg c4]; exact h1
/-- What a walk leaves: where it leads, its fits. -/
structure Good (p : Pg) (l : List Int) (s s' : Rn) : Prop where
  next : s'.next = s.next ∨ ∃ x ∈ l, s'.next = (p.get x).out
  nf : (s'.nf.length : Int) = p.caps
  best : ∀ b, s'.best = some b → (b.length : Int) = p.caps
theorem walkS_good : ∀ (n : Nat) (pc pl : Int) (fit : List Int) (s : Rn) (s0 : Ow), (waysW me un p n pc s0).1 = true → (fit.length : Int) = p.caps → (s.nf.length : Int) = p.caps → (∀ b, s.best = some b → (b.length : Int) = p.caps) →
    Good p (waysW me un p n pc s0).2.l s (walkS p rn av lg n pc pl fit s) := by
  intro n
  induction n with
  | zero => intro pc pl fit s s0 h; simp [waysW] at h
  | succ n ih =>
    intro pc pl fit s s0 h hf hnf hb
    have h1 := ways_on h
    by_cases c0 : s.stop = true
    · rw [walkS, if_pos c0]; exact ⟨.inl rfl, hnf, hb⟩
    rw [walkS_new (by simpa using c0) rfl]
    by_cases c1 : (p.get pc).op = 1
    · rw [if_pos c1]; exact ⟨.inl rfl, hnf, fun b he => by cases he; rw [List.length_set]; exact hf⟩
    rw [if_neg c1]
    by_cases c2 : (p.get pc).op = 2
    · rw [if_pos c2]
      split
      · refine ⟨.inr ⟨pc, ?_, rfl⟩, hf, hb⟩
        rw [ways_none h rfl ⟨by omega, by omega, by omega⟩]
        unfold onW at h1 ⊢
        by_cases d0 : s0.seen.contains pc = true
        · rw [if_pos d0] at h1; cases h1
        rw [if_neg d0, if_neg c1, if_pos c2] at h1 ⊢
        by_cases d1 : me s0.all (p.get pc).set = true
        · rw [if_pos d1] at h1; cases h1
        rw [if_neg d1]
        simp
      · exact ⟨.inl rfl, hnf, hb⟩
    rw [if_neg c2]
    by_cases c3 : (p.get pc).op = 3
    · rw [if_pos c3]
      obtain ⟨a1, a2, a3⟩ := ways_alt h rfl c3
      have i1 := ih (p.get pc).out pl fit ⟨s.steps + 1, s.best, s.next, s.nf, s.stop⟩ _ a1 hf hnf hb
      have i2 := ih (p.get pc).arg pl fit _ _ a2 hf i1.nf i1.best
      rw [a3]
      refine ⟨?_, i2.nf, i2.best⟩
      rcases i2.next with e | ⟨x, hx, e⟩
      · rw [e]
        rcases i1.next with e1 | ⟨x, hx, e1⟩
        · exact .inl e1
        · exact .inr ⟨x, waysW_l me un p _ _ _ x hx, e1⟩
      · exact .inr ⟨x, hx, e⟩
    rw [if_neg c3]
    by_cases c4 : (p.get pc).op = 4
    · rw [if_pos c4]
      obtain ⟨a1, a3⟩ := ways_one h rfl (.inl c4)
      have i1 := ih (p.get pc).out pl (fit.set (p.get pc).arg.toNat pl) ⟨s.steps + 1 + fit.length, s.best, s.next, s.nf, s.stop⟩ _ a1 (by rw [List.length_set]; exact hf) hnf hb
      rw [a3]
      exact ⟨i1.next, i1.nf, i1.best⟩
    rw [if_neg c4]
    by_cases c5 : (p.get pc).op = 5
    · rw [if_pos c5]
      split
      · obtain ⟨a1, a3⟩ := ways_one h rfl (.inr c5)
        have i1 := ih (p.get pc).out pl fit ⟨s.steps + 1, s.best, s.next, s.nf, s.stop⟩ _ a1 hf hnf hb
        rw [a3]
        exact ⟨i1.next, i1.nf, i1.best⟩
      · exact ⟨.inl rfl, hnf, hb⟩
    rw [if_neg c5]; exact ⟨.inl rfl, hnf, hb⟩
end
end Go.Proofs.YthclpabmbhpohaaDoor
namespace Go.Proofs.YthclpabmbhpohaaDoor
open Go.RowKit
set_option linter.unusedVariables false
section
variable {p : Pg} {rn av : Int → Int} {lg : Bool}
/-- The same but for the best match and the steps. -/
structure Like (b : Option (List Int)) (s t : Rn) : Prop where
  next : s.next = t.next
  nf : s.nf = t.nf
  best : s.best = t.best.or b
theorem walkS_like (b : Option (List Int)) : ∀ (n : Nat) (pc pl : Int) (fit : List Int) (s t : Rn), Like b s t → s.stop = t.stop →
    Like b (walkS p rn av lg n pc pl fit s) (walkS p rn av lg n pc pl fit t) ∧ (walkS p rn av lg n pc pl fit s).stop = (walkS p rn av lg n pc pl fit t).stop
  | 0, _, _, _, s, t, h, hs => ⟨h, hs⟩
  | n + 1, pc, pl, fit, s, t, h, hs => by
    have ih := walkS_like b n
    have h1 : Like b ⟨s.steps + 1, s.best, s.next, s.nf, s.stop⟩ ⟨t.steps + 1, t.best, t.next, t.nf, t.stop⟩ := ⟨h.next, h.nf, h.best⟩
    by_cases c0 : s.stop = true
    · rw [walkS, walkS, if_pos c0, if_pos (hs ▸ c0)]; exact ⟨h1, hs⟩
    rw [walkS_new (by simpa using c0) rfl, walkS_new (by rw [← hs]; simpa using c0) rfl]
    by_cases c1 : (p.get pc).op = 1
    · rw [if_pos c1, if_pos c1]; exact ⟨⟨h.next, h.nf, by simp⟩, rfl⟩
    rw [if_neg c1, if_neg c1]
    by_cases c2 : (p.get pc).op = 2
    · rw [if_pos c2, if_pos c2]
      split
      · exact ⟨⟨rfl, rfl, h.best⟩, hs⟩
      · exact ⟨h1, hs⟩
    rw [if_neg c2, if_neg c2]
    by_cases c3 : (p.get pc).op = 3
    · rw [if_pos c3, if_pos c3]
      obtain ⟨a1, a2⟩ := ih (p.get pc).out pl fit _ _ h1 hs
      exact ih _ _ _ _ _ a1 a2
    rw [if_neg c3, if_neg c3]
    by_cases c4 : (p.get pc).op = 4
    · rw [if_pos c4, if_pos c4]; exact ih _ _ _ _ _ ⟨h.next, h.nf, h.best⟩ hs
    rw [if_neg c4, if_neg c4]
    by_cases c5 : (p.get pc).op = 5
    · rw [if_pos c5, if_pos c5]
      split
      · exact ih _ _ _ _ _ h1 hs
      · exact ⟨h1, hs⟩
    rw [if_neg c5, if_neg c5]; exact ⟨h1, hs⟩
theorem runL_like (b : Option (List Int)) (len : Int) : ∀ (n : Nat) (pl : Int) (s t : Rn), Like b s t → Like b (runL p rn av lg len n pl s) (runL p rn av lg len n pl t)
  | 0, _, _, _, h => h
  | n + 1, pl, s, t, h => by
    rw [runL, runL, ← h.next]
    split
    · exact h
    · refine runL_like b len n (pl + 1) _ _ ?_
      unfold placeS
      rw [← h.next, ← h.nf]
      exact (walkS_like b _ _ _ _ ⟨s.steps, s.best, -1, s.nf, false⟩ ⟨t.steps, t.best, -1, s.nf, false⟩ ⟨rfl, rfl, h.best⟩ rfl).1
/-- What is left behind a place. -/
def restB (p : Pg) (rn av : Int → Int) (lg : Bool) (len : Int) (k : Nat) (pl pc : Int) (fit : List Int) : Option (List Int) :=
  if pc < 0 then none else (runL p rn av lg len k pl ⟨0, none, pc, fit, false⟩).best
theorem runL_rest (len : Int) (k : Nat) (pl : Int) (s : Rn) : (runL p rn av lg len k pl s).best = (restB p rn av lg len k pl s.next s.nf).or s.best := by
  unfold restB
  by_cases h : s.next < 0
  · rw [if_pos h]
    cases k with
    | zero => simp [runL]
    | succ k => rw [runL, if_pos (.inl h)]; simp
  · rw [if_neg h]
    exact (runL_like s.best len k pl s ⟨0, none, s.next, s.nf, false⟩ ⟨rfl, rfl, by simp⟩).best
theorem set_getD {l : List Int} (h : 2 ≤ l.length) (x : Int) : (l.set 1 x).getD 1 0 = x := by
  match l, h with
  | a :: b :: l, _ => rfl
/-- A match lies not ahead of where it was looked for. -/
def Far (pl : Int) (s : Rn) : Prop := 2 ≤ s.nf.length ∧ ∀ b, s.best = some b → pl ≤ b.getD 1 0
theorem walkS_far : ∀ (n : Nat) (pc pl : Int) (fit : List Int) (s : Rn), 2 ≤ fit.length → Far pl s → Far pl (walkS p rn av lg n pc pl fit s)
  | 0, _, _, _, s, _, h => h
  | n + 1, pc, pl, fit, s, hf, h => by
    have ih := walkS_far n
    have h1 : Far pl ⟨s.steps + 1, s.best, s.next, s.nf, s.stop⟩ := ⟨h.1, h.2⟩
    by_cases c0 : s.stop = true
    · rw [walkS, if_pos c0]; exact h1
    rw [walkS_new (by simpa using c0) rfl]
    by_cases c1 : (p.get pc).op = 1
    · rw [if_pos c1]; exact ⟨h.1, fun b hb => by cases hb; rw [set_getD hf]; exact Int.le_refl _⟩
    rw [if_neg c1]
    by_cases c2 : (p.get pc).op = 2
    · rw [if_pos c2]
      split
      · exact ⟨hf, h.2⟩
      · exact h1
    rw [if_neg c2]
    by_cases c3 : (p.get pc).op = 3
    · rw [if_pos c3]; exact ih _ _ _ _ hf (ih _ _ _ _ hf h1)
    rw [if_neg c3]
    by_cases c4 : (p.get pc).op = 4
    · rw [if_pos c4]; exact ih _ _ _ _ (by rw [List.length_set]; exact hf) ⟨h.1, h.2⟩
    rw [if_neg c4]
    by_cases c5 : (p.get pc).op = 5
    · rw [if_pos c5]
      split
      · exact ih _ _ _ _ hf h1
      · exact h1
    rw [if_neg c5]; exact h1
theorem runL_far (len : Int) : ∀ (n : Nat) (pl : Int) (s : Rn), Far pl s → ∀ b, (runL p rn av lg len n pl s).best = some b → pl ≤ b.getD 1 0
  | 0, pl, s, h => h.2
  | n + 1, pl, s, h => by
    rw [runL]
    split
    · exact h.2
    · intro b hb
      have h2 : Far pl (placeS p rn av lg pl s) := walkS_far _ _ _ _ _ h.1 ⟨h.1, h.2⟩
      rw [runL_rest] at hb
      cases hr : restB p rn av lg len n (pl + 1) (placeS p rn av lg pl s).next (placeS p rn av lg pl s).nf with
      | none => rw [hr] at hb; simp at hb; exact h2.2 b hb
      | some r =>
        rw [hr] at hb
        simp at hb
        subst hb
        unfold restB at hr
        split at hr
        · cases hr
        · have := runL_far len n (pl + 1) _ (by exact ⟨h2.1, fun b hb => by cases hb⟩) r hr
          omega
theorem restB_far {len : Int} {k : Nat} {pl pc : Int} {fit : List Int} (hf : 2 ≤ fit.length) {r : List Int} (h : restB p rn av lg len k pl pc fit = some r) : pl ≤ r.getD 1 0 := by
  unfold restB at h
  split at h
  · cases h
  · exact runL_far len k pl _ (by exact ⟨hf, fun b hb => by cases hb⟩) r h
end
section
variable {me : List Rg → List Rg → Bool} {un : List Rg → List Rg → List Rg} {p : Pg} {rn av : Int → Int} {lg : Bool} {to : Int}
theorem onW_facts {pc : Int} {s : Ow} (h : (onW me un p pc s).1 = true) (hu : ∀ a b c, hasB (un a b) c = (hasB a c || hasB b c)) :
    pc ∉ s.seen ∧ (onW me un p pc s).2.seen = pc :: s.seen ∧ (∀ c, hasB s.all c = true → hasB (onW me un p pc s).2.all c = true) ∧
    ((p.get pc).op = 1 → s.mt + 1 < 2 ∧ (onW me un p pc s).2.mt = s.mt + 1) ∧ ((p.get pc).op ≠ 1 → (onW me un p pc s).2.mt = s.mt) ∧
    ((p.get pc).op = 2 → me s.all (p.get pc).set = false ∧ pc ∈ (onW me un p pc s).2.l ∧ ∀ c, hasB (p.get pc).set c = true → hasB (onW me un p pc s).2.all c = true) := by
  unfold onW at h ⊢
  by_cases c0 : s.seen.contains pc = true
  · rw [if_pos c0] at h; cases h
  rw [if_neg c0] at h ⊢
  have c0' : pc ∉ s.seen := by simpa using c0
  by_cases c1 : (p.get pc).op = 1
  · rw [if_pos c1] at h ⊢
    exact ⟨c0', rfl, fun c hc => hc, fun _ => ⟨by simpa using h, rfl⟩, fun hn => absurd c1 hn, fun h2 => by omega⟩
  rw [if_neg c1] at h ⊢
  by_cases c2 : (p.get pc).op = 2
  · rw [if_pos c2] at h ⊢
    by_cases c3 : me s.all (p.get pc).set = true
    · rw [if_pos c3] at h; cases h
    rw [if_neg c3] at h ⊢
    exact ⟨c0', rfl, fun c hc => by rw [hu, hc]; rfl, fun h1 => absurd h1 c1, fun _ => rfl, fun _ => ⟨by simpa using c3, by simp, fun c hc => by rw [hu, hc]; simp⟩⟩
  rw [if_neg c2] at h ⊢
  exact ⟨c0', rfl, fun c hc => hc, fun h1 => absurd h1 c1, fun _ => rfl, fun h2 => absurd h2 c2⟩
/-- What the ways' own telling only adds to. -/
structure More (a b : Ow) : Prop where
  seen : ∀ x ∈ a.seen, x ∈ b.seen
  all : ∀ c, hasB a.all c = true → hasB b.all c = true
  mt : a.mt ≤ b.mt
theorem More.refl (a : Ow) : More a a := ⟨fun _ h => h, fun _ h => h, Int.le_refl _⟩
theorem More.trans {a b c : Ow} (h : More a b) (k : More b c) : More a c := ⟨fun x hx => k.seen x (h.seen x hx), fun x hx => k.all x (h.all x hx), Int.le_trans h.mt k.mt⟩
theorem onW_more {pc : Int} {s : Ow} (h : (onW me un p pc s).1 = true) (hu : ∀ a b c, hasB (un a b) c = (hasB a c || hasB b c)) : More s (onW me un p pc s).2 := by
  obtain ⟨a1, a2, a3, a4, a5, a6⟩ := onW_facts h hu
  refine ⟨fun x hx => by rw [a2]; simp [hx], a3, ?_⟩
  by_cases c : (p.get pc).op = 1
  · have := (a4 c).2; omega
  · have := a5 c; omega
theorem waysW_more (hu : ∀ a b c, hasB (un a b) c = (hasB a c || hasB b c)) : ∀ (n : Nat) (pc : Int) (s : Ow), (waysW me un p n pc s).1 = true → More s (waysW me un p n pc s).2
  | 0, _, _, h => by simp [waysW] at h
  | n + 1, pc, s, h => by
    have h1 := onW_more (ways_on h) hu
    by_cases c3 : (p.get pc).op = 3
    · obtain ⟨a1, a2, a3⟩ := ways_alt h rfl c3
      rw [a3]
      exact h1.trans ((waysW_more hu n _ _ a1).trans (waysW_more hu n _ _ a2))
    by_cases c4 : (p.get pc).op = 4 ∨ (p.get pc).op = 5
    · obtain ⟨a1, a3⟩ := ways_one h rfl c4
      rw [a3]
      exact h1.trans (waysW_more hu n _ _ a1)
    · rw [ways_none h rfl ⟨c3, by omega, by omega⟩]; exact h1
/-- Where a rune led already, no other one leads. -/
theorem walkS_led (hm : ∀ a b, me a b = true ↔ ∃ c, hasB a c = true ∧ hasB b c = true) (hu : ∀ a b c, hasB (un a b) c = (hasB a c || hasB b c)) : ∀ (n : Nat) (pc pl : Int) (fit : List Int) (s : Rn) (s0 : Ow), (waysW me un p n pc s0).1 = true → hasB s0.all (rn pl) = true →
    (walkS p rn av lg n pc pl fit s).next = s.next ∧ (walkS p rn av lg n pc pl fit s).nf = s.nf
  | 0, _, _, _, _, _, h, _ => by simp [waysW] at h
  | n + 1, pc, pl, fit, s, s0, h, ha => by
    have ih := walkS_led hm hu n
    have hf := onW_facts (ways_on h) hu
    have ha2 := hf.2.2.1 _ ha
    by_cases c0 : s.stop = true
    · rw [walkS, if_pos c0]; exact ⟨rfl, rfl⟩
    rw [walkS_new (by simpa using c0) rfl]
    by_cases c1 : (p.get pc).op = 1
    · rw [if_pos c1]; exact ⟨rfl, rfl⟩
    rw [if_neg c1]
    by_cases c2 : (p.get pc).op = 2
    · rw [if_pos c2, if_neg (fun hh => by
        have h9 := (hf.2.2.2.2.2 c2).1
        rw [(hm _ _).2 ⟨_, ha, hh⟩] at h9; cases h9)]
      exact ⟨rfl, rfl⟩
    rw [if_neg c2]
    by_cases c3 : (p.get pc).op = 3
    · rw [if_pos c3]
      obtain ⟨a1, a2, a3⟩ := ways_alt h rfl c3
      obtain ⟨i1, i2⟩ := ih (p.get pc).out pl fit ⟨s.steps + 1, s.best, s.next, s.nf, s.stop⟩ _ a1 ha2
      obtain ⟨j1, j2⟩ := ih (p.get pc).arg pl fit (walkS p rn av lg n (p.get pc).out pl fit ⟨s.steps + 1, s.best, s.next, s.nf, s.stop⟩) _ a2 ((waysW_more hu n _ _ a1).all _ ha2)
      exact ⟨j1.trans i1, j2.trans i2⟩
    rw [if_neg c3]
    by_cases c4 : (p.get pc).op = 4
    · rw [if_pos c4]; exact ih _ _ _ ⟨s.steps + 1 + fit.length, s.best, s.next, s.nf, s.stop⟩ _ (ways_one h rfl (.inl c4)).1 ha2
    rw [if_neg c4]
    by_cases c5 : (p.get pc).op = 5
    · rw [if_pos c5]
      split
      · exact ih _ _ _ ⟨s.steps + 1, s.best, s.next, s.nf, s.stop⟩ _ (ways_one h rfl (.inr c5)).1 ha2
      · exact ⟨rfl, rfl⟩
    rw [if_neg c5]; exact ⟨rfl, rfl⟩
/-- A match within a place is the only one. -/
def One (lg : Bool) (pl : Int) (s0 : Ow) (s : Rn) : Prop := ∀ b, s.best = some b → 1 ≤ s0.mt ∧ b.getD 1 0 = pl ∧ (lg = false → s.stop = true)
theorem walkS_one (hu : ∀ a b c, hasB (un a b) c = (hasB a c || hasB b c)) : ∀ (n : Nat) (pc pl : Int) (fit : List Int) (s : Rn) (s0 : Ow), (waysW me un p n pc s0).1 = true → 2 ≤ fit.length → 0 ≤ s0.mt → One lg pl s0 s → One lg pl (waysW me un p n pc s0).2 (walkS p rn av lg n pc pl fit s)
  | 0, _, _, _, _, _, h, _, _, _ => by simp [waysW] at h
  | n + 1, pc, pl, fit, s, s0, h, hf, hm0, ho => by
    have ih := walkS_one hu n
    have hon := ways_on h
    have hmore := waysW_more hu _ _ _ h
    have hF := onW_facts hon hu
    have hM := onW_more hon hu
    have h1 : One lg pl (onW me un p pc s0).2 ⟨s.steps + 1, s.best, s.next, s.nf, s.stop⟩ := fun b hb => ⟨Int.le_trans (ho b hb).1 hM.mt, (ho b hb).2⟩
    have h2 : ∀ t : Rn, t.best = s.best → t.stop = s.stop → One lg pl (waysW me un p (n + 1) pc s0).2 t := fun t e1 e2 b hb => ⟨Int.le_trans (ho b (by rw [← e1]; exact hb)).1 hmore.mt, (ho b (by rw [← e1]; exact hb)).2.1, fun hl => by rw [e2]; exact (ho b (by rw [← e1]; exact hb)).2.2 hl⟩
    have hm1 : 0 ≤ (onW me un p pc s0).2.mt := Int.le_trans hm0 hM.mt
    by_cases c0 : s.stop = true
    · rw [walkS, if_pos c0]; exact h2 _ rfl rfl
    rw [walkS_new (by simpa using c0) rfl]
    by_cases c1 : (p.get pc).op = 1
    · rw [if_pos c1, ways_none h rfl ⟨by omega, by omega, by omega⟩]
      intro b hb
      cases hb
      exact ⟨by have := (hF.2.2.2.1 c1).2; omega, set_getD hf _, fun hl => by rw [hl]; rfl⟩
    rw [if_neg c1]
    by_cases c2 : (p.get pc).op = 2
    · rw [if_pos c2]
      split <;> exact h2 _ rfl rfl
    rw [if_neg c2]
    by_cases c3 : (p.get pc).op = 3
    · rw [if_pos c3]
      obtain ⟨a1, a2, a3⟩ := ways_alt h rfl c3
      rw [a3]
      exact ih _ _ _ _ _ a2 hf (Int.le_trans hm1 (waysW_more hu _ _ _ a1).mt) (ih _ _ _ _ _ a1 hf hm1 h1)
    rw [if_neg c3]
    by_cases c4 : (p.get pc).op = 4
    · rw [if_pos c4]
      obtain ⟨a1, a3⟩ := ways_one h rfl (.inl c4)
      rw [a3]
      exact ih _ _ _ _ _ a1 (by rw [List.length_set]; exact hf) hm1 (fun b hb => h1 b hb)
    rw [if_neg c4]
    by_cases c5 : (p.get pc).op = 5
    · rw [if_pos c5]
      split
      · obtain ⟨a1, a3⟩ := ways_one h rfl (.inr c5)
        rw [a3]
        exact ih _ _ _ _ _ a1 hf hm1 h1
      · exact h2 _ rfl rfl
    rw [if_neg c5]; exact h2 _ rfl rfl
/-- The walk with bits, and the walk of one pass, within a place; S1: where the place began. -/
structure Inn (p : Pg) (rn av : Int → Int) (lg : Bool) (to : Int) (k : Nat) (pl : Int) (b0 : Option (List Int)) (S1 : Wk (Int × Int)) (s0 : Ow) (S : Wk (Int × Int)) (s : Rn) : Prop where
  seen : ∀ x, S.seen (x, pl) = true → x ∈ s0.seen
  best : S.best = ((restB p rn av lg to k (pl + 1) s.next s.nf).or s.best).or b0
  new : s.next < 0 → ∀ q : Int × Int, pl < q.2 → S.seen q = false
  led : 0 ≤ s.next → hasB s0.all (rn pl) = true
  stop : s.stop = true → halts (grP p rn av to lg) S = true
  one : ∀ b, s.best = some b → 1 ≤ s0.mt ∧ b.getD 1 0 = pl ∧ (lg = false → s.stop = true)
  mt : 0 ≤ s0.mt
  low : ∀ q : Int × Int, q.2 < pl → S.seen q = S1.seen q
  nf : 2 ≤ s.nf.length
/-- From a place on: both find the same. -/
def RunOK (p : Pg) (rn av : Int → Int) (lg : Bool) (to : Int) (T : List Int) (M k : Nat) (pl : Int) : Prop :=
  ∀ (pc : Int) (fit : List Int) (S : Wk (Int × Int)) (m : Nat), pc ∈ T → left (allP p M) S < m → (∀ q : Int × Int, pl ≤ q.2 → S.seen q = false) → (∀ b, S.best = some b → lg = true ∧ b.getD 1 0 < pl) → 2 ≤ fit.length →
    (come (grP p rn av to lg) m (pc, pl) fit S).best = (restB p rn av lg to k pl pc fit).or S.best ∧ ∀ q : Int × Int, q.2 < pl → (come (grP p rn av to lg) m (pc, pl) fit S).seen q = S.seen q
theorem Inn.more {k : Nat} {pl : Int} {b0 : Option (List Int)} {S1 S : Wk (Int × Int)} {s0 t0 : Ow} {s t : Rn} (h : Inn p rn av lg to k pl b0 S1 s0 S s) (hm : More s0 t0) (h1 : t.best = s.best) (h2 : t.next = s.next) (h3 : t.nf = s.nf) (h4 : t.stop = s.stop) : Inn p rn av lg to k pl b0 S1 t0 S t :=
  ⟨fun x hx => hm.seen x (h.seen x hx), by rw [h1, h2, h3]; exact h.best, by rw [h2]; exact h.new, fun hn => hm.all _ (h.led (by rw [← h2]; exact hn)), fun hs => h.stop (by rw [← h4]; exact hs), fun b hb => by
    have h9 := h.one b (by rw [← h1]; exact hb)
    exact ⟨Int.le_trans h9.1 hm.mt, h9.2.1, fun hl => by rw [h4]; exact h9.2.2 hl⟩, Int.le_trans h.mt hm.mt, h.low, by rw [h3]; exact h.nf⟩
theorem Inn.mark {k : Nat} {pl pc : Int} {b0 : Option (List Int)} {S1 S : Wk (Int × Int)} {s0 : Ow} {s : Rn} (h : Inn p rn av lg to k pl b0 S1 s0 S s) (hu : ∀ a b c, hasB (un a b) c = (hasB a c || hasB b c)) (hon : (onW me un p pc s0).1 = true) : Inn p rn av lg to k pl b0 S1 (onW me un p pc s0).2 (markW (pc, pl) S) s := by
  obtain ⟨a1, a2, a3, a4, a5, a6⟩ := onW_facts hon hu
  have hm := onW_more hon hu
  refine ⟨fun x hx => ?_, h.best, fun hn q hq => ?_, fun hn => hm.all _ (h.led hn), h.stop, fun b hb => ?_, Int.le_trans h.mt hm.mt, fun q hq => ?_, h.nf⟩
  · rw [a2]
    rw [mark_seen] at hx
    by_cases e : (x, pl) = (pc, pl)
    · cases e; simp
    · rw [decide_eq_false e, Bool.false_or] at hx
      exact List.mem_cons_of_mem _ (h.seen x hx)
  · rw [mark_seen, h.new hn q hq, decide_eq_false (by rintro rfl; exact absurd hq (Int.lt_irrefl _))]; rfl
  · have h9 := h.one b hb
    exact ⟨Int.le_trans h9.1 hm.mt, h9.2⟩
  · rw [mark_seen, h.low q hq, decide_eq_false (by rintro rfl; exact absurd hq (Int.lt_irrefl _))]; rfl
theorem inn_step (hl : Leads p) (hm : ∀ a b, me a b = true ↔ ∃ c, hasB a c = true ∧ hasB b c = true) (hu : ∀ a b c, hasB (un a b) c = (hasB a c || hasB b c)) (T : List Int) (M k : Nat) (hM : to + 1 = M) (pl : Int) (hpl : 0 ≤ pl) (hpt : pl ≤ to) (hk : pl + k = to)
    (hT : ∀ x ∈ T, Pc p x) (b0 : Option (List Int)) (hb0 : ∀ b, b0 = some b → lg = true ∧ b.getD 1 0 < pl) (hR : pl + 1 ≤ to → RunOK p rn av lg to T M k (pl + 1)) (S1 : Wk (Int × Int)) (m : Nat) :
    ∀ (n : Nat) (pc : Int) (fit : List Int) (s : Rn) (s0 : Ow) (S : Wk (Int × Int)), (waysW me un p n pc s0).1 = true → Pc p pc → left (allP p M) S < m → 2 ≤ fit.length → (∀ y ∈ (waysW me un p n pc s0).2.l, (p.get y).out ∈ T) →
      Inn p rn av lg to k pl b0 S1 s0 S s → Inn p rn av lg to k pl b0 S1 (waysW me un p n pc s0).2 (come (grP p rn av to lg) m (pc, pl) fit S) (walkS p rn av lg n pc pl fit s) := by
  intro n
  induction n with
  | zero => intro pc fit s s0 S h; simp [waysW] at h
  | succ n ih =>
    intro pc fit s s0 S h hp hlt hf hy hI
    have hon := ways_on h
    have hmore := waysW_more hu _ _ _ h
    by_cases c0 : s.stop = true
    · rw [walkS, if_pos c0, come_halts (hI.stop c0)]
      exact hI.more hmore rfl rfl rfl rfl
    by_cases ch : halts (grP p rn av to lg) S = true
    · -- all is found: the walk of one pass changes nothing of what is told
      rw [come_halts ch]
      have hb := hI.best
      have hlg : lg = false := by
        unfold halts at ch
        simp only [Bool.and_eq_true, Bool.not_eq_true'] at ch
        exact ch.2
      have hsb : s.best = none := by
        cases hs : s.best with
        | none => rfl
        | some b => exact absurd ((hI.one b hs).2.2 hlg) c0
      have hb0n : b0 = none := by
        cases hs : b0 with
        | none => rfl
        | some b => have := (hb0 b hs).1; rw [hlg] at this; cases this
      have hss : S.best.isSome = true := by
        unfold halts at ch
        simp only [Bool.and_eq_true] at ch
        exact ch.1
      rw [hsb, hb0n] at hb
      simp only [Option.or_none] at hb
      have hn0 : 0 ≤ s.next := by
        by_cases e : s.next < 0
        · unfold restB at hb
          rw [if_pos e] at hb
          rw [hb] at hss; cases hss
        · omega
      obtain ⟨e1, e2⟩ := walkS_led (rn := rn) (av := av) (lg := lg) hm hu (n + 1) pc pl fit s s0 h (hI.led hn0)
      have hfar := walkS_far (p := p) (rn := rn) (av := av) (lg := lg) (n + 1) pc pl fit s hf ⟨hI.nf, fun b hb => by rw [hsb] at hb; cases hb⟩
      refine ⟨fun x hx => hmore.seen x (hI.seen x hx), ?_, fun hn => by rw [e1] at hn; omega, fun _ => hmore.all _ (hI.led hn0), fun _ => ch, fun b hb2 => ?_, Int.le_trans hI.mt hmore.mt, hI.low, hfar.1⟩
      · rw [e1, e2, hb, hb0n]
        cases hr : restB p rn av lg to k (pl + 1) s.next s.nf with
        | none => rw [hb, hr] at hss; cases hss
        | some r => simp
      · have key := walkS_one (p := p) (me := me) (un := un) (rn := rn) (av := av) (lg := lg) hu (n + 1) pc pl fit s s0 h hf hI.mt (fun b hb => by rw [hsb] at hb; cases hb) b hb2
        exact key
    have c0' : s.stop = false := by simpa using c0
    have ch' : halts (grP p rn av to lg) S = false := by simpa using ch
    obtain ⟨a1, a2, a3, a4, a5, a6⟩ := onW_facts hon hu
    have hns : S.seen (pc, pl) = false := by
      rw [Bool.eq_false_iff]; exact fun e => a1 (hI.seen pc e)
    have hU : (pc, pl) ∈ allP p M := allP_iff.2 ⟨hp, hpl, by show pl < (M : Int); omega⟩
    have hW := within_P hl rn av lg (p := p) (to := to) (M := M) (by omega)
    have hlm := left_mark hns (allP p M) hU
    have hx := hl pc hp
    rw [walkS_new c0' rfl]
    have h1 : Inn p rn av lg to k pl b0 S1 (onW me un p pc s0).2 (markW (pc, pl) S) ⟨s.steps + 1, s.best, s.next, s.nf, s.stop⟩ := (hI.mark hu hon).more (More.refl _) rfl rfl rfl rfl
    by_cases c1 : (p.get pc).op = 1
    · rw [if_pos c1, ways_none h rfl ⟨by omega, by omega, by omega⟩]
      have hmat : (grP p rn av to lg).mat (pc, pl) = true := by show ((p.get pc).op == 1) = true; simpa using c1
      obtain ⟨m, rfl⟩ : ∃ m', m = m' + 1 := ⟨m - 1, by omega⟩
      rw [come_succ, if_neg ch, if_neg (by rw [hns]; simp), if_pos hmat]
      have hsb : s.best = none := by
        cases hs : s.best with
        | none => rfl
        | some b => have := (hI.one b hs).1; have := (a4 c1).1; omega
      have hbest : bestOf (grP p rn av to lg) (pc, pl) fit S.best = ((restB p rn av lg to k (pl + 1) s.next s.nf).or (some (fit.set 1 pl))).or b0 := by
        have hb := hI.best
        rw [hsb] at hb
        rw [hb]
        cases hr : restB p rn av lg to k (pl + 1) s.next s.nf with
        | none =>
          cases hb0' : b0 with
          | none => rfl
          | some b =>
            have h9 := (hb0 b hb0').2
            show (if b.getD 1 0 < pl then some (fit.set 1 pl) else some b) = _
            rw [if_pos h9]; rfl
        | some r =>
          have h9 := restB_far (hI.nf) hr
          show (if r.getD 1 0 < pl then some (fit.set 1 pl) else some r) = _
          rw [if_neg (by omega)]; rfl
      refine ⟨h1.seen, hbest, h1.new, h1.led, fun hs => ?_, fun b hb => ?_, h1.mt, h1.low, hI.nf⟩
      · unfold halts
        obtain ⟨b', hb', _⟩ := bestOf_some (grP p rn av to lg) (pc, pl) fit S.best
        dsimp only at hs ⊢
        rw [hb']
        exact hs
      · cases hb
        refine ⟨by rw [(a4 c1).2]; have := hI.mt; omega, set_getD hf _, fun hlg => by rw [hlg]; rfl⟩
    have hmat : (grP p rn av to lg).mat (pc, pl) = false := by show ((p.get pc).op == 1) = false; simpa using c1
    have hon2 : ∀ c, come (grP p rn av to lg) m (pc, pl) c S = comes (grP p rn av to lg) m (updP p (pc, pl) c) (nextsP p rn av to (pc, pl)) (markW (pc, pl) S) := fun c => come_on hW hU hlt ch' hns hmat c
    rw [hon2]
    rw [if_neg c1]
    unfold updP nextsP
    by_cases c2 : (p.get pc).op = 2
    · rw [ways_none h rfl ⟨by omega, by omega, by omega⟩]
      dsimp only
      rw [if_pos c2, if_pos c2, if_neg (by omega)]
      by_cases ch2 : hasB (p.get pc).set (rn pl) = true
      · rw [if_pos ch2]
        have hn0 : s.next < 0 := by
          by_cases e : s.next < 0
          · exact e
          · have h9 := (a6 c2).1
            rw [(hm _ _).2 ⟨_, hI.led (by omega), ch2⟩] at h9; cases h9
        have hout : (p.get pc).out ∈ T := hy pc (by rw [ways_none h rfl ⟨by omega, by omega, by omega⟩]; exact (a6 c2).2.1)
        have ho0 : 0 ≤ (p.get pc).out := (hT _ hout).1
        have hb := hI.best
        rw [show restB p rn av lg to k (pl + 1) s.next s.nf = none by unfold restB; rw [if_pos hn0]] at hb
        simp only [Option.none_or] at hb
        by_cases ct : pl + 1 ≤ to
        · rw [if_pos ⟨ch2, ct⟩, comes_cons, comes_nil]
          obtain ⟨r1, r2⟩ := hR ct (p.get pc).out fit (markW (pc, pl) S) m hout (by omega) (fun q hq => h1.new hn0 q (by omega)) (fun b hb2 => by
            have hb3 : S.best = some b := hb2
            have hlg : lg = true := by
              cases hlg : lg with
              | true => rfl
              | false => unfold halts at ch'; rw [hb3, show (grP p rn av to lg).longest = lg from rfl, hlg] at ch'; cases ch'
            refine ⟨hlg, ?_⟩
            rw [hb] at hb3
            cases hs : s.best with
            | none => rw [hs] at hb3; simp at hb3; have := (hb0 b hb3).2; omega
            | some b' => rw [hs] at hb3; simp at hb3; subst hb3; have := (hI.one b' hs).2.1; omega) hf
          refine ⟨fun x hx => ?_, ?_, fun hn => (by dsimp only at hn; omega), fun _ => (a6 c2).2.2 _ ch2, fun hs => (by dsimp only at hs; rw [c0'] at hs; cases hs), fun b hb2 => h1.one b hb2, h1.mt, fun q hq => ?_, hf⟩
          · rw [r2 (x, pl) (by show pl < pl + 1; omega)] at hx
            exact h1.seen x hx
          · dsimp only
            rw [r1, show (markW (pc, pl) S).best = S.best from rfl, hb, Option.or_assoc]
          · rw [r2 q (by omega)]; exact h1.low q hq
        · rw [if_neg (fun hh => ct hh.2), comes_nil]
          obtain rfl : k = 0 := by omega
          refine ⟨h1.seen, ?_, fun hn => (by dsimp only at hn; omega), fun _ => (a6 c2).2.2 _ ch2, fun hs => (by dsimp only at hs; rw [c0'] at hs; cases hs), h1.one, h1.mt, h1.low, hf⟩
          dsimp only
          rw [show (markW (pc, pl) S).best = S.best from rfl, hb]
          unfold restB
          rw [if_neg (by omega)]
          simp [runL]
      · rw [if_neg ch2, if_neg (fun hh => ch2 hh.1), comes_nil]
        exact h1
    rw [if_neg c2]
    dsimp only
    rw [if_neg c2]
    by_cases c3 : (p.get pc).op = 3
    · rw [if_pos c3, if_pos c3, if_neg (by omega), comes_cons, comes_cons, comes_nil]
      obtain ⟨b1, b2, b3⟩ := ways_alt h rfl c3
      rw [b3] at hy ⊢
      have i1 := ih (p.get pc).out fit ⟨s.steps + 1, s.best, s.next, s.nf, s.stop⟩ _ (markW (pc, pl) S) b1 (hx.1 (by omega)) (by omega) hf (fun y hyl => hy y (waysW_l me un p _ _ _ y hyl)) h1
      exact ih (p.get pc).arg fit _ _ _ b2 (hx.2 c3) (by have := left_sub (come_sub (grP p rn av to lg) m ((p.get pc).out, pl) fit (markW (pc, pl) S)) (allP p M); omega) hf hy i1
    rw [if_neg c3, if_neg c3]
    by_cases c4 : (p.get pc).op = 4
    · rw [if_pos c4, if_pos c4, if_pos c4, comes_cons, comes_nil]
      obtain ⟨b1, b3⟩ := ways_one h rfl (.inl c4)
      rw [b3] at hy ⊢
      exact ih (p.get pc).out _ ⟨s.steps + 1 + fit.length, s.best, s.next, s.nf, s.stop⟩ _ _ b1 (hx.1 (by omega)) (by omega) (by rw [List.length_set]; exact hf) hy (h1.more (More.refl _) rfl rfl rfl rfl)
    rw [if_neg c4, if_neg c4, if_neg c4]
    by_cases c5 : (p.get pc).op = 5
    · rw [if_pos c5, if_pos c5]
      obtain ⟨b1, b3⟩ := ways_one h rfl (.inr c5)
      rw [b3] at hy ⊢
      by_cases ch5 : hitB (av pl) (p.get pc).at_ = true
      · rw [if_pos ch5, if_pos ch5, comes_cons, comes_nil]
        exact ih (p.get pc).out fit ⟨s.steps + 1, s.best, s.next, s.nf, s.stop⟩ _ _ b1 (hx.1 (by omega)) (by omega) hf hy h1
      · rw [if_neg ch5, if_neg ch5, comes_nil]
        exact h1.more (waysW_more hu n _ _ b1) rfl rfl rfl rfl
    · rw [if_neg c5, if_neg c5, comes_nil, ways_none h rfl ⟨c3, c4, c5⟩]
      exact h1
theorem run_ok (hl : Leads p) (hm : ∀ a b, me a b = true ↔ ∃ c, hasB a c = true ∧ hasB b c = true) (hu : ∀ a b c, hasB (un a b) c = (hasB a c || hasB b c)) (T : List Int) (M : Nat) (hM : to + 1 = M)
    (hT : ∀ x ∈ T, Pc p x ∧ (simpleW me un p x).2 = true ∧ ∀ y ∈ (simpleW me un p x).1, (p.get y).out ∈ T) : ∀ (k : Nat) (pl : Int), pl + k = to + 1 → 0 ≤ pl → pl ≤ to → RunOK p rn av lg to T M k pl
  | 0, pl, hk, _, h => by omega
  | k + 1, pl, hk, h0, hpt => by
    intro pc fit S m hpc hlt hnew hb hf
    have hpp := hT pc hpc
    have hres := inn_step (me := me) (un := un) (rn := rn) (av := av) (lg := lg) (to := to) hl hm hu T M k hM pl h0 hpt (by omega) (fun x hx => (hT x hx).1) S.best hb (fun h => run_ok hl hm hu T M hM hT k (pl + 1) (by omega) (by omega) h) S m
      (p.ins.length + 1) pc fit ⟨0, none, -1, fit, false⟩ ⟨[], [], [], 0⟩ S hpp.2.1 hpp.1 hlt hf hpp.2.2
      ⟨fun x hx => (by rw [hnew (x, pl) (Int.le_refl _)] at hx; cases hx), (by
        rw [show restB p rn av lg to k (pl + 1) (-1) fit = none by unfold restB; rw [if_pos (by omega)]]; simp), fun _ q hq => hnew q (by omega), fun hn => (by dsimp only at hn; omega), fun hs => (by cases hs), fun b hb => (by cases hb), Int.le_refl _, fun q _ => rfl, hf⟩
    refine ⟨?_, hres.low⟩
    rw [hres.best]
    have hpc0 := hpp.1.1
    have e : restB p rn av lg to (k + 1) pl pc fit = (runL p rn av lg to (k + 1) pl ⟨0, none, pc, fit, false⟩).best := by unfold restB; rw [if_neg (by omega)]
    rw [e, runL, if_neg (show ¬ (pc < 0 ∨ to < pl) by omega), runL_rest]
    rfl
end
/-- The match of an admitted program is the walk's. -/
theorem match_run {me : List Rg → List Rg → Bool} {un : List Rg → List Rg → List Rg} {p : Pg} (hl : Leads p) (hm : ∀ a b, me a b = true ↔ ∃ c, hasB a c = true ∧ hasB b c = true) (hu : ∀ a b c, hasB (un a b) c = (hasB a c || hasB b c))
    (hs : Pc p p.start) (hcp : 2 ≤ p.caps) (h : admG p (simpleW me un p) (p.ins.length + 1) 0 [p.start] = true) (rn av : Int → Int) (lg : Bool) (len : Nat) :
    (runL p rn av lg len (len + 1) 0 ⟨0, none, p.start, fit0 p, false⟩).best = runW p rn av len lg (len + 1) 0 := by
  obtain ⟨T, h1, h2⟩ := adm_leads hl hs h
  have h3 := run_ok (rn := rn) (av := av) (lg := lg) (to := (len : Int)) hl hm hu T (len + 1) (by omega) h2 (len + 1) 0 (by omega) (by omega) (by omega) p.start (fit0 p) emptyW ((len + 1) * p.ins.length + 1) h1 (by have := left_len (allP p (len + 1)) emptyW; rw [allP_len] at this; omega)
    (fun q _ => rfl) (fun b hb => by cases hb) (by unfold fit0; rw [List.length_set, List.length_replicate]; omega)
  have h0 := hs.1
  unfold runW
  rw [if_neg (by omega), show fitP p 0 = fit0 p from rfl, h3.1]
  unfold restB
  rw [if_neg (by omega)]
  simp [emptyW]
/-- All steps. -/
theorem runL_steps {me : List Rg → List Rg → Bool} {un : List Rg → List Rg → List Rg} {p : Pg} (hl : Leads p) (T : List Int) (hT : ∀ x ∈ T, Pc p x ∧ (simpleW me un p x).2 = true ∧ ∀ y ∈ (simpleW me un p x).1, (p.get y).out ∈ T) (rn av : Int → Int) (lg : Bool) (len : Int) (hcp : 0 ≤ p.caps) :
    ∀ (n : Nat) (pl : Int) (s : Rn), (s.next < 0 ∨ s.next ∈ T) → (s.nf.length : Int) = p.caps → (∀ b, s.best = some b → (b.length : Int) = p.caps) →
      s.steps ≤ (runL p rn av lg len n pl s).steps ∧ (runL p rn av lg len n pl s).steps ≤ s.steps + n * (p.ins.length * (p.caps + 1)) ∧ ∀ b, (runL p rn av lg len n pl s).best = some b → (b.length : Int) = p.caps
  | 0, pl, s, _, _, hb => ⟨Int.le_refl _, by simp [runL], hb⟩
  | n + 1, pl, s, hn, hf, hb => by
    rw [runL]
    have hpos : 0 ≤ ((n + 1 : Nat) : Int) * (p.ins.length * (p.caps + 1)) := Int.mul_nonneg (by omega) (Int.mul_nonneg (by omega) (by omega))
    split
    · exact ⟨Int.le_refl _, by omega, hb⟩
    · rename_i hh
      have hn' : s.next ∈ T := hn.resolve_left (fun e => hh (.inl e))
      have hpp := hT _ hn'
      have hsimp : (waysW me un p (p.ins.length + 1) s.next ⟨[], [], [], 0⟩).1 = true := hpp.2.1
      have hgood := walkS_good (me := me) (un := un) (p := p) (rn := rn) (av := av) (lg := lg) (p.ins.length + 1) s.next pl s.nf ⟨s.steps, s.best, -1, s.nf, false⟩ ⟨[], [], [], 0⟩ hsimp hf hf hb
      have hpot := walkS_pot (me := me) (un := un) rn av lg hl (1 + s.nf.length) (p.ins.length + 1) s.next pl s.nf ⟨s.steps, s.best, -1, s.nf, false⟩ ⟨[], [], [], 0⟩ hpp.1 hsimp (Nat.le_refl _)
      have ih := runL_steps hl T hT rn av lg len hcp n (pl + 1) (placeS p rn av lg pl s) (by
        rcases hgood.next with e | ⟨x, hx, e⟩
        · exact .inl (by show (walkS _ _ _ _ _ _ _ _ _).next < 0; rw [e]; show (-1 : Int) < 0; omega)
        · exact .inr (by show (walkS _ _ _ _ _ _ _ _ _).next ∈ T; rw [e]; exact hpp.2.2 x hx)) hgood.nf hgood.best
      have hst : (placeS p rn av lg pl s).steps ≤ s.steps + p.ins.length * (p.caps + 1) := by
        have h9 := hpot.2
        unfold potR at h9
        rw [leftN_nil] at h9
        have h8 : ((p.ins.length * (1 + s.nf.length) : Nat) : Int) = p.ins.length * (p.caps + 1) := by
          rw [Int.natCast_mul, Int.natCast_add, hf]; congr 1; omega
        have h7 : (0 : Int) ≤ ((leftN p.ins.length (waysW me un p (p.ins.length + 1) s.next ⟨[], [], [], 0⟩).2.seen * (1 + s.nf.length) : Nat) : Int) := Int.natCast_nonneg _
        show (walkS _ _ _ _ _ _ _ _ _).steps ≤ _
        dsimp only at h9
        omega
      have hst0 : s.steps ≤ (placeS p rn av lg pl s).steps := hpot.1
      have e : ((n + 1 : Nat) : Int) * (p.ins.length * (p.caps + 1)) = n * (p.ins.length * (p.caps + 1)) + p.ins.length * (p.caps + 1) := by
        rw [Int.natCast_add, Int.add_mul]; simp
      exact ⟨by omega, by omega, ih.2.2⟩
end Go.Proofs.YthclpabmbhpohaaDoor
namespace Go.Proofs.YthclpabmbhpohaaDoor
open Go.RowKit
set_option linter.unusedVariables false
theorem symsFrom_pos (s : ByteArray) : ∀ fuel pos, ∀ x ∈ symsFrom s fuel pos, 0 ≤ x.1
  | 0, _, x, h => by cases h
  | f + 1, pos, x, h => by
    rw [symsFrom] at h
    split at h
    · rcases List.mem_cons.1 h with rfl | h
      · exact Int.natCast_nonneg _
      · exact symsFrom_pos s f _ x h
    · cases h
theorem codes_pos (s : ByteArray) : ∀ x ∈ codesOf s, 0 ≤ x := by
  intro x hx
  obtain ⟨y, hy, rfl⟩ := List.mem_map.1 hx
  exact symsFrom_pos s _ _ y hy
theorem syms_len (s : ByteArray) : (symsOf s).length = (codesOf s).length + 1 := (same_runes s).1
theorem codes_len (s : ByteArray) : (codesOf s).length ≤ s.size := by
  unfold codesOf; rw [List.length_map]; exact symsFrom_len s _ _
theorem same_code (s : ByteArray) : runeAt (symsOf s) = codeAt (codesOf s) := by
  funext i
  by_cases h0 : 0 ≤ i
  · obtain ⟨k, rfl⟩ := Int.eq_ofNat_of_zero_le h0
    by_cases hk : k < (codesOf s).length
    · rw [(same_runes s).2 k hk]
      unfold codeAt; rw [if_pos h0]; simp [hk]
    · have e1 : codeAt (codesOf s) (k : Int) = -1 := by unfold codeAt; rw [if_pos h0]; simp [List.getElem?_eq_none (show (codesOf s).length ≤ k by omega)]
      rw [e1]
      unfold runeAt
      rw [if_pos h0, Int.toNat_natCast]
      have hl : (symsFrom s s.size 0).length = (codesOf s).length := by simp [codesOf]
      rcases Nat.eq_or_lt_of_le (Nat.le_of_not_lt hk) with e | e
      · subst e
        unfold symsOf
        rw [← hl, List.getElem?_append_right (Nat.le_refl _)]
        simp
      · rw [List.getElem?_eq_none (by rw [syms_len]; omega)]; rfl
  · unfold runeAt codeAt
    rw [if_neg h0, if_neg h0]
theorem code_in {cs : List Int} (hp : ∀ x ∈ cs, 0 ≤ x) {i : Int} (h0 : 0 ≤ i) (h1 : i < cs.length) : 0 ≤ codeAt cs i := by
  obtain ⟨k, rfl⟩ := Int.eq_ofNat_of_zero_le h0
  unfold codeAt
  rw [if_pos h0, Int.toNat_natCast, List.getElem?_eq_getElem (by omega)]
  exact hp _ (List.getElem_mem _)
theorem same_at (s : ByteArray) : atOf (symsOf s) = docAt (codesOf s) := by
  funext i
  unfold atOf docAt
  rw [syms_len, same_code]
  by_cases h : i < 0 ∨ ((codesOf s).length : Int) < i
  · rw [if_pos (by omega), if_pos h]
  · rw [if_neg (by omega), if_neg h]
    have hp := codes_pos s
    have e1 : (codeAt (codesOf s) (i - 1) == -1) = (i == 0) := by
      by_cases h0 : i = 0
      · subst h0; rfl
      · have := code_in hp (i := i - 1) (by omega) (by omega)
        rw [beq_eq_false_iff_ne.2 (by omega), beq_eq_false_iff_ne.2 h0]
    have e2 : (codeAt (codesOf s) i == -1) = (i == ((codesOf s).length : Int)) := by
      by_cases h0 : i = ((codesOf s).length : Int)
      · rw [h0]
        unfold codeAt
        simp
      · have := code_in hp (i := i) (by omega) (by omega)
        rw [beq_eq_false_iff_ne.2 (by omega), beq_eq_false_iff_ne.2 h0]
    unfold atW atB atD
    rw [e1, e2]
    generalize (wordB (codeAt (codesOf s) (i - 1)) == wordB (codeAt (codesOf s) i)) = z
    generalize (i == 0) = z0
    generalize (i == ((codesOf s).length : Int)) = zn
    generalize (codeAt (codesOf s) (i - 1) == 10) = a1
    generalize (codeAt (codesOf s) i == 10) = n1
    cases z <;> cases z0 <;> cases zn <;> cases a1 <;> cases n1 <;> rfl
/-- What the machine of one pass tells is what the document's walk tells; its steps. -/
theorem match_doc {p : Pg} (h : admitsB p = true) (s : ByteArray) (lg : Bool) :
    (matchS p (symsOf s) lg).best = runW p (codeAt (codesOf s)) (docAt (codesOf s)) (codesOf s).length lg ((codesOf s).length + 1) 0 ∧
      0 ≤ (matchS p (symsOf s) lg).steps ∧ (matchS p (symsOf s) lg).steps ≤ (((codesOf s).length : Int) + 1) * (p.ins.length * (p.caps + 1)) ∧ checkS rightR p = 0 ∧ ∀ b, (matchS p (symsOf s) lg).best = some b → (b.length : Int) = p.caps := by
  unfold admitsB admW at h
  simp only [Bool.and_eq_true, beq_iff_eq] at h
  obtain ⟨h0, _, h2⟩ := h
  have hk := check_ok h0
  have hl := check_leads h0
  refine ⟨?_, ?_, ?_, h0, ?_⟩
  · unfold matchS
    rw [same_code, same_at, syms_len]
    have e : (((codesOf s).length + 1 : Nat) : Int) - 1 = ((codesOf s).length : Int) := by omega
    rw [e]
    exact match_run (me := meetB) (un := un2) hl meetB_iff (fun a b c => has_union a b c) hk.2.2.1 hk.2.2.2.1 h2 _ _ lg _
  all_goals
    obtain ⟨T, t1, t2⟩ := adm_leads hl hk.2.2.1 h2
    have hst := runL_steps (me := meetB) (un := un2) hl T t2 (runeAt (symsOf s)) (atOf (symsOf s)) lg (((symsOf s).length : Int) - 1) (by have := hk.2.2.2.1; omega) (symsOf s).length 0 ⟨0, none, p.start, fit0 p, false⟩ (.inr t1) (by unfold fit0; rw [List.length_set, List.length_replicate]; have := hk.2.2.2.1; omega) (fun b hb => by cases hb)
    unfold matchS
  · exact hst.1
  · have h9 := hst.2.1
    rw [syms_len] at h9 ⊢
    have e : (((codesOf s).length + 1 : Nat) : Int) = ((codesOf s).length : Int) + 1 := by omega
    rw [e] at h9
    refine Int.le_trans h9 ?_
    show (0 : Int) + _ ≤ _
    rw [Int.zero_add]
    exact Int.le_refl _
  · exact hst.2.2
end Go.Proofs.YthclpabmbhpohaaDoor
namespace Go.Proofs.YthclpabmbhpohaaDoor
open Go.RowKit
set_option linter.unusedVariables false
structure FineA (p : Pg) (x : Int) (t : List Int) : Prop where
  o1 : (p.get x).op ≠ 1
  o2 : (p.get x).op ≠ 2
  out : (p.get x).op = 3 ∨ (p.get x).op = 4 ∨ ((p.get x).op = 5 ∧ (p.get x).at_ ≠ 1) → (p.get x).out ∈ t
  arg : (p.get x).op = 3 → (p.get x).arg ∈ t
theorem FineA.mono {p : Pg} {x : Int} {t t' : List Int} (h : FineA p x t) (hs : ∀ y ∈ t, y ∈ t') : FineA p x t' := ⟨h.o1, h.o2, fun e => hs _ (h.out e), fun e => hs _ (h.arg e)⟩
theorem comeR_mt_le (p : Pg) (bg : Bool) (hl : Leads p) (n : Nat) (pc : Int) (s : Rw) (hp : Pc p pc) : s.mt ≤ (comeR p bg n pc s).mt :=
  comeR_keep p bg hl (fun t => s.mt ≤ t.mt) (fun t h => h) (fun t q h _ => by show s.mt ≤ t.mt + 1; omega) (fun t q h _ _ => h) (fun t q h _ => h) n pc s hp (Int.le_refl _)
theorem comeR_l_le (p : Pg) (bg : Bool) (hl : Leads p) (n : Nat) (pc : Int) (s : Rw) (hp : Pc p pc) : s.l.length ≤ (comeR p bg n pc s).l.length :=
  comeR_keep p bg hl (fun t => s.l.length ≤ t.l.length) (fun t h => h) (fun t q h _ => h) (fun t q h _ _ => by show s.l.length ≤ (t.l ++ [q]).length; rw [List.length_append]; omega) (fun t q h _ => h) n pc s hp (Nat.le_refl _)
theorem comeR_closed (p : Pg) (hl : Leads p) : ∀ (n : Nat) (pc : Int) (s : Rw), Pc p pc → leftN p.ins.length s.seen < n → 0 ≤ s.mt → (comeR p false n pc s).mt ≤ 0 → (comeR p false n pc s).l.length ≤ 0 →
    pc ∈ (comeR p false n pc s).seen ∧ ∀ x ∈ (comeR p false n pc s).seen, x ∉ s.seen → FineA p x (comeR p false n pc s).seen
  | 0, pc, s, _, h, _, _, _ => by omega
  | n + 1, pc, s, hp, hn, h0, h1, h2 => by
    have hx := hl pc hp
    by_cases c0 : s.seen.contains pc = true
    · rw [comeR, if_pos c0]
      exact ⟨by simpa using c0, fun x hx hn => absurd hx hn⟩
    have c0' : s.seen.contains pc = false := by simpa using c0
    have hlt : leftN p.ins.length (pc :: s.seen) < n := by have := leftN_cons hp c0'; omega
    rw [comeR_new c0' rfl] at h1 h2 ⊢
    by_cases c1 : (p.get pc).op = 1
    · rw [if_pos c1] at h1; dsimp only at h1; omega
    rw [if_neg c1] at h1 h2 ⊢
    by_cases c2 : (p.get pc).op = 2
    · rw [if_pos c2] at h2; simp at h2
    rw [if_neg c2] at h1 h2 ⊢
    by_cases c3 : (p.get pc).op = 3
    · rw [if_pos c3] at h1 h2 ⊢
      obtain ⟨s1, hs1⟩ : ∃ s1 : Rw, (⟨pc :: s.seen, s.l, s.mt, s.tw⟩ : Rw) = s1 := ⟨_, rfl⟩
      rw [hs1] at h1 h2 ⊢
      have m1 := comeR_mt_le p false hl n (p.get pc).arg (comeR p false n (p.get pc).out s1) (hx.2 c3)
      have l1 := comeR_l_le p false hl n (p.get pc).arg (comeR p false n (p.get pc).out s1) (hx.2 c3)
      have m0 := comeR_mt_le p false hl n (p.get pc).out s1 (hx.1 (by omega))
      have sub1 := comeR_seen p false hl n (p.get pc).out s1 (hx.1 (by omega))
      have sub2 := comeR_seen p false hl n (p.get pc).arg (comeR p false n (p.get pc).out s1) (hx.2 c3)
      have e0 : s1.mt = s.mt := by rw [← hs1]
      have e1 : s1.seen = pc :: s.seen := by rw [← hs1]
      obtain ⟨a1, a2⟩ := comeR_closed p hl n (p.get pc).out s1 (hx.1 (by omega)) (by rw [e1]; exact hlt) (by omega) (by omega) (by omega)
      obtain ⟨b1, b2⟩ := comeR_closed p hl n (p.get pc).arg (comeR p false n (p.get pc).out s1) (hx.2 c3) (by have := leftN_sub (N := p.ins.length) sub1; rw [e1] at this; omega) (by omega) h1 h2
      refine ⟨sub2 _ (sub1 _ (by rw [e1]; simp)), fun x hxx hxs => ?_⟩
      by_cases hxp : x = pc
      · subst hxp
        exact ⟨c1, c2, fun _ => sub2 _ a1, fun _ => b1⟩
      by_cases hx1 : x ∈ (comeR p false n (p.get pc).out s1).seen
      · exact (a2 x hx1 (by rw [e1]; simp [hxp, hxs])).mono sub2
      · exact b2 x hxx hx1
    rw [if_neg c3] at h1 h2 ⊢
    by_cases c4 : (p.get pc).op = 4 ∨ ((p.get pc).op = 5 ∧ (false = true ∨ (p.get pc).at_ ≠ 1))
    · rw [if_pos c4] at h1 h2 ⊢
      obtain ⟨s1, hs1⟩ : ∃ s1 : Rw, (⟨pc :: s.seen, s.l, s.mt, s.tw⟩ : Rw) = s1 := ⟨_, rfl⟩
      rw [hs1] at h1 h2 ⊢
      have sub1 := comeR_seen p false hl n (p.get pc).out s1 (hx.1 (by omega))
      have e0 : s1.mt = s.mt := by rw [← hs1]
      have e1 : s1.seen = pc :: s.seen := by rw [← hs1]
      obtain ⟨a1, a2⟩ := comeR_closed p hl n (p.get pc).out s1 (hx.1 (by omega)) (by rw [e1]; exact hlt) (by omega) h1 h2
      refine ⟨sub1 _ (by rw [e1]; simp), fun x hxx hxs => ?_⟩
      by_cases hxp : x = pc
      · subst hxp
        exact ⟨c1, c2, fun _ => a1, fun e => absurd e c3⟩
      · exact a2 x hxx (by rw [e1]; simp [hxp, hxs])
    rw [if_neg c4]
    refine ⟨by simp, fun x hxx hxs => ?_⟩
    have hxp : x = pc := by
      rcases List.mem_cons.1 hxx with e | e
      · exact e
      · exact absurd e hxs
    subst hxp
    exact ⟨c1, c2, fun e => by
      exfalso
      rcases e with e | e | e
      · exact c3 e
      · exact c4 (.inl e)
      · exact c4 (.inr ⟨e.1, .inr e.2⟩), fun e => absurd e c3⟩
/-- P15.3. -/
theorem anch_none {p : Pg} {rn av : Int → Int} {lg : Bool} {M : Nat} (hck : checkS rightR p = 0) (hA : anchR p = true) {a : Int} (h0 : 0 ≤ a) (h1 : a < M) (hv : hitB (av a) 1 = false) : runB p rn av lg M a = none := by
  have hk := check_ok hck
  have hl := check_leads hck
  unfold anchR at hA
  simp only [Bool.and_eq_true, decide_eq_true_eq] at hA
  obtain ⟨c1, c2⟩ := comeR_closed p hl (p.ins.length + 1) p.start ⟨[], [], 0, false⟩ hk.2.2.1 (by rw [leftN_nil]; omega) (Int.le_refl _) hA.1 (by have := hA.2; unfold fromR at this; rw [this]; exact Nat.le_refl _)
  have key : ∀ q r, Reach (gB p rn av lg M) q r → (q.2 = a ∧ q.1 ∈ (fromR p false p.start).seen) → (r.2 = a ∧ r.1 ∈ (fromR p false p.start).seen) := by
    intro q r h
    induction h with
    | here q => exact fun h => h
    | @step q r t hm hr _ ih =>
      rintro ⟨e1, e2⟩
      refine ih ?_
      have f := c2 q.1 e2 (by simp)
      have hr' : r ∈ nextsP p rn av ((M : Int) - 1) q := hr
      unfold nextsP at hr'
      rw [if_neg f.o2] at hr'
      by_cases c3 : (p.get q.1).op = 3
      · rw [if_pos c3] at hr'
        rcases List.mem_cons.1 hr' with rfl | hr'
        · exact ⟨e1, f.out (.inl c3)⟩
        · rw [List.mem_singleton.1 hr']; exact ⟨e1, f.arg c3⟩
      rw [if_neg c3] at hr'
      by_cases c4 : (p.get q.1).op = 4
      · rw [if_pos c4] at hr'
        rw [List.mem_singleton.1 hr']; exact ⟨e1, f.out (.inr (.inl c4))⟩
      rw [if_neg c4] at hr'
      by_cases c5 : (p.get q.1).op = 5
      · rw [if_pos c5] at hr'
        split at hr'
        · rename_i hh
          rw [List.mem_singleton.1 hr']
          refine ⟨e1, f.out (.inr (.inr ⟨c5, fun e9 => ?_⟩))⟩
          rw [e1, e9, hv] at hh; cases hh
        · cases hr'
      rw [if_neg c5] at hr'; cases hr'
  cases hb : runB p rn av lg M a with
  | none => rfl
  | some b =>
    obtain ⟨_, r, k1, k2, _⟩ := run_fit hck h0 h1 hb
    have h9 := key _ _ k1 ⟨rfl, c1⟩
    have h8 := (c2 r.1 h9.2 (by simp)).o1
    have k2' : ((p.get r.1).op == 1) = true := k2
    exact absurd (by simpa using k2') h8
theorem hit_begin (s : ByteArray) {a : Int} (h0 : 0 < a) (h1 : a < (symsOf s).length) : hitB (atOf (symsOf s) a) 1 = false := by
  have hc : 0 ≤ runeAt (symsOf s) (a - 1) := by
    rw [same_code]
    rw [syms_len] at h1
    exact code_in (codes_pos s) (by omega) (by omega)
  unfold atOf atW
  rw [if_neg (by omega), show (runeAt (symsOf s) (a - 1) == -1) = false by simp; omega]
  generalize (wordB _ == wordB _) = z
  generalize (runeAt (symsOf s) (a - 1) == 10) = b2
  generalize (runeAt (symsOf s) a == -1) = n1
  generalize (runeAt (symsOf s) a == 10) = n2
  cases z <;> cases b2 <;> cases n1 <;> cases n2 <;> rfl
/-- What the machine with bits finds from the beginning, of a program of one pass. -/
theorem find_floor {p : Pg} (h : admitsB p = true) (s : ByteArray) (lg : Bool) : findB p (runeAt (symsOf s)) (atOf (symsOf s)) lg (symsOf s).length 0 false = (matchS p (symsOf s) lg).best := by
  have hd := (match_doc h s lg).1
  unfold admitsB admW at h
  simp only [Bool.and_eq_true, beq_iff_eq] at h
  obtain ⟨hck, hA, _⟩ := h
  rw [hd, ← same_code, ← same_at]
  obtain ⟨m, hm⟩ : ∃ m, (symsOf s).length = m + 1 := ⟨(codesOf s).length, syms_len s⟩
  have hm2 : (codesOf s).length = m := by have := syms_len s; omega
  unfold findB
  rw [if_neg (by simp), hm, hm2, show max (0 : Int) 0 = 0 by omega, show (((m + 1 : Nat) : Int) - 0).toNat = m + 1 by omega, firstB]
  have hr : runB p (runeAt (symsOf s)) (atOf (symsOf s)) lg (m + 1) 0 = runW p (runeAt (symsOf s)) (atOf (symsOf s)) m lg (m + 1) 0 := by
    unfold runB tryW runW gB
    rw [if_neg (by omega), show ((m + 1 : Nat) : Int) - 1 = (m : Int) by omega]
  rw [← hr]
  cases hb : runB p (runeAt (symsOf s)) (atOf (symsOf s)) lg (m + 1) 0 with
  | some b => rfl
  | none =>
    rw [Option.none_or]
    cases hf : firstB p (runeAt (symsOf s)) (atOf (symsOf s)) lg (m + 1) m (0 + 1) with
    | none => rfl
    | some b =>
      obtain ⟨i, k1, k2, _⟩ := first_spec _ _ _ hf
      rw [anch_none hck hA (by omega) (by omega) (hit_begin s (by omega) (by omega))] at k2
      cases k2
end Go.Proofs.YthclpabmbhpohaaDoor
namespace Go.Proofs.YthclpabmbhpohaaDoor
open Go.RowKit Go.Maps
set_option linter.unusedVariables false
/-- Which of the first N numbers are in a list. -/
def boolsOf (N : Nat) (l : List Int) : Array Value := ((List.range N).map fun (i : Nat) => Value.bool (l.contains (i : Int))).toArray
theorem bools_at {N : Nat} {l : List Int} {i : Nat} (hi : i < N) : (boolsOf N l)[i]? = some (.bool (l.contains (i : Int))) := by
  simp [boolsOf, hi]
theorem bools_set (N : Nat) (l : List Int) (i : Nat) : (boolsOf N l).setIfInBounds i (.bool true) = boolsOf N ((i : Int) :: l) := by
  apply Array.ext_getElem?
  intro j
  rw [Array.getElem?_setIfInBounds]
  by_cases hj : j < N
  · rw [bools_at hj, bools_at hj]
    by_cases e : i = j
    · subst e
      rw [if_pos rfl, if_pos (by simpa [boolsOf] using hj)]
      simp
    · rw [if_neg e]
      congr 2
      simp only [List.contains_cons]
      rw [beq_eq_false_iff_ne.2 (by omega), Bool.false_or]
  · have h1 : ∀ l, (boolsOf N l)[j]? = none := fun l => by simp [boolsOf]; omega
    rw [h1, h1]
    split <;> simp [boolsOf]; omega
structure RwAt (W : World) (b N : Nat) (u0 u1 u2 : Value) (bg : Bool) (lv : Value) (t : Rw) : Prop where
  blk : W.heap[b + 1]? = some (.cells #[u0, u1, u2, .bool bg, .slice (some ⟨b, 0, none⟩) N N, lv, .int .i64 t.mt, .bool t.tw] 88 (0, 0))
  seen : W.heap[b]? = some (.cells (boolsOf N t.seen) 4 (0, 0))
  l : Owns W (b + 2) 3 1 lv (t.l.map i64C)
variable {W W' : World} {b N : Nat} {u0 u1 u2 : Value} {bg : Bool} {lv lv' : Value} {t t' : Rw}
theorem RwAt.below (h : RwAt W b N u0 u1 u2 bg lv t) (hb : Below W.heap.size W W') : RwAt W' b N u0 u1 u2 bg lv t :=
  ⟨(hb.block _ (heap_lt h.blk)).trans h.blk, (hb.block _ (heap_lt h.seen)).trans h.seen, h.l.below hb⟩
theorem RwAt.mark (h : RwAt W b N u0 u1 u2 bg lv t) (i : Nat) : RwAt (W.setCell ⟨b, i, none⟩ (.bool true)) b N u0 u1 u2 bg lv ⟨(i : Int) :: t.seen, t.l, t.mt, t.tw⟩ :=
  ⟨(set_ne0 W _ (by show b + 1 ≠ b; omega)).trans h.blk, by rw [heap_set0 h.seen i, bools_set], owns_grown0 h.l (grown_set0 W b i _) (by omega)⟩
theorem RwAt.setTw (h : RwAt W b N u0 u1 u2 bg lv t) : RwAt (W.setCell ⟨b + 1, 7, none⟩ (.bool true)) b N u0 u1 u2 bg lv ⟨t.seen, t.l, t.mt, true⟩ :=
  ⟨by rw [heap_set0 h.blk 7]; simp, (set_ne0 W _ (by show b ≠ b + 1; omega)).trans h.seen, owns_grown0 h.l (grown_set0 W (b + 1) 7 _) (by omega)⟩
theorem RwAt.setMt (h : RwAt W b N u0 u1 u2 bg lv t) (m : Int) : RwAt (W.setCell ⟨b + 1, 6, none⟩ (.int .i64 m)) b N u0 u1 u2 bg lv ⟨t.seen, t.l, m, t.tw⟩ :=
  ⟨by rw [heap_set0 h.blk 6]; simp, (set_ne0 W _ (by show b ≠ b + 1; omega)).trans h.seen, owns_grown0 h.l (grown_set0 W (b + 1) 6 _) (by omega)⟩
theorem RwAt.app {x : Int} (h : RwAt W b N u0 u1 u2 bg lv t) (hown : Owns W' (b + 2) 3 1 lv' (t.l.map i64C ++ [i64C x])) (hg : W.grownBy W' lv.ownBlock) :
    W'.heap[b + 1]? = W.heap[b + 1]? ∧ RwAt (W'.setCell ⟨b + 1, 5, none⟩ lv') b N u0 u1 u2 bg lv' ⟨t.seen, t.l ++ [x], t.mt, t.tw⟩ := by
  have key : ∀ k, k < W.heap.size → k < b + 2 → W'.heap[k]? = W.heap[k]? := fun k hk hc => hg.block k hk fun e => by
    have := (h.l.lt k e.symm).1; omega
  have h1 := key (b + 1) (heap_lt h.blk) (by omega)
  refine ⟨h1, by rw [heap_set0 (h1.trans h.blk) 5]; simp, (set_ne0 W' _ (by show b ≠ b + 1; omega)).trans ((key b (heap_lt h.seen) (by omega)).trans h.seen), ?_⟩
  rw [List.map_append]; exact owns_grown0 hown (grown_set0 W' (b + 1) 5 lv') (by omega)
structure RwCells (W : World) (b N : Nat) (u0 : Value) (bg : Bool) (lv : Value) (t : Rw) (i : Nat) : Prop where
  s : W.cell? ⟨b, i, none⟩ = some (.bool (t.seen.contains (i : Int)))
  sf : W.frozen? ⟨b, i, none⟩ = false
  c0 : W.cell? ⟨b + 1, 0, none⟩ = some u0
  c3 : W.cell? ⟨b + 1, 3, none⟩ = some (.bool bg)
  c4 : W.cell? ⟨b + 1, 4, none⟩ = some (.slice (some ⟨b, 0, none⟩) N N)
  c5 : W.cell? ⟨b + 1, 5, none⟩ = some lv
  c6 : W.cell? ⟨b + 1, 6, none⟩ = some (.int .i64 t.mt)
  c7 : W.cell? ⟨b + 1, 7, none⟩ = some (.bool t.tw)
  f : ∀ j, W.frozen? ⟨b + 1, j, none⟩ = false
  n0 : b < W.heap.size
  n1 : b + 1 < W.heap.size
theorem RwAt.cells (h : RwAt W b N u0 u1 u2 bg lv t) {i : Nat} (hi : i < N) : RwCells W b N u0 bg lv t i :=
  ⟨by rw [cell_of_blk h.seen, bools_at hi], by simp [World.frozen?, h.seen], by rw [cell_of_blk h.blk]; rfl, by rw [cell_of_blk h.blk]; rfl, by rw [cell_of_blk h.blk]; rfl, by rw [cell_of_blk h.blk]; rfl, by rw [cell_of_blk h.blk]; rfl, by rw [cell_of_blk h.blk]; rfl, fun j => by simp [World.frozen?, h.blk], heap_lt h.seen, heap_lt h.blk⟩
structure FitR (p : Pg) (t : Rw) : Prop where
  few : t.seen.length + leftN p.ins.length t.seen ≤ p.ins.length
  l : t.l.length ≤ t.seen.length
  m0 : 0 ≤ t.mt
  m1 : t.mt ≤ t.seen.length
end Go.Proofs.YthclpabmbhpohaaDoor
namespace Go.Proofs.YthclpabmbhpohaaDoor
open Go.RowKit
set_option linter.unusedVariables false
theorem Owns.lower {w : World} {base b' : Nat} {e : TypeId} {sz : Nat} {v : Value} {css : List (List Value)} (h : Owns w base e sz v css) (hb : b' ≤ base) : Owns w b' e sz v css := ⟨h.1.mono hb, h.2⟩
end Go.Proofs.YthclpabmbhpohaaDoor
namespace Go.Proofs.YthclpabmbhpohaaDoor
open Go.RowKit
set_option linter.unusedVariables false
def ArrR (w : World) (A : Option Addr) (l : List Rg) : Prop := Arr (fun _ => True) w 2 RgC A l
theorem ArrR.take {w : World} {A : Option Addr} {l : List Rg} (h : ArrR w A l) (n : Nat) : ArrR w A (l.take n) := fun i x hx => h i x (by
  rw [List.getElem?_take] at hx; split at hx
  · exact hx
  · cases hx)
theorem ArrR.drop {w : World} {ad : Addr} {l : List Rg} (h : ArrR w (some ad) l) (n : Nat) : ArrR w (some (ad.add (n * 2))) (l.drop n) := by
  intro i x hx
  rw [List.getElem?_drop] at hx
  obtain ⟨ad2, cs, e, _, hE, hl, hc⟩ := h (n + i) x hx
  cases e
  refine ⟨_, cs, rfl, trivial, hE, hl, fun j u hu => ?_⟩
  rw [add_add, ← hc j u hu]
  congr 2
  omega
end Go.Proofs.YthclpabmbhpohaaDoor
namespace Go.Proofs.YthclpabmbhpohaaDoor
open Go.RowKit
set_option linter.unusedVariables false
/-- A value is a slice of a row of one's own, and holds these. -/
def QAt (W : World) (base : Nat) (v : Value) (xs : List Int) : Prop :=
  ∃ g off c cs, v = .slice (some ⟨g, off, none⟩) xs.length c ∧ base ≤ g ∧ xs.length ≤ c ∧ c ≤ maxLen ∧ W.heap[g]? = some (.cells cs 3 (0, 0)) ∧ off + c ≤ cs.size ∧ ∀ j x, xs[j]? = some x → cs[off + j]? = some (.int .i64 x)
theorem QAt.kept {W W' : World} {base : Nat} {v : Value} {xs : List Int} (h : QAt W base v xs) (hk : ∀ g, v.ownBlock = some g → g < W.heap.size → W'.heap[g]? = W.heap[g]?) : QAt W' base v xs := by
  obtain ⟨g, off, c, cs, rfl, h1, h2, h3, h4, h5⟩ := h
  exact ⟨g, off, c, cs, rfl, h1, h2, h3, (hk g rfl (heap_lt h4)).trans h4, h5⟩
theorem QAt.below {W W' : World} {base : Nat} {v : Value} {xs : List Int} (h : QAt W base v xs) (hb : Below W.heap.size W W') : QAt W' base v xs := h.kept fun g _ hg => hb.block g hg
theorem QAt.cell {W : World} {base g off n c : Nat} {xs : List Int} (h : QAt W base (.slice (some ⟨g, off, none⟩) n c) xs) {j : Nat} (hj : j < xs.length) : W.cell? ⟨g, off + j, none⟩ = some (.int .i64 xs[j]) := by
  obtain ⟨g', off', c', cs, e, h1, h2, h3, h4, h5, h6⟩ := h
  simp only [Value.slice.injEq, Option.some.injEq, Addr.mk.injEq] at e
  obtain ⟨⟨rfl, rfl, _⟩, _, _⟩ := e
  rw [cell_of_blk h4]
  exact h6 j _ (List.getElem?_eq_getElem hj)
theorem QAt.tail {W : World} {base g off c : Nat} {x : Int} {xs : List Int} (h : QAt W base (.slice (some ⟨g, off, none⟩) (xs.length + 1) c) (x :: xs)) : QAt W base (.slice (some (if c - 1 = 0 then ⟨g, off, none⟩ else ⟨g, off + 1, none⟩)) xs.length (c - 1)) xs := by
  obtain ⟨g', off', c', cs, e, h1, h2, h3, h4, h5, h6⟩ := h
  simp only [Value.slice.injEq, Option.some.injEq, Addr.mk.injEq] at e
  obtain ⟨⟨rfl, rfl, _⟩, _, rfl⟩ := e
  simp only [List.length_cons] at h2
  by_cases hc : c - 1 = 0
  · have hx : xs = [] := List.eq_nil_of_length_eq_zero (by omega)
    subst hx
    rw [if_pos hc]
    exact ⟨g, off, c - 1, cs, rfl, h1, by simp, by omega, h4, by omega, by simp⟩
  · rw [if_neg hc]
    exact ⟨g, off + 1, c - 1, cs, rfl, h1, by omega, by omega, h4, by omega, fun j y hy => by rw [Nat.add_right_comm, Nat.add_assoc]; exact h6 (j + 1) y (by simpa using hy)⟩
theorem QAt.own {W : World} {base n c : Nat} {A : Option Addr} {xs : List Int} (h : W.ownsRow base 3 1 (.slice A n c) n (xs.map (Value.int .i64))) (hn : n = xs.length) (h0 : 0 < n) : QAt W base (.slice A n c) xs := by
  subst hn
  rcases h.2 with ⟨_, h1⟩ | ⟨g, cap, cur, hv, hb, hg, h1, h2, h3, h4⟩
  · omega
  · simp only [Value.slice.injEq] at hv
    obtain ⟨rfl, _, rfl⟩ := hv
    refine ⟨g, 0, c, cur, rfl, hb, h1, h2, hg, by omega, fun j x hj => ?_⟩
    have hjl : j < xs.length := (List.getElem?_eq_some_iff.1 hj).1
    have h5 : (xs.map (Value.int .i64))[j]? = some (.int .i64 x) := by rw [List.getElem?_map, hj]; rfl
    rw [← h4, List.getElem?_take_of_lt (by omega), Array.getElem?_toList] at h5
    rw [Nat.zero_add]; exact h5
end Go.Proofs.YthclpabmbhpohaaDoor
