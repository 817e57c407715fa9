/-
  The document's input of a text: martelloref01.New, martellolaw11.Doc, (*martelloref01.Input).Len. No condition but that the two tables stand.
-/
import Derived.Test.YtdnbholiijgedaaDoorDecode
import Derived.Test.YtdnbholiijgedaaDoorRunes
import Derived.Lib.SmallJoins
import Derived.Lib.OwnKind
import Derived.Lib.MapLaws
import Derived.Lib.TrimU
namespace Go.Proofs.YtdnbholiijgedaaDoor
open Go.RowKit Go.Shelf
set_option linter.unusedVariables false

/-- The document's input in memory: its runes. -/
def RefC (ok : Nat → Prop) (w : World) (a : Addr) (cs : List Int) : Prop :=
  ∃ A c, ok a.block ∧ w.cell? ⟨a.block, a.off + 2, none⟩ = some (.slice A cs.length c) ∧ cs.length ≤ c ∧ c ≤ maxLen ∧ Arr ok w 1 (IntC .i32) A cs
def codesOf (s : ByteArray) : List Int := (symsFrom s s.size 0).map (·.1)

theorem infoByte2 : (Tryd.prog.info? 5).map (fun i => (i.zero, i.size, i.bytes)) = some (some (.int .u8 0), 1, 1) := by kernel_rfl
theorem infoInt2 : (Tryd.prog.info? 3).map (fun i => (i.zero, i.size, i.bytes)) = some (some (.int .i64 0), 1, 8) := by kernel_rfl
def offC (x : Int) : List Value := [.int .i64 x]
/-- The document's input while it is being filled: its block b; what it has so far. -/
def Doc2 (B b : Nat) (kv bv : Value) (rs os : List Int) (w : World) : Prop :=
  ∃ rv ov, w.heap[b]? = some (.cells #[kv, bv, rv, ov] 62 (0, 0)) ∧ Owns w B 21 1 rv (rs.map runeC) ∧ Owns w B 3 1 ov (os.map offC)
theorem own_ne {w : World} {B : Nat} {e : TypeId} {sz : Nat} {v : Value} {css : List (List Value)} (h : Owns w B e sz v css) {b : Nat} {cs : Array Value} {ty : TypeId} {fr : Nat × Nat} (hb : w.heap[b]? = some (.cells cs ty fr)) (hne : ty ≠ e) : v.ownBlock ≠ some b := by
  intro hv
  obtain ⟨c, fz, hc⟩ := Lib.ownsRow_kind h.1 b hv
  rw [hb] at hc
  injection hc with hc
  injection hc with _ h2 _
  exact hne h2
theorem own_apart {w : World} {B B' : Nat} {e e' : TypeId} {sz sz' : Nat} {v v' : Value} {css css' : List (List Value)} (h : Owns w B e sz v css) (h' : Owns w B' e' sz' v' css') (hne : e ≠ e') : v.ownBlock = none ∨ v.ownBlock ≠ v'.ownBlock := by
  cases hv : v.ownBlock with
  | none => exact .inl rfl
  | some g =>
    refine .inr fun he => ?_
    obtain ⟨c, fz, hc⟩ := Lib.ownsRow_kind h.1 g hv
    exact own_ne h' hc hne he.symm
theorem Owns.setOther {w : World} {B : Nat} {e : TypeId} {sz : Nat} {v : Value} {css : List (List Value)} (h : Owns w B e sz v css) {a : Addr} (ha : v.ownBlock ≠ some a.block) (u : Value) : Owns (w.setCell a u) B e sz v css := ⟨ownsRow_setCell_other h.1 ha u, h.2⟩
theorem Doc2.below {B b : Nat} {kv bv : Value} {rs os : List Int} {w w' : World} (h : Doc2 B b kv bv rs os w) (hb : Below w.heap.size w w') : Doc2 B b kv bv rs os w' := by
  obtain ⟨rv, ov, h1, h2, h3⟩ := h
  exact ⟨rv, ov, (hb.block _ (heap_lt h1)).trans h1, h2.below hb, h3.below hb⟩
/-- A rune more. -/
theorem doc_rune {B b : Nat} {kv bv rv ov rv' : Value} {css css' : List (List Value)} {os : List Int} {w w1 : World} (hb : w.heap[b]? = some (.cells #[kv, bv, rv, ov] 62 (0, 0))) (hr : Owns w B 21 1 rv css) (ho : Owns w B 3 1 ov (os.map offC))
    (hown : Owns w1 B 21 1 rv' css') (hg : w.grownBy w1 rv.ownBlock) :
    w1.heap[b]? = some (.cells #[kv, bv, rv, ov] 62 (0, 0)) ∧ (w1.setCell ⟨b, 2, none⟩ rv').heap[b]? = some (.cells #[kv, bv, rv', ov] 62 (0, 0)) ∧ Owns (w1.setCell ⟨b, 2, none⟩ rv') B 21 1 rv' css' ∧ Owns (w1.setCell ⟨b, 2, none⟩ rv') B 3 1 ov (os.map offC) := by
  have h1 := (hg.block b (heap_lt hb) (fun e => own_ne hr hb (by decide) e.symm)).trans hb
  have h2 := ho.kept hg (own_apart ho hr (by decide))
  exact ⟨h1, heap_setCell_same h1 2 rv', hown.setOther (own_ne hown h1 (by decide)) _, h2.setOther (own_ne h2 h1 (by decide)) _⟩
/-- A place more. -/
theorem doc_off {B b : Nat} {kv bv rv ov ov' : Value} {css css' : List (List Value)} {rs : List Int} {w w1 : World} (hb : w.heap[b]? = some (.cells #[kv, bv, rv, ov] 62 (0, 0))) (hr : Owns w B 21 1 rv (rs.map runeC)) (ho : Owns w B 3 1 ov css)
    (hown : Owns w1 B 3 1 ov' css') (hg : w.grownBy w1 ov.ownBlock) :
    w1.heap[b]? = some (.cells #[kv, bv, rv, ov] 62 (0, 0)) ∧ (w1.setCell ⟨b, 3, none⟩ ov').heap[b]? = some (.cells #[kv, bv, rv, ov'] 62 (0, 0)) ∧ Owns (w1.setCell ⟨b, 3, none⟩ ov') B 3 1 ov' css' ∧ Owns (w1.setCell ⟨b, 3, none⟩ ov') B 21 1 rv (rs.map runeC) := by
  have h1 := (hg.block b (heap_lt hb) (fun e => own_ne ho hb (by decide) e.symm)).trans hb
  have h2 := hr.kept hg (own_apart hr ho (by decide))
  exact ⟨h1, heap_setCell_same h1 3 ov', hown.setOther (own_ne hown h1 (by decide)) _, h2.setOther (own_ne h2 h1 (by decide)) _⟩
theorem bytes_news {ok : Nat → Prop} {w w' : World} {ad : Addr} {s : ByteArray} (h : TextC ok w (some ad) s) (hb : Below w.heap.size w w') : ∀ (j : Nat) (u : Value), (s.data.toList.map fun x => Value.int .u8 (x.toNat : Int))[j]? = some u → w'.cell? (ad.add j) = some u := by
  intro j u hu
  rw [List.getElem?_map] at hu
  cases hx : s.data.toList[j]? with
  | none => rw [hx] at hu; cases hu
  | some x =>
    rw [hx] at hu
    cases hu
    obtain ⟨ad', cs, he, _, hcs, _, hc⟩ := h j x hx
    injection he with he
    subst he
    rw [hcs] at hc
    have h1 := hc 0 _ rfl
    rw [Nat.mul_one, Nat.add_zero] at h1
    exact (hb.cell (World.block_lt_of_cell? w _ h1)).trans h1
theorem heap_newS {W : World} {o : Obj} {n : Nat} (h : n = W.heap.size) : (W.alloc o).heap[n]? = some o := by subst h; exact World.alloc_heap_new _ _
theorem width_four (s : ByteArray) (pos : Nat) : (Utf8.decode s pos).2 ≤ 4 := by
  rw [Lib.decode_at]
  rcases Lib.decodeN_shape (s.size - pos) (s.get! pos).toNat (s.get! (pos + 1)).toNat (s.get! (pos + 2)).toNat (s.get! (pos + 3)).toNat with ⟨_, e⟩ | ⟨_, _, _, _, e⟩ | ⟨_, _, _, _, _, _, e⟩ | ⟨_, _, _, _, _, _, _, e⟩ | e <;> rw [e] <;> simp
def RefNewPost (w : World) (s : ByteArray) (e : Ending) (w' : World) : Prop :=
  ∃ b, e = .returned (.tuple #[.pointer (some ⟨b, 0, none⟩), .int .i64 0]) ∧ RefC (fun k => w.heap.size ≤ k) w' ⟨b, 0, none⟩ (codesOf s) ∧ Below w.heap.size w w'
set_option maxRecDepth 100000 in
set_option maxHeartbeats 4000000 in
theorem refNew_any (ok : Nat → Prop) (w : World) (A : Option Addr) (c : Nat) (s : ByteArray) (h : TextC ok w A s) (hsc : s.size ≤ c) (hc : c ≤ maxLen) (hs : s.size ≤ 65536) (hT : Tabs w) :
    Calls Tryd.prog 27 #[.int .i64 2, .slice A s.size c] w (RefNewPost w s) := by
  by_cases h0 : s.size = 0
  · have hk : codesOf s = [] := by unfold codesOf; rw [symsFrom_end s _ 0 (by omega)]; rfl
    clear h
    rw [h0] at hs hsc ⊢
    have e1 : ∀ W, Sem.run Tryd.prog (pure (#[] : Array Value)) W = .ok #[] W := fun _ => rfl
    have e2 : ∀ W, Sem.run Tryd.prog (storeCells ⟨w.heap.size, 0, none⟩ (#[] : Array Value).toList) W = .ok () W := fun _ => rfl
    have hB : Below w.heap.size w (((w.alloc (.cells #[] 5)).alloc (.cells #[.int .i64 0] 3)).alloc (.cells #[.int .i64 2, .slice (some ⟨w.heap.size, 0, none⟩) 0 0, .slice none 0 0, .slice (some ⟨w.heap.size + 1, 0, none⟩) 1 1] 62)) := below_al (below_al (below_al below_w _) _) _
    have hC := cell_of_blk (heap_new3 w (.cells #[] 5) (.cells #[.int .i64 0] 3) (.cells #[.int .i64 2, .slice (some ⟨w.heap.size, 0, none⟩) 0 0, .slice none 0 0, .slice (some ⟨w.heap.size + 1, 0, none⟩) 1 1] 62)) 2
    have HE := Lib.hid (And.intro hB hC)
    clear hB hC
    cases A with
    | none =>
      go_enter Tryd.func27, Tryd.ntmps27
      go_wp2_with fail
      go_loopw [7] (fun i wr => i = .int .i64 0 ∧ (((w.alloc (.cells #[] 5)).alloc (.cells #[.int .i64 0] 3)).alloc (.cells #[.int .i64 2, .slice (some ⟨w.heap.size, 0, none⟩) 0 0, .slice none 0 0, .slice (some ⟨w.heap.size + 1, 0, none⟩) 1 1] 62)) = wr) (fun _ _ => 0)
      case atStart => exact ⟨rfl, rfl⟩
      case round =>
        obtain ⟨rfl, rfl⟩ := hrel
        go_wp2_with fail
        go_ret2
        exact ⟨w.heap.size + 1 + 1, rfl, ⟨none, 0, by show w.heap.size ≤ w.heap.size + 1 + 1; omega, by rw [hk]; exact HE.out.2, by rw [hk]; exact Nat.le_refl _, Nat.zero_le _, by rw [hk]; exact Arr.nil⟩, HE.out.1⟩
    | some ad =>
      go_enter Tryd.func27, Tryd.ntmps27
      go_wp2_with fail
      go_loopw [7] (fun i wr => i = .int .i64 0 ∧ (((w.alloc (.cells #[] 5)).alloc (.cells #[.int .i64 0] 3)).alloc (.cells #[.int .i64 2, .slice (some ⟨w.heap.size, 0, none⟩) 0 0, .slice none 0 0, .slice (some ⟨w.heap.size + 1, 0, none⟩) 1 1] 62)) = wr) (fun _ _ => 0)
      case atStart => exact ⟨rfl, rfl⟩
      case round =>
        obtain ⟨rfl, rfl⟩ := hrel
        go_wp2_with fail
        go_ret2
        exact ⟨w.heap.size + 1 + 1, rfl, ⟨none, 0, by show w.heap.size ≤ w.heap.size + 1 + 1; omega, by rw [hk]; exact HE.out.2, by rw [hk]; exact Nat.le_refl _, Nat.zero_le _, by rw [hk]; exact Arr.nil⟩, HE.out.1⟩
  · obtain ⟨ad, rfl⟩ : ∃ ad, A = some ad := by
      obtain ⟨ad, _, hA, _⟩ := h 0 _ (List.getElem?_eq_getElem (by rw [text_len]; omega))
      exact ⟨ad, hA⟩
    go_enter Tryd.func27, Tryd.ntmps27
    obtain ⟨i0, hi, hxx⟩ := Option.map_eq_some_iff.1 infoByte2
    simp only [Prod.mk.injEq] at hxx
    obtain ⟨hz0, hz1, hz2⟩ := hxx
    have HT := Lib.hid h
    clear h
    go_wp2_with (at_builtin; refine wpList_append_own _ rfl _ _ 35 rfl w.heap.size 5 i0 _ 1 1 Tryd.underlying35 hi hz0 hz1 hz2 rfl (by decide) _ 0 [] rfl (World.ownsRow_made w #[] 0 (Nat.le_refl _) (by decide) rfl) ad s.size c (s.data.toList.map fun x => Value.int .u8 (x.toNat : Int)) rfl (by rw [List.length_map, text_len]; omega) (bytes_news HT.out (below_al below_w _)) ?c1 ?c2 ?c3 ?c4 ?_)
    case c1 => intro u hu; obtain ⟨x, _, rfl⟩ := List.mem_map.1 hu; rfl
    case c2 => unfold maxLen; omega
    case c3 => omega
    case c4 => simp
    intro bv w1 hown hgr _
    obtain ⟨A1, c1, rfl⟩ : ∃ A1 c1, bv = .slice A1 s.size c1 := by
      rcases Joins.ownsRow_forms hown with ⟨rfl, hn⟩ | ⟨g, cap, rfl⟩
      · omega
      · exact ⟨_, _, rfl⟩
    have hb1 : Below w.heap.size w w1 := (below_al (below_w) _).grown hgr (by simp) (fun k e => by simp [Value.ownBlock] at e; omega)
    clear hown hgr
    have HB := Lib.hid hb1
    clear hb1
    obtain ⟨i1, hi1, hx1⟩ := Option.map_eq_some_iff.1 infoRune
    simp only [Prod.mk.injEq] at hx1
    obtain ⟨hy0, hy1, hy2⟩ := hx1
    obtain ⟨i2, hi2, hx2⟩ := Option.map_eq_some_iff.1 infoInt2
    simp only [Prod.mk.injEq] at hx2
    obtain ⟨hw0, hw1, hw2⟩ := hx2
    have hsz1 := HB.out.size
    have hD0 : Doc2 w.heap.size (w1.heap.size + 1) (.int .i64 2) (.slice A1 s.size c1) [] [0] ((w1.alloc (.cells #[.int .i64 0] 3)).alloc (.cells #[.int .i64 2, .slice A1 s.size c1, .slice none 0 0, .slice (some ⟨w1.heap.size, 0, none⟩) 1 1] 62)) :=
      ⟨_, _, heap_new2 _ _ _, Owns.nil _ _ _ _, Owns.alloc ⟨⟨rfl, .inr ⟨w1.heap.size, 1, #[.int .i64 0], rfl, hsz1, World.alloc_heap_new _ _, Nat.le_refl _, by decide, rfl, rfl⟩⟩, fun cc hcc => by obtain rfl := List.mem_singleton.1 hcc; rfl⟩ _⟩
    have HD0 := Lib.hid hD0
    clear hD0
    go_wp2_with fail
    go_loopw [7] (fun i wr => ∃ (pos fuel : Nat) (rs os : List Int), i = .int .i64 pos ∧ Doc2 w.heap.size (w1.heap.size + 1) (.int .i64 2) (.slice A1 s.size c1) rs os wr ∧ Below w.heap.size w wr ∧ rs ++ (symsFrom s fuel pos).map (·.1) = codesOf s ∧ s.size ≤ pos + fuel ∧ pos ≤ s.size + 4 ∧ rs.length ≤ pos ∧ os.length ≤ pos + 1) (fun i _ => s.size - (intOf i).toNat)
    case atStart => exact ⟨0, s.size, [], [0], rfl, HD0.out, below_al (below_al HB.out _) _, rfl, by omega, by omega, by simp, by simp⟩
    case round =>
      obtain ⟨pos, fuel, rs, os, rfl, hD, hBr, hacc, hfu, hps, hrl, hol⟩ := hrel
      by_cases hp : pos < s.size
      · obtain ⟨f, rfl⟩ : ∃ f, fuel = f + 1 := ⟨fuel - 1, by omega⟩
        have hw1' := Lib.width_pos s pos
        have hw4 := width_four s pos
        have hd1 := decode_le s pos
        have hdec := decodeRune_any ok wr ad (c - pos) s pos (HT.out.move (fun b hok hb => ⟨hBr.block b hb, hok⟩)) hp (hT.below hBr)
        have HH := Lib.hid (And.intro hD (And.intro hBr hacc))
        clear hD hBr hacc
        go_wp2_with (first
          | (go_at_call 33
             refine hdec.mono ?_
             clear hdec
             rintro e w3 ⟨rfl, hb3⟩
             obtain ⟨rv, ov, hk1, hk2, hk3⟩ := HH.out.1.below hb3
             have hc2 : w3.cell? ⟨w1.heap.size + 1, 2, none⟩ = some rv := by rw [cell_of_blk hk1]; rfl
             have H3 := Lib.hid (And.intro hk1 (And.intro hk2 (And.intro hk3 (below_and hb3 HH.out.2.1))))
             clear hk1 hk2 hk3 hb3)
          | (at_builtin; refine wpList_app1 rfl _ _ 30 rfl w.heap.size 21 i1 (.int .i32 0) 1 4 Tryd.underlying30 hi1 hy0 hy1 hy2 rfl (by decide) _ _ rfl (H3.out.2.1.alloc _) _ [.int .i32 ((Utf8.decode s pos).1 : Int)] rfl rfl (heap_new1 _ _) ?c2 ?c3 ?c4 ?c5 ?_))
        case c2 => intro u hu; simp at hu; subst hu; rfl
        case c3 => rw [List.length_map]; unfold maxLen; omega
        case c4 => rw [List.length_map]; omega
        case c5 => have := H3.out.2.2.2.size; simp; omega
        intro rv' w4 hown' hgrow
        obtain ⟨hk1, hk2, hk3, hb3⟩ := H3.out
        have hb4 := below_app (below_al hb3 (.cells #[.int .i32 ((Utf8.decode s pos).1 : Int)] 21)) (by have := hb3.size; simp; omega) (hk2.alloc _) hgrow
        obtain ⟨k1, k2, k3, k4⟩ := doc_rune ((Below.heap_alloc w3 _ _ (heap_lt hk1)).trans hk1) (hk2.alloc _) (hk3.alloc _) hown' hgrow
        obtain ⟨A5, c5, rfl, _, _⟩ := hown'.shape
        have hc4 : w4.cell? ⟨w1.heap.size + 1, 2, none⟩ = some rv := by rw [cell_of_blk k1]; rfl
        have hf4 : w4.frozen? ⟨w1.heap.size + 1, 2, none⟩ = false := by simp [World.frozen?, k1]
        generalize hcss : List.map runeC rs ++ [[Value.int .i32 ((Utf8.decode s pos).1 : Int)]] = css at *
        have hcss' : css = (rs ++ [((Utf8.decode s pos).1 : Int)]).map runeC := by rw [← hcss, List.map_append]; rfl
        have hb5 : Below w.heap.size w (w4.setCell ⟨w1.heap.size + 1, 2, none⟩ (.slice A5 css.length c5)) := hb4.setCell (p := ⟨w1.heap.size + 1, 2, none⟩) (by show w.heap.size ≤ w1.heap.size + 1; omega) _
        have hc5 : (w4.setCell ⟨w1.heap.size + 1, 2, none⟩ (.slice A5 css.length c5)).cell? ⟨w1.heap.size + 1, 3, none⟩ = some ov := by rw [cell_of_blk k2]; rfl
        have H5 := Lib.hid (And.intro k2 (And.intro k3 (And.intro k4 (And.intro hb5 hcss'))))
        clear hown' hgrow hk1 hk2 hk3 hb3 hb4 k1 k2 k3 k4 hb5 hcss hcss' hc2
        generalize hn5 : css.length = n5 at *
        have HN5 := Lib.hid hn5
        clear hn5
        go_wp2_with (at_builtin; refine wpList_app1 rfl _ _ 60 rfl w.heap.size 3 i2 (.int .i64 0) 1 8 Tryd.underlying60 hi2 hw0 hw1 hw2 rfl (by decide) _ _ rfl (H5.out.2.2.1.alloc _) _ (offC ((pos : Int) + ((Utf8.decode s pos).2 : Int))) rfl rfl (heap_newS (by simp)) ?c2 ?c3 ?c4 ?c5 ?_)
        case c2 => intro u hu; simp [offC] at hu; subst hu; rfl
        case c3 => rw [List.length_map]; unfold maxLen; omega
        case c4 => rw [List.length_map]; omega
        case c5 => have := H5.out.2.2.2.1.size; simp at this ⊢; omega
        intro ov' w6 hown' hgrow
        obtain ⟨k2, k3, k4, hb5, hcss⟩ := H5.out
        have hb6 := below_app (below_al hb5 (.cells (offC ((pos : Int) + ((Utf8.decode s pos).2 : Int))).toArray 3)) (by have := hb5.size; simp at this ⊢; omega) (k4.alloc _) hgrow
        rw [hcss] at k3
        obtain ⟨m1, m2, m3, m4⟩ := doc_off ((Below.heap_alloc _ _ _ (heap_lt k2)).trans k2) (k3.alloc _) (k4.alloc _) hown' hgrow
        obtain ⟨A7, c7, rfl, _, _⟩ := hown'.shape
        have hc6 : w6.cell? ⟨w1.heap.size + 1, 3, none⟩ = some ov := by rw [cell_of_blk m1]; rfl
        have hf6 : w6.frozen? ⟨w1.heap.size + 1, 3, none⟩ = false := by simp [World.frozen?, m1]
        have hb7 := hb6.setCell (p := ⟨w1.heap.size + 1, 3, none⟩) (by show w.heap.size ≤ w1.heap.size + 1; omega) (.slice A7 (os.map offC ++ [offC ((pos : Int) + ((Utf8.decode s pos).2 : Int))]).length c7)
        rw [show os.map offC ++ [offC ((pos : Int) + ((Utf8.decode s pos).2 : Int))] = (os ++ [(pos : Int) + ((Utf8.decode s pos).2 : Int)]).map offC by rw [List.map_append]; rfl] at m2 m3 m4 hb7 ⊢
        have H7 := Lib.hid (And.intro m2 (And.intro m3 (And.intro m4 hb7)))
        clear hown' hgrow k2 k3 k4 hb5 hcss hb6 m1 m2 m3 m4 hb7
        generalize hn7 : ((os ++ [(pos : Int) + ((Utf8.decode s pos).2 : Int)]).map offC).length = n7 at *
        have HN7 := Lib.hid hn7
        clear hn7
        go_wp2_with fail
        go_round
        case rel =>
          refine ⟨pos + (Utf8.decode s pos).2, f, rs ++ [((Utf8.decode s pos).1 : Int)], os ++ [(pos : Int) + ((Utf8.decode s pos).2 : Int)], by go_num, ⟨_, _, H7.out.1, H7.out.2.2.1, H7.out.2.1⟩, H7.out.2.2.2, ?_, by omega, by omega, by simp; omega, by simp; omega⟩
          rw [← HH.out.2.2, symsFrom, if_pos hp, List.append_assoc]
          rfl
        case measure => simp [intOf]; omega
      · have HH := Lib.hid (And.intro hD (And.intro hBr hacc))
        clear hD hBr hacc
        go_wp2_with fail
        go_ret2
        obtain ⟨⟨rv, ov, k1, k2, k3⟩, hBr, hacc⟩ := HH.out
        rw [symsFrom_end s fuel pos hp, List.map_nil, List.append_nil] at hacc
        subst hacc
        have hl := k2.lt
        obtain ⟨A9, c9, rfl, h9, h10⟩ := k2.shape
        simp only [List.length_map] at k1 k2 h9
        refine ⟨_, rfl, ⟨A9, c9, by show w.heap.size ≤ w1.heap.size + 1; omega, ?_, h9, h10, ?_⟩, hBr⟩
        · rw [cell_of_blk k1]; rfl
        · refine Owns.arr k2 (by simp) (fun i x cs hx hc => ?_) (fun a ha => ?_)
          · rw [List.getElem?_map, hx] at hc; simp at hc; subst hc; rfl
          · subst ha; exact (hl a.block rfl).1
end Go.Proofs.YtdnbholiijgedaaDoor
