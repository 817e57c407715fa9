/-
  inputs.New of bytes, a text's runes. No condition.
  (*inputs.Input).At, inputs.word: what a place is. No condition.
  The match of a program that needs no choice, in plain words: place by place. No condition.
  Lists of whole numbers of one's own: slices.Clone, a copy by append, a store into one. No condition.
  (*onepass.runner).walk: the walk of a program that needs no choice. No condition but that the ways of it are told to need none.
-/
import Derived.Test.YthclpabmbhpohaaDoorOneMatG8
import Derived.Lib.OthersKept
import Derived.Lib.TrimU
import Derived.Lib.RuneCount
import Derived.Deep.RegionWith
import Derived.ArgAppend
namespace Go.Proofs.YthclpabmbhpohaaDoor
open Go.RowKit
set_option linter.unusedVariables false
theorem infoSym : (Tryd.prog.info? 102).map (fun i => (i.zero, i.size, i.bytes)) = some (some (.agg #[.int .i32 0, .int .i64 0]), 2, 16) := by kernel_rfl
/-- A rune, and where it begins. -/
def symC (s : Int × Int) : List Value := [.int .i32 s.1, .int .i64 s.2]
/-- A text's runes from a place on, each with its place. -/
def symsFrom (s : ByteArray) : Nat → Nat → List (Int × Int)
  | 0, _ => []
  | fuel + 1, pos => if pos < s.size then (((Utf8.decode s pos).1 : Int), (pos : Int)) :: symsFrom s fuel (pos + (Utf8.decode s pos).2) else []
/-- A text's runes; behind them the end, of no rune. -/
def symsOf (s : ByteArray) : List (Int × Int) := symsFrom s s.size 0 ++ [(-1, (s.size : Int))]
theorem symsFrom_end (s : ByteArray) (fuel pos : Nat) (h : ¬ pos < s.size) : symsFrom s fuel pos = [] := by
  cases fuel with
  | zero => rfl
  | succ f => simp [symsFrom, h]
theorem symsFrom_len (s : ByteArray) : ∀ fuel pos, (symsFrom s fuel pos).length ≤ fuel
  | 0, _ => Nat.le_refl _
  | f + 1, pos => by
    rw [symsFrom]
    split
    · have := symsFrom_len s f (pos + (Utf8.decode s pos).2); simp only [List.length_cons]; omega
    · simp
theorem heap_setCell_same {W : World} {b : Nat} {cs : Array Value} {ty : TypeId} {fr : Nat × Nat} (h : W.heap[b]? = some (.cells cs ty fr)) (j : Nat) (v : Value) : (W.setCell ⟨b, j, none⟩ v).heap[b]? = some (.cells (cs.setIfInBounds j v) ty fr) := by
  obtain ⟨hlt, hk⟩ := Array.getElem?_eq_some_iff.1 h
  show (W.heap.modify b _)[b]? = _
  rw [Array.getElem?_eq_getElem (by rw [Array.size_modify]; exact hlt), Array.getElem_modify_self, hk]
  rfl
/-- The world of an input that is being filled: its block b, what it has so far. -/
def Filling (b : Nat) (tv kv : Value) (acc : List (Int × Int)) (w : World) : Prop :=
  ∃ v, w.heap[b]? = some (.cells #[v, tv, kv] 46 (0, 0)) ∧ Owns w (b + 1) 102 2 v (acc.map symC)
theorem Filling.below {b : Nat} {tv kv : Value} {acc : List (Int × Int)} {w w' : World} (h : Filling b tv kv acc w) (hb : Below w.heap.size w w') : Filling b tv kv acc w' := by
  obtain ⟨v, h1, h2⟩ := h
  exact ⟨v, (hb.block _ (heap_lt h1)).trans h1, h2.below hb⟩
theorem Filling.iterAt {b : Nat} {tv kv : Value} {acc : List (Int × Int)} {w : World} (h : Filling b tv kv acc w) {k : Nat} {s : ByteArray} {pos : Nat} (hk : w.heap[k]? = some (.stringIter s pos)) (pos' : Nat) : Filling b tv kv acc (w.iterAt k s pos') := by
  obtain ⟨v, h1, h2⟩ := h
  have hbk : b ≠ k := by rintro rfl; rw [h1] at hk; cases hk
  have hg : w.grownBy (w.iterAt k s pos') (some k) := ⟨rfl, rfl, rfl, by rw [Lib.iterAt_size]; exact Nat.le_refl _, fun i _ hne => Lib.iterAt_other w k i s pos' (fun e => hne (by rw [e]))⟩
  refine ⟨v, (Lib.iterAt_other w k b s pos' hbk).trans h1, h2.kept hg ?_⟩
  rcases h2.1.2 with ⟨rfl, _⟩ | ⟨g, cap, cur, rfl, _, hgb, _⟩
  · exact .inl rfl
  · refine .inr fun e => ?_
    simp only [Value.ownBlock, Option.some.injEq] at e
    subst e
    rw [hgb] at hk; cases hk
/-- What the append and the store back leave. -/
theorem Filling.step {b : Nat} {tv kv : Value} {acc : List (Int × Int)} {w w1 : World} {v v' : Value} {x : Int × Int} (hb : w.heap[b]? = some (.cells #[v, tv, kv] 46 (0, 0))) (hv : Owns w (b + 1) 102 2 v (acc.map symC))
    (hown : Owns w1 (b + 1) 102 2 v' (acc.map symC ++ [symC x])) (hg : w.grownBy w1 v.ownBlock) :
    w1.heap[b]? = some (.cells #[v, tv, kv] 46 (0, 0)) ∧ Filling b tv kv (acc ++ [x]) (w1.setCell ⟨b, 0, none⟩ v') := by
  have h1 : w1.heap[b]? = some (.cells #[v, tv, kv] 46 (0, 0)) := (hg.block b (heap_lt hb) (fun e => by have := (hv.lt b e.symm).1; omega)).trans hb
  refine ⟨h1, v', heap_setCell_same h1 0 v', ?_⟩
  rw [List.map_append]
  refine hown.kept (row := some b) (grownBy_setCell' w1 b v') ?_
  cases ho : v'.ownBlock with
  | none => exact .inl rfl
  | some k => exact .inr fun e => by cases e; have := (hown.lt _ ho).1; omega
set_option maxRecDepth 100000 in
set_option maxHeartbeats 2000000 in
theorem decode_any (b : Nat) (tv kv : Value) (s : ByteArray) (w : World) (hF : Filling b tv kv [] w) (hs : s.size ≤ 1000000000) :
    Calls Tryd.prog 46 #[.pointer (some ⟨b, 0, none⟩), .string s] w fun e w' => e = .returned (.tuple #[]) ∧ Filling b tv kv (symsOf s) w' ∧ Below b w w' := by
  obtain ⟨i0, hi, hz0, hz1, hz2⟩ := info_parts infoSym
  have hbw : b < w.heap.size := by obtain ⟨v, h, _⟩ := hF; exact heap_lt h
  go_enter Tryd.func46, Tryd.ntmps46
  go_wp2_with fail
  have hit0 : (w.iter s 0).heap[w.heap.size]? = some (.stringIter s 0) := World.iter_heap w s 0
  have hF0 : Filling b tv kv [] (w.iter s 0) := hF.below ((Below.refl _ _).alloc (Nat.le_refl _) _)
  have hb0 : Below b w (w.iter s 0) := (Below.refl _ _).alloc (Nat.le_of_lt hbw) _
  go_loopw [] (fun wr => ∃ (pos fuel : Nat) (acc : List (Int × Int)), Filling b tv kv acc wr ∧ wr.heap[w.heap.size]? = some (.stringIter s pos) ∧ Below b w wr ∧ acc ++ symsFrom s fuel pos = symsFrom s s.size 0 ∧ s.size ≤ pos + fuel ∧ acc.length ≤ pos) (fun wr => s.size - wr.iterPos w.heap.size)
  case atStart => exact ⟨0, s.size, [], hF0, hit0, hb0, rfl, by omega, by simp⟩
  case round =>
    obtain ⟨pos, fuel, acc, hFr, hit, hBr, hacc, hfu, hal⟩ := hrel
    have hsz : w.heap.size < wr.heap.size := heap_lt hit
    by_cases hp : pos < s.size
    · have hnx : ∀ ty, (Instr.next (.pointer (some ⟨w.heap.size, 0, none⟩)) true ty).run Tryd.prog wr = _ := fun ty => Lib.run_next_any_at wr w.heap.size s pos ty hit hp
      have hwd := Lib.width_pos s pos
      have hip := iterPos_of hit
      have HI := Lib.hid hip
      clear hip
      have hd1 := decode_le s pos
      have hF2 := hFr.iterAt hit (pos + (Utf8.decode s pos).2)
      have hit2 := Lib.iterAt_heap wr w.heap.size s pos (pos + (Utf8.decode s pos).2) hit
      have hB2 := Lib.below_iterAt hBr (k := w.heap.size) (Nat.le_of_lt hbw) s (pos + (Utf8.decode s pos).2)
      obtain ⟨f, rfl⟩ : ∃ f, fuel = f + 1 := ⟨fuel - 1, by omega⟩
      obtain ⟨v, hbk, hown⟩ := hF2
      have hcb : (wr.iterAt w.heap.size s (pos + (Utf8.decode s pos).2)).cell? ⟨b, 0, none⟩ = some v := by rw [cell_of_blk hbk]; rfl
      have hsz2 : (wr.iterAt w.heap.size s (pos + (Utf8.decode s pos).2)).heap.size = wr.heap.size := Lib.iterAt_size _ _ _ _
      have HH := Lib.hid (And.intro hown (And.intro hbk (And.intro hacc hit2)))
      have HB := Lib.hid hB2
      have HS := Lib.hid hsz2
      clear hF0 hit0 hb0 hF hFr hit hBr hacc hown hbk hit2 hB2 hsz2
      go_wp2_with (at_builtin; refine wpList_app1 rfl _ _ 41 rfl (b + 1) 102 i0 (.agg #[.int .i32 0, .int .i64 0]) 2 16 Tryd.underlying41 hi hz0 hz1 hz2 rfl (by decide) v _ rfl (HH.out.1.alloc _) _ [.int .i32 ((Utf8.decode s pos).1 : Int), .int .i64 (pos : Int)] rfl rfl (heap_new1 _ _) ?c2 ?c3 ?c4 ?c5 ?_)
      case c2 => intro u hu; simp at hu; rcases hu with rfl | rfl <;> rfl
      case c3 => unfold maxLen; simp; omega
      case c4 => simp; omega
      case c5 => rw [World.size_alloc, HS.out]; omega
      · intro v' w1 hown' hgrow
        obtain ⟨hown, hbk, hacc, hit2⟩ := HH.out
        have hbk2 := (Below.heap_alloc (wr.iterAt w.heap.size s (pos + (Utf8.decode s pos).2)) (.cells #[.int .i32 ((Utf8.decode s pos).1 : Int), .int .i64 (pos : Int)] 102) b (heap_lt hbk)).trans hbk
        obtain ⟨hb1, hF1⟩ := Filling.step (x := (((Utf8.decode s pos).1 : Int), (pos : Int))) hbk2 (hown.alloc _) hown' hgrow
        have hit1 : w1.heap[w.heap.size]? = some (.stringIter s (pos + (Utf8.decode s pos).2)) := by
          refine (hgrow.block _ (by rw [World.size_alloc]; have := heap_lt hit2; omega) (fun e => ?_)).trans ((Below.heap_alloc _ _ _ (heap_lt hit2)).trans hit2)
          rcases hown.1.2 with ⟨rfl, _⟩ | ⟨g, cap, cur, rfl, _, hgb, _⟩
          · simp [Value.ownBlock] at e
          · simp only [Value.ownBlock, Option.some.injEq] at e
            rw [← e, hit2] at hgb; cases hgb
        have hBw : Below b w w1 := (HB.out.alloc (by rw [HS.out]; omega) _).grown hgrow (by rw [World.size_alloc, HS.out]; omega) (fun k e => by have := (hown.lt k e).1; omega)
        have hc1 : w1.cell? ⟨b, 0, none⟩ = some v := by rw [cell_of_blk hb1]; rfl
        have hf1 : w1.frozen? ⟨b, 0, none⟩ = false := by simp [World.frozen?, hb1]
        have hsh := hown'.shape
        simp only [List.length_append, List.length_map, List.length_cons, List.length_nil, Nat.zero_add] at hsh
        obtain ⟨A', c', rfl, _, _⟩ := hsh
        have H2 := Lib.hid (And.intro hF1 (And.intro hit1 (And.intro hBw hacc)))
        clear hown' hgrow hown hbk hacc hit2 hbk2 hb1 hF1 hit1 hBw
        go_wp2_with fail
        go_roundw
        case rel =>
          obtain ⟨hF1, hit1, hBw, hacc⟩ := H2.out
          refine ⟨pos + (Utf8.decode s pos).2, f, acc ++ [(((Utf8.decode s pos).1 : Int), (pos : Int))], hF1, ?_, hBw.setCell (p := ⟨b, 0, none⟩) (Nat.le_refl _) _, ?_, by omega, by simp; omega⟩
          · rw [Below.heap_setCell _ _ _ _ (by show w.heap.size ≠ b; omega)]; exact hit1
          · rw [← hacc, symsFrom, if_pos hp, List.append_assoc]; rfl
        case measure =>
          obtain ⟨hF1, hit1, hBw, hacc⟩ := H2.out
          have hit3 : (w1.setCell ⟨b, 0, none⟩ (.slice A' (acc.length + 1) c')).heap[w.heap.size]? = some (.stringIter s (pos + (Utf8.decode s pos).2)) := by
            rw [Below.heap_setCell _ _ _ _ (by show w.heap.size ≠ b; omega)]; exact hit1
          rw [iterPos_of hit3, HI.out]
          omega
    · have hnx : ∀ ty, (Instr.next (.pointer (some ⟨w.heap.size, 0, none⟩)) true ty).run Tryd.prog wr = _ := fun ty => Lib.run_next_end_at wr w.heap.size s pos ty hit hp
      rw [symsFrom_end s fuel pos hp, List.append_nil] at hacc
      have hal2 := symsFrom_len s s.size 0
      rw [← hacc] at hal2
      obtain ⟨v, hbk, hown⟩ := hFr
      have hcb : wr.cell? ⟨b, 0, none⟩ = some v := by rw [cell_of_blk hbk]; rfl
      have HH := Lib.hid (And.intro hown (And.intro hbk (And.intro hacc hBr)))
      clear hF0 hit0 hb0 hF hit hBr hacc hown hbk
      go_wp2_with (at_builtin; refine wpList_app1 rfl _ _ 41 rfl (b + 1) 102 i0 (.agg #[.int .i32 0, .int .i64 0]) 2 16 Tryd.underlying41 hi hz0 hz1 hz2 rfl (by decide) v _ rfl (HH.out.1.alloc _) _ [.int .i32 (-1), .int .i64 (s.size : Int)] rfl rfl (heap_new1 _ _) ?c2 ?c3 ?c4 ?c5 ?_)
      case c2 => intro u hu; simp at hu; rcases hu with rfl | rfl <;> rfl
      case c3 => unfold maxLen; simp; omega
      case c4 => simp; omega
      case c5 => rw [World.size_alloc]; omega
      · intro v' w1 hown' hgrow
        obtain ⟨hown, hbk, hacc, hBr⟩ := HH.out
        have hbk2 := (Below.heap_alloc wr (.cells #[.int .i32 (-1), .int .i64 (s.size : Int)] 102) b (heap_lt hbk)).trans hbk
        obtain ⟨hb1, hF1⟩ := Filling.step (x := (-1, (s.size : Int))) hbk2 (hown.alloc _) hown' hgrow
        have hBw : Below b w w1 := (hBr.alloc (by omega) _).grown hgrow (by rw [World.size_alloc]; omega) (fun k e => by have := (hown.lt k e).1; omega)
        have hc1 : w1.cell? ⟨b, 0, none⟩ = some v := by rw [cell_of_blk hb1]; rfl
        have hf1 : w1.frozen? ⟨b, 0, none⟩ = false := by simp [World.frozen?, hb1]
        have hsh := hown'.shape
        simp only [List.length_append, List.length_map, List.length_cons, List.length_nil, Nat.zero_add] at hsh
        obtain ⟨A', c', rfl, _, _⟩ := hsh
        have H2 := Lib.hid (And.intro hF1 (And.intro hBw hacc))
        clear hown' hgrow hown hbk hacc hbk2 hb1 hF1 hBw hBr
        go_wp2_with fail
        go_end0
        obtain ⟨hF1, hBw, hacc⟩ := H2.out
        exact ⟨rfl, by rw [symsOf, ← hacc]; exact hF1, hBw.setCell (p := ⟨b, 0, none⟩) (Nat.le_refl _) _⟩
def byteC (x : UInt8) (cs : List Value) : Prop := cs = [.int .u8 (x.toNat : Int)]
/-- A text lies in memory: s, from address A on. -/
def TextC (ok : Nat → Prop) (w : World) (A : Option Addr) (s : ByteArray) : Prop := Arr ok w 1 byteC A s.data.toList
theorem text_len (s : ByteArray) : s.data.toList.length = s.size := by rw [Array.length_toList]; rfl
theorem conv_bytes {ok : Nat → Prop} {w : World} {A : Option Addr} {s : ByteArray} (h : TextC ok w A s) (c : Nat) :
    (convert 29 9 (.slice A s.size c)).run Tryd.prog w = .ok (.string s) w := by
  cases A with
  | none =>
    have h0 : s.data.toList = [] := by
      cases hl : s.data.toList with
      | nil => rfl
      | cons x xs => obtain ⟨ad, _, hA, _⟩ := h 0 x (by rw [hl]; rfl); cases hA
    have hs0 : s = ByteArray.empty := by
      cases s with
      | mk d => cases d with
        | mk l => simp only at h0; subst h0; rfl
    rw [run_convert_bytes_nil w 29 5 Tryd.underlying29 Tryd.underlying5 _ _ 9 Tryd.underlying9, hs0]
  | some ad =>
    have hl : (loadCells ad s.size).run Tryd.prog w = .ok ((s.data.toList.map fun b => (b.toNat : Int)).map (Value.int .u8)).toArray w := by
      have := run_loadCells_list (P := Tryd.prog) w ad ((s.data.toList.map fun b => (b.toNat : Int)).map (Value.int .u8)) (fun j v hj => by
        rw [List.map_map, List.getElem?_map] at hj
        cases hx : s.data.toList[j]? with
        | none => rw [hx] at hj; simp at hj
        | some x =>
          rw [hx] at hj
          obtain ⟨ad', cs, hA, _, rfl, _, hc⟩ := h j x hx
          cases hA
          have := hc 0 _ rfl
          simp at hj
          rw [← hj]
          simpa using this)
      simpa [text_len] using this
    rw [run_convert_bytes_string w 29 9 5 _ s.size c Tryd.underlying29 Tryd.underlying5 Tryd.underlying9, run_bytesToString w _ s.size c _ hl, foldl_push_bytes]
    congr 2
    have : (ByteArray.empty.data ++ ((s.data.toList.map fun b => (b.toNat : Int)).map fun n => UInt8.ofNat n.toNat).toArray) = s.data := by
      simp [ByteArray.empty, ByteArray.emptyWithCapacity, Function.comp_def]
      rfl
    rw [this]
theorem TextC.move {ok ok' : Nat → Prop} {w w' : World} {A : Option Addr} {s : ByteArray} (h : TextC ok w A s) (hm : ∀ b, ok b → b < w.heap.size → w'.heap[b]? = w.heap[b]? ∧ ok' b) : TextC ok' w' A s := Arr.move h hm (by omega)
/-- An input of runes, each with its place. -/
def InpC (ok : Nat → Prop) (w : World) (a : Addr) (rs : List (Int × Int)) : Prop :=
  ∃ A c, ok a.block ∧ w.cell? a = some (.slice A rs.length c) ∧ rs.length ≤ c ∧ c ≤ maxLen ∧ Arr ok w 2 (fun x cs => cs = symC x) A rs
theorem InpC.move {ok ok' : Nat → Prop} {w w' : World} {a : Addr} {rs : List (Int × Int)} (h : InpC ok w a rs) (hm : ∀ b, ok b → b < w.heap.size → w'.heap[b]? = w.heap[b]? ∧ ok' b) : InpC ok' w' a rs := by
  obtain ⟨A, c, h0, h1, h2, h3, h4⟩ := h
  obtain ⟨m1, m2⟩ := hm a.block h0 (World.block_lt_of_cell? w a h1)
  exact ⟨A, c, m2, by rw [← h1]; exact World.cell?_of_block m1, h2, h3, h4.move hm (by omega)⟩
theorem Filling.inp {b : Nat} {tv kv : Value} {acc : List (Int × Int)} {w : World} (h : Filling b tv kv acc w) : InpC (fun k => b ≤ k) w ⟨b, 0, none⟩ acc := by
  obtain ⟨v, h1, h2⟩ := h
  have hl := h2.lt
  obtain ⟨A, c, rfl, h3, h4⟩ := h2.shape
  simp only [List.length_map] at h1 h2 h3 hl
  refine ⟨A, c, Nat.le_refl _, by rw [cell_of_blk h1]; rfl, h3, h4, h2.arr (by simp) (fun i x cs hx hc => ?_) (fun a hA => ?_)⟩
  · rw [List.getElem?_map, hx] at hc; simpa [eq_comm] using hc
  · subst hA; have := (hl a.block rfl).1; show b ≤ a.block; omega
def NewPost (w : World) (s : ByteArray) (e : Ending) (w' : World) : Prop :=
  ∃ b, e = .returned (.tuple #[.pointer (some ⟨b, 0, none⟩), .int .i64 0]) ∧ InpC (fun k => w.heap.size ≤ k) w' ⟨b, 0, none⟩ (symsOf s) ∧ Below w.heap.size w w'
set_option maxRecDepth 100000 in
set_option maxHeartbeats 2000000 in
theorem new_small (ok : Nat → Prop) (w : World) (A : Option Addr) (c : Nat) (s : ByteArray) (h : TextC ok w A s) (hs : s.size ≤ 65536) :
    Calls Tryd.prog 27 #[.int .i64 2, .slice A s.size c] w (NewPost w s) := by
  have hcl := cloneByte UInt8 byteC (fun x c h u hu => by rw [h] at hu; simp at hu; subst hu; rfl) ok w A c s.data.toList h (by rw [text_len]; omega)
  rw [text_len] at hcl
  have HT := Lib.hid h
  clear h
  go_enter Tryd.func27, Tryd.ntmps27
  go_wp2_with fail
  refine hcl.mono ?_
  rintro e w1 ⟨v', css, rfl, hl, _, hown, hb1⟩
  obtain ⟨A', c', rfl, _, _⟩ := hown.shape
  rw [hl, text_len]
  have hF : Filling w1.heap.size (.slice A' s.size c') (.int .i64 2) [] (w1.alloc (.cells #[.slice none 0 0, .slice A' s.size c', .int .i64 2] 46)) := ⟨_, heap_new1 _ _, Owns.nil _ _ _ _⟩
  have hcv1 := conv_bytes (HT.out.move (ok' := fun _ => True) (w' := (w1.alloc (.cells #[.slice none 0 0, .slice A' s.size c', .int .i64 2] 46)).drew) (fun b _ hb => ⟨(below_al hb1 _).block b hb, trivial⟩)) c
  have HB := Lib.hid hb1
  clear hcl hown hb1 hl
  have hdec := decode_any w1.heap.size (.slice A' s.size c') (.int .i64 2) s (w1.alloc (.cells #[.slice none 0 0, .slice A' s.size c', .int .i64 2] 46)).drew hF (by omega)
  go_wp2_with fail
  go_region_with (go_at_call 46; refine hdec.mono ?_; rintro e w2 ⟨rfl, hF2, hb2⟩)
  all_goals
    go_wp2_with fail
    go_ret2
    exact ⟨w1.heap.size, rfl, hF2.inp.move (fun k hk _ => ⟨rfl, Nat.le_trans HB.out.size hk⟩), ((below_al HB.out _).drew).trans (hb2.mono HB.out.size)⟩
def NewPostBig (w : World) (e : Ending) (w' : World) : Prop := e = .returned (.tuple #[.pointer none, .int .i64 2]) ∧ w = w'
set_option maxRecDepth 100000 in
set_option maxHeartbeats 400000 in
theorem new_big (w : World) (A : Option Addr) (c n : Nat) (hn : 65536 < n) :
    Calls Tryd.prog 27 #[.int .i64 2, .slice A n c] w (NewPostBig w) := by
  go_enter Tryd.func27, Tryd.ntmps27
  go_wp2_with fail
  go_ret2
  exact ⟨rfl, rfl⟩
def TextPost (w : World) (s : ByteArray) (e : Ending) (w' : World) : Prop :=
  ∃ b, e = .returned (.pointer (some ⟨b, 0, none⟩)) ∧ InpC (fun k => w.heap.size ≤ k) w' ⟨b, 0, none⟩ (symsOf s) ∧ Below w.heap.size w w'
set_option maxHeartbeats 400000 in
theorem text_small (ok : Nat → Prop) (w : World) (A : Option Addr) (c : Nat) (s : ByteArray) (h : TextC ok w A s) (hs : s.size ≤ 65536) :
    Calls Tryd.prog 11 #[.slice A s.size c] w (TextPost w s) := by
  have hn := new_small ok w A c s h hs
  clear h
  go_enter Tryd.func11, Tryd.ntmps11
  go_wp2_with (go_at_call 27; refine hn.mono ?_; clear hn; rintro e w2 ⟨b, rfl, hI, hb2⟩)
  go_ret
  exact ⟨b, rfl, hI, hb2⟩
set_option maxHeartbeats 400000 in
theorem text_big (w : World) (A : Option Addr) (c n : Nat) (hn : 65536 < n) :
    Calls Tryd.prog 11 #[.slice A n c] w (fun e w' => e = .returned (.pointer none) ∧ w = w') := by
  have hn := new_big w A c n hn
  go_enter Tryd.func11, Tryd.ntmps11
  go_wp2_with (go_at_call 27; refine hn.mono ?_; clear hn; rintro e w2 ⟨rfl, rfl⟩)
  go_ret
  exact ⟨rfl, rfl⟩
def runeAt (rs : List (Int × Int)) (i : Int) : Int := if 0 ≤ i then ((rs[i.toNat]?).map (·.1)).getD (-1) else -1
set_option maxHeartbeats 400000 in
theorem len_any (ok : Nat → Prop) (w : World) (a : Addr) (rs : List (Int × Int)) (h : InpC ok w a rs) :
    Calls Tryd.prog 15 #[.pointer (some a)] w fun e w' => e = .returned (.int .i64 ((rs.length : Int) - 1)) ∧ w = w' := by
  obtain ⟨A, c, h0, h1, h2, h3, h4⟩ := h
  have hl : rs.length ≤ 9223372036854775807 := by unfold maxLen at h3; omega
  clear h0 h4 h3
  go_enter Tryd.func15, Tryd.ntmps15
  go_wp2
  go_ret
  exact ⟨rfl, rfl⟩
set_option maxHeartbeats 400000 in
theorem rune_any (ok : Nat → Prop) (w : World) (a : Addr) (rs : List (Int × Int)) (h : InpC ok w a rs) (i : Int) :
    Calls Tryd.prog 49 #[.pointer (some a), .int .i64 i] w fun e w' => e = .returned (.int .i32 (runeAt rs i)) ∧ w = w' := by
  obtain ⟨A, c, h0, h1, h2, h3, h4⟩ := h
  have hl : rs.length ≤ 9223372036854775807 := by unfold maxLen at h3; omega
  by_cases hi : i < 0
  · have hr : runeAt rs i = -1 := by unfold runeAt; rw [if_neg (by omega)]
    have HR := Lib.hid hr
    clear h0 h4 h3 hr
    go_enter Tryd.func49, Tryd.ntmps49
    go_wp2
    go_ret
    exact ⟨ret_int HR.out.symm, rfl⟩
  · obtain ⟨n, rfl⟩ := Int.eq_ofNat_of_zero_le (Int.not_lt.1 hi)
    by_cases hn : n < rs.length
    · obtain ⟨ad, cs, rfl, _, rfl, _, hc⟩ := h4 n _ (List.getElem?_eq_getElem hn)
      have hc0 : w.cell? (ad.add (n * 2)) = some (.int .i32 rs[n].1) := hc 0 _ rfl
      have hr : runeAt rs n = rs[n].1 := by unfold runeAt; rw [if_pos (by omega)]; simp [hn]
      have HR := Lib.hid hr
      clear h0 h4 h3 hr hc hi
      go_enter Tryd.func49, Tryd.ntmps49
      go_wp2
      go_ret
      exact ⟨ret_int HR.out.symm, rfl⟩
    · have hr : runeAt rs n = -1 := by unfold runeAt; rw [if_pos (by omega)]; simp [List.getElem?_eq_none (show rs.length ≤ n by omega)]
      have HR := Lib.hid hr
      clear h0 h4 h3 hr hi
      go_enter Tryd.func49, Tryd.ntmps49
      go_wp2
      go_ret
      exact ⟨ret_int HR.out.symm, rfl⟩
end Go.Proofs.YthclpabmbhpohaaDoor
namespace Go.Proofs.YthclpabmbhpohaaDoor
open Go.RowKit
set_option linter.unusedVariables false
def wordB (c : Int) : Bool := (decide (48 ≤ c) && decide (c ≤ 57)) || (decide (65 ≤ c) && decide (c ≤ 90)) || (decide (97 ≤ c) && decide (c ≤ 122)) || (c == 95)
set_option maxHeartbeats 1000000 in
theorem word_any (w : World) (c : Int) : Calls Tryd.prog 70 #[.int .i32 c] w fun e w' => e = .returned (.bool (wordB c)) ∧ w = w' := by
  have hh : wordB c = ((decide (48 ≤ c) && decide (c ≤ 57)) || (decide (65 ≤ c) && decide (c ≤ 90)) || (decide (97 ≤ c) && decide (c ≤ 122)) || (c == 95)) := rfl
  have HH := Lib.hid hh
  clear hh
  generalize wordB c = r at *
  go_enter Tryd.func70, Tryd.ntmps70
  go_wp2
  all_goals
    go_ret
    refine ⟨ret_bool ?_, rfl⟩
    rw [HH.out]
    simp_all <;> omega
/-- What a place is, of the runes on both sides. -/
def atB (z b1 b2 n1 n2 : Bool) : Int := (if z = true then 32 else 16) + (if b1 = true then 5 else if b2 = true then 4 else 0) + (if n1 = true then 10 else if n2 = true then 8 else 0)
def atW (x y : Bool) (b n : Int) : Int := atB (x == y) (b == -1) (b == 10) (n == -1) (n == 10)
def atOf (rs : List (Int × Int)) (i : Int) : Int := if i < 0 ∨ (rs.length : Int) - 1 < i then 0 else atW (wordB (runeAt rs (i - 1))) (wordB (runeAt rs i)) (runeAt rs (i - 1)) (runeAt rs i)
def AtPost (v : Int) (w : World) (e : Ending) (w' : World) : Prop := e = .returned (.int .i64 v) ∧ ∃ n, w' = w.drewN n
set_option maxRecDepth 100000 in
set_option maxHeartbeats 4000000 in
theorem at_any (ok : Nat → Prop) (w : World) (a : Addr) (rs : List (Int × Int)) (h : InpC ok w a rs) (i : Int) (hi : -9223372036854775807 ≤ i) :
    Calls Tryd.prog 50 #[.pointer (some a), .int .i64 i] w (AtPost (atOf rs i) w) := by
  have hlen := len_any ok w a rs h
  by_cases h0 : i < 0
  · have e : atOf rs i = 0 := by unfold atOf; rw [if_pos (.inl h0)]
    rw [e]
    clear e h
    go_enter Tryd.func50, Tryd.ntmps50
    go_wp2_with fail
    go_ret
    exact ⟨rfl, 0, rfl⟩
  have h0' : 0 ≤ i := by omega
  by_cases h1 : (rs.length : Int) - 1 < i
  · have e : atOf rs i = 0 := by unfold atOf; rw [if_pos (.inr h1)]
    rw [e]
    clear e h
    go_enter Tryd.func50, Tryd.ntmps50
    go_wp2_with (go_at_call 15; refine hlen.mono ?_; clear hlen; rintro e w' ⟨rfl, rfl⟩)
    go_ret
    exact ⟨rfl, 0, rfl⟩
  · have e : atOf rs i = atW (wordB (runeAt rs (i - 1))) (wordB (runeAt rs i)) (runeAt rs (i - 1)) (runeAt rs i) := by unfold atOf; rw [if_neg (by omega)]
    have hr : ∀ (k : Nat) (j : Int), Calls Tryd.prog 49 #[.pointer (some a), .int .i64 j] (w.drewN k) fun e w' => e = .returned (.int .i32 (runeAt rs j)) ∧ w' = w.drewN k := fun k j => (rune_any ok (w.drewN k) a rs (h.move (fun b hb _ => ⟨rfl, hb⟩)) j).mono fun _ _ h => ⟨h.1, h.2.symm⟩
    rw [e]
    have hw : IntKind.i64.wrap (i - 1) = i - 1 := IntWalk.i64_in _ (by
      obtain ⟨A, c, _, _, h2, h3, _⟩ := h; unfold maxLen at h3; omega)
    have h1' : i ≤ (rs.length : Int) - 1 := by omega
    clear e h h1
    go_enter Tryd.func50, Tryd.ntmps50
    go_wp2_with (go_at_call 15; refine hlen.mono ?_; clear hlen; rintro e w' ⟨rfl, rfl⟩)
    go_quiet ((go_at_call 49; exact Calls.quiet_of_same (hr _ _)))
    clear hr hw
    generalize runeAt rs (i - 1) = b at *
    generalize runeAt rs i = n at *
    have hW := word_any
    go_wp2_with (go_at_call 70; refine (hW _ _).mono ?_; rintro e w' ⟨rfl, rfl⟩)
    all_goals
      go_ret
      refine ⟨ret_int ?_, _, rfl⟩
      unfold atW
      clear hW hi h0' h1' h0
      generalize (wordB b == wordB n) = z at *
      generalize (b == -1) = b1 at *
      generalize (b == 10) = b2 at *
      generalize (n == -1) = n1 at *
      generalize (n == 10) = n2 at *
      (try simp only [Bool.not_eq_true', Bool.not_eq_false'] at *)
      subst_vars
      (first | kernel_rfl | (cases b2 <;> kernel_rfl) | (cases n2 <;> kernel_rfl) | (cases b2 <;> cases n2 <;> kernel_rfl))
end Go.Proofs.YthclpabmbhpohaaDoor
namespace Go.Proofs.YthclpabmbhpohaaDoor
open Go.RowKit
set_option linter.unusedVariables false
section
variable (p : Pg) (rn av : Int → Int) (lg : Bool)
/-- All that is done at one place. -/
def placeS (pl : Int) (s : Rn) : Rn := walkS p rn av lg (p.ins.length + 1) s.next pl s.nf ⟨s.steps, s.best, -1, s.nf, false⟩
/-- From a place on; len: the last place. -/
def runL (len : Int) : Nat → Int → Rn → Rn
  | 0, _, s => s
  | n + 1, pl, s => if s.next < 0 ∨ len < pl then s else runL len n (pl + 1) (placeS p rn av lg pl s)
end
def fit0 (p : Pg) : List Int := (List.replicate p.caps.toNat (-1)).set 0 0
def matchS (p : Pg) (rs : List (Int × Int)) (lg : Bool) : Rn := runL p (runeAt rs) (atOf rs) lg ((rs.length : Int) - 1) rs.length 0 ⟨0, none, p.start, fit0 p, false⟩
section
variable {p : Pg} {ask : Int → List Int × Bool}
/-- What was asked for so far. -/
def Asked (p : Pg) (ask : Int → List Int × Bool) (i : Nat) (td : List Int) : Prop := ∀ j (h : j < td.length), j < i → (ask td[j]).2 = true ∧ ∀ x ∈ (ask td[j]).1, (p.get x).out ∈ td
theorem putOuts_sub (p : Pg) : ∀ (l td : List Int), ∀ x ∈ td, x ∈ putOuts p l td
  | [], td, x, h => h
  | y :: l, td, x, h => by
    show x ∈ putOuts p l (if td.contains (p.get y).out = true then td else td ++ [(p.get y).out])
    refine putOuts_sub p l _ x ?_
    split
    · exact h
    · simp [h]
theorem putOuts_has (p : Pg) : ∀ (l td : List Int), ∀ x ∈ l, (p.get x).out ∈ putOuts p l td
  | [], td, x, h => by simp at h
  | y :: l, td, x, h => by
    show (p.get x).out ∈ putOuts p l (if td.contains (p.get y).out = true then td else td ++ [(p.get y).out])
    rcases List.mem_cons.1 h with rfl | h
    · refine putOuts_sub p l _ _ ?_
      split
      · rename_i hc; simpa using hc
      · simp
    · exact putOuts_has p l _ x h
theorem putOuts_pre (p : Pg) : ∀ (l td : List Int), ∃ r, putOuts p l td = td ++ r
  | [], td => ⟨[], by simp [putOuts]⟩
  | y :: l, td => by
    show ∃ r, putOuts p l (if td.contains (p.get y).out = true then td else td ++ [(p.get y).out]) = td ++ r
    split
    · exact putOuts_pre p l td
    · obtain ⟨r, hr⟩ := putOuts_pre p l (td ++ [(p.get y).out])
      exact ⟨(p.get y).out :: r, by rw [hr]; simp⟩
theorem adm_closed (hl : Leads p) (hq : ∀ pc, Pc p pc → ∀ x ∈ (ask pc).1, Pc p x ∧ (p.get x).op = 2) : ∀ (n i : Nat) (td : List Int), admG p ask n i td = true → p.ins.length + 1 ≤ n + i → td.Nodup → (∀ x ∈ td, Pc p x) → Asked p ask i td →
    ∃ T : List Int, (∀ x ∈ td, x ∈ T) ∧ (∀ x ∈ T, Pc p x ∧ (ask x).2 = true ∧ ∀ y ∈ (ask x).1, (p.get y).out ∈ T)
  | 0, i, td, _, hn, hnd, hp, hA => by
    have := nodup_len hnd hp
    refine ⟨td, fun x h => h, fun x hx => ?_⟩
    obtain ⟨j, hj, rfl⟩ := List.getElem_of_mem hx
    have := hA j hj (by omega)
    exact ⟨hp _ (List.getElem_mem hj), this.1, this.2⟩
  | n + 1, i, td, h, hn, hnd, hp, hA => by
    rw [admG] at h
    cases hi : td[i]? with
    | none =>
      rw [List.getElem?_eq_none_iff] at hi
      refine ⟨td, fun x h => h, fun x hx => ?_⟩
      obtain ⟨j, hj, rfl⟩ := List.getElem_of_mem hx
      have := hA j hj (by omega)
      exact ⟨hp _ (List.getElem_mem hj), this.1, this.2⟩
    | some pc =>
      rw [hi] at h
      dsimp only at h
      obtain ⟨hil, hipc⟩ := List.getElem?_eq_some_iff.1 hi
      by_cases c : (ask pc).2 = false
      · rw [if_pos c] at h; cases h
      rw [if_neg c] at h
      have hpc : Pc p pc := hp _ (List.mem_of_getElem? hi)
      obtain ⟨r, hr⟩ := putOuts_pre p (ask pc).1 td
      have hA2 : Asked p ask (i + 1) (putOuts p (ask pc).1 td) := by
        intro j hj hji
        have hjt : j < td.length := by omega
        have e : (putOuts p (ask pc).1 td)[j] = td[j] := by simp only [hr]; exact List.getElem_append_left hjt
        rw [e]
        by_cases hji2 : j = i
        · subst hji2
          rw [hipc]
          exact ⟨by simpa using c, fun x hx => putOuts_has p _ _ x hx⟩
        · have := hA j hjt (by omega)
          exact ⟨this.1, fun x hx => putOuts_sub p _ _ _ (this.2 x hx)⟩
      obtain ⟨T, h1, h2⟩ := adm_closed hl hq n (i + 1) _ h (by omega) (putOuts_nodup p _ _ hnd) (putOuts_mem p (Pc p) _ _ hp (fun x hx => (hl x (hq pc hpc x hx).1).1 (.inl (hq pc hpc x hx).2))) hA2
      exact ⟨T, fun x hx => h1 x (putOuts_sub p _ _ x hx), h2⟩
end
/-- All places to which a rune leads. -/
theorem adm_leads {me : List Rg → List Rg → Bool} {un : List Rg → List Rg → List Rg} {p : Pg} (hl : Leads p) (hs : Pc p p.start) (h : admG p (simpleW me un p) (p.ins.length + 1) 0 [p.start] = true) :
    ∃ T : List Int, p.start ∈ T ∧ ∀ x ∈ T, Pc p x ∧ (simpleW me un p x).2 = true ∧ ∀ y ∈ (simpleW me un p x).1, (p.get y).out ∈ T := by
  obtain ⟨T, h1, h2⟩ := adm_closed hl (fun pc hp => simpleW_list me un p hl pc hp) (p.ins.length + 1) 0 [p.start] h (by omega) (by simp) (fun x hx => by rw [List.mem_singleton.1 hx]; exact hs) (fun j h hj => by omega)
  exact ⟨T, h1 _ (by simp), h2⟩
section
variable {me : List Rg → List Rg → Bool} {un : List Rg → List Rg → List Rg} {p : Pg} {rn av : Int → Int} {lg : Bool}
theorem onW_l (me : List Rg → List Rg → Bool) (un : List Rg → List Rg → List Rg) (p : Pg) (pc : Int) (s : Ow) : ∀ x ∈ s.l, x ∈ (onW me un p pc s).2.l := by
  intro x h
  unfold onW
  repeat' split
  all_goals first | exact h | simp [h]
theorem waysW_l (me : List Rg → List Rg → Bool) (un : List Rg → List Rg → List Rg) (p : Pg) : ∀ (n : Nat) (pc : Int) (s : Ow), ∀ x ∈ s.l, x ∈ (waysW me un p n pc s).2.l
  | 0, _, s, x, h => h
  | n + 1, pc, s, x, h => by
    have ih := waysW_l me un p n
    have h1 := onW_l me un p pc s x h
    rw [waysW_new rfl rfl]
    by_cases c0 : (onW me un p pc s).1 = false
    · rw [if_pos c0]; exact h1
    rw [if_neg c0]
    by_cases c3 : (p.get pc).op = 3
    · rw [if_pos c3]
      split
      · exact ih _ _ x h1
      · exact ih _ _ x (ih _ _ x h1)
    rw [if_neg c3]
    by_cases c4 : (p.get pc).op = 4 ∨ (p.get pc).op = 5
    · rw [if_pos c4]; exact ih _ _ x h1
    rw [if_neg c4]; exact h1
/-- What a walk leaves: where it leads, its fits. -/
structure Good (p : Pg) (l : List Int) (s s' : Rn) : Prop where
  next : s'.next = s.next ∨ ∃ x ∈ l, s'.next = (p.get x).out
  nf : (s'.nf.length : Int) = p.caps
  best : ∀ b, s'.best = some b → (b.length : Int) = p.caps
theorem walkS_good : ∀ (n : Nat) (pc pl : Int) (fit : List Int) (s : Rn) (s0 : Ow), (waysW me un p n pc s0).1 = true → (fit.length : Int) = p.caps → (s.nf.length : Int) = p.caps → (∀ b, s.best = some b → (b.length : Int) = p.caps) →
    Good p (waysW me un p n pc s0).2.l s (walkS p rn av lg n pc pl fit s) := by
  intro n
  induction n with
  | zero => intro pc pl fit s s0 h; simp [waysW] at h
  | succ n ih =>
    intro pc pl fit s s0 h hf hnf hb
    have h1 := ways_on h
    by_cases c0 : s.stop = true
    · rw [walkS, if_pos c0]; exact ⟨.inl rfl, hnf, hb⟩
    rw [walkS_new (by simpa using c0) rfl]
    by_cases c1 : (p.get pc).op = 1
    · rw [if_pos c1]; exact ⟨.inl rfl, hnf, fun b he => by cases he; rw [List.length_set]; exact hf⟩
    rw [if_neg c1]
    by_cases c2 : (p.get pc).op = 2
    · rw [if_pos c2]
      split
      · refine ⟨.inr ⟨pc, ?_, rfl⟩, hf, hb⟩
        rw [ways_none h rfl ⟨by omega, by omega, by omega⟩]
        unfold onW at h1 ⊢
        by_cases d0 : s0.seen.contains pc = true
        · rw [if_pos d0] at h1; cases h1
        rw [if_neg d0, if_neg c1, if_pos c2] at h1 ⊢
        by_cases d1 : me s0.all (p.get pc).set = true
        · rw [if_pos d1] at h1; cases h1
        rw [if_neg d1]
        simp
      · exact ⟨.inl rfl, hnf, hb⟩
    rw [if_neg c2]
    by_cases c3 : (p.get pc).op = 3
    · rw [if_pos c3]
      obtain ⟨a1, a2, a3⟩ := ways_alt h rfl c3
      have i1 := ih (p.get pc).out pl fit ⟨s.steps + 1, s.best, s.next, s.nf, s.stop⟩ _ a1 hf hnf hb
      have i2 := ih (p.get pc).arg pl fit _ _ a2 hf i1.nf i1.best
      rw [a3]
      refine ⟨?_, i2.nf, i2.best⟩
      rcases i2.next with e | ⟨x, hx, e⟩
      · rw [e]
        rcases i1.next with e1 | ⟨x, hx, e1⟩
        · exact .inl e1
        · exact .inr ⟨x, waysW_l me un p _ _ _ x hx, e1⟩
      · exact .inr ⟨x, hx, e⟩
    rw [if_neg c3]
    by_cases c4 : (p.get pc).op = 4
    · rw [if_pos c4]
      obtain ⟨a1, a3⟩ := ways_one h rfl (.inl c4)
      have i1 := ih (p.get pc).out pl (fit.set (p.get pc).arg.toNat pl) ⟨s.steps + 1 + fit.length, s.best, s.next, s.nf, s.stop⟩ _ a1 (by rw [List.length_set]; exact hf) hnf hb
      rw [a3]
      exact ⟨i1.next, i1.nf, i1.best⟩
    rw [if_neg c4]
    by_cases c5 : (p.get pc).op = 5
    · rw [if_pos c5]
      split
      · obtain ⟨a1, a3⟩ := ways_one h rfl (.inr c5)
        have i1 := ih (p.get pc).out pl fit ⟨s.steps + 1, s.best, s.next, s.nf, s.stop⟩ _ a1 hf hnf hb
        rw [a3]
        exact ⟨i1.next, i1.nf, i1.best⟩
      · exact ⟨.inl rfl, hnf, hb⟩
    rw [if_neg c5]; exact ⟨.inl rfl, hnf, hb⟩
end
end Go.Proofs.YthclpabmbhpohaaDoor
namespace Go.Proofs.YthclpabmbhpohaaDoor
open Go.RowKit
set_option linter.unusedVariables false
/-- slices.Clone of whole numbers, and a store into it. -/
def CloneI (l : List Int) (w : World) (e : Ending) (w' : World) : Prop := ∃ g c, e = .returned (.slice (some ⟨g, 0, none⟩) l.length c) ∧ Owns w' w.heap.size 3 1 (.slice (some ⟨g, 0, none⟩) l.length c) (l.map i64C) ∧ Below w.heap.size w w'
theorem map_eq_of {l : List Int} {css : List (List Value)} (hl : css.length = l.length) (h : ∀ (i : Nat) (x : Int) (c : List Value), l[i]? = some x → css[i]? = some c → IntC .i64 x c) : css = l.map i64C := by
  apply List.ext_getElem?
  intro i
  rw [List.getElem?_map]
  cases hx : l[i]? with
  | none => rw [List.getElem?_eq_none_iff] at hx; simp only [Option.map_none]; rw [List.getElem?_eq_none_iff]; omega
  | some x =>
    have hi : i < css.length := by rw [hl]; exact (List.getElem?_eq_some_iff.1 hx).1
    have := h i x css[i] hx (List.getElem?_eq_getElem hi)
    rw [List.getElem?_eq_getElem hi]
    exact congrArg some this
theorem cloneI_any (ok : Nat → Prop) (w : World) (A : Option Addr) (c : Nat) (l : List Int) (h : Arr ok w 1 (IntC .i64) A l) (hN : l.length ≤ 1000000) (h0 : 0 < l.length) :
    Calls Tryd.prog 30 #[.slice A l.length c] w (CloneI l w) := by
  refine (cloneInt Int (IntC .i64) (fun x c h u hu => by rw [h] at hu; simp at hu; subst hu; rfl) ok w A c l h (by omega)).mono ?_
  rintro e w' ⟨v', css, rfl, hl, hE, hown, hb⟩
  obtain rfl := map_eq_of hl hE
  rcases hown.1.2 with ⟨rfl, h9⟩ | ⟨g, cap, cur, rfl, _⟩
  · exfalso
    obtain ⟨A3, c3, he, _⟩ := hown.shape
    simp only [Value.slice.injEq, List.length_map] at he
    omega
  · rw [List.length_map] at hown ⊢
    exact ⟨g, cap, rfl, hown, hb⟩
theorem owns_put {W : World} {B g c : Nat} {l : List Int} (h : Owns W B 3 1 (.slice (some ⟨g, 0, none⟩) l.length c) (l.map i64C)) (j : Nat) (x : Int) : Owns (W.setCell ⟨g, j, none⟩ (.int .i64 x)) B 3 1 (.slice (some ⟨g, 0, none⟩) l.length c) ((l.set j x).map i64C) := by
  have h1 := h.1
  rw [List.length_map] at h1
  have hst := (World.ownsRow.stored h1 j (.int .i64 x)).1
  have e : ∀ (l : List Int) (j : Nat), (l.map i64C).flatten.set j (.int .i64 x) = ((l.set j x).map i64C).flatten := by
    intro l
    induction l with
    | nil => intro j; rfl
    | cons y l ih =>
      intro j
      cases j with
      | zero => rfl
      | succ j => simp only [List.map_cons, List.flatten_cons, i64C, List.set_cons_succ, List.cons_append, List.nil_append, List.cons.injEq, true_and]; exact ih j
  rw [e] at hst
  refine ⟨by simpa using hst, fun c hc => ?_⟩
  obtain ⟨y, _, rfl⟩ := List.mem_map.1 hc
  rfl
theorem own_blk {w : World} {B : Nat} {e : TypeId} {sz : Nat} {v : Value} {css : List (List Value)} (h : Owns w B e sz v css) {g : Nat} (hv : v.ownBlock = some g) : ∃ cur, w.heap[g]? = some (.cells cur e (0, 0)) := by
  rcases h.1.2 with ⟨rfl, _⟩ | ⟨g', cap, cur, rfl, _, hh, _⟩
  · simp [Value.ownBlock] at hv
  · have : g' = g := by simpa [Value.ownBlock] using hv
    subst this
    exact ⟨_, hh⟩
theorem flat_i64 : ∀ l : List Int, (l.map i64C).flatten = l.map (Value.int .i64)
  | [] => rfl
  | x :: l => by rw [List.map_cons, List.flatten_cons, List.map_cons, flat_i64 l]; rfl
theorem ints_cells {ok : Nat → Prop} {w : World} {A : Addr} {l : List Int} (h : Arr ok w 1 (IntC .i64) (some A) l) : ∀ j u, (l.map (Value.int .i64))[j]? = some u → w.cell? (A.add j) = some u := by
  intro j u hj
  rw [List.getElem?_map] at hj
  cases hx : l[j]? with
  | none => rw [hx] at hj; cases hj
  | some x =>
    rw [hx] at hj
    obtain ⟨hl, rfl⟩ := List.getElem?_eq_some_iff.1 hx
    obtain ⟨ad, e, hc⟩ := ints_at h j hl
    cases e
    rw [hc]; exact hj
/-- All of a list behind an empty one: a list of one's own. -/
theorem run_copyI (w : World) (ot : TypeId) (g0 : Nat) (ok : Nat → Prop) (A : Addr) (l : List Int) (c : Nat) (h : Arr ok w 1 (IntC .i64) (some A) l) (h0 : 1 ≤ l.length) (hN : l.length ≤ 1000000) :
    ∃ g c' w', (Builtin.append_ #[35, 35] ot #[.slice (some ⟨g0, 0, none⟩) 0 0, .slice (some A) l.length c]).run Tryd.prog w = .ok (.slice (some ⟨g, 0, none⟩) l.length c') w' ∧ Owns w' w.heap.size 3 1 (.slice (some ⟨g, 0, none⟩) l.length c') (l.map i64C) ∧ Below w.heap.size w w' := by
  obtain ⟨i, hi, hz0, hz1, hz2⟩ := info_parts infoI
  obtain ⟨v', w', hr, hown, hgr⟩ := run_append_arg_grows (P := Tryd.prog) w 35 ot 3 i _ 1 8 Tryd.underlying35 hi hz0 hz1 hz2 rfl (by decide) ⟨g0, 0, none⟩ 0 0 [] rfl (fun j u hj => by simp at hj) A l.length c (l.map (Value.int .i64)) (by simp) (ints_cells h) (by omega) (by unfold maxLen; omega) (by omega)
  have hB : Below w.heap.size w w' := ⟨hgr.os, hgr.tape, hgr.output, hgr.size, fun k hk => hgr.block k hk (by simp)⟩
  rw [Nat.zero_add, List.nil_append] at hown
  have hown2 := hown
  rcases hown.2 with ⟨_, h9⟩ | ⟨g, cap, cur, rfl, _⟩
  · omega
  · exact ⟨g, cap, w', hr, ⟨by rw [flat_i64, List.length_map]; exact hown2, fun x hx => by obtain ⟨y, _, rfl⟩ := List.mem_map.1 hx; rfl⟩, hB⟩
theorem wpList_copyI {ops : Array Oper} {rest : List Oper} {o : Oper} {a : Act} {Q : Exit → Act → World → Prop} {w : World} (hgd : o.guard = none) (s x : Operand)
    (ho : o.op = .call { callee := .builtin .append, args := #[s, x], argTypes := #[35, 35] }) (g0 : Nat) (hs : a.eval s = .slice (some ⟨g0, 0, none⟩) 0 0) (ok : Nat → Prop) (A : Addr) (l : List Int) (c : Nat) (hx : a.eval x = .slice (some A) l.length c)
    (h : Arr ok w 1 (IntC .i64) (some A) l) (h0 : 1 ≤ l.length) (hN : l.length ≤ 1000000)
    (hk : ∀ g c' w', Owns w' w.heap.size 3 1 (.slice (some ⟨g, 0, none⟩) l.length c') (l.map i64C) → Below w.heap.size w w' → wpList Tryd.prog ops Q rest (a.put o.dst (.slice (some ⟨g, 0, none⟩) l.length c')) w') : wpList Tryd.prog ops Q (o :: rest) a w := by
  obtain ⟨g, c', w', hr, hown, hB⟩ := run_copyI w o.type g0 ok A l c h h0 hN
  refine wpList_plain hgd fun K hK => ?_
  unfold Oper.wp execOp
  simp only [ho, resolve, invoke, builtin, Sem.run_bind, Sem.run_pure, Result.andThen_ok, List.map_toArray, List.map_cons, List.map_nil, hs, hx]
  rw [hr]
  exact hK _ _ (hk g c' w' hown hB)
end Go.Proofs.YthclpabmbhpohaaDoor
namespace Go.Proofs.YthclpabmbhpohaaDoor
open Go.RowKit
set_option linter.unusedVariables false
theorem grown_trans {A B C : World} {r : Option Nat} (h : A.grownBy B r) (k : B.grownBy C r) : A.grownBy C r :=
  ⟨k.os.trans h.os, k.tape.trans h.tape, k.output.trans h.output, Nat.le_trans h.size k.size, fun b hb hne => (k.block b (Nat.lt_of_lt_of_le hb h.size) hne).trans (h.block b hb hne)⟩
theorem grown_below {A B : World} (h : Below A.heap.size A B) (r : Option Nat) : A.grownBy B r := ⟨h.os, h.tape, h.output, h.size, fun b hb _ => h.block b hb⟩
theorem grown_al {A B : World} {r : Option Nat} (h : A.grownBy B r) (o : Obj) : A.grownBy (B.alloc o) r := grown_trans h (grown_below (below_al (Below.refl _ _) o) r)
theorem grown_set {A B : World} {G : Nat} (h : A.grownBy B (some G)) (j : Nat) (v : Value) : A.grownBy (B.setCell ⟨G, j, none⟩ v) (some G) := grown_trans h (grown_set0 B G j v)
/-- A store into a block that is new. -/
theorem grown_new {A B : World} {r : Option Nat} (h : A.grownBy B r) {g : Nat} (hg : A.heap.size ≤ g) (j : Nat) (v : Value) : A.grownBy (B.setCell ⟨g, j, none⟩ v) r :=
  ⟨h.os, h.tape, h.output, by have := h.size; simpa [World.setCell] using this, fun b hb hne => (set_ne0 B v (by show b ≠ g; omega)).trans (h.block b hb hne)⟩
theorem below_of_grown {A B : World} {G : Nat} (h : A.grownBy B (some G)) (hG : G ≤ A.heap.size) : Below G A B := ⟨h.os, h.tape, h.output, h.size, fun b hb => h.block b (by omega) (fun e => by cases e; omega)⟩
/-- A list of places, in blocks other than G. -/
def FitL (W : World) (G : Nat) (v : Value) (l : List Int) : Prop := ∃ A c, v = .slice A l.length c ∧ l.length ≤ c ∧ c ≤ maxLen ∧ Arr (fun k => k ≠ G) W 1 (IntC .i64) A l
theorem FitL.grown {W W' : World} {G : Nat} {v : Value} {l : List Int} (h : FitL W G v l) (hg : W.grownBy W' (some G)) : FitL W' G v l := by
  obtain ⟨A, c, h1, h2, h3, h4⟩ := h
  exact ⟨A, c, h1, h2, h3, h4.move (fun b hb hlt => ⟨hg.block b hlt (fun e => hb (by cases e; rfl)), hb⟩) (by omega)⟩
def BestV (W : World) (G : Nat) (v : Value) : Option (List Int) → Prop
  | none => v = .slice none 0 0
  | some l => FitL W G v l ∧ 2 ≤ l.length
theorem BestV.grown {W W' : World} {G : Nat} {v : Value} {b : Option (List Int)} (h : BestV W G v b) (hg : W.grownBy W' (some G)) : BestV W' G v b := by
  cases b with
  | none => exact h
  | some l => exact ⟨h.1.grown hg, h.2⟩
structure RnAt (W : World) (G : Nat) (u0 u1 u2 : Value) (ia : Addr) (lg : Bool) (bv nv : Value) (s : Rn) : Prop where
  blk : W.heap[G]? = some (.cells #[u0, u1, u2, .pointer (some ia), .bool lg, .int .i64 s.steps, bv, .int .i64 s.next, nv, .bool s.stop] 92 (0, 0))
  best : BestV W G bv s.best
  nf : FitL W G nv s.nf
section
variable {W W' : World} {G : Nat} {u0 u1 u2 : Value} {ia : Addr} {lg : Bool} {bv nv bv' nv' : Value} {s : Rn}
theorem RnAt.below (h : RnAt W G u0 u1 u2 ia lg bv nv s) (hb : Below W.heap.size W W') : RnAt W' G u0 u1 u2 ia lg bv nv s :=
  ⟨(hb.block _ (heap_lt h.blk)).trans h.blk, h.best.grown (grown_below hb _), h.nf.grown (grown_below hb _)⟩
theorem RnAt.setSteps (h : RnAt W G u0 u1 u2 ia lg bv nv s) (n : Int) : RnAt (W.setCell ⟨G, 5, none⟩ (.int .i64 n)) G u0 u1 u2 ia lg bv nv ⟨n, s.best, s.next, s.nf, s.stop⟩ :=
  ⟨by rw [heap_set0 h.blk 5]; simp, h.best.grown (grown_set0 W G 5 _), h.nf.grown (grown_set0 W G 5 _)⟩
theorem RnAt.setBest {b : Option (List Int)} (h : RnAt W G u0 u1 u2 ia lg bv nv s) (hb : BestV W G bv' b) : RnAt (W.setCell ⟨G, 6, none⟩ bv') G u0 u1 u2 ia lg bv' nv ⟨s.steps, b, s.next, s.nf, s.stop⟩ :=
  ⟨by rw [heap_set0 h.blk 6]; simp, hb.grown (grown_set0 W G 6 _), h.nf.grown (grown_set0 W G 6 _)⟩
theorem RnAt.setNext {l : List Int} (h : RnAt W G u0 u1 u2 ia lg bv nv s) (n : Int) (hb : FitL W G nv' l) : RnAt ((W.setCell ⟨G, 7, none⟩ (.int .i64 n)).setCell ⟨G, 8, none⟩ nv') G u0 u1 u2 ia lg bv nv' ⟨s.steps, s.best, n, l, s.stop⟩ :=
  ⟨by rw [heap_set0 (heap_set0 h.blk 7 _) 8]; simp, (h.best.grown (grown_set0 W G 7 _)).grown (grown_set0 _ G 8 _), (hb.grown (grown_set0 W G 7 _)).grown (grown_set0 _ G 8 _)⟩
theorem RnAt.setStop (h : RnAt W G u0 u1 u2 ia lg bv nv s) (b : Bool) : RnAt (W.setCell ⟨G, 9, none⟩ (.bool b)) G u0 u1 u2 ia lg bv nv ⟨s.steps, s.best, s.next, s.nf, b⟩ :=
  ⟨by rw [heap_set0 h.blk 9]; simp, h.best.grown (grown_set0 W G 9 _), h.nf.grown (grown_set0 W G 9 _)⟩
structure RnCells (W : World) (G : Nat) (u0 : Value) (ia : Addr) (lg : Bool) (bv nv : Value) (s : Rn) : Prop where
  c0 : W.cell? ⟨G, 0, none⟩ = some u0
  c3 : W.cell? ⟨G, 3, none⟩ = some (.pointer (some ia))
  c4 : W.cell? ⟨G, 4, none⟩ = some (.bool lg)
  c5 : W.cell? ⟨G, 5, none⟩ = some (.int .i64 s.steps)
  c6 : W.cell? ⟨G, 6, none⟩ = some bv
  c7 : W.cell? ⟨G, 7, none⟩ = some (.int .i64 s.next)
  c8 : W.cell? ⟨G, 8, none⟩ = some nv
  c9 : W.cell? ⟨G, 9, none⟩ = some (.bool s.stop)
  f : ∀ j, W.frozen? ⟨G, j, none⟩ = false
  n0 : G < W.heap.size
theorem RnAt.cells (h : RnAt W G u0 u1 u2 ia lg bv nv s) : RnCells W G u0 ia lg bv nv s :=
  ⟨by rw [cell_of_blk h.blk]; rfl, by rw [cell_of_blk h.blk]; rfl, by rw [cell_of_blk h.blk]; rfl, by rw [cell_of_blk h.blk]; rfl, by rw [cell_of_blk h.blk]; rfl, by rw [cell_of_blk h.blk]; rfl, by rw [cell_of_blk h.blk]; rfl, by rw [cell_of_blk h.blk]; rfl, frozenOf h.blk, heap_lt h.blk⟩
end
theorem owns_fit {W : World} {B G : Nat} {v : Value} {l : List Int} (h : Owns W B 3 1 v (l.map i64C)) (hB : G < B) : FitL W G v l := by
  have h5 := h
  obtain ⟨A, c, rfl, h1, h2⟩ := h.shape
  rw [List.length_map] at h1 h5 ⊢
  exact ⟨A, c, rfl, h1, h2, (ownI64_arr0 h5).move (fun k hk _ => ⟨rfl, by omega⟩) (by omega)⟩
def RnPost (G : Nat) (u0 u1 u2 : Value) (ia : Addr) (lg : Bool) (s' : Rn) (W : World) (e : Ending) (W' : World) : Prop := e = .returned (.tuple #[]) ∧ (∃ bv nv, RnAt W' G u0 u1 u2 ia lg bv nv s') ∧ W.grownBy W' (some G)
def BIG : Int := 1000000000000000000
/-- The walk's contract, for one fuel. -/
def WalkOK (p : Pg) (G : Nat) (u0 u1 u2 : Value) (ia : Addr) (rs : List (Int × Int)) (lg : Bool) (w0 : World) (n : Nat) : Prop :=
  ∀ (pc pl : Int) (fit : List Int) (fv : Value) (s : Rn) (s0 : Ow) (bv nv : Value) (W : World), (waysW meetB un2 p n pc s0).1 = true → Pc p pc → 0 ≤ pl → pl ≤ 1000000 → RnAt W G u0 u1 u2 ia lg bv nv s → FitL W G fv fit → (fit.length : Int) = p.caps → Below G w0 W → 0 ≤ s.steps → potR p (1 + fit.length) s0 s ≤ BIG →
    Calls Tryd.prog 42 #[.pointer (some ⟨G, 0, none⟩), .int .i64 pc, .int .i64 pl, fv] W (RnPost G u0 u1 u2 ia lg (walkS p (runeAt rs) (atOf rs) lg n pc pl fit s) W)
structure Ctx (p : Pg) (G : Nat) (u0 u1 u2 : Value) (ia : Addr) (rs : List (Int × Int)) (w0 : World) : Prop where
  pg : PgC (fun k => k < G) w0 p [u0, u1, u2]
  inp : InpC (fun k => k < G) w0 ia rs
  size : G ≤ w0.heap.size
  chk : checkS rightR p = 0
  len : rs.length ≤ 1000000
set_option maxRecDepth 100000 in
set_option maxHeartbeats 4000000 in
theorem walk_stop (p : Pg) (G : Nat) (u0 u1 u2 : Value) (ia : Addr) (rs : List (Int × Int)) (lg : Bool) (w0 : World) (C : Ctx p G u0 u1 u2 ia rs w0) (n : Nat)
    (i : Nat) (pl : Int) (fit : List Int) (fv : Value) (s : Rn) (s0 : Ow) (bv nv : Value) (W : World) (hws : (waysW meetB un2 p (n + 1) i s0).1 = true) (hp : Pc p i) (hpl : 0 ≤ pl) (hpl2 : pl ≤ 1000000) (h : RnAt W G u0 u1 u2 ia lg bv nv s) (hf : FitL W G fv fit) (hfl : (fit.length : Int) = p.caps) (hB : Below G w0 W) (hst : 0 ≤ s.steps) (hpot : potR p (1 + fit.length) s0 s ≤ BIG) (hs : s.stop = true) :
    Calls Tryd.prog 42 #[.pointer (some ⟨G, 0, none⟩), .int .i64 i, .int .i64 pl, fv] W (RnPost G u0 u1 u2 ia lg (walkS p (runeAt rs) (atOf rs) lg (n + 1) i pl fit s) W) := by
  obtain ⟨c0, c3, c4, c5, c6, c7, c8, c9, f, n0⟩ := h.cells
  have f5 := f 5
  have hi : i < p.ins.length := by have := hp.2; omega
  have hsb : s.steps ≤ 1000000000000000000 := by unfold potR BIG at hpot; omega
  obtain ⟨F, cf, rfl, hf1, hf2, hf3⟩ := hf
  rw [show walkS p (runeAt rs) (atOf rs) lg (n + 1) i pl fit s = ⟨s.steps + 1, s.best, s.next, s.nf, s.stop⟩ by rw [walkS, if_pos hs]]
  rw [hs] at c9
  have HA := Lib.hid h
  clear h hf3 f hB C hws hpot hs
  go_enter Tryd.func42, Tryd.ntmps42
  go_wp2_with fail
  go_end0
  exact ⟨rfl, ⟨_, _, HA.out.setSteps (s.steps + 1)⟩, grown_set0 _ _ _ _⟩
set_option maxRecDepth 100000 in
set_option maxHeartbeats 4000000 in
theorem walk_fail (p : Pg) (G : Nat) (u0 u1 u2 : Value) (ia : Addr) (rs : List (Int × Int)) (lg : Bool) (w0 : World) (C : Ctx p G u0 u1 u2 ia rs w0) (n : Nat)
    (i : Nat) (pl : Int) (fit : List Int) (fv : Value) (s : Rn) (s0 : Ow) (bv nv : Value) (W : World) (hws : (waysW meetB un2 p (n + 1) i s0).1 = true) (hp : Pc p i) (hpl : 0 ≤ pl) (hpl2 : pl ≤ 1000000) (h : RnAt W G u0 u1 u2 ia lg bv nv s) (hf : FitL W G fv fit) (hfl : (fit.length : Int) = p.caps) (hB : Below G w0 W) (hst : 0 ≤ s.steps) (hpot : potR p (1 + fit.length) s0 s ≤ BIG) (hs : s.stop = false) (ho : (p.get i).op ≠ 1 ∧ (p.get i).op ≠ 2 ∧ (p.get i).op ≠ 3 ∧ (p.get i).op ≠ 4 ∧ (p.get i).op ≠ 5) :
    Calls Tryd.prog 42 #[.pointer (some ⟨G, 0, none⟩), .int .i64 i, .int .i64 pl, fv] W (RnPost G u0 u1 u2 ia lg (walkS p (runeAt rs) (atOf rs) lg (n + 1) i pl fit s) W) := by
  obtain ⟨c0, c3, c4, c5, c6, c7, c8, c9, f, n0⟩ := h.cells
  have f5 := f 5
  have hi : i < p.ins.length := by have := hp.2; omega
  have hsb : s.steps ≤ 1000000000000000000 := by unfold potR BIG at hpot; omega
  obtain ⟨F, cf, rfl, hf1, hf2, hf3⟩ := hf
  have hB0 : ∀ {X : World}, W.grownBy X (some G) → Below G w0 X := fun hg => hB.trans (below_of_grown hg (by omega))
  obtain ⟨ad, c, B3, d3, hps, hc1, hcm, hd3, hd3m, hadb, hins⟩ := ins_at C.pg C.size i hi
  simp only [List.cons.injEq, and_true] at hps
  obtain ⟨rfl, rfl, rfl⟩ := hps
  have hge := get_eq p i hi
  have hg9 := check_good C.chk hp
  have hck := check_ok C.chk
  have hfl4 : fit.length ≤ 4002 ∧ 2 ≤ fit.length := by have := hck.2.2.2.1; have := hck.2.2.2.2.1; omega
  rw [hs] at c9
  have h1 := h.setSteps (s.steps + 1)
  have hgr1 := grown_set0 W G 5 (.int .i64 (s.steps + 1))
  have hB1 := hB.trans (below_of_grown hgr1 (by omega))
  obtain ⟨hset, g0, g1, g2, g3, g4⟩ := hins _ hB1
  obtain ⟨_, k0, k1, k2, k3, k4⟩ := hins _ hB
  have hnb : ((ad.add (i * 5)).block = G) = False := by rw [add_block]; simp; omega
  obtain ⟨q0, q3, q4, q5, q6, q7, q8, q9x, qf, m0⟩ := h1.cells
  have q9 : (W.setCell ⟨G, 5, none⟩ (.int .i64 (s.steps + 1))).cell? ⟨G, 9, none⟩ = some (.bool false) := by rw [← hs]; exact q9x
  clear q9x
  have qf6 := qf 6
  have qf7 := qf 7
  have qf8 := qf 8
  have qf9 := qf 9
  have qf5 := qf 5
  have hfit1 := FitL.grown ⟨F, cf, rfl, hf1, hf2, hf3⟩ hgr1
  rw [show walkS p (runeAt rs) (atOf rs) lg (n + 1) i pl fit s = ⟨s.steps + 1, s.best, s.next, s.nf, s.stop⟩ by rw [walkS_new hs hge]; rw [← hge, if_neg ho.1, if_neg ho.2.1, if_neg ho.2.2.1, if_neg ho.2.2.2.1, if_neg ho.2.2.2.2]]
  have H1 := Lib.hid (And.intro h1 (And.intro hgr1 (And.intro hB1 (And.intro hset (And.intro hfit1 hws)))))
  have hinp := C.inp.move (w' := W.setCell ⟨G, 5, none⟩ (.int .i64 (s.steps + 1))) (ok' := fun k => k < G) (fun k hk hlt => ⟨hB1.block k hk, hk⟩)
  clear h h1 hgr1 hB1 hset hfit1 hf3 f qf hB hws hpot hs hins hck
  try rw [hge] at ho
  try rw [hge] at hg9
  clear hge
  generalize p.ins[i] = x at *
  have o1 : (x.op == 1) = false := by simp; omega
  have o2 : (x.op == 2) = false := by simp; omega
  have o3 : (x.op == 3) = false := by simp; omega
  have o4 : (x.op == 4) = false := by simp; omega
  have o5 : (x.op == 5) = false := by simp; omega
  have HO := Lib.hid (And.intro ho hg9)
  clear ho hg9
  go_enter Tryd.func42, Tryd.ntmps42
  go_wp2_with fail
  go_end0
  exact ⟨rfl, ⟨_, _, H1.out.1.below (below_al (Below.refl _ _) _)⟩, grown_al H1.out.2.1 _⟩
set_option maxRecDepth 100000 in
set_option maxHeartbeats 4000000 in
theorem walk_match (p : Pg) (G : Nat) (u0 u1 u2 : Value) (ia : Addr) (rs : List (Int × Int)) (lg : Bool) (w0 : World) (C : Ctx p G u0 u1 u2 ia rs w0) (n : Nat)
    (i : Nat) (pl : Int) (fit : List Int) (fv : Value) (s : Rn) (s0 : Ow) (bv nv : Value) (W : World) (hws : (waysW meetB un2 p (n + 1) i s0).1 = true) (hp : Pc p i) (hpl : 0 ≤ pl) (hpl2 : pl ≤ 1000000) (h : RnAt W G u0 u1 u2 ia lg bv nv s) (hf : FitL W G fv fit) (hfl : (fit.length : Int) = p.caps) (hB : Below G w0 W) (hst : 0 ≤ s.steps) (hpot : potR p (1 + fit.length) s0 s ≤ BIG) (hs : s.stop = false) (ho : (p.get i).op = 1) :
    Calls Tryd.prog 42 #[.pointer (some ⟨G, 0, none⟩), .int .i64 i, .int .i64 pl, fv] W (RnPost G u0 u1 u2 ia lg (walkS p (runeAt rs) (atOf rs) lg (n + 1) i pl fit s) W) := by
  obtain ⟨c0, c3, c4, c5, c6, c7, c8, c9, f, n0⟩ := h.cells
  have f5 := f 5
  have hi : i < p.ins.length := by have := hp.2; omega
  have hsb : s.steps ≤ 1000000000000000000 := by unfold potR BIG at hpot; omega
  obtain ⟨F, cf, rfl, hf1, hf2, hf3⟩ := hf
  have hB0 : ∀ {X : World}, W.grownBy X (some G) → Below G w0 X := fun hg => hB.trans (below_of_grown hg (by omega))
  obtain ⟨ad, c, B3, d3, hps, hc1, hcm, hd3, hd3m, hadb, hins⟩ := ins_at C.pg C.size i hi
  simp only [List.cons.injEq, and_true] at hps
  obtain ⟨rfl, rfl, rfl⟩ := hps
  have hge := get_eq p i hi
  have hg9 := check_good C.chk hp
  have hck := check_ok C.chk
  have hfl4 : fit.length ≤ 4002 ∧ 2 ≤ fit.length := by have := hck.2.2.2.1; have := hck.2.2.2.2.1; omega
  rw [hs] at c9
  have h1 := h.setSteps (s.steps + 1)
  have hgr1 := grown_set0 W G 5 (.int .i64 (s.steps + 1))
  have hB1 := hB.trans (below_of_grown hgr1 (by omega))
  obtain ⟨hset, g0, g1, g2, g3, g4⟩ := hins _ hB1
  obtain ⟨_, k0, k1, k2, k3, k4⟩ := hins _ hB
  have hnb : ((ad.add (i * 5)).block = G) = False := by rw [add_block]; simp; omega
  obtain ⟨q0, q3, q4, q5, q6, q7, q8, q9x, qf, m0⟩ := h1.cells
  have q9 : (W.setCell ⟨G, 5, none⟩ (.int .i64 (s.steps + 1))).cell? ⟨G, 9, none⟩ = some (.bool false) := by rw [← hs]; exact q9x
  clear q9x
  have qf6 := qf 6
  have qf7 := qf 7
  have qf8 := qf 8
  have qf9 := qf 9
  have qf5 := qf 5
  have hfit1 := FitL.grown ⟨F, cf, rfl, hf1, hf2, hf3⟩ hgr1
  rw [show walkS p (runeAt rs) (atOf rs) lg (n + 1) i pl fit s = ⟨s.steps + 1, some (fit.set 1 pl), s.next, s.nf, !lg⟩ by rw [walkS_new hs hge]; rw [← hge, if_pos ho]]
  have H1 := Lib.hid (And.intro h1 (And.intro hgr1 (And.intro hB1 (And.intro hset (And.intro hfit1 hws)))))
  have hinp := C.inp.move (w' := W.setCell ⟨G, 5, none⟩ (.int .i64 (s.steps + 1))) (ok' := fun k => k < G) (fun k hk hlt => ⟨hB1.block k hk, hk⟩)
  clear h h1 hgr1 hB1 hset hfit1 hf3 f qf hB hws hpot hs hins hck
  try rw [hge] at ho
  try rw [hge] at hg9
  clear hge
  generalize p.ins[i] = x at *
  have o1 : (x.op == 1) = true := by rw [ho]; rfl
  have o2 : (x.op == 2) = false := by rw [ho]; rfl
  have o3 : (x.op == 3) = false := by rw [ho]; rfl
  have o4 : (x.op == 4) = false := by rw [ho]; rfl
  have o5 : (x.op == 5) = false := by rw [ho]; rfl
  have HO := Lib.hid (And.intro ho hg9)
  clear ho hg9
  have hcl := fun (X : World) (hX : (W.setCell ⟨G, 5, none⟩ (.int .i64 (s.steps + 1))).grownBy X (some G)) => cloneI_any (fun k => k ≠ G) X F cf fit (by
    obtain ⟨A9, c9, e9, _, _, h9⟩ := H1.out.2.2.2.2.1.grown hX
    cases e9; exact h9) (by omega) (by omega)
  go_enter Tryd.func42, Tryd.ntmps42
  go_wp2_with fail
  refine (hcl _ (grown_below (below_al (Below.refl _ _) _) _)).mono ?_
  clear hcl
  rintro e w2 ⟨g, cg, rfl, hown, hb2⟩
  dsimp only
  have h2 := (H1.out.1.below (below_al (Below.refl _ _) _)).below hb2
  have hgn : W.heap.size ≤ g := by have := (hown.lt g rfl).1; simp [World.setCell] at this; omega
  have hgY := grown_trans (grown_al (World.grownBy.refl (W.setCell ⟨G, 5, none⟩ (.int .i64 (s.steps + 1))) (some G)) _) (grown_below hb2 (some G))
  have hGg : G < g := by omega
  obtain ⟨cs2, hk2⟩ := own_blk hown rfl
  have hcell1 : ∃ u, w2.cell? ⟨g, 1, none⟩ = some u := by
    obtain ⟨ad9, e9, hc9⟩ := ints_at (ownI64_arr0 hown) 1 (by omega)
    cases e9
    exact ⟨_, by simpa [Addr.add] using hc9⟩
  obtain ⟨u9, hcell1⟩ := hcell1
  clear q0 q3 q4 q5 q6 q7 q8 q9 m0 qf6 qf7 qf8 qf9 qf5 g0 g1 g2 g3 g4 k0 k1 k2 k3 k4 c0 c3 c4 c5 c6 c7 c8 c9 f5
  obtain ⟨q0, q3, q4, q5, q6, q7, q8, q9, qf, m0⟩ := h2.cells
  have qf6 := qf 6
  have qf9 := qf 9
  have hgf : w2.frozen? ⟨g, 1, none⟩ = false := frozenOf hk2 1
  have hng := heap_lt hk2
  have hGg' : (g = G) = False := by simp; omega
  have hGg2 : (G = g) = False := by simp; omega
  have H2 := Lib.hid (And.intro h2 (And.intro hgY hown))
  clear h2 hgY hown hb2 hk2 qf
  go_wp2_with fail
  go_end0
  obtain ⟨h2, hgY, hown⟩ := H2.out
  have hgn' : (W.setCell ⟨G, 5, none⟩ (.int .i64 (s.steps + 1))).heap.size ≤ g := by simpa [World.setCell] using hgn
  have hX := grown_set (grown_new (grown_set hgY 6 (.slice (some ⟨g, 0, none⟩) fit.length cg)) hgn' 1 (.int .i64 pl)) 9 (.bool !lg)
  refine ⟨rfl, ⟨.slice (some ⟨g, 0, none⟩) fit.length cg, _, ⟨?_, ⟨?_, by rw [List.length_set]; omega⟩, H1.out.1.nf.grown hX⟩⟩, grown_trans H1.out.2.1 hX⟩
  · rw [heap_set0 ((set_ne0 _ _ (by show G ≠ g; omega)).trans (heap_set0 h2.blk 6 _)) 9]; simp
  · exact (owns_fit (owns_put (owns_grown0 hown (grown_set0 w2 G 6 _) (by simp [World.setCell]; omega)) 1 pl) (by simp [World.setCell]; omega)).grown (grown_set0 _ G 9 _)
set_option maxRecDepth 100000 in
set_option maxHeartbeats 4000000 in
theorem walk_setyes (p : Pg) (G : Nat) (u0 u1 u2 : Value) (ia : Addr) (rs : List (Int × Int)) (lg : Bool) (w0 : World) (C : Ctx p G u0 u1 u2 ia rs w0) (n : Nat)
    (i : Nat) (pl : Int) (fit : List Int) (fv : Value) (s : Rn) (s0 : Ow) (bv nv : Value) (W : World) (hws : (waysW meetB un2 p (n + 1) i s0).1 = true) (hp : Pc p i) (hpl : 0 ≤ pl) (hpl2 : pl ≤ 1000000) (h : RnAt W G u0 u1 u2 ia lg bv nv s) (hf : FitL W G fv fit) (hfl : (fit.length : Int) = p.caps) (hB : Below G w0 W) (hst : 0 ≤ s.steps) (hpot : potR p (1 + fit.length) s0 s ≤ BIG) (hs : s.stop = false) (ho : (p.get i).op = 2) (hh : hasB (p.get i).set (runeAt rs pl) = true) :
    Calls Tryd.prog 42 #[.pointer (some ⟨G, 0, none⟩), .int .i64 i, .int .i64 pl, fv] W (RnPost G u0 u1 u2 ia lg (walkS p (runeAt rs) (atOf rs) lg (n + 1) i pl fit s) W) := by
  obtain ⟨c0, c3, c4, c5, c6, c7, c8, c9, f, n0⟩ := h.cells
  have f5 := f 5
  have hi : i < p.ins.length := by have := hp.2; omega
  have hsb : s.steps ≤ 1000000000000000000 := by unfold potR BIG at hpot; omega
  obtain ⟨F, cf, rfl, hf1, hf2, hf3⟩ := hf
  have hB0 : ∀ {X : World}, W.grownBy X (some G) → Below G w0 X := fun hg => hB.trans (below_of_grown hg (by omega))
  obtain ⟨ad, c, B3, d3, hps, hc1, hcm, hd3, hd3m, hadb, hins⟩ := ins_at C.pg C.size i hi
  simp only [List.cons.injEq, and_true] at hps
  obtain ⟨rfl, rfl, rfl⟩ := hps
  have hge := get_eq p i hi
  have hg9 := check_good C.chk hp
  have hck := check_ok C.chk
  have hfl4 : fit.length ≤ 4002 ∧ 2 ≤ fit.length := by have := hck.2.2.2.1; have := hck.2.2.2.2.1; omega
  rw [hs] at c9
  have h1 := h.setSteps (s.steps + 1)
  have hgr1 := grown_set0 W G 5 (.int .i64 (s.steps + 1))
  have hB1 := hB.trans (below_of_grown hgr1 (by omega))
  obtain ⟨hset, g0, g1, g2, g3, g4⟩ := hins _ hB1
  obtain ⟨_, k0, k1, k2, k3, k4⟩ := hins _ hB
  have hnb : ((ad.add (i * 5)).block = G) = False := by rw [add_block]; simp; omega
  obtain ⟨q0, q3, q4, q5, q6, q7, q8, q9x, qf, m0⟩ := h1.cells
  have q9 : (W.setCell ⟨G, 5, none⟩ (.int .i64 (s.steps + 1))).cell? ⟨G, 9, none⟩ = some (.bool false) := by rw [← hs]; exact q9x
  clear q9x
  have qf6 := qf 6
  have qf7 := qf 7
  have qf8 := qf 8
  have qf9 := qf 9
  have qf5 := qf 5
  have hfit1 := FitL.grown ⟨F, cf, rfl, hf1, hf2, hf3⟩ hgr1
  rw [show walkS p (runeAt rs) (atOf rs) lg (n + 1) i pl fit s = ⟨s.steps + 1, s.best, (p.get i).out, fit, s.stop⟩ by rw [walkS_new hs hge]; rw [← hge, if_neg (by omega), if_pos ho, if_pos hh]]
  have H1 := Lib.hid (And.intro h1 (And.intro hgr1 (And.intro hB1 (And.intro hset (And.intro hfit1 hws)))))
  have hinp := C.inp.move (w' := W.setCell ⟨G, 5, none⟩ (.int .i64 (s.steps + 1))) (ok' := fun k => k < G) (fun k hk hlt => ⟨hB1.block k hk, hk⟩)
  clear h h1 hgr1 hB1 hset hfit1 hf3 f qf hB hws hpot hs hins hck
  try rw [hge] at ho
  try rw [hge] at hg9
  try rw [hge]
  rw [hge] at hh
  clear hge
  generalize p.ins[i] = x at *
  have o1 : (x.op == 1) = false := by rw [ho]; rfl
  have o2 : (x.op == 2) = true := by rw [ho]; rfl
  have o3 : (x.op == 3) = false := by rw [ho]; rfl
  have o4 : (x.op == 4) = false := by rw [ho]; rfl
  have o5 : (x.op == 5) = false := by rw [ho]; rfl
  have HO := Lib.hid (And.intro ho hg9)
  clear ho hg9
  have hsl := HO.out.2.set HO.out.1
  have hsl2 := setOK_len hsl.1 0 (fun y hy => (hsl.1.1 y hy).1) (by omega)
  clear hsl
  go_enter Tryd.func42, Tryd.ntmps42
  go_wp2_with fail
  obtain ⟨X, hX⟩ : ∃ X, ((W.setCell ⟨G, 5, none⟩ (.int .i64 (s.steps + 1))).alloc (.cells #[.int .i64 x.op, .int .i64 x.out, .int .i64 x.arg, .slice B3 x.set.length d3, .int .i64 x.at_] 64)) = X := ⟨_, rfl⟩
  have hsz : (W.setCell ⟨G, 5, none⟩ (.int .i64 (s.steps + 1))).heap.size = W.heap.size := by simp [World.setCell]
  have hx0 := heap_new1 (W.setCell ⟨G, 5, none⟩ (.int .i64 (s.steps + 1))) (.cells #[.int .i64 x.op, .int .i64 x.out, .int .i64 x.arg, .slice B3 x.set.length d3, .int .i64 x.at_] 64)
  rw [hsz, hX] at hx0
  have hxS := heap_lt hx0
  have hX1 := H1.out.1.below (below_al (Below.refl _ _) (.cells #[.int .i64 x.op, .int .i64 x.out, .int .i64 x.arg, .slice B3 x.set.length d3, .int .i64 x.at_] 64))
  have hXB : Below (W.setCell ⟨G, 5, none⟩ (.int .i64 (s.steps + 1))).heap.size (W.setCell ⟨G, 5, none⟩ (.int .i64 (s.steps + 1))) X := by rw [← hX]; exact below_al (Below.refl _ _) _
  rw [hX] at hX1
  obtain ⟨x0, x1, x2, x3, x4⟩ := cells5 hx0
  clear q0 q3 q4 q5 q6 q7 q8 q9 m0 qf6 qf7 qf8 qf9 qf5 g0 g1 g2 g3 g4 k0 k1 k2 k3 k4 c0 c3 c4 c5 c6 c7 c8 c9 f5 hnb hx0
  obtain ⟨q0, q3, q4, q5, q6, q7, q8, q9, qf, m0⟩ := hX1.cells
  have hin2 := hinp.move (w' := X) (ok' := fun k => k < G) (fun k hk hlt => ⟨hXB.block k hlt, hk⟩)
  have hset2 := H1.out.2.2.2.1.move (w' := X) (ok' := fun k => k < G) (fun k hk hlt => ⟨hXB.block k hlt, hk⟩) (by omega)
  have HX := Lib.hid (And.intro hX1 (And.intro hXB (And.intro hin2 hset2)))
  rw [hX]
  clear hX hX1 hXB hin2 hset2 hinp
  refine wp_region_scr (fun W' => Below X.heap.size X W') [(true, 0, 53), (true, 1, 54), (true, 2, 55), (true, 3, 56), (true, 4, 57), (true, 5, 58), (true, 6, 59), (true, 7, 60), (true, 8, 61), (false, 9, 62), (false, 10, 63)] (by kernel_rfl) (by kernel_rfl) (fun _ _ _ _ _ h => h) rfl (by kernel_rfl) ?_
  have HV := Lib.hid (show Below X.heap.size X X.drew from (Below.refl _ _).drew)
  refine Scr.take (v := .pointer (some ⟨W.heap.size, 3, none⟩)) rfl rfl (yw_pure (by rfl) (fun _ => by go_simp)) HV.out ?_
  simp only [Act.put, List.setIfInBounds_toArray, List.set_cons_zero, List.set_cons_succ]
  refine Scr.take (v := .slice B3 x.set.length d3) rfl rfl (yw_cell 61 _ rfl ⟨W.heap.size, 3, none⟩ (.slice B3 x.set.length d3) rfl (by rfl) _ Tryd.underlying61 rfl (fun W hS => (World.cell?_of_block (hS.block _ hxS)).trans x3)) HV.out ?_
  simp only [Act.put, List.setIfInBounds_toArray, List.set_cons_zero, List.set_cons_succ]
  refine Scr.take (v := .pointer (some ⟨G, 0, none⟩)) rfl rfl (yw_pure (by rfl) (fun _ => by go_simp)) HV.out ?_
  simp only [Act.put, List.setIfInBounds_toArray, List.set_cons_zero, List.set_cons_succ]
  refine Scr.take (v := .pointer (some ⟨G, 0, none⟩)) rfl rfl (yw_pure (by rfl) (fun _ => by go_simp)) HV.out ?_
  simp only [Act.put, List.setIfInBounds_toArray, List.set_cons_zero, List.set_cons_succ]
  refine Scr.take (v := .pointer (some ⟨G, 3, none⟩)) rfl rfl (yw_pure (by rfl) (fun _ => by go_simp)) HV.out ?_
  simp only [Act.put, List.setIfInBounds_toArray, List.set_cons_zero, List.set_cons_succ]
  refine Scr.take (v := .pointer (some ia)) rfl rfl (yw_cell 32 _ rfl ⟨G, 3, none⟩ (.pointer (some ia)) rfl (by rfl) _ Tryd.underlying32 rfl (fun W hS => (World.cell?_of_block (hS.block _ m0)).trans q3)) HV.out ?_
  simp only [Act.put, List.setIfInBounds_toArray, List.set_cons_zero, List.set_cons_succ]
  refine Scr.take (v := .pointer (some ia)) rfl rfl (yw_pure (by rfl) (fun _ => by go_simp)) HV.out ?_
  simp only [Act.put, List.setIfInBounds_toArray, List.set_cons_zero, List.set_cons_succ]
  refine Scr.take (v := .pointer (some ia)) rfl rfl (yw_pure (by rfl) (fun _ => by go_simp)) HV.out ?_
  simp only [Act.put, List.setIfInBounds_toArray, List.set_cons_zero, List.set_cons_succ]
  refine Scr.take (v := .int .i64 pl) rfl rfl (yw_pure (by rfl) (fun _ => by go_simp)) HV.out ?_
  simp only [Act.put, List.setIfInBounds_toArray, List.set_cons_zero, List.set_cons_succ]
  refine Scr.run rfl (by rfl) (fun K hK => ?_)
  go_simp
  refine (rune_any (fun k => k < G) X.drew ia rs (HX.out.2.2.1.move (fun k hk _ => ⟨rfl, hk⟩)) pl).mono ?_
  rintro e w3 ⟨rfl, rfl⟩
  dsimp only
  refine hK _ _ HV.out ?_
  clear hK K
  have hhas := has_any (fun k => k < G) X.drew (runeAt rs pl) x.set B3 d3 (HX.out.2.2.2.move (fun k hk _ => ⟨rfl, hk⟩) (by omega)) (by omega)
  refine Scr.run rfl (by rfl) (fun K hK => ?_)
  go_simp
  refine hhas.mono ?_
  clear hhas
  rintro e w4 ⟨rfl, hb4⟩
  dsimp only
  have hB4 : Below X.heap.size X w4 := below_and (w1 := X.drew) hb4 (Below.refl _ _).drew
  refine hK _ _ hB4 ?_
  clear hK K HV hb4
  simp only [Scr]
  rw [hh]
  have h4 := HX.out.1.below hB4
  have y1 := (World.cell?_of_block (hB4.block _ hxS)).trans x1
  have ny : W.heap.size < w4.heap.size := Nat.lt_of_lt_of_le hxS hB4.size
  clear q0 q3 q4 q5 q6 q7 q8 q9 qf m0 x0 x1 x2 x3 x4
  obtain ⟨q0, q3, q4, q5, q6, q7, q8, q9, qf, m0⟩ := h4.cells
  have qf7 := qf 7
  have qf8 := qf 8
  have hfitX := H1.out.2.2.2.2.1.grown (grown_trans (grown_below HX.out.2.1 (some G)) (grown_below hB4 (some G)))
  have hgX := grown_trans H1.out.2.1 (grown_trans (grown_below HX.out.2.1 (some G)) (grown_below hB4 (some G)))
  have H4 := Lib.hid (And.intro h4 (And.intro hfitX hgX))
  clear h4 hfitX hgX hB4 qf
  go_wp2_with fail
  go_end0
  exact ⟨rfl, ⟨_, _, H4.out.1.setNext x.out H4.out.2.1⟩, grown_set (grown_set H4.out.2.2 7 _) 8 _⟩
set_option maxRecDepth 100000 in
set_option maxHeartbeats 4000000 in
theorem walk_setno (p : Pg) (G : Nat) (u0 u1 u2 : Value) (ia : Addr) (rs : List (Int × Int)) (lg : Bool) (w0 : World) (C : Ctx p G u0 u1 u2 ia rs w0) (n : Nat)
    (i : Nat) (pl : Int) (fit : List Int) (fv : Value) (s : Rn) (s0 : Ow) (bv nv : Value) (W : World) (hws : (waysW meetB un2 p (n + 1) i s0).1 = true) (hp : Pc p i) (hpl : 0 ≤ pl) (hpl2 : pl ≤ 1000000) (h : RnAt W G u0 u1 u2 ia lg bv nv s) (hf : FitL W G fv fit) (hfl : (fit.length : Int) = p.caps) (hB : Below G w0 W) (hst : 0 ≤ s.steps) (hpot : potR p (1 + fit.length) s0 s ≤ BIG) (hs : s.stop = false) (ho : (p.get i).op = 2) (hh : hasB (p.get i).set (runeAt rs pl) = false) :
    Calls Tryd.prog 42 #[.pointer (some ⟨G, 0, none⟩), .int .i64 i, .int .i64 pl, fv] W (RnPost G u0 u1 u2 ia lg (walkS p (runeAt rs) (atOf rs) lg (n + 1) i pl fit s) W) := by
  obtain ⟨c0, c3, c4, c5, c6, c7, c8, c9, f, n0⟩ := h.cells
  have f5 := f 5
  have hi : i < p.ins.length := by have := hp.2; omega
  have hsb : s.steps ≤ 1000000000000000000 := by unfold potR BIG at hpot; omega
  obtain ⟨F, cf, rfl, hf1, hf2, hf3⟩ := hf
  have hB0 : ∀ {X : World}, W.grownBy X (some G) → Below G w0 X := fun hg => hB.trans (below_of_grown hg (by omega))
  obtain ⟨ad, c, B3, d3, hps, hc1, hcm, hd3, hd3m, hadb, hins⟩ := ins_at C.pg C.size i hi
  simp only [List.cons.injEq, and_true] at hps
  obtain ⟨rfl, rfl, rfl⟩ := hps
  have hge := get_eq p i hi
  have hg9 := check_good C.chk hp
  have hck := check_ok C.chk
  have hfl4 : fit.length ≤ 4002 ∧ 2 ≤ fit.length := by have := hck.2.2.2.1; have := hck.2.2.2.2.1; omega
  rw [hs] at c9
  have h1 := h.setSteps (s.steps + 1)
  have hgr1 := grown_set0 W G 5 (.int .i64 (s.steps + 1))
  have hB1 := hB.trans (below_of_grown hgr1 (by omega))
  obtain ⟨hset, g0, g1, g2, g3, g4⟩ := hins _ hB1
  obtain ⟨_, k0, k1, k2, k3, k4⟩ := hins _ hB
  have hnb : ((ad.add (i * 5)).block = G) = False := by rw [add_block]; simp; omega
  obtain ⟨q0, q3, q4, q5, q6, q7, q8, q9x, qf, m0⟩ := h1.cells
  have q9 : (W.setCell ⟨G, 5, none⟩ (.int .i64 (s.steps + 1))).cell? ⟨G, 9, none⟩ = some (.bool false) := by rw [← hs]; exact q9x
  clear q9x
  have qf6 := qf 6
  have qf7 := qf 7
  have qf8 := qf 8
  have qf9 := qf 9
  have qf5 := qf 5
  have hfit1 := FitL.grown ⟨F, cf, rfl, hf1, hf2, hf3⟩ hgr1
  rw [show walkS p (runeAt rs) (atOf rs) lg (n + 1) i pl fit s = ⟨s.steps + 1, s.best, s.next, s.nf, s.stop⟩ by rw [walkS_new hs hge]; rw [← hge, if_neg (by omega), if_pos ho, if_neg (by rw [hh]; simp)]]
  have H1 := Lib.hid (And.intro h1 (And.intro hgr1 (And.intro hB1 (And.intro hset (And.intro hfit1 hws)))))
  have hinp := C.inp.move (w' := W.setCell ⟨G, 5, none⟩ (.int .i64 (s.steps + 1))) (ok' := fun k => k < G) (fun k hk hlt => ⟨hB1.block k hk, hk⟩)
  clear h h1 hgr1 hB1 hset hfit1 hf3 f qf hB hws hpot hs hins hck
  try rw [hge] at ho
  try rw [hge] at hg9
  try rw [hge]
  rw [hge] at hh
  clear hge
  generalize p.ins[i] = x at *
  have o1 : (x.op == 1) = false := by rw [ho]; rfl
  have o2 : (x.op == 2) = true := by rw [ho]; rfl
  have o3 : (x.op == 3) = false := by rw [ho]; rfl
  have o4 : (x.op == 4) = false := by rw [ho]; rfl
  have o5 : (x.op == 5) = false := by rw [ho]; rfl
  have HO := Lib.hid (And.intro ho hg9)
  clear ho hg9
  have hsl := HO.out.2.set HO.out.1
  have hsl2 := setOK_len hsl.1 0 (fun y hy => (hsl.1.1 y hy).1) (by omega)
  clear hsl
  go_enter Tryd.func42, Tryd.ntmps42
  go_wp2_with fail
  obtain ⟨X, hX⟩ : ∃ X, ((W.setCell ⟨G, 5, none⟩ (.int .i64 (s.steps + 1))).alloc (.cells #[.int .i64 x.op, .int .i64 x.out, .int .i64 x.arg, .slice B3 x.set.length d3, .int .i64 x.at_] 64)) = X := ⟨_, rfl⟩
  have hsz : (W.setCell ⟨G, 5, none⟩ (.int .i64 (s.steps + 1))).heap.size = W.heap.size := by simp [World.setCell]
  have hx0 := heap_new1 (W.setCell ⟨G, 5, none⟩ (.int .i64 (s.steps + 1))) (.cells #[.int .i64 x.op, .int .i64 x.out, .int .i64 x.arg, .slice B3 x.set.length d3, .int .i64 x.at_] 64)
  rw [hsz, hX] at hx0
  have hxS := heap_lt hx0
  have hX1 := H1.out.1.below (below_al (Below.refl _ _) (.cells #[.int .i64 x.op, .int .i64 x.out, .int .i64 x.arg, .slice B3 x.set.length d3, .int .i64 x.at_] 64))
  have hXB : Below (W.setCell ⟨G, 5, none⟩ (.int .i64 (s.steps + 1))).heap.size (W.setCell ⟨G, 5, none⟩ (.int .i64 (s.steps + 1))) X := by rw [← hX]; exact below_al (Below.refl _ _) _
  rw [hX] at hX1
  obtain ⟨x0, x1, x2, x3, x4⟩ := cells5 hx0
  clear q0 q3 q4 q5 q6 q7 q8 q9 m0 qf6 qf7 qf8 qf9 qf5 g0 g1 g2 g3 g4 k0 k1 k2 k3 k4 c0 c3 c4 c5 c6 c7 c8 c9 f5 hnb hx0
  obtain ⟨q0, q3, q4, q5, q6, q7, q8, q9, qf, m0⟩ := hX1.cells
  have hin2 := hinp.move (w' := X) (ok' := fun k => k < G) (fun k hk hlt => ⟨hXB.block k hlt, hk⟩)
  have hset2 := H1.out.2.2.2.1.move (w' := X) (ok' := fun k => k < G) (fun k hk hlt => ⟨hXB.block k hlt, hk⟩) (by omega)
  have HX := Lib.hid (And.intro hX1 (And.intro hXB (And.intro hin2 hset2)))
  rw [hX]
  clear hX hX1 hXB hin2 hset2 hinp
  refine wp_region_scr (fun W' => Below X.heap.size X W') [(true, 0, 53), (true, 1, 54), (true, 2, 55), (true, 3, 56), (true, 4, 57), (true, 5, 58), (true, 6, 59), (true, 7, 60), (true, 8, 61), (false, 9, 62), (false, 10, 63)] (by kernel_rfl) (by kernel_rfl) (fun _ _ _ _ _ h => h) rfl (by kernel_rfl) ?_
  have HV := Lib.hid (show Below X.heap.size X X.drew from (Below.refl _ _).drew)
  refine Scr.take (v := .pointer (some ⟨W.heap.size, 3, none⟩)) rfl rfl (yw_pure (by rfl) (fun _ => by go_simp)) HV.out ?_
  simp only [Act.put, List.setIfInBounds_toArray, List.set_cons_zero, List.set_cons_succ]
  refine Scr.take (v := .slice B3 x.set.length d3) rfl rfl (yw_cell 61 _ rfl ⟨W.heap.size, 3, none⟩ (.slice B3 x.set.length d3) rfl (by rfl) _ Tryd.underlying61 rfl (fun W hS => (World.cell?_of_block (hS.block _ hxS)).trans x3)) HV.out ?_
  simp only [Act.put, List.setIfInBounds_toArray, List.set_cons_zero, List.set_cons_succ]
  refine Scr.take (v := .pointer (some ⟨G, 0, none⟩)) rfl rfl (yw_pure (by rfl) (fun _ => by go_simp)) HV.out ?_
  simp only [Act.put, List.setIfInBounds_toArray, List.set_cons_zero, List.set_cons_succ]
  refine Scr.take (v := .pointer (some ⟨G, 0, none⟩)) rfl rfl (yw_pure (by rfl) (fun _ => by go_simp)) HV.out ?_
  simp only [Act.put, List.setIfInBounds_toArray, List.set_cons_zero, List.set_cons_succ]
  refine Scr.take (v := .pointer (some ⟨G, 3, none⟩)) rfl rfl (yw_pure (by rfl) (fun _ => by go_simp)) HV.out ?_
  simp only [Act.put, List.setIfInBounds_toArray, List.set_cons_zero, List.set_cons_succ]
  refine Scr.take (v := .pointer (some ia)) rfl rfl (yw_cell 32 _ rfl ⟨G, 3, none⟩ (.pointer (some ia)) rfl (by rfl) _ Tryd.underlying32 rfl (fun W hS => (World.cell?_of_block (hS.block _ m0)).trans q3)) HV.out ?_
  simp only [Act.put, List.setIfInBounds_toArray, List.set_cons_zero, List.set_cons_succ]
  refine Scr.take (v := .pointer (some ia)) rfl rfl (yw_pure (by rfl) (fun _ => by go_simp)) HV.out ?_
  simp only [Act.put, List.setIfInBounds_toArray, List.set_cons_zero, List.set_cons_succ]
  refine Scr.take (v := .pointer (some ia)) rfl rfl (yw_pure (by rfl) (fun _ => by go_simp)) HV.out ?_
  simp only [Act.put, List.setIfInBounds_toArray, List.set_cons_zero, List.set_cons_succ]
  refine Scr.take (v := .int .i64 pl) rfl rfl (yw_pure (by rfl) (fun _ => by go_simp)) HV.out ?_
  simp only [Act.put, List.setIfInBounds_toArray, List.set_cons_zero, List.set_cons_succ]
  refine Scr.run rfl (by rfl) (fun K hK => ?_)
  go_simp
  refine (rune_any (fun k => k < G) X.drew ia rs (HX.out.2.2.1.move (fun k hk _ => ⟨rfl, hk⟩)) pl).mono ?_
  rintro e w3 ⟨rfl, rfl⟩
  dsimp only
  refine hK _ _ HV.out ?_
  clear hK K
  have hhas := has_any (fun k => k < G) X.drew (runeAt rs pl) x.set B3 d3 (HX.out.2.2.2.move (fun k hk _ => ⟨rfl, hk⟩) (by omega)) (by omega)
  refine Scr.run rfl (by rfl) (fun K hK => ?_)
  go_simp
  refine hhas.mono ?_
  clear hhas
  rintro e w4 ⟨rfl, hb4⟩
  dsimp only
  have hB4 : Below X.heap.size X w4 := below_and (w1 := X.drew) hb4 (Below.refl _ _).drew
  refine hK _ _ hB4 ?_
  clear hK K HV hb4
  simp only [Scr]
  rw [hh]
  have h4 := HX.out.1.below hB4
  have y1 := (World.cell?_of_block (hB4.block _ hxS)).trans x1
  have ny : W.heap.size < w4.heap.size := Nat.lt_of_lt_of_le hxS hB4.size
  clear q0 q3 q4 q5 q6 q7 q8 q9 qf m0 x0 x1 x2 x3 x4
  obtain ⟨q0, q3, q4, q5, q6, q7, q8, q9, qf, m0⟩ := h4.cells
  have qf7 := qf 7
  have qf8 := qf 8
  have hfitX := H1.out.2.2.2.2.1.grown (grown_trans (grown_below HX.out.2.1 (some G)) (grown_below hB4 (some G)))
  have hgX := grown_trans H1.out.2.1 (grown_trans (grown_below HX.out.2.1 (some G)) (grown_below hB4 (some G)))
  have H4 := Lib.hid (And.intro h4 (And.intro hfitX hgX))
  clear h4 hfitX hgX hB4 qf
  go_wp2_with fail
  go_end0
  exact ⟨rfl, ⟨_, _, H4.out.1⟩, H4.out.2.2⟩
end Go.Proofs.YthclpabmbhpohaaDoor
