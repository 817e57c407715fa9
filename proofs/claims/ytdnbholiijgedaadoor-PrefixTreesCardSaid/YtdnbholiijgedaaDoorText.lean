/-
  inputs.New of bytes, a text's runes. No condition.
-/
import Derived.Test.YtdnbholiijgedaaDoorClone
import Derived.Test.YtdnbholiijgedaaDoorMore
import Derived.Lib.OthersKept
import Derived.Lib.TrimU
import Derived.Lib.RuneCount
import Derived.Deep.RegionWith
namespace Go.Proofs.YtdnbholiijgedaaDoor
open Go.RowKit
set_option linter.unusedVariables false

theorem infoSym : (Tryd.prog.info? 67).map (fun i => (i.zero, i.size, i.bytes)) = some (some (.agg #[.int .i32 0, .int .i64 0]), 2, 16) := by kernel_rfl

/-- A rune, and where it begins. -/
def symC (s : Int × Int) : List Value := [.int .i32 s.1, .int .i64 s.2]

/-- A text's runes from a place on, each with its place. -/
def symsFrom (s : ByteArray) : Nat → Nat → List (Int × Int)
  | 0, _ => []
  | fuel + 1, pos => if pos < s.size then (((Utf8.decode s pos).1 : Int), (pos : Int)) :: symsFrom s fuel (pos + (Utf8.decode s pos).2) else []
/-- A text's runes; behind them the end, of no rune. -/
def symsOf (s : ByteArray) : List (Int × Int) := symsFrom s s.size 0 ++ [(-1, (s.size : Int))]

theorem symsFrom_end (s : ByteArray) (fuel pos : Nat) (h : ¬ pos < s.size) : symsFrom s fuel pos = [] := by
  cases fuel with
  | zero => rfl
  | succ f => simp [symsFrom, h]
theorem symsFrom_len (s : ByteArray) : ∀ fuel pos, (symsFrom s fuel pos).length ≤ fuel
  | 0, _ => Nat.le_refl _
  | f + 1, pos => by
    rw [symsFrom]
    split
    · have := symsFrom_len s f (pos + (Utf8.decode s pos).2); simp only [List.length_cons]; omega
    · simp

theorem heap_setCell_same {W : World} {b : Nat} {cs : Array Value} {ty : TypeId} {fr : Nat × Nat} (h : W.heap[b]? = some (.cells cs ty fr)) (j : Nat) (v : Value) : (W.setCell ⟨b, j, none⟩ v).heap[b]? = some (.cells (cs.setIfInBounds j v) ty fr) := by
  obtain ⟨hlt, hk⟩ := Array.getElem?_eq_some_iff.1 h
  show (W.heap.modify b _)[b]? = _
  rw [Array.getElem?_eq_getElem (by rw [Array.size_modify]; exact hlt), Array.getElem_modify_self, hk]
  rfl

/-- The world of an input that is being filled: its block b, what it has so far. -/
def Filling (b : Nat) (tv kv : Value) (acc : List (Int × Int)) (w : World) : Prop :=
  ∃ v, w.heap[b]? = some (.cells #[v, tv, kv] 49 (0, 0)) ∧ Owns w (b + 1) 67 2 v (acc.map symC)

theorem Filling.below {b : Nat} {tv kv : Value} {acc : List (Int × Int)} {w w' : World} (h : Filling b tv kv acc w) (hb : Below w.heap.size w w') : Filling b tv kv acc w' := by
  obtain ⟨v, h1, h2⟩ := h
  exact ⟨v, (hb.block _ (heap_lt h1)).trans h1, h2.below hb⟩
theorem Filling.iterAt {b : Nat} {tv kv : Value} {acc : List (Int × Int)} {w : World} (h : Filling b tv kv acc w) {k : Nat} {s : ByteArray} {pos : Nat} (hk : w.heap[k]? = some (.stringIter s pos)) (pos' : Nat) : Filling b tv kv acc (w.iterAt k s pos') := by
  obtain ⟨v, h1, h2⟩ := h
  have hbk : b ≠ k := by rintro rfl; rw [h1] at hk; cases hk
  have hg : w.grownBy (w.iterAt k s pos') (some k) := ⟨rfl, rfl, rfl, by rw [Lib.iterAt_size]; exact Nat.le_refl _, fun i _ hne => Lib.iterAt_other w k i s pos' (fun e => hne (by rw [e]))⟩
  refine ⟨v, (Lib.iterAt_other w k b s pos' hbk).trans h1, h2.kept hg ?_⟩
  rcases h2.1.2 with ⟨rfl, _⟩ | ⟨g, cap, cur, rfl, _, hgb, _⟩
  · exact .inl rfl
  · refine .inr fun e => ?_
    simp only [Value.ownBlock, Option.some.injEq] at e
    subst e
    rw [hgb] at hk; cases hk
/-- What the append and the store back leave. -/
theorem Filling.step {b : Nat} {tv kv : Value} {acc : List (Int × Int)} {w w1 : World} {v v' : Value} {x : Int × Int} (hb : w.heap[b]? = some (.cells #[v, tv, kv] 49 (0, 0))) (hv : Owns w (b + 1) 67 2 v (acc.map symC))
    (hown : Owns w1 (b + 1) 67 2 v' (acc.map symC ++ [symC x])) (hg : w.grownBy w1 v.ownBlock) :
    w1.heap[b]? = some (.cells #[v, tv, kv] 49 (0, 0)) ∧ Filling b tv kv (acc ++ [x]) (w1.setCell ⟨b, 0, none⟩ v') := by
  have h1 : w1.heap[b]? = some (.cells #[v, tv, kv] 49 (0, 0)) := (hg.block b (heap_lt hb) (fun e => by have := (hv.lt b e.symm).1; omega)).trans hb
  refine ⟨h1, v', heap_setCell_same h1 0 v', ?_⟩
  rw [List.map_append]
  refine hown.kept (row := some b) (grownBy_setCell' w1 b v') ?_
  cases ho : v'.ownBlock with
  | none => exact .inl rfl
  | some k => exact .inr fun e => by cases e; have := (hown.lt _ ho).1; omega

set_option maxRecDepth 100000 in
set_option maxHeartbeats 2000000 in
theorem decode_any (b : Nat) (tv kv : Value) (s : ByteArray) (w : World) (hF : Filling b tv kv [] w) (hs : s.size ≤ 1000000000) :
    Calls Tryd.prog 34 #[.pointer (some ⟨b, 0, none⟩), .string s] w fun e w' => e = .returned (.tuple #[]) ∧ Filling b tv kv (symsOf s) w' ∧ Below b w w' := by
  obtain ⟨i0, hi, hz0, hz1, hz2⟩ := info_parts infoSym
  have hbw : b < w.heap.size := by obtain ⟨v, h, _⟩ := hF; exact heap_lt h
  go_enter Tryd.func34, Tryd.ntmps34
  go_wp2_with fail
  have hit0 : (w.iter s 0).heap[w.heap.size]? = some (.stringIter s 0) := World.iter_heap w s 0
  have hF0 : Filling b tv kv [] (w.iter s 0) := hF.below ((Below.refl _ _).alloc (Nat.le_refl _) _)
  have hb0 : Below b w (w.iter s 0) := (Below.refl _ _).alloc (Nat.le_of_lt hbw) _
  go_loopw [] (fun wr => ∃ (pos fuel : Nat) (acc : List (Int × Int)), Filling b tv kv acc wr ∧ wr.heap[w.heap.size]? = some (.stringIter s pos) ∧ Below b w wr ∧ acc ++ symsFrom s fuel pos = symsFrom s s.size 0 ∧ s.size ≤ pos + fuel ∧ acc.length ≤ pos) (fun wr => s.size - wr.iterPos w.heap.size)
  case atStart => exact ⟨0, s.size, [], hF0, hit0, hb0, rfl, by omega, by simp⟩
  case round =>
    obtain ⟨pos, fuel, acc, hFr, hit, hBr, hacc, hfu, hal⟩ := hrel
    have hsz : w.heap.size < wr.heap.size := heap_lt hit
    by_cases hp : pos < s.size
    · have hnx : ∀ ty, (Instr.next (.pointer (some ⟨w.heap.size, 0, none⟩)) true ty).run Tryd.prog wr = _ := fun ty => Lib.run_next_any_at wr w.heap.size s pos ty hit hp
      have hwd := Lib.width_pos s pos
      have hip := iterPos_of hit
      have HI := Lib.hid hip
      clear hip
      have hd1 := decode_le s pos
      have hF2 := hFr.iterAt hit (pos + (Utf8.decode s pos).2)
      have hit2 := Lib.iterAt_heap wr w.heap.size s pos (pos + (Utf8.decode s pos).2) hit
      have hB2 := Lib.below_iterAt hBr (k := w.heap.size) (Nat.le_of_lt hbw) s (pos + (Utf8.decode s pos).2)
      obtain ⟨f, rfl⟩ : ∃ f, fuel = f + 1 := ⟨fuel - 1, by omega⟩
      obtain ⟨v, hbk, hown⟩ := hF2
      have hcb : (wr.iterAt w.heap.size s (pos + (Utf8.decode s pos).2)).cell? ⟨b, 0, none⟩ = some v := by rw [cell_of_blk hbk]; rfl
      have hsz2 : (wr.iterAt w.heap.size s (pos + (Utf8.decode s pos).2)).heap.size = wr.heap.size := Lib.iterAt_size _ _ _ _
      have HH := Lib.hid (And.intro hown (And.intro hbk (And.intro hacc hit2)))
      have HB := Lib.hid hB2
      have HS := Lib.hid hsz2
      clear hF0 hit0 hb0 hF hFr hit hBr hacc hown hbk hit2 hB2 hsz2
      go_wp2_with (at_builtin; refine wpList_app1 rfl _ _ 44 rfl (b + 1) 67 i0 (.agg #[.int .i32 0, .int .i64 0]) 2 16 Tryd.underlying44 hi hz0 hz1 hz2 rfl (by decide) v _ rfl (HH.out.1.alloc _) _ [.int .i32 ((Utf8.decode s pos).1 : Int), .int .i64 (pos : Int)] rfl rfl (heap_new1 _ _) ?c2 ?c3 ?c4 ?c5 ?_)
      case c2 => intro u hu; simp at hu; rcases hu with rfl | rfl <;> rfl
      case c3 => unfold maxLen; simp; omega
      case c4 => simp; omega
      case c5 => rw [World.size_alloc, HS.out]; omega
      · intro v' w1 hown' hgrow
        obtain ⟨hown, hbk, hacc, hit2⟩ := HH.out
        have hbk2 := (Below.heap_alloc (wr.iterAt w.heap.size s (pos + (Utf8.decode s pos).2)) (.cells #[.int .i32 ((Utf8.decode s pos).1 : Int), .int .i64 (pos : Int)] 67) b (heap_lt hbk)).trans hbk
        obtain ⟨hb1, hF1⟩ := Filling.step (x := (((Utf8.decode s pos).1 : Int), (pos : Int))) hbk2 (hown.alloc _) hown' hgrow
        have hit1 : w1.heap[w.heap.size]? = some (.stringIter s (pos + (Utf8.decode s pos).2)) := by
          refine (hgrow.block _ (by rw [World.size_alloc]; have := heap_lt hit2; omega) (fun e => ?_)).trans ((Below.heap_alloc _ _ _ (heap_lt hit2)).trans hit2)
          rcases hown.1.2 with ⟨rfl, _⟩ | ⟨g, cap, cur, rfl, _, hgb, _⟩
          · simp [Value.ownBlock] at e
          · simp only [Value.ownBlock, Option.some.injEq] at e
            rw [← e, hit2] at hgb; cases hgb
        have hBw : Below b w w1 := (HB.out.alloc (by rw [HS.out]; omega) _).grown hgrow (by rw [World.size_alloc, HS.out]; omega) (fun k e => by have := (hown.lt k e).1; omega)
        have hc1 : w1.cell? ⟨b, 0, none⟩ = some v := by rw [cell_of_blk hb1]; rfl
        have hf1 : w1.frozen? ⟨b, 0, none⟩ = false := by simp [World.frozen?, hb1]
        have hsh := hown'.shape
        simp only [List.length_append, List.length_map, List.length_cons, List.length_nil, Nat.zero_add] at hsh
        obtain ⟨A', c', rfl, _, _⟩ := hsh
        have H2 := Lib.hid (And.intro hF1 (And.intro hit1 (And.intro hBw hacc)))
        clear hown' hgrow hown hbk hacc hit2 hbk2 hb1 hF1 hit1 hBw
        go_wp2_with fail
        go_roundw
        case rel =>
          obtain ⟨hF1, hit1, hBw, hacc⟩ := H2.out
          refine ⟨pos + (Utf8.decode s pos).2, f, acc ++ [(((Utf8.decode s pos).1 : Int), (pos : Int))], hF1, ?_, hBw.setCell (p := ⟨b, 0, none⟩) (Nat.le_refl _) _, ?_, by omega, by simp; omega⟩
          · rw [Below.heap_setCell _ _ _ _ (by show w.heap.size ≠ b; omega)]; exact hit1
          · rw [← hacc, symsFrom, if_pos hp, List.append_assoc]; rfl
        case measure =>
          obtain ⟨hF1, hit1, hBw, hacc⟩ := H2.out
          have hit3 : (w1.setCell ⟨b, 0, none⟩ (.slice A' (acc.length + 1) c')).heap[w.heap.size]? = some (.stringIter s (pos + (Utf8.decode s pos).2)) := by
            rw [Below.heap_setCell _ _ _ _ (by show w.heap.size ≠ b; omega)]; exact hit1
          rw [iterPos_of hit3, HI.out]
          omega
    · have hnx : ∀ ty, (Instr.next (.pointer (some ⟨w.heap.size, 0, none⟩)) true ty).run Tryd.prog wr = _ := fun ty => Lib.run_next_end_at wr w.heap.size s pos ty hit hp
      rw [symsFrom_end s fuel pos hp, List.append_nil] at hacc
      have hal2 := symsFrom_len s s.size 0
      rw [← hacc] at hal2
      obtain ⟨v, hbk, hown⟩ := hFr
      have hcb : wr.cell? ⟨b, 0, none⟩ = some v := by rw [cell_of_blk hbk]; rfl
      have HH := Lib.hid (And.intro hown (And.intro hbk (And.intro hacc hBr)))
      clear hF0 hit0 hb0 hF hit hBr hacc hown hbk
      go_wp2_with (at_builtin; refine wpList_app1 rfl _ _ 44 rfl (b + 1) 67 i0 (.agg #[.int .i32 0, .int .i64 0]) 2 16 Tryd.underlying44 hi hz0 hz1 hz2 rfl (by decide) v _ rfl (HH.out.1.alloc _) _ [.int .i32 (-1), .int .i64 (s.size : Int)] rfl rfl (heap_new1 _ _) ?c2 ?c3 ?c4 ?c5 ?_)
      case c2 => intro u hu; simp at hu; rcases hu with rfl | rfl <;> rfl
      case c3 => unfold maxLen; simp; omega
      case c4 => simp; omega
      case c5 => rw [World.size_alloc]; omega
      · intro v' w1 hown' hgrow
        obtain ⟨hown, hbk, hacc, hBr⟩ := HH.out
        have hbk2 := (Below.heap_alloc wr (.cells #[.int .i32 (-1), .int .i64 (s.size : Int)] 67) b (heap_lt hbk)).trans hbk
        obtain ⟨hb1, hF1⟩ := Filling.step (x := (-1, (s.size : Int))) hbk2 (hown.alloc _) hown' hgrow
        have hBw : Below b w w1 := (hBr.alloc (by omega) _).grown hgrow (by rw [World.size_alloc]; omega) (fun k e => by have := (hown.lt k e).1; omega)
        have hc1 : w1.cell? ⟨b, 0, none⟩ = some v := by rw [cell_of_blk hb1]; rfl
        have hf1 : w1.frozen? ⟨b, 0, none⟩ = false := by simp [World.frozen?, hb1]
        have hsh := hown'.shape
        simp only [List.length_append, List.length_map, List.length_cons, List.length_nil, Nat.zero_add] at hsh
        obtain ⟨A', c', rfl, _, _⟩ := hsh
        have H2 := Lib.hid (And.intro hF1 (And.intro hBw hacc))
        clear hown' hgrow hown hbk hacc hbk2 hb1 hF1 hBw hBr
        go_wp2_with fail
        go_end0
        obtain ⟨hF1, hBw, hacc⟩ := H2.out
        exact ⟨rfl, by rw [symsOf, ← hacc]; exact hF1, hBw.setCell (p := ⟨b, 0, none⟩) (Nat.le_refl _) _⟩

/-! ### a text -/
def byteC (x : UInt8) (cs : List Value) : Prop := cs = [.int .u8 (x.toNat : Int)]
/-- A text lies in memory: s, from address A on. -/
def TextC (ok : Nat → Prop) (w : World) (A : Option Addr) (s : ByteArray) : Prop := Arr ok w 1 byteC A s.data.toList
theorem text_len (s : ByteArray) : s.data.toList.length = s.size := by rw [Array.length_toList]; rfl

theorem conv_bytes {ok : Nat → Prop} {w : World} {A : Option Addr} {s : ByteArray} (h : TextC ok w A s) (c : Nat) :
    (convert 35 9 (.slice A s.size c)).run Tryd.prog w = .ok (.string s) w := by
  cases A with
  | none =>
    have h0 : s.data.toList = [] := by
      cases hl : s.data.toList with
      | nil => rfl
      | cons x xs => obtain ⟨ad, _, hA, _⟩ := h 0 x (by rw [hl]; rfl); cases hA
    have hs0 : s = ByteArray.empty := by
      cases s with
      | mk d => cases d with
        | mk l => simp only at h0; subst h0; rfl
    rw [run_convert_bytes_nil w 35 5 Tryd.underlying35 Tryd.underlying5 _ _ 9 Tryd.underlying9, hs0]
  | some ad =>
    have hl : (loadCells ad s.size).run Tryd.prog w = .ok ((s.data.toList.map fun b => (b.toNat : Int)).map (Value.int .u8)).toArray w := by
      have := run_loadCells_list (P := Tryd.prog) w ad ((s.data.toList.map fun b => (b.toNat : Int)).map (Value.int .u8)) (fun j v hj => by
        rw [List.map_map, List.getElem?_map] at hj
        cases hx : s.data.toList[j]? with
        | none => rw [hx] at hj; simp at hj
        | some x =>
          rw [hx] at hj
          obtain ⟨ad', cs, hA, _, rfl, _, hc⟩ := h j x hx
          cases hA
          have := hc 0 _ rfl
          simp at hj
          rw [← hj]
          simpa using this)
      simpa [text_len] using this
    rw [run_convert_bytes_string w 35 9 5 _ s.size c Tryd.underlying35 Tryd.underlying5 Tryd.underlying9, run_bytesToString w _ s.size c _ hl, foldl_push_bytes]
    congr 2
    have : (ByteArray.empty.data ++ ((s.data.toList.map fun b => (b.toNat : Int)).map fun n => UInt8.ofNat n.toNat).toArray) = s.data := by
      simp [ByteArray.empty, ByteArray.emptyWithCapacity, Function.comp_def]
      rfl
    rw [this]

theorem TextC.move {ok ok' : Nat → Prop} {w w' : World} {A : Option Addr} {s : ByteArray} (h : TextC ok w A s) (hm : ∀ b, ok b → b < w.heap.size → w'.heap[b]? = w.heap[b]? ∧ ok' b) : TextC ok' w' A s := Arr.move h hm (by omega)

/-- An input of runes, each with its place. -/
def InpC (ok : Nat → Prop) (w : World) (a : Addr) (rs : List (Int × Int)) : Prop :=
  ∃ A c, ok a.block ∧ w.cell? a = some (.slice A rs.length c) ∧ rs.length ≤ c ∧ c ≤ maxLen ∧ Arr ok w 2 (fun x cs => cs = symC x) A rs
theorem InpC.move {ok ok' : Nat → Prop} {w w' : World} {a : Addr} {rs : List (Int × Int)} (h : InpC ok w a rs) (hm : ∀ b, ok b → b < w.heap.size → w'.heap[b]? = w.heap[b]? ∧ ok' b) : InpC ok' w' a rs := by
  obtain ⟨A, c, h0, h1, h2, h3, h4⟩ := h
  obtain ⟨m1, m2⟩ := hm a.block h0 (World.block_lt_of_cell? w a h1)
  exact ⟨A, c, m2, by rw [← h1]; exact World.cell?_of_block m1, h2, h3, h4.move hm (by omega)⟩
theorem Filling.inp {b : Nat} {tv kv : Value} {acc : List (Int × Int)} {w : World} (h : Filling b tv kv acc w) : InpC (fun k => b ≤ k) w ⟨b, 0, none⟩ acc := by
  obtain ⟨v, h1, h2⟩ := h
  have hl := h2.lt
  obtain ⟨A, c, rfl, h3, h4⟩ := h2.shape
  simp only [List.length_map] at h1 h2 h3 hl
  refine ⟨A, c, Nat.le_refl _, by rw [cell_of_blk h1]; rfl, h3, h4, h2.arr (by simp) (fun i x cs hx hc => ?_) (fun a hA => ?_)⟩
  · rw [List.getElem?_map, hx] at hc; simpa [eq_comm] using hc
  · subst hA; have := (hl a.block rfl).1; show b ≤ a.block; omega

def NewPost (w : World) (s : ByteArray) (e : Ending) (w' : World) : Prop :=
  ∃ b, e = .returned (.tuple #[.pointer (some ⟨b, 0, none⟩), .int .i64 0]) ∧ InpC (fun k => w.heap.size ≤ k) w' ⟨b, 0, none⟩ (symsOf s) ∧ Below w.heap.size w w'

set_option maxRecDepth 100000 in
set_option maxHeartbeats 2000000 in
theorem new_small (ok : Nat → Prop) (w : World) (A : Option Addr) (c : Nat) (s : ByteArray) (h : TextC ok w A s) (hs : s.size ≤ 65536) :
    Calls Tryd.prog 22 #[.int .i64 2, .slice A s.size c] w (NewPost w s) := by
  have hcl := cloneByte UInt8 byteC (fun x c h u hu => by rw [h] at hu; simp at hu; subst hu; rfl) ok w A c s.data.toList h (by rw [text_len]; omega)
  rw [text_len] at hcl
  have HT := Lib.hid h
  clear h
  go_enter Tryd.func22, Tryd.ntmps22
  go_wp2_with fail
  refine hcl.mono ?_
  rintro e w1 ⟨v', css, rfl, hl, _, hown, hb1⟩
  obtain ⟨A', c', rfl, _, _⟩ := hown.shape
  rw [hl, text_len]
  have hF : Filling w1.heap.size (.slice A' s.size c') (.int .i64 2) [] (w1.alloc (.cells #[.slice none 0 0, .slice A' s.size c', .int .i64 2] 49)) := ⟨_, heap_new1 _ _, Owns.nil _ _ _ _⟩
  have hcv1 := conv_bytes (HT.out.move (ok' := fun _ => True) (w' := (w1.alloc (.cells #[.slice none 0 0, .slice A' s.size c', .int .i64 2] 49)).drew) (fun b _ hb => ⟨(below_al hb1 _).block b hb, trivial⟩)) c
  have HB := Lib.hid hb1
  clear hcl hown hb1 hl
  have hdec := decode_any w1.heap.size (.slice A' s.size c') (.int .i64 2) s (w1.alloc (.cells #[.slice none 0 0, .slice A' s.size c', .int .i64 2] 49)).drew hF (by omega)
  go_wp2_with fail
  go_region_with (go_at_call 34; refine hdec.mono ?_; rintro e w2 ⟨rfl, hF2, hb2⟩)
  all_goals
    go_wp2_with fail
    go_ret2
    exact ⟨w1.heap.size, rfl, hF2.inp.move (fun k hk _ => ⟨rfl, Nat.le_trans HB.out.size hk⟩), ((below_al HB.out _).drew).trans (hb2.mono HB.out.size)⟩

def NewPostBig (w : World) (e : Ending) (w' : World) : Prop := e = .returned (.tuple #[.pointer none, .int .i64 2]) ∧ w = w'
set_option maxRecDepth 100000 in
set_option maxHeartbeats 400000 in
theorem new_big (w : World) (A : Option Addr) (c n : Nat) (hn : 65536 < n) :
    Calls Tryd.prog 22 #[.int .i64 2, .slice A n c] w (NewPostBig w) := by
  go_enter Tryd.func22, Tryd.ntmps22
  go_wp2_with fail
  go_ret2
  exact ⟨rfl, rfl⟩

def TextPost (w : World) (s : ByteArray) (e : Ending) (w' : World) : Prop :=
  ∃ b, e = .returned (.pointer (some ⟨b, 0, none⟩)) ∧ InpC (fun k => w.heap.size ≤ k) w' ⟨b, 0, none⟩ (symsOf s) ∧ Below w.heap.size w w'
set_option maxHeartbeats 400000 in
theorem text_small (ok : Nat → Prop) (w : World) (A : Option Addr) (c : Nat) (s : ByteArray) (h : TextC ok w A s) (hs : s.size ≤ 65536) :
    Calls Tryd.prog 12 #[.slice A s.size c] w (TextPost w s) := by
  have hn := new_small ok w A c s h hs
  clear h
  go_enter Tryd.func12, Tryd.ntmps12
  go_wp2_with (go_at_call 22; refine hn.mono ?_; clear hn; rintro e w2 ⟨b, rfl, hI, hb2⟩)
  go_ret
  exact ⟨b, rfl, hI, hb2⟩
set_option maxHeartbeats 400000 in
theorem text_big (w : World) (A : Option Addr) (c n : Nat) (hn : 65536 < n) :
    Calls Tryd.prog 12 #[.slice A n c] w (fun e w' => e = .returned (.pointer none) ∧ w = w') := by
  have hn := new_big w A c n hn
  go_enter Tryd.func12, Tryd.ntmps12
  go_wp2_with (go_at_call 22; refine hn.mono ?_; clear hn; rintro e w2 ⟨rfl, rfl⟩)
  go_ret
  exact ⟨rfl, rfl⟩

/-! ### (*Input).Len, Rune -/
def runeAt (rs : List (Int × Int)) (i : Int) : Int := if 0 ≤ i then ((rs[i.toNat]?).map (·.1)).getD (-1) else -1
set_option maxHeartbeats 400000 in
theorem len_any (ok : Nat → Prop) (w : World) (a : Addr) (rs : List (Int × Int)) (h : InpC ok w a rs) :
    Calls Tryd.prog 16 #[.pointer (some a)] w fun e w' => e = .returned (.int .i64 ((rs.length : Int) - 1)) ∧ w = w' := by
  obtain ⟨A, c, h0, h1, h2, h3, h4⟩ := h
  have hl : rs.length ≤ 9223372036854775807 := by unfold maxLen at h3; omega
  clear h0 h4 h3
  go_enter Tryd.func16, Tryd.ntmps16
  go_wp2
  go_ret
  exact ⟨rfl, rfl⟩
set_option maxHeartbeats 400000 in
theorem rune_any (ok : Nat → Prop) (w : World) (a : Addr) (rs : List (Int × Int)) (h : InpC ok w a rs) (i : Int) :
    Calls Tryd.prog 17 #[.pointer (some a), .int .i64 i] w fun e w' => e = .returned (.int .i32 (runeAt rs i)) ∧ w = w' := by
  obtain ⟨A, c, h0, h1, h2, h3, h4⟩ := h
  have hl : rs.length ≤ 9223372036854775807 := by unfold maxLen at h3; omega
  by_cases hi : i < 0
  · have hr : runeAt rs i = -1 := by unfold runeAt; rw [if_neg (by omega)]
    have HR := Lib.hid hr
    clear h0 h4 h3 hr
    go_enter Tryd.func17, Tryd.ntmps17
    go_wp2
    go_ret
    exact ⟨ret_int HR.out.symm, rfl⟩
  · obtain ⟨n, rfl⟩ := Int.eq_ofNat_of_zero_le (Int.not_lt.1 hi)
    by_cases hn : n < rs.length
    · obtain ⟨ad, cs, rfl, _, rfl, _, hc⟩ := h4 n _ (List.getElem?_eq_getElem hn)
      have hc0 : w.cell? (ad.add (n * 2)) = some (.int .i32 rs[n].1) := hc 0 _ rfl
      have hr : runeAt rs n = rs[n].1 := by unfold runeAt; rw [if_pos (by omega)]; simp [hn]
      have HR := Lib.hid hr
      clear h0 h4 h3 hr hc hi
      go_enter Tryd.func17, Tryd.ntmps17
      go_wp2
      go_ret
      exact ⟨ret_int HR.out.symm, rfl⟩
    · have hr : runeAt rs n = -1 := by unfold runeAt; rw [if_pos (by omega)]; simp [List.getElem?_eq_none (show rs.length ≤ n by omega)]
      have HR := Lib.hid hr
      clear h0 h4 h3 hr hi
      go_enter Tryd.func17, Tryd.ntmps17
      go_wp2
      go_ret
      exact ⟨ret_int HR.out.symm, rfl⟩
end Go.Proofs.YtdnbholiijgedaaDoor
