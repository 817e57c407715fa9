/-
  Words of this seat's own: a scope in which the run jumps to several labels; a great frame under one letter. No condition.
  inputs.New of bytes, a text's runes. No condition.
  (*inputs.Input).At, inputs.word: what a place is. No condition.
  (*bitstate.Machine).try: what holds at its labels, and what holds at its end. No condition.
  One step of the walk with bits, in plain words. No program here, no condition.
  Words of this seat's own: a region that draws its order, by a script, whose last operation waits for all others: behind it no standing condition is asked. No condition.
  (*bitstate.Machine).try: what a job put on, a job taken off, a place stored leave. No condition.
  (*bitstate.Machine).try: nothing to do; a place put back. No condition but what holds at the labels.
  (*bitstate.Machine).try: a pass that meets what was come to. No condition but what holds at the labels.
  (*bitstate.Machine).try: a pass that fails. No condition but what holds at the labels.
-/
import Derived.Test.YthclpabmbhpohaaDoorBOneG3
import Derived.WalkKit
import Derived.ScopeJumps
import Derived.WalkMore
import Derived.Lib.OthersKept
import Derived.Lib.TrimU
import Derived.Lib.RuneCount
import Derived.Deep.RegionWith
import Derived.StillTail
import Derived.Deep.Onto
import Derived.BigRegion
import Derived.BigQuiet
set_option linter.unusedVariables false
set_option linter.unusedSimpArgs false
namespace Go.Proofs.YthclpabmbhpohaaDoor
set_option linter.unusedVariables false
/-- As Q; by a goto to a label: J of it. -/
def jumps (J : Nat → Act → World → Prop) (Q : Exit → Act → World → Prop) : Exit → Act → World → Prop
  | .goto l, a, w => J l a w
  | e, a, w => Q e a w
section
variable {P : Program} {a : Act} {w : World} {Q : Exit → Act → World → Prop} {J : Nat → Act → World → Prop}
theorem wp_scope_jumpsN {c : Code} (J : Nat → Act → World → Prop) (μ : Nat → Act → World → Nat) (first : c.wp P (jumps J Q) a w)
    (pass : ∀ l a w, J l a w → ∃ rest, findLabel c l = some rest ∧ rest.wp P (jumps (fun l' a' w' => J l' a' w' ∧ μ l' a' w' < μ l a w) Q) a w) : (Code.scope c).wp P Q a w := by
  intro b k cs
  have key : ∀ n l a w, μ l a w = n → J l a w → ∃ rest, findLabel c l = some rest ∧ ∃ e a' w', Q e a' w' ∧ Arrives P (lone (b.at a (.code rest :: .inScope c :: k)) cs w) b k cs e a' w' := by
    intro n
    induction n using Nat.strongRecOn with
    | _ n ih =>
      intro l a w hn hJ
      obtain ⟨rest, hf, hp⟩ := pass l a w hJ
      refine ⟨rest, hf, ?_⟩
      obtain ⟨e, a₁, w₁, hq, harr⟩ := hp b (.inScope c :: k) cs
      cases e with
      | normal => exact ⟨.normal, a₁, w₁, hq, Steps.trans harr (.one step_inScope)⟩
      | exit id => exact ⟨.exit id, a₁, w₁, hq, fun k' hk => harr k' (by simp [exitTo, hk])⟩
      | goto l' =>
        obtain ⟨hJ', hlt⟩ := hq
        obtain ⟨rest', hf', e₂, a₂, w₂, hq₂, harr₂⟩ := ih _ (by omega) l' a₁ w₁ rfl hJ'
        exact ⟨e₂, a₂, w₂, hq₂, .of_steps (harr (.code rest' :: .inScope c :: k) (by simp [gotoIn, hf'])) harr₂⟩
      | ret => exact ⟨_, a₁, w₁, hq, harr⟩
      | panic ch => exact ⟨_, a₁, w₁, hq, harr⟩
      | outgrown => exact ⟨_, a₁, w₁, hq, harr⟩
  obtain ⟨e, a₁, w₁, hq, harr⟩ := first b (.inScope c :: k) cs
  cases e with
  | normal => exact ⟨.normal, a₁, w₁, hq, .head step_scope (Steps.trans harr (.one step_inScope))⟩
  | exit id => exact ⟨.exit id, a₁, w₁, hq, fun k' hk => .head step_scope (harr k' (by simp [exitTo, hk]))⟩
  | goto l' =>
    obtain ⟨rest', hf', e₂, a₂, w₂, hq₂, harr₂⟩ := key _ l' a₁ w₁ rfl hq
    exact ⟨e₂, a₂, w₂, hq₂, .of_steps (.head step_scope (harr (.code rest' :: .inScope c :: k) (by simp [gotoIn, hf']))) harr₂⟩
  | ret => exact ⟨_, a₁, w₁, hq, .of_steps (.one step_scope) harr⟩
  | panic ch => exact ⟨_, a₁, w₁, hq, .of_steps (.one step_scope) harr⟩
  | outgrown => exact ⟨_, a₁, w₁, hq, .of_steps (.one step_scope) harr⟩
end
/-- A frame of N slots: some letter for each. -/
theorem frame_open {α : Type} (d : α) : ∀ (N : Nat) (l : List α), l.length = N → l = (List.range' 0 N).map (fun i => l.getD i d) := by
  intro N l h
  apply List.ext_getElem?
  intro i
  by_cases hi : i < l.length
  · rw [List.getElem?_map, List.getElem?_range' (by omega)]
    simp [hi]
  · rw [List.getElem?_eq_none (by omega), List.getElem?_eq_none (by simp; omega)]
end Go.Proofs.YthclpabmbhpohaaDoor
namespace Go.Proofs.YthclpabmbhpohaaDoor
open Go.RowKit
set_option linter.unusedVariables false
theorem infoSym : (Tryd.prog.info? 102).map (fun i => (i.zero, i.size, i.bytes)) = some (some (.agg #[.int .i32 0, .int .i64 0]), 2, 16) := by kernel_rfl
/-- A rune, and where it begins. -/
def symC (s : Int × Int) : List Value := [.int .i32 s.1, .int .i64 s.2]
/-- A text's runes from a place on, each with its place. -/
def symsFrom (s : ByteArray) : Nat → Nat → List (Int × Int)
  | 0, _ => []
  | fuel + 1, pos => if pos < s.size then (((Utf8.decode s pos).1 : Int), (pos : Int)) :: symsFrom s fuel (pos + (Utf8.decode s pos).2) else []
/-- A text's runes; behind them the end, of no rune. -/
def symsOf (s : ByteArray) : List (Int × Int) := symsFrom s s.size 0 ++ [(-1, (s.size : Int))]
theorem symsFrom_end (s : ByteArray) (fuel pos : Nat) (h : ¬ pos < s.size) : symsFrom s fuel pos = [] := by
  cases fuel with
  | zero => rfl
  | succ f => simp [symsFrom, h]
theorem symsFrom_len (s : ByteArray) : ∀ fuel pos, (symsFrom s fuel pos).length ≤ fuel
  | 0, _ => Nat.le_refl _
  | f + 1, pos => by
    rw [symsFrom]
    split
    · have := symsFrom_len s f (pos + (Utf8.decode s pos).2); simp only [List.length_cons]; omega
    · simp
theorem heap_setCell_same {W : World} {b : Nat} {cs : Array Value} {ty : TypeId} {fr : Nat × Nat} (h : W.heap[b]? = some (.cells cs ty fr)) (j : Nat) (v : Value) : (W.setCell ⟨b, j, none⟩ v).heap[b]? = some (.cells (cs.setIfInBounds j v) ty fr) := by
  obtain ⟨hlt, hk⟩ := Array.getElem?_eq_some_iff.1 h
  show (W.heap.modify b _)[b]? = _
  rw [Array.getElem?_eq_getElem (by rw [Array.size_modify]; exact hlt), Array.getElem_modify_self, hk]
  rfl
/-- The world of an input that is being filled: its block b, what it has so far. -/
def Filling (b : Nat) (tv kv : Value) (acc : List (Int × Int)) (w : World) : Prop :=
  ∃ v, w.heap[b]? = some (.cells #[v, tv, kv] 46 (0, 0)) ∧ Owns w (b + 1) 102 2 v (acc.map symC)
theorem Filling.below {b : Nat} {tv kv : Value} {acc : List (Int × Int)} {w w' : World} (h : Filling b tv kv acc w) (hb : Below w.heap.size w w') : Filling b tv kv acc w' := by
  obtain ⟨v, h1, h2⟩ := h
  exact ⟨v, (hb.block _ (heap_lt h1)).trans h1, h2.below hb⟩
theorem Filling.iterAt {b : Nat} {tv kv : Value} {acc : List (Int × Int)} {w : World} (h : Filling b tv kv acc w) {k : Nat} {s : ByteArray} {pos : Nat} (hk : w.heap[k]? = some (.stringIter s pos)) (pos' : Nat) : Filling b tv kv acc (w.iterAt k s pos') := by
  obtain ⟨v, h1, h2⟩ := h
  have hbk : b ≠ k := by rintro rfl; rw [h1] at hk; cases hk
  have hg : w.grownBy (w.iterAt k s pos') (some k) := ⟨rfl, rfl, rfl, by rw [Lib.iterAt_size]; exact Nat.le_refl _, fun i _ hne => Lib.iterAt_other w k i s pos' (fun e => hne (by rw [e]))⟩
  refine ⟨v, (Lib.iterAt_other w k b s pos' hbk).trans h1, h2.kept hg ?_⟩
  rcases h2.1.2 with ⟨rfl, _⟩ | ⟨g, cap, cur, rfl, _, hgb, _⟩
  · exact .inl rfl
  · refine .inr fun e => ?_
    simp only [Value.ownBlock, Option.some.injEq] at e
    subst e
    rw [hgb] at hk; cases hk
/-- What the append and the store back leave. -/
theorem Filling.step {b : Nat} {tv kv : Value} {acc : List (Int × Int)} {w w1 : World} {v v' : Value} {x : Int × Int} (hb : w.heap[b]? = some (.cells #[v, tv, kv] 46 (0, 0))) (hv : Owns w (b + 1) 102 2 v (acc.map symC))
    (hown : Owns w1 (b + 1) 102 2 v' (acc.map symC ++ [symC x])) (hg : w.grownBy w1 v.ownBlock) :
    w1.heap[b]? = some (.cells #[v, tv, kv] 46 (0, 0)) ∧ Filling b tv kv (acc ++ [x]) (w1.setCell ⟨b, 0, none⟩ v') := by
  have h1 : w1.heap[b]? = some (.cells #[v, tv, kv] 46 (0, 0)) := (hg.block b (heap_lt hb) (fun e => by have := (hv.lt b e.symm).1; omega)).trans hb
  refine ⟨h1, v', heap_setCell_same h1 0 v', ?_⟩
  rw [List.map_append]
  refine hown.kept (row := some b) (grownBy_setCell' w1 b v') ?_
  cases ho : v'.ownBlock with
  | none => exact .inl rfl
  | some k => exact .inr fun e => by cases e; have := (hown.lt _ ho).1; omega
set_option maxRecDepth 100000 in
set_option maxHeartbeats 2000000 in
theorem decode_any (b : Nat) (tv kv : Value) (s : ByteArray) (w : World) (hF : Filling b tv kv [] w) (hs : s.size ≤ 1000000000) :
    Calls Tryd.prog 46 #[.pointer (some ⟨b, 0, none⟩), .string s] w fun e w' => e = .returned (.tuple #[]) ∧ Filling b tv kv (symsOf s) w' ∧ Below b w w' := by
  obtain ⟨i0, hi, hz0, hz1, hz2⟩ := info_parts infoSym
  have hbw : b < w.heap.size := by obtain ⟨v, h, _⟩ := hF; exact heap_lt h
  go_enter Tryd.func46, Tryd.ntmps46
  go_wp2_with fail
  have hit0 : (w.iter s 0).heap[w.heap.size]? = some (.stringIter s 0) := World.iter_heap w s 0
  have hF0 : Filling b tv kv [] (w.iter s 0) := hF.below ((Below.refl _ _).alloc (Nat.le_refl _) _)
  have hb0 : Below b w (w.iter s 0) := (Below.refl _ _).alloc (Nat.le_of_lt hbw) _
  go_loopw [] (fun wr => ∃ (pos fuel : Nat) (acc : List (Int × Int)), Filling b tv kv acc wr ∧ wr.heap[w.heap.size]? = some (.stringIter s pos) ∧ Below b w wr ∧ acc ++ symsFrom s fuel pos = symsFrom s s.size 0 ∧ s.size ≤ pos + fuel ∧ acc.length ≤ pos) (fun wr => s.size - wr.iterPos w.heap.size)
  case atStart => exact ⟨0, s.size, [], hF0, hit0, hb0, rfl, by omega, by simp⟩
  case round =>
    obtain ⟨pos, fuel, acc, hFr, hit, hBr, hacc, hfu, hal⟩ := hrel
    have hsz : w.heap.size < wr.heap.size := heap_lt hit
    by_cases hp : pos < s.size
    · have hnx : ∀ ty, (Instr.next (.pointer (some ⟨w.heap.size, 0, none⟩)) true ty).run Tryd.prog wr = _ := fun ty => Lib.run_next_any_at wr w.heap.size s pos ty hit hp
      have hwd := Lib.width_pos s pos
      have hip := iterPos_of hit
      have HI := Lib.hid hip
      clear hip
      have hd1 := decode_le s pos
      have hF2 := hFr.iterAt hit (pos + (Utf8.decode s pos).2)
      have hit2 := Lib.iterAt_heap wr w.heap.size s pos (pos + (Utf8.decode s pos).2) hit
      have hB2 := Lib.below_iterAt hBr (k := w.heap.size) (Nat.le_of_lt hbw) s (pos + (Utf8.decode s pos).2)
      obtain ⟨f, rfl⟩ : ∃ f, fuel = f + 1 := ⟨fuel - 1, by omega⟩
      obtain ⟨v, hbk, hown⟩ := hF2
      have hcb : (wr.iterAt w.heap.size s (pos + (Utf8.decode s pos).2)).cell? ⟨b, 0, none⟩ = some v := by rw [cell_of_blk hbk]; rfl
      have hsz2 : (wr.iterAt w.heap.size s (pos + (Utf8.decode s pos).2)).heap.size = wr.heap.size := Lib.iterAt_size _ _ _ _
      have HH := Lib.hid (And.intro hown (And.intro hbk (And.intro hacc hit2)))
      have HB := Lib.hid hB2
      have HS := Lib.hid hsz2
      clear hF0 hit0 hb0 hF hFr hit hBr hacc hown hbk hit2 hB2 hsz2
      go_wp2_with (at_builtin; refine wpList_app1 rfl _ _ 41 rfl (b + 1) 102 i0 (.agg #[.int .i32 0, .int .i64 0]) 2 16 Tryd.underlying41 hi hz0 hz1 hz2 rfl (by decide) v _ rfl (HH.out.1.alloc _) _ [.int .i32 ((Utf8.decode s pos).1 : Int), .int .i64 (pos : Int)] rfl rfl (heap_new1 _ _) ?c2 ?c3 ?c4 ?c5 ?_)
      case c2 => intro u hu; simp at hu; rcases hu with rfl | rfl <;> rfl
      case c3 => unfold maxLen; simp; omega
      case c4 => simp; omega
      case c5 => rw [World.size_alloc, HS.out]; omega
      · intro v' w1 hown' hgrow
        obtain ⟨hown, hbk, hacc, hit2⟩ := HH.out
        have hbk2 := (Below.heap_alloc (wr.iterAt w.heap.size s (pos + (Utf8.decode s pos).2)) (.cells #[.int .i32 ((Utf8.decode s pos).1 : Int), .int .i64 (pos : Int)] 102) b (heap_lt hbk)).trans hbk
        obtain ⟨hb1, hF1⟩ := Filling.step (x := (((Utf8.decode s pos).1 : Int), (pos : Int))) hbk2 (hown.alloc _) hown' hgrow
        have hit1 : w1.heap[w.heap.size]? = some (.stringIter s (pos + (Utf8.decode s pos).2)) := by
          refine (hgrow.block _ (by rw [World.size_alloc]; have := heap_lt hit2; omega) (fun e => ?_)).trans ((Below.heap_alloc _ _ _ (heap_lt hit2)).trans hit2)
          rcases hown.1.2 with ⟨rfl, _⟩ | ⟨g, cap, cur, rfl, _, hgb, _⟩
          · simp [Value.ownBlock] at e
          · simp only [Value.ownBlock, Option.some.injEq] at e
            rw [← e, hit2] at hgb; cases hgb
        have hBw : Below b w w1 := (HB.out.alloc (by rw [HS.out]; omega) _).grown hgrow (by rw [World.size_alloc, HS.out]; omega) (fun k e => by have := (hown.lt k e).1; omega)
        have hc1 : w1.cell? ⟨b, 0, none⟩ = some v := by rw [cell_of_blk hb1]; rfl
        have hf1 : w1.frozen? ⟨b, 0, none⟩ = false := by simp [World.frozen?, hb1]
        have hsh := hown'.shape
        simp only [List.length_append, List.length_map, List.length_cons, List.length_nil, Nat.zero_add] at hsh
        obtain ⟨A', c', rfl, _, _⟩ := hsh
        have H2 := Lib.hid (And.intro hF1 (And.intro hit1 (And.intro hBw hacc)))
        clear hown' hgrow hown hbk hacc hit2 hbk2 hb1 hF1 hit1 hBw
        go_wp2_with fail
        go_roundw
        case rel =>
          obtain ⟨hF1, hit1, hBw, hacc⟩ := H2.out
          refine ⟨pos + (Utf8.decode s pos).2, f, acc ++ [(((Utf8.decode s pos).1 : Int), (pos : Int))], hF1, ?_, hBw.setCell (p := ⟨b, 0, none⟩) (Nat.le_refl _) _, ?_, by omega, by simp; omega⟩
          · rw [Below.heap_setCell _ _ _ _ (by show w.heap.size ≠ b; omega)]; exact hit1
          · rw [← hacc, symsFrom, if_pos hp, List.append_assoc]; rfl
        case measure =>
          obtain ⟨hF1, hit1, hBw, hacc⟩ := H2.out
          have hit3 : (w1.setCell ⟨b, 0, none⟩ (.slice A' (acc.length + 1) c')).heap[w.heap.size]? = some (.stringIter s (pos + (Utf8.decode s pos).2)) := by
            rw [Below.heap_setCell _ _ _ _ (by show w.heap.size ≠ b; omega)]; exact hit1
          rw [iterPos_of hit3, HI.out]
          omega
    · have hnx : ∀ ty, (Instr.next (.pointer (some ⟨w.heap.size, 0, none⟩)) true ty).run Tryd.prog wr = _ := fun ty => Lib.run_next_end_at wr w.heap.size s pos ty hit hp
      rw [symsFrom_end s fuel pos hp, List.append_nil] at hacc
      have hal2 := symsFrom_len s s.size 0
      rw [← hacc] at hal2
      obtain ⟨v, hbk, hown⟩ := hFr
      have hcb : wr.cell? ⟨b, 0, none⟩ = some v := by rw [cell_of_blk hbk]; rfl
      have HH := Lib.hid (And.intro hown (And.intro hbk (And.intro hacc hBr)))
      clear hF0 hit0 hb0 hF hit hBr hacc hown hbk
      go_wp2_with (at_builtin; refine wpList_app1 rfl _ _ 41 rfl (b + 1) 102 i0 (.agg #[.int .i32 0, .int .i64 0]) 2 16 Tryd.underlying41 hi hz0 hz1 hz2 rfl (by decide) v _ rfl (HH.out.1.alloc _) _ [.int .i32 (-1), .int .i64 (s.size : Int)] rfl rfl (heap_new1 _ _) ?c2 ?c3 ?c4 ?c5 ?_)
      case c2 => intro u hu; simp at hu; rcases hu with rfl | rfl <;> rfl
      case c3 => unfold maxLen; simp; omega
      case c4 => simp; omega
      case c5 => rw [World.size_alloc]; omega
      · intro v' w1 hown' hgrow
        obtain ⟨hown, hbk, hacc, hBr⟩ := HH.out
        have hbk2 := (Below.heap_alloc wr (.cells #[.int .i32 (-1), .int .i64 (s.size : Int)] 102) b (heap_lt hbk)).trans hbk
        obtain ⟨hb1, hF1⟩ := Filling.step (x := (-1, (s.size : Int))) hbk2 (hown.alloc _) hown' hgrow
        have hBw : Below b w w1 := (hBr.alloc (by omega) _).grown hgrow (by rw [World.size_alloc]; omega) (fun k e => by have := (hown.lt k e).1; omega)
        have hc1 : w1.cell? ⟨b, 0, none⟩ = some v := by rw [cell_of_blk hb1]; rfl
        have hf1 : w1.frozen? ⟨b, 0, none⟩ = false := by simp [World.frozen?, hb1]
        have hsh := hown'.shape
        simp only [List.length_append, List.length_map, List.length_cons, List.length_nil, Nat.zero_add] at hsh
        obtain ⟨A', c', rfl, _, _⟩ := hsh
        have H2 := Lib.hid (And.intro hF1 (And.intro hBw hacc))
        clear hown' hgrow hown hbk hacc hbk2 hb1 hF1 hBw hBr
        go_wp2_with fail
        go_end0
        obtain ⟨hF1, hBw, hacc⟩ := H2.out
        exact ⟨rfl, by rw [symsOf, ← hacc]; exact hF1, hBw.setCell (p := ⟨b, 0, none⟩) (Nat.le_refl _) _⟩
def byteC (x : UInt8) (cs : List Value) : Prop := cs = [.int .u8 (x.toNat : Int)]
/-- A text lies in memory: s, from address A on. -/
def TextC (ok : Nat → Prop) (w : World) (A : Option Addr) (s : ByteArray) : Prop := Arr ok w 1 byteC A s.data.toList
theorem text_len (s : ByteArray) : s.data.toList.length = s.size := by rw [Array.length_toList]; rfl
theorem conv_bytes {ok : Nat → Prop} {w : World} {A : Option Addr} {s : ByteArray} (h : TextC ok w A s) (c : Nat) :
    (convert 29 9 (.slice A s.size c)).run Tryd.prog w = .ok (.string s) w := by
  cases A with
  | none =>
    have h0 : s.data.toList = [] := by
      cases hl : s.data.toList with
      | nil => rfl
      | cons x xs => obtain ⟨ad, _, hA, _⟩ := h 0 x (by rw [hl]; rfl); cases hA
    have hs0 : s = ByteArray.empty := by
      cases s with
      | mk d => cases d with
        | mk l => simp only at h0; subst h0; rfl
    rw [run_convert_bytes_nil w 29 5 Tryd.underlying29 Tryd.underlying5 _ _ 9 Tryd.underlying9, hs0]
  | some ad =>
    have hl : (loadCells ad s.size).run Tryd.prog w = .ok ((s.data.toList.map fun b => (b.toNat : Int)).map (Value.int .u8)).toArray w := by
      have := run_loadCells_list (P := Tryd.prog) w ad ((s.data.toList.map fun b => (b.toNat : Int)).map (Value.int .u8)) (fun j v hj => by
        rw [List.map_map, List.getElem?_map] at hj
        cases hx : s.data.toList[j]? with
        | none => rw [hx] at hj; simp at hj
        | some x =>
          rw [hx] at hj
          obtain ⟨ad', cs, hA, _, rfl, _, hc⟩ := h j x hx
          cases hA
          have := hc 0 _ rfl
          simp at hj
          rw [← hj]
          simpa using this)
      simpa [text_len] using this
    rw [run_convert_bytes_string w 29 9 5 _ s.size c Tryd.underlying29 Tryd.underlying5 Tryd.underlying9, run_bytesToString w _ s.size c _ hl, foldl_push_bytes]
    congr 2
    have : (ByteArray.empty.data ++ ((s.data.toList.map fun b => (b.toNat : Int)).map fun n => UInt8.ofNat n.toNat).toArray) = s.data := by
      simp [ByteArray.empty, ByteArray.emptyWithCapacity, Function.comp_def]
      rfl
    rw [this]
theorem TextC.move {ok ok' : Nat → Prop} {w w' : World} {A : Option Addr} {s : ByteArray} (h : TextC ok w A s) (hm : ∀ b, ok b → b < w.heap.size → w'.heap[b]? = w.heap[b]? ∧ ok' b) : TextC ok' w' A s := Arr.move h hm (by omega)
/-- An input of runes, each with its place. -/
def InpC (ok : Nat → Prop) (w : World) (a : Addr) (rs : List (Int × Int)) : Prop :=
  ∃ A c, ok a.block ∧ w.cell? a = some (.slice A rs.length c) ∧ rs.length ≤ c ∧ c ≤ maxLen ∧ Arr ok w 2 (fun x cs => cs = symC x) A rs
theorem InpC.move {ok ok' : Nat → Prop} {w w' : World} {a : Addr} {rs : List (Int × Int)} (h : InpC ok w a rs) (hm : ∀ b, ok b → b < w.heap.size → w'.heap[b]? = w.heap[b]? ∧ ok' b) : InpC ok' w' a rs := by
  obtain ⟨A, c, h0, h1, h2, h3, h4⟩ := h
  obtain ⟨m1, m2⟩ := hm a.block h0 (World.block_lt_of_cell? w a h1)
  exact ⟨A, c, m2, by rw [← h1]; exact World.cell?_of_block m1, h2, h3, h4.move hm (by omega)⟩
theorem Filling.inp {b : Nat} {tv kv : Value} {acc : List (Int × Int)} {w : World} (h : Filling b tv kv acc w) : InpC (fun k => b ≤ k) w ⟨b, 0, none⟩ acc := by
  obtain ⟨v, h1, h2⟩ := h
  have hl := h2.lt
  obtain ⟨A, c, rfl, h3, h4⟩ := h2.shape
  simp only [List.length_map] at h1 h2 h3 hl
  refine ⟨A, c, Nat.le_refl _, by rw [cell_of_blk h1]; rfl, h3, h4, h2.arr (by simp) (fun i x cs hx hc => ?_) (fun a hA => ?_)⟩
  · rw [List.getElem?_map, hx] at hc; simpa [eq_comm] using hc
  · subst hA; have := (hl a.block rfl).1; show b ≤ a.block; omega
def NewPost (w : World) (s : ByteArray) (e : Ending) (w' : World) : Prop :=
  ∃ b, e = .returned (.tuple #[.pointer (some ⟨b, 0, none⟩), .int .i64 0]) ∧ InpC (fun k => w.heap.size ≤ k) w' ⟨b, 0, none⟩ (symsOf s) ∧ Below w.heap.size w w'
set_option maxRecDepth 100000 in
set_option maxHeartbeats 2000000 in
theorem new_small (ok : Nat → Prop) (w : World) (A : Option Addr) (c : Nat) (s : ByteArray) (h : TextC ok w A s) (hs : s.size ≤ 65536) :
    Calls Tryd.prog 27 #[.int .i64 2, .slice A s.size c] w (NewPost w s) := by
  have hcl := cloneByte UInt8 byteC (fun x c h u hu => by rw [h] at hu; simp at hu; subst hu; rfl) ok w A c s.data.toList h (by rw [text_len]; omega)
  rw [text_len] at hcl
  have HT := Lib.hid h
  clear h
  go_enter Tryd.func27, Tryd.ntmps27
  go_wp2_with fail
  refine hcl.mono ?_
  rintro e w1 ⟨v', css, rfl, hl, _, hown, hb1⟩
  obtain ⟨A', c', rfl, _, _⟩ := hown.shape
  rw [hl, text_len]
  have hF : Filling w1.heap.size (.slice A' s.size c') (.int .i64 2) [] (w1.alloc (.cells #[.slice none 0 0, .slice A' s.size c', .int .i64 2] 46)) := ⟨_, heap_new1 _ _, Owns.nil _ _ _ _⟩
  have hcv1 := conv_bytes (HT.out.move (ok' := fun _ => True) (w' := (w1.alloc (.cells #[.slice none 0 0, .slice A' s.size c', .int .i64 2] 46)).drew) (fun b _ hb => ⟨(below_al hb1 _).block b hb, trivial⟩)) c
  have HB := Lib.hid hb1
  clear hcl hown hb1 hl
  have hdec := decode_any w1.heap.size (.slice A' s.size c') (.int .i64 2) s (w1.alloc (.cells #[.slice none 0 0, .slice A' s.size c', .int .i64 2] 46)).drew hF (by omega)
  go_wp2_with fail
  go_region_with (go_at_call 46; refine hdec.mono ?_; rintro e w2 ⟨rfl, hF2, hb2⟩)
  all_goals
    go_wp2_with fail
    go_ret2
    exact ⟨w1.heap.size, rfl, hF2.inp.move (fun k hk _ => ⟨rfl, Nat.le_trans HB.out.size hk⟩), ((below_al HB.out _).drew).trans (hb2.mono HB.out.size)⟩
def NewPostBig (w : World) (e : Ending) (w' : World) : Prop := e = .returned (.tuple #[.pointer none, .int .i64 2]) ∧ w = w'
set_option maxRecDepth 100000 in
set_option maxHeartbeats 400000 in
theorem new_big (w : World) (A : Option Addr) (c n : Nat) (hn : 65536 < n) :
    Calls Tryd.prog 27 #[.int .i64 2, .slice A n c] w (NewPostBig w) := by
  go_enter Tryd.func27, Tryd.ntmps27
  go_wp2_with fail
  go_ret2
  exact ⟨rfl, rfl⟩
def TextPost (w : World) (s : ByteArray) (e : Ending) (w' : World) : Prop :=
  ∃ b, e = .returned (.pointer (some ⟨b, 0, none⟩)) ∧ InpC (fun k => w.heap.size ≤ k) w' ⟨b, 0, none⟩ (symsOf s) ∧ Below w.heap.size w w'
set_option maxHeartbeats 400000 in
theorem text_small (ok : Nat → Prop) (w : World) (A : Option Addr) (c : Nat) (s : ByteArray) (h : TextC ok w A s) (hs : s.size ≤ 65536) :
    Calls Tryd.prog 11 #[.slice A s.size c] w (TextPost w s) := by
  have hn := new_small ok w A c s h hs
  clear h
  go_enter Tryd.func11, Tryd.ntmps11
  go_wp2_with (go_at_call 27; refine hn.mono ?_; clear hn; rintro e w2 ⟨b, rfl, hI, hb2⟩)
  go_ret
  exact ⟨b, rfl, hI, hb2⟩
set_option maxHeartbeats 400000 in
theorem text_big (w : World) (A : Option Addr) (c n : Nat) (hn : 65536 < n) :
    Calls Tryd.prog 11 #[.slice A n c] w (fun e w' => e = .returned (.pointer none) ∧ w = w') := by
  have hn := new_big w A c n hn
  go_enter Tryd.func11, Tryd.ntmps11
  go_wp2_with (go_at_call 27; refine hn.mono ?_; clear hn; rintro e w2 ⟨rfl, rfl⟩)
  go_ret
  exact ⟨rfl, rfl⟩
def runeAt (rs : List (Int × Int)) (i : Int) : Int := if 0 ≤ i then ((rs[i.toNat]?).map (·.1)).getD (-1) else -1
set_option maxHeartbeats 400000 in
theorem len_any (ok : Nat → Prop) (w : World) (a : Addr) (rs : List (Int × Int)) (h : InpC ok w a rs) :
    Calls Tryd.prog 15 #[.pointer (some a)] w fun e w' => e = .returned (.int .i64 ((rs.length : Int) - 1)) ∧ w = w' := by
  obtain ⟨A, c, h0, h1, h2, h3, h4⟩ := h
  have hl : rs.length ≤ 9223372036854775807 := by unfold maxLen at h3; omega
  clear h0 h4 h3
  go_enter Tryd.func15, Tryd.ntmps15
  go_wp2
  go_ret
  exact ⟨rfl, rfl⟩
set_option maxHeartbeats 400000 in
theorem rune_any (ok : Nat → Prop) (w : World) (a : Addr) (rs : List (Int × Int)) (h : InpC ok w a rs) (i : Int) :
    Calls Tryd.prog 49 #[.pointer (some a), .int .i64 i] w fun e w' => e = .returned (.int .i32 (runeAt rs i)) ∧ w = w' := by
  obtain ⟨A, c, h0, h1, h2, h3, h4⟩ := h
  have hl : rs.length ≤ 9223372036854775807 := by unfold maxLen at h3; omega
  by_cases hi : i < 0
  · have hr : runeAt rs i = -1 := by unfold runeAt; rw [if_neg (by omega)]
    have HR := Lib.hid hr
    clear h0 h4 h3 hr
    go_enter Tryd.func49, Tryd.ntmps49
    go_wp2
    go_ret
    exact ⟨ret_int HR.out.symm, rfl⟩
  · obtain ⟨n, rfl⟩ := Int.eq_ofNat_of_zero_le (Int.not_lt.1 hi)
    by_cases hn : n < rs.length
    · obtain ⟨ad, cs, rfl, _, rfl, _, hc⟩ := h4 n _ (List.getElem?_eq_getElem hn)
      have hc0 : w.cell? (ad.add (n * 2)) = some (.int .i32 rs[n].1) := hc 0 _ rfl
      have hr : runeAt rs n = rs[n].1 := by unfold runeAt; rw [if_pos (by omega)]; simp [hn]
      have HR := Lib.hid hr
      clear h0 h4 h3 hr hc hi
      go_enter Tryd.func49, Tryd.ntmps49
      go_wp2
      go_ret
      exact ⟨ret_int HR.out.symm, rfl⟩
    · have hr : runeAt rs n = -1 := by unfold runeAt; rw [if_pos (by omega)]; simp [List.getElem?_eq_none (show rs.length ≤ n by omega)]
      have HR := Lib.hid hr
      clear h0 h4 h3 hr hi
      go_enter Tryd.func49, Tryd.ntmps49
      go_wp2
      go_ret
      exact ⟨ret_int HR.out.symm, rfl⟩
end Go.Proofs.YthclpabmbhpohaaDoor
namespace Go.Proofs.YthclpabmbhpohaaDoor
open Go.RowKit
set_option linter.unusedVariables false
def wordB (c : Int) : Bool := (decide (48 ≤ c) && decide (c ≤ 57)) || (decide (65 ≤ c) && decide (c ≤ 90)) || (decide (97 ≤ c) && decide (c ≤ 122)) || (c == 95)
set_option maxHeartbeats 1000000 in
theorem word_any (w : World) (c : Int) : Calls Tryd.prog 70 #[.int .i32 c] w fun e w' => e = .returned (.bool (wordB c)) ∧ w = w' := by
  have hh : wordB c = ((decide (48 ≤ c) && decide (c ≤ 57)) || (decide (65 ≤ c) && decide (c ≤ 90)) || (decide (97 ≤ c) && decide (c ≤ 122)) || (c == 95)) := rfl
  have HH := Lib.hid hh
  clear hh
  generalize wordB c = r at *
  go_enter Tryd.func70, Tryd.ntmps70
  go_wp2
  all_goals
    go_ret
    refine ⟨ret_bool ?_, rfl⟩
    rw [HH.out]
    simp_all <;> omega
/-- What a place is, of the runes on both sides. -/
def atB (z b1 b2 n1 n2 : Bool) : Int := (if z = true then 32 else 16) + (if b1 = true then 5 else if b2 = true then 4 else 0) + (if n1 = true then 10 else if n2 = true then 8 else 0)
def atW (x y : Bool) (b n : Int) : Int := atB (x == y) (b == -1) (b == 10) (n == -1) (n == 10)
def atOf (rs : List (Int × Int)) (i : Int) : Int := if i < 0 ∨ (rs.length : Int) - 1 < i then 0 else atW (wordB (runeAt rs (i - 1))) (wordB (runeAt rs i)) (runeAt rs (i - 1)) (runeAt rs i)
def AtPost (v : Int) (w : World) (e : Ending) (w' : World) : Prop := e = .returned (.int .i64 v) ∧ ∃ n, w' = w.drewN n
set_option maxRecDepth 100000 in
set_option maxHeartbeats 4000000 in
theorem at_any (ok : Nat → Prop) (w : World) (a : Addr) (rs : List (Int × Int)) (h : InpC ok w a rs) (i : Int) (hi : -9223372036854775807 ≤ i) :
    Calls Tryd.prog 50 #[.pointer (some a), .int .i64 i] w (AtPost (atOf rs i) w) := by
  have hlen := len_any ok w a rs h
  by_cases h0 : i < 0
  · have e : atOf rs i = 0 := by unfold atOf; rw [if_pos (.inl h0)]
    rw [e]
    clear e h
    go_enter Tryd.func50, Tryd.ntmps50
    go_wp2_with fail
    go_ret
    exact ⟨rfl, 0, rfl⟩
  have h0' : 0 ≤ i := by omega
  by_cases h1 : (rs.length : Int) - 1 < i
  · have e : atOf rs i = 0 := by unfold atOf; rw [if_pos (.inr h1)]
    rw [e]
    clear e h
    go_enter Tryd.func50, Tryd.ntmps50
    go_wp2_with (go_at_call 15; refine hlen.mono ?_; clear hlen; rintro e w' ⟨rfl, rfl⟩)
    go_ret
    exact ⟨rfl, 0, rfl⟩
  · have e : atOf rs i = atW (wordB (runeAt rs (i - 1))) (wordB (runeAt rs i)) (runeAt rs (i - 1)) (runeAt rs i) := by unfold atOf; rw [if_neg (by omega)]
    have hr : ∀ (k : Nat) (j : Int), Calls Tryd.prog 49 #[.pointer (some a), .int .i64 j] (w.drewN k) fun e w' => e = .returned (.int .i32 (runeAt rs j)) ∧ w' = w.drewN k := fun k j => (rune_any ok (w.drewN k) a rs (h.move (fun b hb _ => ⟨rfl, hb⟩)) j).mono fun _ _ h => ⟨h.1, h.2.symm⟩
    rw [e]
    have hw : IntKind.i64.wrap (i - 1) = i - 1 := IntWalk.i64_in _ (by
      obtain ⟨A, c, _, _, h2, h3, _⟩ := h; unfold maxLen at h3; omega)
    have h1' : i ≤ (rs.length : Int) - 1 := by omega
    clear e h h1
    go_enter Tryd.func50, Tryd.ntmps50
    go_wp2_with (go_at_call 15; refine hlen.mono ?_; clear hlen; rintro e w' ⟨rfl, rfl⟩)
    go_quiet ((go_at_call 49; exact Calls.quiet_of_same (hr _ _)))
    clear hr hw
    generalize runeAt rs (i - 1) = b at *
    generalize runeAt rs i = n at *
    have hW := word_any
    go_wp2_with (go_at_call 70; refine (hW _ _).mono ?_; rintro e w' ⟨rfl, rfl⟩)
    all_goals
      go_ret
      refine ⟨ret_int ?_, _, rfl⟩
      unfold atW
      clear hW hi h0' h1' h0
      generalize (wordB b == wordB n) = z at *
      generalize (b == -1) = b1 at *
      generalize (b == 10) = b2 at *
      generalize (n == -1) = n1 at *
      generalize (n == 10) = n2 at *
      (try simp only [Bool.not_eq_true', Bool.not_eq_false'] at *)
      subst_vars
      (first | kernel_rfl | (cases b2 <;> kernel_rfl) | (cases n2 <;> kernel_rfl) | (cases b2 <;> cases n2 <;> kernel_rfl))
end Go.Proofs.YthclpabmbhpohaaDoor
namespace Go.Proofs.YthclpabmbhpohaaDoor
open Go.RowKit
set_option linter.unusedVariables false
def scopeOf : Code → Option Code
  | .scope c => some c
  | .seq a b => match scopeOf a with
    | some c => some c
    | none => scopeOf b
  | .block _ c => scopeOf c
  | _ => none
noncomputable def tryC : Code := ((Tryd.f29.body.bind scopeOf).getD .skip)
def stripC : Code → Code
  | .seq .skip r => r
  | c => c
noncomputable def tryR (l : Nat) : Code := stripC ((findLabel tryC l).getD .skip)
def JobOK (p : Pg) (M : Nat) : Job (Int × Int) → Prop
  | .go q => q ∈ allP p M
  | .back i v => 2 ≤ i ∧ (i : Int) < p.caps
def stOf (G : Nat) (W : World) : Int := match W.cell? ⟨G, 4, none⟩ with
  | some (.int _ n) => n
  | _ => 0
/-- What does not turn. -/
structure TryCx (p : Pg) (ad : Addr) (c G PB : Nat) (ia : Addr) (rs : List (Int × Int)) (lg : Bool) (D : Nat → Prop) (W0 : World) (Bd : Int) : Prop where
  pg : PgC (fun k => ¬ D k) W0 p [.slice (some ad) p.ins.length c, .int .i64 p.start, .int .i64 p.caps]
  inp : InpC (fun k => ¬ D k) W0 ia rs
  new : ∀ k, W0.heap.size ≤ k → D k
  dG : D G
  chk : checkS rightR p = 0
  lo : 1 ≤ rs.length
  hi : rs.length ≤ 1000000
  LM : p.ins.length * rs.length ≤ 100000000
  set : ∀ x ∈ p.ins, x.set.length ≤ 1000000000
  out : runeAt rs ((rs.length : Int) - 1) < 0
  bd : Bd ≤ 1000000000000
section
variable (p : Pg) (ad : Addr) (c G PB : Nat) (ia : Addr) (rs : List (Int × Int)) (lg : Bool) (D : Nat → Prop) (W0 : World) (Bd : Int) (Fw : Wk (Int × Int))
structure TrAt (J : List (Job (Int × Int))) (fit : List Int) (S : Wk (Int × Int)) (st : Int) (bv jv fv sv : Value) (ws : List Nat) (W : World) : Prop where
  mem : BmAt W G bv jv fv sv ws J.reverse fit S.best st
  bits : BitsOK p.ins.length rs.length ws S.seen
  ob : OwnD D bv
  oj : OwnD D jv
  of : OwnD D fv
  os : OwnD D sv
  box : W.heap[PB]? = some (.cells #[.slice (some ad) p.ins.length c, .int .i64 p.start, .int .i64 p.caps] 28 (0, 0))
  tch : TouchD D W0 W
  hal : halts (gB p (runeAt rs) (atOf rs) lg rs.length) S = false
  jok : ∀ j ∈ J, JobOK p rs.length j
  len : (fit.length : Int) = p.caps
  pos : 0 ≤ st
def KB : Nat := p.caps.toNat + 3
def NextI (J : List (Job (Int × Int))) (fit : List Int) (S : Wk (Int × Int)) (st : Int) (bv jv fv sv : Value) (ws : List Nat) (W : World) : Prop :=
  TrAt p ad c G PB rs lg D W0 J fit S st bv jv fv sv ws W ∧ fin (gB p (runeAt rs) (atOf rs) lg rs.length) (rs.length * p.ins.length + 1) J fit S = Fw ∧ st + (pot (KB p) (allP p rs.length) J S : Nat) ≤ Bd
def OnI (i j : Nat) (J : List (Job (Int × Int))) (fit : List Int) (S : Wk (Int × Int)) (st : Int) (bv jv fv sv : Value) (ws : List Nat) (W : World) : Prop :=
  TrAt p ad c G PB rs lg D W0 J fit S st bv jv fv sv ws W ∧ fin (gB p (runeAt rs) (atOf rs) lg rs.length) (rs.length * p.ins.length + 1) (.go ((i : Int), (j : Int)) :: J) fit S = Fw ∧ st + 1 + (pot (KB p) (allP p rs.length) J S : Nat) ≤ Bd ∧ i < p.ins.length ∧ j < rs.length
def FrOK (L : List Value) : Prop := L.length = 245 ∧ L[0]? = some (.pointer (some ⟨G, 0, none⟩)) ∧ L[2]? = some (.pointer (some ia)) ∧ L[4]? = some (.bool lg) ∧ L[6]? = some (.pointer (some ⟨PB, 0, none⟩))
def JJ (l : Nat) (a : Act) (W : World) : Prop := ∃ L : List Value, a = ⟨L.toArray, []⟩ ∧ FrOK G PB ia lg L ∧
  ((l = 0 ∧ ∃ J fit S st bv jv fv sv ws, NextI p ad c G PB rs lg D W0 Bd Fw J fit S st bv jv fv sv ws W) ∨
    (l = 1 ∧ ∃ i j : Nat, L[10]? = some (.int .i64 i) ∧ L[11]? = some (.int .i64 j) ∧ ∃ J fit S st bv jv fv sv ws, OnI p ad c G PB rs lg D W0 Bd Fw i j J fit S st bv jv fv sv ws W))
def EndI (W : World) : Prop := ∃ (J : List (Job (Int × Int))) (fit : List Int) (st : Int) (bv jv fv sv : Value) (ws : List Nat), BmAt W G bv jv fv sv ws J.reverse fit Fw.best st ∧ BitsOK p.ins.length rs.length ws Fw.seen ∧ OwnD D bv ∧ OwnD D jv ∧ OwnD D fv ∧ OwnD D sv ∧ TouchD D W0 W ∧ (fit.length : Int) = p.caps ∧ 0 ≤ st ∧ st + (KB p * left (allP p rs.length) Fw : Nat) ≤ Bd
end
theorem lt_eq {a b c : Int} (h : a < c) (e : b = c) : a < b := by omega
theorem stOf_eq {W : World} {G : Nat} {bv jv fv sv : Value} {ws : List Nat} {js : List (Job (Int × Int))} {fit : List Int} {best : Option (List Int)} {st : Int} (h : BmAt W G bv jv fv sv ws js fit best st) : stOf G W = st := by
  unfold stOf; rw [cell_of_blk h.blk]; rfl
theorem own_lit {W : World} {e : TypeId} {sz : Nat} {v : Value} {css : List (List Value)} (h : Owns W 0 e sz v css) (h0 : 0 < css.length) : ∃ g c, v = .slice (some ⟨g, 0, none⟩) css.length c ∧ css.length ≤ c ∧ c ≤ maxLen ∧ g < W.heap.size ∧ ∀ j, W.frozen? ⟨g, j, none⟩ = false := by
  rcases h.1.2 with ⟨_, h9⟩ | ⟨g, cap, cur, rfl, _, hk, h1, h2, _⟩
  · omega
  · exact ⟨g, cap, rfl, h1, h2, heap_lt hk, frozenOf hk⟩
/-- The instruction at a place: its cells. -/
theorem ins_D {ok : Nat → Prop} {w : World} {p : Pg} {ad : Addr} {c : Nat} (h : PgC ok w p [.slice (some ad) p.ins.length c, .int .i64 p.start, .int .i64 p.caps]) (i : Nat) (hi : i < p.ins.length) :
    ∃ B d, ok ad.block ∧ ad.block < w.heap.size ∧ p.ins[i].set.length ≤ d ∧ d ≤ maxLen ∧ Arr ok w 2 RgC B p.ins[i].set ∧
      w.cell? (ad.add (i * 5)) = some (.int .i64 p.ins[i].op) ∧ w.cell? ⟨(ad.add (i * 5)).block, (ad.add (i * 5)).off + 1, none⟩ = some (.int .i64 p.ins[i].out) ∧
      w.cell? ⟨(ad.add (i * 5)).block, (ad.add (i * 5)).off + 2, none⟩ = some (.int .i64 p.ins[i].arg) ∧ w.cell? ⟨(ad.add (i * 5)).block, (ad.add (i * 5)).off + 3, none⟩ = some (.slice B p.ins[i].set.length d) ∧
      w.cell? ⟨(ad.add (i * 5)).block, (ad.add (i * 5)).off + 4, none⟩ = some (.int .i64 p.ins[i].at_) := by
  obtain ⟨A, c', he, h1, h2, h3⟩ := h
  simp only [List.cons.injEq, Value.slice.injEq, and_true, true_and] at he
  obtain ⟨rfl, rfl⟩ := he
  obtain ⟨ad', B, d, e, hok, hlt, ⟨B', d', he, hd1, hd2, hs⟩, k0, k1, k2, k3, k4⟩ := inArr_at h3 w (fun _ _ _ => rfl) i hi
  simp only [List.cons.injEq, Value.slice.injEq, and_true, true_and] at he
  obtain ⟨rfl, rfl⟩ := he
  cases e
  exact ⟨B, d, hok, hlt, hd1, hd2, hs, k0, k1, k2, k3, k4⟩
section
variable {p : Pg} {ad : Addr} {c G PB : Nat} {ia : Addr} {rs : List (Int × Int)} {lg : Bool} {D : Nat → Prop} {W0 W W' : World} {Bd : Int} {Fw : Wk (Int × Int)} {J : List (Job (Int × Int))} {fit : List Int} {S : Wk (Int × Int)} {st : Int} {bv jv fv sv : Value} {ws : List Nat}
theorem TryCx.newW (C : TryCx p ad c G PB ia rs lg D W0 Bd) (h : TouchD D W0 W) : ∀ k, W.heap.size ≤ k → D k := fun k hk => C.new k (Nat.le_trans h.size hk)
theorem TrAt.below (C : TryCx p ad c G PB ia rs lg D W0 Bd) (h : TrAt p ad c G PB rs lg D W0 J fit S st bv jv fv sv ws W) (hb : Below W.heap.size W W') : TrAt p ad c G PB rs lg D W0 J fit S st bv jv fv sv ws W' :=
  ⟨h.mem.below hb, h.bits, h.ob, h.oj, h.of, h.os, (hb.block _ (heap_lt h.box)).trans h.box, h.tch.trans (TouchD.of_below hb (C.newW h.tch)), h.hal, h.jok, h.len, h.pos⟩
/-- The cells that a round reads. -/
structure OnC (W : World) (G PB : Nat) (ad : Addr) (N c : Nat) (p : Pg) (bv jv fv sv : Value) (st : Int) : Prop where
  c0 : W.cell? ⟨G, 0, none⟩ = some bv
  c1 : W.cell? ⟨G, 1, none⟩ = some jv
  c2 : W.cell? ⟨G, 2, none⟩ = some fv
  c3 : W.cell? ⟨G, 3, none⟩ = some sv
  c4 : W.cell? ⟨G, 4, none⟩ = some (.int .i64 st)
  f : ∀ j, W.frozen? ⟨G, j, none⟩ = false
  nG : G < W.heap.size
  x0 : W.cell? ⟨PB, 0, none⟩ = some (.slice (some ad) N c)
  x1 : W.cell? ⟨PB, 1, none⟩ = some (.int .i64 p.start)
  x2 : W.cell? ⟨PB, 2, none⟩ = some (.int .i64 p.caps)
  nP : PB < W.heap.size
  ne : (PB = G) = False
  ne2 : (G = PB) = False
theorem TrAt.cells (h : TrAt p ad c G PB rs lg D W0 J fit S st bv jv fv sv ws W) : OnC W G PB ad p.ins.length c p bv jv fv sv st := by
  have hb := h.mem.blk
  have hx := h.box
  have hne : PB ≠ G := by
    rintro rfl
    rw [hb] at hx
    simp only [Option.some.injEq, Obj.cells.injEq] at hx
    exact absurd hx.2.1 (by decide)
  exact ⟨by rw [cell_of_blk hb]; rfl, by rw [cell_of_blk hb]; rfl, by rw [cell_of_blk hb]; rfl, by rw [cell_of_blk hb]; rfl, by rw [cell_of_blk hb]; rfl, frozenOf hb, heap_lt hb, by rw [cell_of_blk hx]; rfl, by rw [cell_of_blk hx]; rfl, by rw [cell_of_blk hx]; rfl, heap_lt hx, eq_false hne, eq_false (Ne.symm hne)⟩
/-- Below the box of the program nothing of the machine's lies: another type. -/
theorem TrAt.box_row (h : TrAt p ad c G PB rs lg D W0 J fit S st bv jv fv sv ws W) {e : TypeId} {sz : Nat} {v : Value} {css : List (List Value)} (ho : Owns W 0 e sz v css) (hne : 28 ≠ e) : some PB ≠ v.ownBlock := TyB.ne_own (T := 28) ⟨_, _, h.box⟩ ho hne
theorem seen_same {q : Int × Int} (h : S.seen q = true) : (markW q S).seen = S.seen := by
  funext r
  rw [mark_seen]
  by_cases e : r = q
  · subst e; rw [h]; simp
  · rw [decide_eq_false e, Bool.false_or]
/-- The round's beginning: one step more; was the instruction at the place come to? -/
theorem on_begin (C : TryCx p ad c G PB ia rs lg D W0 Bd) {i j : Nat} (h : OnI p ad c G PB rs lg D W0 Bd Fw i j J fit S st bv jv fv sv ws W) :
    ∃ (n jL gb cb : Nat) (Y : World) (ws' : List Nat), IntKind.i64.wrap ((j : Int) * (p.ins.length : Int)) = (jL : Int) ∧ IntKind.i64.wrap ((jL : Int) + (i : Int)) = (n : Int) ∧ IntKind.i64.wrap (st + 1) = st + 1 ∧ bv = .slice (some ⟨gb, 0, none⟩) ws.length cb ∧
      Calls Tryd.prog 47 #[.pointer (some ⟨G, 0, none⟩), .int .i64 n] (W.setCell ⟨G, 4, none⟩ (.int .i64 (st + 1))) (fun e w' => e = .returned (.bool (!S.seen ((i : Int), (j : Int)))) ∧ w' = Y) ∧
      TrAt p ad c G PB rs lg D W0 J fit (markW ((i : Int), (j : Int)) S) (st + 1) bv jv fv sv ws' Y := by
  obtain ⟨hT, hfin, hpot, hi, hj⟩ := h
  have hLM := C.LM
  have hbd := C.bd
  have hpos := hT.pos
  have hlt := place_lt2 (L := p.ins.length) (M := rs.length) hi hj
  obtain ⟨gb, cb, he, _, _, _, _⟩ := own_lit hT.mem.bits (by rw [List.length_map]; have := hT.bits.len; omega)
  rw [List.length_map] at he
  subst he
  have m1 := hT.mem.setSteps (st + 1)
  have hwd := hT.bits.lt hi hj
  have hfr := fresh_any (W.setCell ⟨G, 4, none⟩ (.int .i64 (st + 1))) G 0 gb cb ws jv fv sv (.int .i64 (st + 1)) m1.blk m1.bits hT.bits.big (j * p.ins.length + i) hwd (by omega)
  unfold FreshPost at hfr
  rw [hT.bits.bit i j hi hj] at hfr
  refine ⟨j * p.ins.length + i, j * p.ins.length, gb, cb, _, ws.set ((j * p.ins.length + i) / 64) (ws.getD ((j * p.ins.length + i) / 64) 0 ||| 2 ^ ((j * p.ins.length + i) % 64)), ?_, ?_, ?_, rfl, hfr, ?_⟩
  · rw [show (j : Int) * (p.ins.length : Int) = ((j * p.ins.length : Nat) : Int) by simp]; exact IntWalk.i64_in _ (by omega)
  · rw [show ((j * p.ins.length : Nat) : Int) + (i : Int) = ((j * p.ins.length + i : Nat) : Int) by simp]; exact IntWalk.i64_in _ (by omega)
  · exact IntWalk.i64_in _ (by omega)
  · have m2 := (m1.below (W' := (W.setCell ⟨G, 4, none⟩ (.int .i64 (st + 1))).drew) (Below.refl _ _).drew).putBit rfl ((j * p.ins.length + i) / 64) (ws.getD ((j * p.ins.length + i) / 64) 0 ||| 2 ^ ((j * p.ins.length + i) % 64))
    have ne1 : PB ≠ G := fun e => by have := hT.cells.ne; rw [this] at e; exact e
    have ne2 : PB ≠ gb := fun e => hT.box_row hT.mem.bits (by decide) (by rw [e]; rfl)
    refine ⟨m2, hT.bits.mark hi hj, hT.ob, hT.oj, hT.of, hT.os, ?_, ?_, hT.hal, hT.jok, hT.len, by omega⟩
    · rw [set_ne0 _ _ (by exact ne2)]
      show (W.setCell ⟨G, 4, none⟩ (.int .i64 (st + 1))).heap[PB]? = _
      rw [set_ne0 _ _ (by exact ne1)]; exact hT.box
    · refine hT.tch.trans ((TouchD.set W _ C.dG).trans ((TouchD.of_below (Below.refl _ _).drew (fun k hk => C.newW hT.tch k ?_)).trans (TouchD.set _ _ (hT.ob gb rfl))))
      simpa [World.setCell] using hk
theorem OnI.next {i j : Nat} (h : OnI p ad c G PB rs lg D W0 Bd Fw i j J fit S st bv jv fv sv ws W) (hck : checkS rightR p = 0) {J' : List (Job (Int × Int))} {fit' : List Int} {S' : Wk (Int × Int)} {st' : Int} {bv' jv' fv' sv' : Value} {ws' : List Nat}
    (hT : TrAt p ad c G PB rs lg D W0 J' fit' S' st' bv' jv' fv' sv' ws' W') (hf : fin (gB p (runeAt rs) (atOf rs) lg rs.length) (rs.length * p.ins.length + 1) (.go ((i : Int), (j : Int)) :: J) fit S = fin (gB p (runeAt rs) (atOf rs) lg rs.length) (rs.length * p.ins.length + 1) J' fit' S')
    (hp : st' + (pot (KB p) (allP p rs.length) J' S' : Nat) ≤ st + 1 + (pot (KB p) (allP p rs.length) J S : Nat)) : NextI p ad c G PB rs lg D W0 Bd Fw J' fit' S' st' bv' jv' fv' sv' ws' W' :=
  ⟨hT, by rw [← hf]; exact h.2.1, by have := h.2.2.1; omega⟩
theorem OnI.on {i j : Nat} (h : OnI p ad c G PB rs lg D W0 Bd Fw i j J fit S st bv jv fv sv ws W) {i' j' : Nat} {J' : List (Job (Int × Int))} {fit' : List Int} {S' : Wk (Int × Int)} {st' : Int} {bv' jv' fv' sv' : Value} {ws' : List Nat}
    (hT : TrAt p ad c G PB rs lg D W0 J' fit' S' st' bv' jv' fv' sv' ws' W') (hf : fin (gB p (runeAt rs) (atOf rs) lg rs.length) (rs.length * p.ins.length + 1) (.go ((i : Int), (j : Int)) :: J) fit S = fin (gB p (runeAt rs) (atOf rs) lg rs.length) (rs.length * p.ins.length + 1) (.go ((i' : Int), (j' : Int)) :: J') fit' S')
    (hp : st' + 1 + (pot (KB p) (allP p rs.length) J' S' : Nat) ≤ st + 1 + (pot (KB p) (allP p rs.length) J S : Nat)) (hi : i' < p.ins.length) (hj : j' < rs.length) : OnI p ad c G PB rs lg D W0 Bd Fw i' j' J' fit' S' st' bv' jv' fv' sv' ws' W' :=
  ⟨hT, by rw [← hf]; exact h.2.1, by have := h.2.2.1; omega, hi, hj⟩
end
end Go.Proofs.YthclpabmbhpohaaDoor
namespace Go.Proofs.YthclpabmbhpohaaDoor
open Go.RowKit
set_option linter.unusedVariables false
theorem get_at (p : Pg) (i : Nat) (hi : i < p.ins.length) : p.get (i : Int) = p.ins[i] := by simp [Pg.get, hi]
section
variable {p : Pg} {rn av : Int → Int} {lg : Bool} {M : Nat} {q : Int × Int} {J : List (Job (Int × Int))} {c : List Int} {S : Wk (Int × Int)}
theorem mat_B (q : Int × Int) : (gB p rn av lg M).mat q = ((p.get q.1).op == 1) := rfl
theorem fin_step (hck : checkS rightR p = 0) (hq : q ∈ allP p M) (h0 : halts (gB p rn av lg M) S = false) (h1 : S.seen q = false) (h2 : (p.get q.1).op ≠ 1) (h4 : (p.get q.1).op ≠ 4) {l : List (Int × Int)} (hl : nextsP p rn av ((M : Int) - 1) q = l) :
    fin (gB p rn av lg M) (M * p.ins.length + 1) (.go q :: J) c S = fin (gB p rn av lg M) (M * p.ins.length + 1) (l.map .go ++ J) c (markW q S) := by
  have h := fin_on (g := gB p rn av lg M) (within_B (check_leads hck)) hq (left_B S) h0 h1 (by rw [mat_B]; simpa using h2) J c (by show updP p q c = c; unfold updP; rw [if_neg h4])
  rw [h, show (gB p rn av lg M).nexts q = l from hl]
theorem nexts_none (h : (p.get q.1).op ≠ 2 ∧ (p.get q.1).op ≠ 3 ∧ (p.get q.1).op ≠ 4 ∧ (p.get q.1).op ≠ 5) (to : Int) : nextsP p rn av to q = [] := by
  unfold nextsP; rw [if_neg h.1, if_neg h.2.1, if_neg h.2.2.1, if_neg h.2.2.2]
theorem nexts_set1 (h : (p.get q.1).op = 2) (hh : hasB (p.get q.1).set (rn q.2) = true) {to : Int} (ht : q.2 + 1 ≤ to) : nextsP p rn av to q = [((p.get q.1).out, q.2 + 1)] := by
  unfold nextsP; rw [if_pos h, if_pos ⟨hh, ht⟩]
theorem nexts_set0 (h : (p.get q.1).op = 2) (hh : hasB (p.get q.1).set (rn q.2) = false) (to : Int) : nextsP p rn av to q = [] := by
  unfold nextsP; rw [if_pos h, if_neg (by rw [hh]; simp)]
theorem nexts_alt (h : (p.get q.1).op = 3) (to : Int) : nextsP p rn av to q = [((p.get q.1).out, q.2), ((p.get q.1).arg, q.2)] := by
  unfold nextsP; rw [if_neg (by omega), if_pos h]
theorem nexts_cap (h : (p.get q.1).op = 4) (to : Int) : nextsP p rn av to q = [((p.get q.1).out, q.2)] := by
  unfold nextsP; rw [if_neg (by omega), if_neg (by omega), if_pos h]
theorem nexts_at1 (h : (p.get q.1).op = 5) (hh : hitB (av q.2) (p.get q.1).at_ = true) (to : Int) : nextsP p rn av to q = [((p.get q.1).out, q.2)] := by
  unfold nextsP; rw [if_neg (by omega), if_neg (by omega), if_neg (by omega), if_pos h, if_pos hh]
theorem nexts_at0 (h : (p.get q.1).op = 5) (hh : hitB (av q.2) (p.get q.1).at_ = false) (to : Int) : nextsP p rn av to q = [] := by
  unfold nextsP; rw [if_neg (by omega), if_neg (by omega), if_neg (by omega), if_pos h, if_neg (by rw [hh]; simp)]
theorem fin_capB (hck : checkS rightR p = 0) (hq : q ∈ allP p M) (h0 : halts (gB p rn av lg M) S = false) (h1 : S.seen q = false) (h4 : (p.get q.1).op = 4) {k : Nat} (hk : (p.get q.1).arg = k) (hc : k < c.length) :
    fin (gB p rn av lg M) (M * p.ins.length + 1) (.go q :: J) c S = fin (gB p rn av lg M) (M * p.ins.length + 1) (.go ((p.get q.1).out, q.2) :: .back k c[k] :: J) (c.set k q.2) (markW q S) := by
  have h := fin_cap (g := gB p rn av lg M) (within_B (check_leads hck)) hq (left_B S) h0 h1 (by rw [mat_B]; simp; omega) J c k hc q.2 (by show updP p q c = c.set k q.2; unfold updP; rw [if_pos h4, hk]; rfl)
  rw [h, show (gB p rn av lg M).nexts q = [((p.get q.1).out, q.2)] from nexts_cap h4 _]
  rfl
theorem fin_matB (h0 : halts (gB p rn av lg M) S = false) (h1 : S.seen q = false) (h2 : (p.get q.1).op = 1) : fin (gB p rn av lg M) (M * p.ins.length + 1) (.go q :: J) c S =
    fin (gB p rn av lg M) (M * p.ins.length + 1) J c ⟨(markW q S).seen, bestOf (gB p rn av lg M) q c S.best⟩ :=
  fin_mat h0 h1 (by rw [mat_B, h2]; rfl) (by omega) J c
theorem pot_le {K : Nat} {U : List (Int × Int)} (hq : q ∈ U) (h : S.seen q = false) : pot K U J (markW q S) + K ≤ pot K U J S := pot_mark hq h J
theorem wt_len : ∀ J : List (Job (Int × Int)), J.length ≤ wt J
  | [] => Nat.le_refl _
  | .go _ :: J => by have := wt_len J; simp only [List.length_cons, wt]; omega
  | .back _ _ :: J => by have := wt_len J; simp only [List.length_cons, wt]; omega
end
end Go.Proofs.YthclpabmbhpohaaDoor
namespace Go.Proofs.YthclpabmbhpohaaDoor
open Go.RowKit
set_option linter.unusedVariables false
section
variable {P : Program} {ops : Array Oper} {Q : Exit → Act → World → Prop} {md : Region.Mode} {S : World → Prop} {n : Nat}
def wpAnyG (P : Program) (md : Region.Mode) (ops : Array Oper) (Q : Exit → Act → World → Prop) (S : World → Prop) (n : Nat) : Nat → Array Bool → Act → World → Prop
  | 0, listed, a, w => Region.ready md ops listed = [] ∧ Q .normal a w
  | fuel + 1, listed, a, w =>
    (Region.ready md ops listed = [] → Q .normal a w) ∧
    ∀ i ∈ Region.ready md ops listed, wpOp P ops Q i (fun a' w' => (i < n → S w') ∧ wpAnyG P md ops Q S n fuel (listed.setIfInBounds i true) a' w') a w
theorem wpAny_of_G : ∀ (fuel : Nat) (listed : Array Bool) (a : Act) (w : World), wpAnyG P md ops Q S n fuel listed a w → wpAny P md ops Q fuel listed a w
  | 0, _, _, _, h => h
  | fuel + 1, _, _, _, h => ⟨h.1, fun i hi => wpOp_mono (fun a' w' h' => wpAny_of_G fuel _ a' w' h'.2) (h.2 i hi)⟩
theorem wpAnyG_first {i : Nat} {oi : Oper} {v : Value} (hi : ops[i]? = some oi) (hsel : ∀ (j : Nat) (o : Oper) cs b, ops[j]? = some o → o.op ≠ .select cs b)
    (hQ : ∀ c a w, Q (.panic c) (a.put oi.dst v) w → Q (.panic c) a w) (hsk : Region.sinkB md ops n = true) (hch : Region.chainB md ops n = true) (hn : n < ops.size) (hin : i < n) :
    ∀ (fuel : Nat) (listed : Array Bool) (a : Act) (w : World), HeadInv md ops n listed →
      (∀ j oj, ops[j]? = some oj → j ≠ i → listed.getD j true = false → (∀ e ∈ oj.after, Region.binds md e = true → e.on ≠ i) → oi.apart ops oj = true) →
      i ∈ Region.ready md ops listed → YieldsIf P ops S oi v a → S w →
      wpAnyG P md ops Q S n fuel (listed.setIfInBounds i true) (a.put oi.dst v) w → wpAnyG P md ops Q S n (fuel + 1) listed a w := by
  intro fuel
  induction fuel with
  | zero =>
    intro listed a w inv _ hr hy hS H
    refine ⟨fun h => (by rw [h] at hr; cases hr), fun j hj => ?_⟩
    by_cases hji : j = i
    · subst hji; exact hy.wpOp hi hS ⟨fun _ => hS, H⟩
    · have := ready_mono hj hji
      rw [H.1] at this
      cases this
  | succ fuel ih =>
    intro listed a w inv hfree hr hy hS H
    refine ⟨fun h => (by rw [h] at hr; cases hr), fun j hj => ?_⟩
    by_cases hji : j = i
    · subst hji; exact hy.wpOp hi hS ⟨fun _ => hS, H⟩
    · have hjn : j < n := by
        rcases Nat.lt_or_ge j n with h9 | h9
        · exact h9
        · exact absurd hj (tail_waits hsk hch hn inv (n - i) i rfl hin (mem_ready.1 hr).1 j h9)
      have h1 := H.2 j (ready_mono hj hji)
      obtain ⟨hjun, oj, hoj, hall⟩ := mem_ready.1 hj
      have hnot : ∀ e ∈ oj.after, Region.binds md e = true → e.on ≠ i := fun e he hb heq => by
        have h1 := hall e he hb
        have h0 := (mem_ready.1 hr).1
        rw [heq] at h1
        rcases Nat.lt_or_ge i listed.size with h' | h'
        · simp [h'] at h0 h1; rw [h0] at h1; cases h1
        · simp [Array.getElem?_eq_none h'] at h1
      have h2 := wpOp_putIf hoj (hfree j oj hoj hji hjun hnot) (fun cs b => hsel i oi cs b hi) (fun cs b => hsel j oj cs b hoj) hQ hy h1
      have hfree' : ∀ k ok, ops[k]? = some ok → k ≠ i → (listed.setIfInBounds j true).getD k true = false →
          (∀ e ∈ ok.after, Region.binds md e = true → e.on ≠ i) → oi.apart ops ok = true := fun k ok hk hki hun hno => by
        refine hfree k ok hk hki ?_ hno
        by_cases hjk : j = k
        · subst hjk; exact hjun
        · rw [getD_set_ne true hjk] at hun; exact hun
      refine wpOp_mono (fun a' w' h3 => ⟨fun _ => h3.2.1 hjn, ih (listed.setIfInBounds j true) a' w' (inv.set hj hjn) hfree' (ready_mono hr (Ne.symm hji)) h3.1 (h3.2.1 hjn) ?_⟩) h2
      rw [Array.setIfInBounds_comm _ _ hji]
      exact h3.2.2
/-- As Scr; behind operation n nothing is asked of the world. -/
def ScrT (P : Program) (ops : Array Oper) (Q : Exit → Act → World → Prop) (S : World → Prop) (n : Nat) : List (Bool × Nat × Nat) → Act → World → Prop
  | [], a, w => Q .normal a w
  | (true, i, d) :: r, a, w => ∃ o v, ops[i]? = some o ∧ o.dst = some d ∧ YieldsIf P ops S o v a ∧ S w ∧ ScrT P ops Q S n r (a.put (some d) v) w
  | (false, i, _) :: r, a, w => wpOp P ops Q i (fun a' w' => (i < n → S w') ∧ ScrT P ops Q S n r a' w') a w
def scrTOK (md : Region.Mode) (ops : Array Oper) (n : Nat) : Array Bool → List (Bool × Nat × Nat) → Bool
  | listed, [] => Region.ready md ops listed == []
  | listed, (true, i, _) :: r => decide (i < n) && Region.free md ops listed i && (Region.ready md ops listed).contains i && scrTOK md ops n (listed.setIfInBounds i true) r
  | listed, (false, i, _) :: r => (Region.ready md ops listed == [i]) && (decide (i < n) || decide (r = [])) && scrTOK md ops n (listed.setIfInBounds i true) r
theorem G_of_scr (hs : Region.noSelect ops = true) (hQ : ∀ c (d : Tmp) v a w, Q (.panic c) (a.put (some d) v) w → Q (.panic c) a w) (hsk : Region.sinkB md ops n = true) (hch : Region.chainB md ops n = true) (hn : n < ops.size) :
    ∀ (r : List (Bool × Nat × Nat)) (listed : Array Bool) (a : Act) (w : World), (r = [] ∨ HeadInv md ops n listed) →
    scrTOK md ops n listed r = true → ScrT P ops Q S n r a w → wpAnyG P md ops Q S n r.length listed a w
  | [], listed, a, w, _, hc, h => ⟨by simpa [scrTOK] using hc, h⟩
  | (true, i, d) :: r, listed, a, w, inv, hc, h => by
    simp only [scrTOK, Bool.and_eq_true, decide_eq_true_eq] at hc
    obtain ⟨o, v, ho, hd, hy, hS, hr⟩ := h
    have inv := inv.resolve_left (by simp)
    have hrd : i ∈ Region.ready md ops listed := by simpa using hc.1.2
    refine wpAnyG_first ho (Region.noSelect_spec hs) (fun c a w => by rw [hd]; exact hQ c d v a w) hsk hch hn hc.1.1.1 r.length listed a w inv (Region.free_spec ho hc.1.1.2) hrd hy hS ?_
    rw [hd]
    exact G_of_scr hs hQ hsk hch hn r _ _ w (.inr (inv.set hrd hc.1.1.1)) hc.2 hr
  | (false, i, _) :: r, listed, a, w, inv, hc, h => by
    simp only [scrTOK, Bool.and_eq_true, beq_iff_eq, Bool.or_eq_true, decide_eq_true_eq] at hc
    have inv := inv.resolve_left (by simp)
    refine ⟨fun h0 => by rw [h0] at hc; exact absurd hc.1.1 (by simp), fun j hj => ?_⟩
    have hrd := hj
    rw [hc.1.1] at hj
    rw [List.mem_singleton.1 hj] at hrd ⊢
    refine wpOp_mono (fun a' w' h' => ⟨h'.1, G_of_scr hs hQ hsk hch hn r _ a' w' ?_ hc.2 h'.2⟩) h
    rcases hc.1.2 with h9 | h9
    · exact .inr (inv.set hrd h9)
    · exact .inl h9
theorem ScrT.take {i d : Nat} {r : List (Bool × Nat × Nat)} {o : Oper} {v : Value} {a : Act} {w : World} (hi : ops[i]? = some o) (hd : o.dst = some d) (hy : YieldsIf P ops S o v a) (hS : S w) (h : ScrT P ops Q S n r (a.put (some d) v) w) : ScrT P ops Q S n ((true, i, d) :: r) a w :=
  ⟨o, v, hi, hd, hy, hS, h⟩
theorem ScrT.run {i d : Nat} {r : List (Bool × Nat × Nat)} {o : Oper} {a : Act} {w : World} (hi : ops[i]? = some o) (hw : Region.wanted o (yielded ops a.tmps) = true) (h : ∀ K : Act → World → Prop, (∀ a' w', (i < n → S w') → ScrT P ops Q S n r a' w' → K a' w') → Oper.wp P o a w K Q) : ScrT P ops Q S n ((false, i, d) :: r) a w := by
  unfold ScrT wpOp
  simp only [hi]
  rw [if_pos hw]
  exact .inl (h _ fun a' w' h1 h2 => ⟨h1, h2⟩)
end
theorem wp_region_scrT {P : Program} {ops : Array Oper} {Q : Exit → Act → World → Prop} (S : World → Prop) (n : Nat) {id : Nat} {a : Act} {w : World} (r : List (Bool × Nat × Nat)) (hm : P.follows .mixedOrders = true) (hs : Region.noSelect ops = true)
    (hsk : Region.sinkB .any ops n = true) (hch : Region.chainB .any ops n = true) (hn : n + 1 = ops.size)
    (hQ : ∀ c (d : Tmp) v a w, Q (.panic c) (a.put (some d) v) w → Q (.panic c) a w) (hl : r.length = ops.size)
    (hc : scrTOK .any ops n (Array.replicate ops.size false) r = true) (h : ScrT P ops Q S n r a w.drew) : (Code.region id ops true).wp P Q a w := by
  have inv : HeadInv .any ops n (Array.replicate ops.size false) := ⟨by simp, fun j oj _ hl => (by rw [getD_replicate_false] at hl; cases hl), fun t h1 h2 => by simp [h2]⟩
  have h9 := G_of_scr (P := P) (md := .any) (S := S) hs hQ hsk hch (by omega) r (Array.replicate ops.size false) a w.drew (.inr inv) hc h
  rw [hl] at h9
  exact wp_region_any hm (wpAny_of_G _ _ _ _ h9)
end Go.Proofs.YthclpabmbhpohaaDoor
namespace Go.Proofs.YthclpabmbhpohaaDoor
open Go.RowKit
set_option linter.unusedVariables false
theorem infoJob : (Tryd.prog.info? 105).map (fun i => (i.zero, i.size, i.bytes)) = some (some (.agg #[.int .i64 0, .int .i64 0, .int .i64 0]), 3, 24) := by kernel_rfl
theorem has_neg {c : Int} (h : c < 0) (l : List Rg) : hasB l c = false := by unfold hasB; rw [decide_eq_false (by omega)]; rfl
theorem KB_le (p : Pg) : p.caps ≤ (KB p : Int) - 3 ∧ 3 ≤ KB p := by unfold KB; omega
theorem pot_go {K : Nat} {U : List (Int × Int)} (q : Int × Int) (J : List (Job (Int × Int))) (S : Wk (Int × Int)) : pot K U (.go q :: J) S = pot K U J S + 2 := rfl
theorem pot_back {K : Nat} {U : List (Int × Int)} (i : Nat) (v : Int) (J : List (Job (Int × Int))) (S : Wk (Int × Int)) : pot K U (.back i v :: J) S = pot K U J S + 1 := rfl
theorem pot_len (K : Nat) (U : List (Int × Int)) (J : List (Job (Int × Int))) (S : Wk (Int × Int)) : J.length ≤ pot K U J S := by have := wt_len J; unfold pot; omega
theorem yw_rowB {P : Program} {ops : Array Oper} {S : World → Prop} {o : Oper} {a : Act} (ty : TypeId) (x : Operand) (ho : o.op = .load ty x) (ad : Addr) (cs : List Value) (hx : a.eval x = .pointer (some ad)) (hw : Region.wanted o (yielded ops a.tmps) = true)
    (d : TypeDesc) (hu : P.underlying ty = some d) (hd : d.isRow = true) (hi : (P.info? ty).map (·.size) = some cs.length) (hc : ∀ w, S w → ∀ r u, cs[r]? = some u → w.cell? (ad.add r) = some u) : YieldsIf P ops S o (.agg cs.toArray) a := by
  refine Or.inl ⟨hw, fun w hS => ?_⟩
  have hl := run_loadCells_list (P := P) w ad cs (hc w hS)
  cases hq : P.info? ty with
  | none => simp [hq] at hi
  | some i =>
    have hs : i.size = cs.length := by simpa [hq] using hi
    have hagg : (isAgg ty).run P w = .ok true w := by
      unfold isAgg
      rw [Sem.run_bind, run_underlying hu w]
      cases d <;> simp_all
    unfold execOp
    simp [ho, hx, Instr.loadAt, Instr.sureAddr, loadVar, hagg, sizeOf, typeInfo, hq, hs, hl]
section
variable {p : Pg} {ad : Addr} {c G PB : Nat} {ia : Addr} {rs : List (Int × Int)} {lg : Bool} {D : Nat → Prop} {W0 W W' : World} {Bd : Int} {Fw : Wk (Int × Int)} {J : List (Job (Int × Int))} {fit : List Int} {S : Wk (Int × Int)} {st : Int} {bv jv fv sv : Value} {ws : List Nat}
/-- What an append to the jobs leaves in old blocks. -/
theorem TrAt.keptJ (h : TrAt p ad c G PB rs lg D W0 J fit S st bv jv fv sv ws W) (hg : W.grownBy W' jv.ownBlock) : W'.heap[G]? = W.heap[G]? ∧ W'.heap[PB]? = W.heap[PB]? ∧ ∀ (b : Nat) (cs : Array Value) (fr : Nat × Nat), W.heap[b]? = some (.cells cs 64 fr) → W'.heap[b]? = W.heap[b]? :=
  ⟨hg.block _ (heap_lt h.mem.blk) (h.mem.ty.ne_own h.mem.jobs (by decide)), hg.block _ (heap_lt h.box) (h.box_row h.mem.jobs (by decide)), fun b cs fr hb => hg.block _ (heap_lt hb) (TyB.ne_own (T := 64) ⟨_, _, hb⟩ h.mem.jobs (by decide))⟩
theorem ne_of {a b : Nat} (h : (a = b) = False) : a ≠ b := fun e => by rw [h] at e; exact e
theorem TrAt.push (C : TryCx p ad c G PB ia rs lg D W0 Bd) (h : TrAt p ad c G PB rs lg D W0 J fit S st bv jv fv sv ws W) (job : Job (Int × Int)) (hj : JobOK p rs.length job) {jv' : Value} (hown : Owns W' 0 105 3 jv' (J.reverse.map jobC ++ [jobC job])) (hg : W.grownBy W' jv.ownBlock)
    (hat : jv'.ownBlock = jv.ownBlock ∨ jv'.ownBlock = some W.heap.size) : TrAt p ad c G PB rs lg D W0 (job :: J) fit S st bv jv' fv sv ws (W'.setCell ⟨G, 1, none⟩ jv') := by
  have hk := h.keptJ hg
  have hn := C.newW h.tch
  refine ⟨h.mem.growJobs hg (by simpa using hown), h.bits, h.ob, ?_, h.of, h.os, ?_, ?_, h.hal, ?_, h.len, h.pos⟩
  · intro k e
    rcases hat with h9 | h9
    · exact h.oj k (by rw [← h9]; exact e)
    · rw [h9] at e; cases e; exact hn _ (Nat.le_refl _)
  · rw [set_ne0 _ _ (show PB ≠ G from ne_of h.cells.ne), hk.2.1]; exact h.box
  · exact h.tch.trans ((TouchD.of_grown hg hn h.oj).trans (TouchD.set W' _ C.dG))
  · intro j hj'
    rcases List.mem_cons.1 hj' with rfl | hj'
    · exact hj
    · exact h.jok j hj'
theorem TrAt.putFit (C : TryCx p ad c G PB ia rs lg D W0 Bd) (h : TrAt p ad c G PB rs lg D W0 J fit S st bv jv fv sv ws W) {g cf : Nat} (hv : fv = .slice (some ⟨g, 0, none⟩) fit.length cf) (k : Nat) (v : Int) : TrAt p ad c G PB rs lg D W0 J (fit.set k v) S st bv jv fv sv ws (W.setCell ⟨g, k, none⟩ (.int .i64 v)) := by
  refine ⟨h.mem.putFit hv k v, h.bits, h.ob, h.oj, h.of, h.os, ?_, h.tch.trans (TouchD.set W _ (h.of g (by rw [hv]; rfl))), h.hal, h.jok, by rw [List.length_set]; exact h.len, h.pos⟩
  rw [set_ne0 _ _ (show PB ≠ g from fun e => h.box_row h.mem.fit (by decide) (by rw [hv, e]; rfl))]; exact h.box
theorem TrAt.steps (C : TryCx p ad c G PB ia rs lg D W0 Bd) (h : TrAt p ad c G PB rs lg D W0 J fit S st bv jv fv sv ws W) {n : Int} (hn : 0 ≤ n) : TrAt p ad c G PB rs lg D W0 J fit S n bv jv fv sv ws (W.setCell ⟨G, 4, none⟩ (.int .i64 n)) := by
  refine ⟨h.mem.setSteps n, h.bits, h.ob, h.oj, h.of, h.os, ?_, h.tch.trans (TouchD.set W _ C.dG), h.hal, h.jok, h.len, hn⟩
  rw [set_ne0 _ _ (show PB ≠ G from ne_of h.cells.ne)]; exact h.box
theorem TrAt.steps' (C : TryCx p ad c G PB ia rs lg D W0 Bd) (h : TrAt p ad c G PB rs lg D W0 J fit S st bv jv fv sv ws W) {n : Int} (hn : 0 ≤ n) (u : Value) (hu : u = .int .i64 n) : TrAt p ad c G PB rs lg D W0 J fit S n bv jv fv sv ws (W.setCell ⟨G, 4, none⟩ u) := by subst hu; exact h.steps C hn
/-- The last job, in memory. -/
theorem TrAt.last {job : Job (Int × Int)} (h : TrAt p ad c G PB rs lg D W0 (job :: J) fit S st bv jv fv sv ws W) : ∃ gj cj, jv = .slice (some ⟨gj, 0, none⟩) (J.length + 1) cj ∧ J.length + 1 ≤ cj ∧ cj ≤ maxLen ∧ gj < W.heap.size ∧ (∀ j, W.frozen? ⟨gj, j, none⟩ = false) ∧ G ≠ gj ∧ PB ≠ gj ∧ ∀ r u, (jobC job)[r]? = some u → W.cell? ⟨gj, J.length * 3 + r, none⟩ = some u := by
  have ho := h.mem.jobs
  obtain ⟨gj, cj, e, h1, h2, h3, h4⟩ := own_lit ho (by simp)
  simp only [List.length_map, List.length_reverse, List.length_cons] at e h1
  subst e
  refine ⟨gj, cj, rfl, h1, h2, h3, h4, fun e => h.mem.ty.ne_own ho (by decide) (by rw [e]; rfl), fun e => h.box_row ho (by decide) (by rw [e]; rfl), fun r u hu => ?_⟩
  have h9 := ho.1.cells (g := gj) rfl (J.length * 3 + r) u (flatten_at ho.2 (i := J.length) (by simp) hu)
  rwa [Addr.add_mid, Nat.zero_add] at h9
theorem flatten_len {sz : Nat} : ∀ {css : List (List Value)}, (∀ c ∈ css, c.length = sz) → css.flatten.length = css.length * sz
  | [], _ => by simp
  | x :: css, h => by rw [List.flatten_cons, List.length_append, flatten_len (fun c hc => h c (by simp [hc])), h x (by simp), List.length_cons, Nat.add_mul]; omega
theorem Owns.pop {w : World} {e : TypeId} {sz : Nat} {g c : Nat} {css : List (List Value)} {x : List Value} (h : Owns w 0 e sz (.slice (some ⟨g, 0, none⟩) (css.length + 1) c) (css ++ [x])) : Owns w 0 e sz (.slice (some ⟨g, 0, none⟩) css.length c) css := by
  have hl : css.flatten.length = css.length * sz := flatten_len (fun y hy => h.2 y (by simp [hy]))
  have h0 := h.1.2
  rcases h0 with ⟨h9, _⟩ | ⟨g', cap, cur, hv, hb, hk, h1, h2, h3, h4⟩
  · cases h9
  · simp only [Value.slice.injEq, Option.some.injEq, Addr.mk.injEq, and_true] at hv
    obtain ⟨rfl, _, rfl⟩ := hv
    refine ⟨⟨hl, .inr ⟨g, c, cur, rfl, Nat.zero_le _, hk, by simp at h1; omega, h2, h3, ?_⟩⟩, fun y hy => h.2 y (by simp [hy])⟩
    have hle : css.length * sz ≤ (css ++ [x]).length * sz := Nat.mul_le_mul_right sz (by simp)
    have h5 := congrArg (List.take (css.length * sz)) h4
    have h6 : (css ++ [x]).flatten.take (css.length * sz) = css.flatten := by
      rw [List.flatten_append, List.take_append_of_le_length (by omega), List.take_of_length_le (by omega)]
    rw [List.take_take, Nat.min_eq_left hle, h6] at h5
    exact h5
theorem TrAt.pop (C : TryCx p ad c G PB ia rs lg D W0 Bd) {job : Job (Int × Int)} {gj cj : Nat} (h : TrAt p ad c G PB rs lg D W0 (job :: J) fit S st bv (.slice (some ⟨gj, 0, none⟩) (J.length + 1) cj) fv sv ws W) :
    TrAt p ad c G PB rs lg D W0 J fit S st bv (.slice (some ⟨gj, 0, none⟩) J.length cj) fv sv ws (W.setCell ⟨G, 1, none⟩ (.slice (some ⟨gj, 0, none⟩) J.length cj)) := by
  have ho := h.mem.jobs
  have e : (job :: J).reverse.map jobC = J.reverse.map jobC ++ [jobC job] := by simp
  rw [e] at ho
  have hl : (J.reverse.map jobC).length = J.length := by simp
  rw [← hl] at ho
  have hp := Owns.pop ho
  rw [hl] at hp
  refine ⟨h.mem.setJobs hp, h.bits, h.ob, h.oj, h.of, h.os, ?_, h.tch.trans (TouchD.set W _ C.dG), h.hal, fun j hj => h.jok j (List.mem_cons_of_mem _ hj), h.len, h.pos⟩
  rw [set_ne0 _ _ (show PB ≠ G from ne_of h.cells.ne)]; exact h.box
end
/-- An append of a whole list of one's own, as one operation. -/
theorem wp_appN {P : Program} {o : Oper} {a : Act} {Q : Exit → Act → World → Prop} {K : Act → World → Prop} {w : World} (s x : Operand) (t : TypeId)
    (ho : o.op = .call { callee := .builtin .append, args := #[s, x], argTypes := #[t, t] }) (base : Nat) (e : TypeId) (z : Value) (sz bytes : Nat) (ht : P.underlying t = some (.slice e)) (hinfo : (P.info? e).map (fun i => (i.zero, i.size, i.bytes)) = some (some z, sz, bytes))
    (hzs : z.cells.size = sz) (hsz : 0 < sz) (v : Value) (css : List (List Value)) (hs : a.eval s = v) (hown : Owns w base e sz v css)
    (v2 : Value) (css2 : List (List Value)) (base2 : Nat) (hx : a.eval x = v2) (hown2 : Owns w base2 e sz v2 css2) (h0 : 0 < css2.length) (h1 : ∀ c ∈ css2, ∀ u ∈ c, u.oneCell' = true)
    (hmax : css.length + css2.length ≤ maxLen) (hbytes : (css.length + css2.length) * bytes ≤ 140737488355328) (hbase : base ≤ w.heap.size)
    (h : ∀ v' w', Owns w' base e sz v' (css ++ css2) → w.grownBy w' v.ownBlock → (v'.ownBlock = v.ownBlock ∨ v'.ownBlock = some w.heap.size) → K (a.put o.dst v') w') : o.wp P a w K Q := by
  obtain ⟨i0, hi, hz0, hz1, hz2⟩ := info_parts hinfo
  obtain ⟨g2, c2, e2, _, _, _, _⟩ : ∃ g2 c2, v2 = .slice (some ⟨g2, 0, none⟩) css2.length c2 ∧ css2.length ≤ c2 ∧ c2 ≤ maxLen ∧ g2 < w.heap.size ∧ ∀ j, w.frozen? ⟨g2, j, none⟩ = false := own_lit ⟨World.ownsRow.mono hown2.1 (Nat.zero_le _), hown2.2⟩ h0
  subst e2
  obtain ⟨v1, w1, hr, hown1, hg1, _, hat⟩ := run_append_own_at (P := P) w base t o.type e i0 z sz bytes ht hi hz0 hz1 hz2 hzs hsz v css.length css.flatten hown.1 ⟨g2, 0, none⟩ css2.length c2 css2.flatten hown2.1.1
    (fun j u hu => hown2.1.cells (g := g2) rfl j u hu) (fun u hu => by obtain ⟨c, hc, hu⟩ := List.mem_flatten.1 hu; exact h1 c hc u hu) hmax hbytes hbase
  unfold Oper.wp execOp
  simp only [ho, resolve, invoke, builtin, Sem.run_bind, Sem.run_pure, Result.andThen_ok, List.map_toArray, List.map_cons, List.map_nil, hs, hx]
  rw [hr]
  exact h v1 w1 ⟨by rw [List.length_append, List.flatten_append]; exact hown1, fun c hc => (List.mem_append.1 hc).elim (hown.2 c) (hown2.2 c)⟩ hg1 hat
theorem Owns.cut0 {w : World} {e : TypeId} {sz : Nat} {A : Option Addr} {n c : Nat} {css : List (List Value)} (h : Owns w 0 e sz (.slice A n c) css) : Owns w 0 e sz (.slice A 0 c) [] := by
  rcases h.1.2 with ⟨h9, _⟩ | ⟨g, cap, cur, hv, hb, hk, h1, h2, h3, h4⟩
  · cases h9; exact Owns.nil _ _ _ _
  · simp only [Value.slice.injEq] at hv
    obtain ⟨rfl, _, rfl⟩ := hv
    exact ⟨⟨by simp, .inr ⟨g, c, cur, rfl, Nat.zero_le _, hk, Nat.zero_le _, h2, h3, by simp⟩⟩, fun y hy => by simp at hy⟩
end Go.Proofs.YthclpabmbhpohaaDoor
namespace Go.Proofs.YthclpabmbhpohaaDoor
open Go.RowKit
set_option linter.unusedVariables false
set_option maxRecDepth 1000000 in
set_option maxHeartbeats 8000000 in
theorem next_empty (p : Pg) (ad : Addr) (c G PB : Nat) (ia : Addr) (rs : List (Int × Int)) (lg : Bool) (D : Nat → Prop) (W0 : World) (Bd : Int) (Fw : Wk (Int × Int)) (C : TryCx p ad c G PB ia rs lg D W0 Bd) (fit : List Int) (S : Wk (Int × Int)) (st : Int) (bv jv fv sv : Value) (ws : List Nat) (W : World) (h : NextI p ad c G PB rs lg D W0 Bd Fw [] fit S st bv jv fv sv ws W)
    (g : Nat → Value) (Q0 : Exit → Act → World → Prop) (hQ : ∀ (tm : Array Value) w, EndI p G rs D W0 Bd Fw w → Q0 .ret ⟨tm, []⟩ w) (hQp : ∀ c (d : Tmp) v a w, Q0 (.panic c) (a.put (some d) v) w → Q0 (.panic c) a w) (JX : Nat → Act → World → Prop) (hJ : ∀ l a w, JJ p ad c G PB ia rs lg D W0 Bd Fw l a w → st < stOf G w → JX l a w) :
    (tryR 0).wp Tryd.prog (jumps JX Q0) ⟨#[.pointer (some ⟨G, 0, none⟩), g 1, .pointer (some ia), g 3, .bool lg, g 5, .pointer (some ⟨PB, 0, none⟩), g 7, g 8, g 9, g 10, g 11, g 12, g 13, g 14, g 15, g 16, g 17, g 18, g 19, g 20, g 21, g 22, g 23, g 24, g 25, g 26, g 27, g 28, g 29, g 30, g 31, g 32, g 33, g 34, g 35, g 36, g 37, g 38, g 39, g 40, g 41, g 42, g 43, g 44, g 45, g 46, g 47, g 48, g 49, g 50, g 51, g 52, g 53, g 54, g 55, g 56, g 57, g 58, g 59, g 60, g 61, g 62, g 63, g 64, g 65, g 66, g 67, g 68, g 69, g 70, g 71, g 72, g 73, g 74, g 75, g 76, g 77, g 78, g 79, g 80, g 81, g 82, g 83, g 84, g 85, g 86, g 87, g 88, g 89, g 90, g 91, g 92, g 93, g 94, g 95, g 96, g 97, g 98, g 99, g 100, g 101, g 102, g 103, g 104, g 105, g 106, g 107, g 108, g 109, g 110, g 111, g 112, g 113, g 114, g 115, g 116, g 117, g 118, g 119, g 120, g 121, g 122, g 123, g 124, g 125, g 126, g 127, g 128, g 129, g 130, g 131, g 132, g 133, g 134, g 135, g 136, g 137, g 138, g 139, g 140, g 141, g 142, g 143, g 144, g 145, g 146, g 147, g 148, g 149, g 150, g 151, g 152, g 153, g 154, g 155, g 156, g 157, g 158, g 159, g 160, g 161, g 162, g 163, g 164, g 165, g 166, g 167, g 168, g 169, g 170, g 171, g 172, g 173, g 174, g 175, g 176, g 177, g 178, g 179, g 180, g 181, g 182, g 183, g 184, g 185, g 186, g 187, g 188, g 189, g 190, g 191, g 192, g 193, g 194, g 195, g 196, g 197, g 198, g 199, g 200, g 201, g 202, g 203, g 204, g 205, g 206, g 207, g 208, g 209, g 210, g 211, g 212, g 213, g 214, g 215, g 216, g 217, g 218, g 219, g 220, g 221, g 222, g 223, g 224, g 225, g 226, g 227, g 228, g 229, g 230, g 231, g 232, g 233, g 234, g 235, g 236, g 237, g 238, g 239, g 240, g 241, g 242, g 243, g 244], []⟩ W := by
  obtain ⟨c0, c1, c2, c3, c4, f, nG, x0, x1, x2, nP, ne, ne2⟩ := h.1.cells
  obtain ⟨Aj, cj, hje, _, _⟩ := h.1.mem.jobs.shape
  simp only [List.reverse_nil, List.map_nil, List.length_nil] at hje
  subst hje
  have H := Lib.hid h
  clear h c0 c2 c3 c4 f x0 x1 x2 nP ne ne2
  conv => arg 2; whnf
  go_wp2_with fail
  obtain ⟨hT, hf, hp⟩ := H.out
  have hFw : S = Fw := hf
  subst hFw
  exact hQ _ _ ⟨[], fit, st, bv, _, fv, sv, ws, hT.mem, hT.bits, hT.ob, hT.oj, hT.of, hT.os, hT.tch, hT.len, hT.pos, hp⟩
set_option maxRecDepth 1000000 in
set_option maxHeartbeats 8000000 in
theorem next_back (p : Pg) (ad : Addr) (c G PB : Nat) (ia : Addr) (rs : List (Int × Int)) (lg : Bool) (D : Nat → Prop) (W0 : World) (Bd : Int) (Fw : Wk (Int × Int)) (C : TryCx p ad c G PB ia rs lg D W0 Bd) (J : List (Job (Int × Int))) (fit : List Int) (S : Wk (Int × Int)) (st : Int) (bv jv fv sv : Value) (ws : List Nat) (W : World) (k : Nat) (v : Int) (h : NextI p ad c G PB rs lg D W0 Bd Fw (.back k v :: J) fit S st bv jv fv sv ws W)
    (g : Nat → Value) (Q0 : Exit → Act → World → Prop) (hQ : ∀ (tm : Array Value) w, EndI p G rs D W0 Bd Fw w → Q0 .ret ⟨tm, []⟩ w) (hQp : ∀ c (d : Tmp) v a w, Q0 (.panic c) (a.put (some d) v) w → Q0 (.panic c) a w) (JX : Nat → Act → World → Prop) (hJ : ∀ l a w, JJ p ad c G PB ia rs lg D W0 Bd Fw l a w → st < stOf G w → JX l a w) :
    (tryR 0).wp Tryd.prog (jumps JX Q0) ⟨#[.pointer (some ⟨G, 0, none⟩), g 1, .pointer (some ia), g 3, .bool lg, g 5, .pointer (some ⟨PB, 0, none⟩), g 7, g 8, g 9, g 10, g 11, g 12, g 13, g 14, g 15, g 16, g 17, g 18, g 19, g 20, g 21, g 22, g 23, g 24, g 25, g 26, g 27, g 28, g 29, g 30, g 31, g 32, g 33, g 34, g 35, g 36, g 37, g 38, g 39, g 40, g 41, g 42, g 43, g 44, g 45, g 46, g 47, g 48, g 49, g 50, g 51, g 52, g 53, g 54, g 55, g 56, g 57, g 58, g 59, g 60, g 61, g 62, g 63, g 64, g 65, g 66, g 67, g 68, g 69, g 70, g 71, g 72, g 73, g 74, g 75, g 76, g 77, g 78, g 79, g 80, g 81, g 82, g 83, g 84, g 85, g 86, g 87, g 88, g 89, g 90, g 91, g 92, g 93, g 94, g 95, g 96, g 97, g 98, g 99, g 100, g 101, g 102, g 103, g 104, g 105, g 106, g 107, g 108, g 109, g 110, g 111, g 112, g 113, g 114, g 115, g 116, g 117, g 118, g 119, g 120, g 121, g 122, g 123, g 124, g 125, g 126, g 127, g 128, g 129, g 130, g 131, g 132, g 133, g 134, g 135, g 136, g 137, g 138, g 139, g 140, g 141, g 142, g 143, g 144, g 145, g 146, g 147, g 148, g 149, g 150, g 151, g 152, g 153, g 154, g 155, g 156, g 157, g 158, g 159, g 160, g 161, g 162, g 163, g 164, g 165, g 166, g 167, g 168, g 169, g 170, g 171, g 172, g 173, g 174, g 175, g 176, g 177, g 178, g 179, g 180, g 181, g 182, g 183, g 184, g 185, g 186, g 187, g 188, g 189, g 190, g 191, g 192, g 193, g 194, g 195, g 196, g 197, g 198, g 199, g 200, g 201, g 202, g 203, g 204, g 205, g 206, g 207, g 208, g 209, g 210, g 211, g 212, g 213, g 214, g 215, g 216, g 217, g 218, g 219, g 220, g 221, g 222, g 223, g 224, g 225, g 226, g 227, g 228, g 229, g 230, g 231, g 232, g 233, g 234, g 235, g 236, g 237, g 238, g 239, g 240, g 241, g 242, g 243, g 244], []⟩ W := by
  obtain ⟨gj, cj, hje, hcj, hcm, hgjn, hgjf, hGg, hPg, hrow⟩ := h.1.last
  subst hje
  obtain ⟨ln, hln⟩ : ∃ ln, J.length + 1 = ln := ⟨_, rfl⟩
  obtain ⟨l0, hl0⟩ : ∃ l0, J.length = l0 := ⟨_, rfl⟩
  have hst : IntKind.i64.wrap (st + 1) = st + 1 := IntWalk.i64_in _ (by have h1 := h.2.2; have h2 := C.bd; have h3 := h.1.pos; omega)
  have hT1 := h.1.steps C (show 0 ≤ st + 1 by have := h.1.pos; omega)
  obtain ⟨c0, c1, c2, c3, c4, f, nG, x0, x1, x2, nP, ne, ne2⟩ := h.1.cells
  have f4 := f 4
  have hlen0 : ((ln : Int) == 0) = false := by simp; omega
  have hwl : IntKind.i64.wrap ((ln : Int) - 1) = (l0 : Int) := by rw [IntWalk.i64_in _ (by unfold maxLen at hcm; omega)]; omega
  have hr0 : ∀ r u, (jobC (.back k v))[r]? = some u → (W.setCell ⟨G, 4, none⟩ (.int .i64 (st + 1))).cell? ⟨gj, l0 * 3 + r, none⟩ = some u := fun r u hu => by
    rw [← hrow r u hu, hl0]
    exact World.cell?_of_block (set_ne0 W _ (Ne.symm hGg))
  rw [hln] at c1
  have H := Lib.hid (And.intro h (And.intro hr0 (And.intro hl0 (And.intro hgjf (And.intro hGg hPg)))))
  have hlt : l0 < ln := by omega
  have hlc : ln ≤ cj := by omega
  have hl0c : l0 ≤ cj := by omega
  have hl0d : ¬ cj < l0 := by omega
  clear h hrow hr0 c0 c2 c3 x0 x1 x2 nP f hgjf hcj
  conv => arg 2; whnf
  go_wp2_with fail
  obtain ⟨X, hX⟩ : ∃ X, W.setCell ⟨G, 4, none⟩ (.int .i64 (st + 1)) = X := ⟨_, rfl⟩
  rw [hX] at hT1 H ⊢
  clear hX hlen0 c1 c4 f4 nG hst
  have hcE : ∀ W', Below X.heap.size X W' → W'.cell? ⟨G, 1, none⟩ = some (.slice (some ⟨gj, 0, none⟩) ln cj) ∧ ∀ r u, (jobC (.back k v))[r]? = some u → W'.cell? ⟨gj, l0 * 3 + r, none⟩ = some u := fun W' hW => ⟨by rw [cell_of_blk ((hW.block _ (heap_lt hT1.mem.blk)).trans hT1.mem.blk), ← hln]; rfl, fun r u hu => (World.cell?_of_block (hW.block gj (by have h9 := H.out.2.1 r u hu; exact World.block_lt_of_cell? X _ h9))).trans (H.out.2.1 r u hu)⟩
  have HC := Lib.hid hcE
  have HT1 := Lib.hid hT1
  clear hcE hT1
  refine wp_region_scrT (fun W' => W'.cell? ⟨G, 1, none⟩ = some (.slice (some ⟨gj, 0, none⟩) ln cj) ∧ ∀ r u, (jobC (.back k v))[r]? = some u → W'.cell? ⟨gj, l0 * 3 + r, none⟩ = some u) 13 [(true, 0, 60), (true, 1, 61), (true, 2, 62), (true, 3, 63), (true, 4, 64), (true, 5, 65), (true, 6, 66), (true, 7, 67), (true, 8, 68), (true, 9, 69), (true, 10, 70), (true, 11, 71), (false, 12, 12), (false, 13, 0)] (by kernel_rfl) (by kernel_rfl) (by kernel_rfl) (by kernel_rfl) rfl (fun c d v a w h => hQp c d v a w h) rfl (by kernel_rfl) ?_
  have HS := Lib.hid (HC.out _ (Below.refl _ _).drew)
  refine ScrT.take (v := .pointer (some ⟨G, 0, none⟩)) rfl rfl (yw_pure (by rfl) (fun _ => by go_simp)) HS.out ?_
  simp only [Act.put, List.setIfInBounds_toArray, List.set_cons_zero, List.set_cons_succ]
  refine ScrT.take (v := .pointer (some ⟨G, 0, none⟩)) rfl rfl (yw_pure (by rfl) (fun _ => by go_simp)) HS.out ?_
  simp only [Act.put, List.setIfInBounds_toArray, List.set_cons_zero, List.set_cons_succ]
  refine ScrT.take (v := .pointer (some ⟨G, 1, none⟩)) rfl rfl (yw_pure (by rfl) (fun _ => by go_simp)) HS.out ?_
  simp only [Act.put, List.setIfInBounds_toArray, List.set_cons_zero, List.set_cons_succ]
  refine ScrT.take (v := .slice (some ⟨gj, 0, none⟩) ln cj) rfl rfl (yw_cell 68 _ rfl ⟨G, 1, none⟩ (.slice (some ⟨gj, 0, none⟩) ln cj) rfl (by rfl) _ Tryd.underlying68 rfl (fun W hS => hS.1)) HS.out ?_
  simp only [Act.put, List.setIfInBounds_toArray, List.set_cons_zero, List.set_cons_succ]
  refine ScrT.take (v := .pointer (some ⟨G, 0, none⟩)) rfl rfl (yw_pure (by rfl) (fun _ => by go_simp)) HS.out ?_
  simp only [Act.put, List.setIfInBounds_toArray, List.set_cons_zero, List.set_cons_succ]
  refine ScrT.take (v := .pointer (some ⟨G, 0, none⟩)) rfl rfl (yw_pure (by rfl) (fun _ => by go_simp)) HS.out ?_
  simp only [Act.put, List.setIfInBounds_toArray, List.set_cons_zero, List.set_cons_succ]
  refine ScrT.take (v := .pointer (some ⟨G, 1, none⟩)) rfl rfl (yw_pure (by rfl) (fun _ => by go_simp)) HS.out ?_
  simp only [Act.put, List.setIfInBounds_toArray, List.set_cons_zero, List.set_cons_succ]
  refine ScrT.take (v := .slice (some ⟨gj, 0, none⟩) ln cj) rfl rfl (yw_cell 68 _ rfl ⟨G, 1, none⟩ (.slice (some ⟨gj, 0, none⟩) ln cj) rfl (by rfl) _ Tryd.underlying68 rfl (fun W hS => hS.1)) HS.out ?_
  simp only [Act.put, List.setIfInBounds_toArray, List.set_cons_zero, List.set_cons_succ]
  refine ScrT.take (v := .int .i64 ln) rfl rfl (yw_pure (by rfl) (fun _ => by go_simp)) HS.out ?_
  simp only [Act.put, List.setIfInBounds_toArray, List.set_cons_zero, List.set_cons_succ]
  refine ScrT.take (v := .int .i64 l0) rfl rfl (yw_pure (by rfl) (fun _ => by go_simp)) HS.out ?_
  simp only [Act.put, List.setIfInBounds_toArray, List.set_cons_zero, List.set_cons_succ]
  refine ScrT.take (v := .pointer (some ⟨gj, l0 * 3, none⟩)) rfl rfl (yw_pure (by rfl) (fun _ => by go_simp)) HS.out ?_
  simp only [Act.put, List.setIfInBounds_toArray, List.set_cons_zero, List.set_cons_succ]
  refine ScrT.take (v := .agg #[.int .i64 (-1), .int .i64 v, .int .i64 k]) rfl rfl (yw_rowB 105 _ rfl ⟨gj, l0 * 3, none⟩ ([.int .i64 (-1), .int .i64 v, .int .i64 k] : List Value) rfl (by rfl) _ Tryd.underlying105 rfl (by rfl) (fun W hS r u hu => by rw [Addr.add_mid]; exact hS.2 r u hu)) HS.out ?_
  simp only [Act.put, List.setIfInBounds_toArray, List.set_cons_zero, List.set_cons_succ]
  refine ScrT.run rfl (by rfl) (fun K hK => ?_)
  go_simp
  refine hK _ _ (fun _ => HC.out _ (below_al (Below.refl _ _).drew _)) ?_
  clear hK K
  try rw [show X.drew.heap.size = X.heap.size from rfl]
  obtain ⟨Y, hY⟩ : ∃ Y, (X.alloc (.cells #[.int .i64 0, .int .i64 0, .int .i64 0] 105)).drew = Y := ⟨_, rfl⟩
  have hYB : Below X.heap.size X Y := by rw [← hY]; exact (below_al (Below.refl _ _) _).drew
  have hY1 : Y.heap[X.heap.size]? = some (.cells #[.int .i64 0, .int .i64 0, .int .i64 0] 105 (0, 0)) := by rw [← hY]; exact heap_new1 X _
  rw [hY]
  clear hY
  refine ScrT.run rfl (by rfl) (fun K hK => ?_)
  refine wp_storeB 105 _ _ rfl X.heap.size ([.int .i64 (-1), .int .i64 v, .int .i64 k] : List Value) ([.int .i64 0, .int .i64 0, .int .i64 0] : List Value) 105 rfl rfl hY1 rfl (by rfl) (by simp [Value.oneCell']) ?_
  intro V hV1 hVg hVs
  have hVB : Below X.heap.size X V := hYB.grown hVg hYB.size (fun k e => by cases e; exact Nat.le_refl _)
  refine hK _ _ (fun h => absurd h (by decide)) ?_
  clear hK K hYB hY1 hVg hVs
  simp only [Act.put, ScrT]
  have hT2 := HT1.out.below C hVB
  obtain ⟨c0, c1, c2, c3, c4, f, nG, x0, x1, x2, nP, ne, ne2⟩ := hT2.cells
  rw [hln] at c1
  have f1 := f 1
  have nbV := heap_lt hV1
  have hnbG : (X.heap.size = G) = False := eq_false (fun e => by have h9 := heap_lt HT1.out.mem.blk; omega)
  have HV := Lib.hid (And.intro hT2 hV1)
  clear hT2 hV1 hVB c0 c2 c3 c4 f x0 x1 x2 nP
  go_wp2_with fail
  have hcF : ∀ W', Below V.heap.size V W' → W'.cell? ⟨G, 1, none⟩ = some (.slice (some ⟨gj, 0, none⟩) ln cj) := fun W' hW => by rw [cell_of_blk ((hW.block _ (heap_lt HV.out.1.mem.blk)).trans HV.out.1.mem.blk), ← hln]; rfl
  have HCF := Lib.hid hcF
  clear hcF
  refine wp_region_scrT (fun W' => W'.cell? ⟨G, 1, none⟩ = some (.slice (some ⟨gj, 0, none⟩) ln cj)) 14 [(true, 0, 72), (true, 1, 73), (true, 2, 74), (true, 3, 75), (true, 4, 76), (true, 5, 77), (true, 6, 78), (true, 7, 79), (true, 8, 80), (true, 9, 81), (true, 10, 82), (true, 11, 83), (true, 12, 84), (true, 13, 85), (false, 14, 0)] (by kernel_rfl) (by kernel_rfl) (by kernel_rfl) (by kernel_rfl) rfl (fun c d v a w h => hQp c d v a w h) rfl (by kernel_rfl) ?_
  have HS2 := Lib.hid (HCF.out _ (Below.refl _ _).drew)
  refine ScrT.take (v := .pointer (some ⟨G, 0, none⟩)) rfl rfl (yw_pure (by rfl) (fun _ => by go_simp)) HS2.out ?_
  simp only [Act.put, List.setIfInBounds_toArray, List.set_cons_zero, List.set_cons_succ]
  refine ScrT.take (v := .pointer (some ⟨G, 0, none⟩)) rfl rfl (yw_pure (by rfl) (fun _ => by go_simp)) HS2.out ?_
  simp only [Act.put, List.setIfInBounds_toArray, List.set_cons_zero, List.set_cons_succ]
  refine ScrT.take (v := .pointer (some ⟨G, 0, none⟩)) rfl rfl (yw_pure (by rfl) (fun _ => by go_simp)) HS2.out ?_
  simp only [Act.put, List.setIfInBounds_toArray, List.set_cons_zero, List.set_cons_succ]
  refine ScrT.take (v := .pointer (some ⟨G, 1, none⟩)) rfl rfl (yw_pure (by rfl) (fun _ => by go_simp)) HS2.out ?_
  simp only [Act.put, List.setIfInBounds_toArray, List.set_cons_zero, List.set_cons_succ]
  refine ScrT.take (v := .slice (some ⟨gj, 0, none⟩) ln cj) rfl rfl (yw_cell 68 _ rfl ⟨G, 1, none⟩ (.slice (some ⟨gj, 0, none⟩) ln cj) rfl (by rfl) _ Tryd.underlying68 rfl (fun W hS => hS)) HS2.out ?_
  simp only [Act.put, List.setIfInBounds_toArray, List.set_cons_zero, List.set_cons_succ]
  refine ScrT.take (v := .pointer (some ⟨G, 0, none⟩)) rfl rfl (yw_pure (by rfl) (fun _ => by go_simp)) HS2.out ?_
  simp only [Act.put, List.setIfInBounds_toArray, List.set_cons_zero, List.set_cons_succ]
  refine ScrT.take (v := .pointer (some ⟨G, 0, none⟩)) rfl rfl (yw_pure (by rfl) (fun _ => by go_simp)) HS2.out ?_
  simp only [Act.put, List.setIfInBounds_toArray, List.set_cons_zero, List.set_cons_succ]
  refine ScrT.take (v := .pointer (some ⟨G, 1, none⟩)) rfl rfl (yw_pure (by rfl) (fun _ => by go_simp)) HS2.out ?_
  simp only [Act.put, List.setIfInBounds_toArray, List.set_cons_zero, List.set_cons_succ]
  refine ScrT.take (v := .slice (some ⟨gj, 0, none⟩) ln cj) rfl rfl (yw_cell 68 _ rfl ⟨G, 1, none⟩ (.slice (some ⟨gj, 0, none⟩) ln cj) rfl (by rfl) _ Tryd.underlying68 rfl (fun W hS => hS)) HS2.out ?_
  simp only [Act.put, List.setIfInBounds_toArray, List.set_cons_zero, List.set_cons_succ]
  refine ScrT.take (v := .int .i64 ln) rfl rfl (yw_pure (by rfl) (fun _ => by go_simp)) HS2.out ?_
  simp only [Act.put, List.setIfInBounds_toArray, List.set_cons_zero, List.set_cons_succ]
  refine ScrT.take (v := .int .i64 l0) rfl rfl (yw_pure (by rfl) (fun _ => by go_simp)) HS2.out ?_
  simp only [Act.put, List.setIfInBounds_toArray, List.set_cons_zero, List.set_cons_succ]
  refine ScrT.take (v := .slice (some ⟨gj, 0, none⟩) l0 cj) rfl rfl (yw_pure (by rfl) (fun _ => by go_simp)) HS2.out ?_
  simp only [Act.put, List.setIfInBounds_toArray, List.set_cons_zero, List.set_cons_succ]
  refine ScrT.take (v := .pointer (some ⟨G, 0, none⟩)) rfl rfl (yw_pure (by rfl) (fun _ => by go_simp)) HS2.out ?_
  simp only [Act.put, List.setIfInBounds_toArray, List.set_cons_zero, List.set_cons_succ]
  refine ScrT.take (v := .pointer (some ⟨G, 1, none⟩)) rfl rfl (yw_pure (by rfl) (fun _ => by go_simp)) HS2.out ?_
  simp only [Act.put, List.setIfInBounds_toArray, List.set_cons_zero, List.set_cons_succ]
  refine ScrT.run rfl (by rfl) (fun K hK => ?_)
  go_simp
  refine hK _ _ (fun h => absurd h (by decide)) ?_
  clear hK K
  simp only [ScrT]
  have hT3 := (HV.out.1.below C (W' := V.drew) (Below.refl _ _).drew).pop C
  have hnb3 := (set_ne0 V.drew (a := ⟨G, 1, none⟩) (.slice (some ⟨gj, 0, none⟩) J.length cj) (show X.heap.size ≠ G from ne_of hnbG)).trans (show V.drew.heap[X.heap.size]? = _ from HV.out.2)
  rw [hl0] at hT3 hnb3
  clear c1 f1 nG nbV
  obtain ⟨U, hU⟩ : ∃ U, V.drew.setCell ⟨G, 1, none⟩ (.slice (some ⟨gj, 0, none⟩) l0 cj) = U := ⟨_, rfl⟩
  rw [hU] at hT3 hnb3
  try rw [show (V.setCell ⟨G, 1, none⟩ (.slice (some ⟨gj, 0, none⟩) l0 cj)).drew = U from hU]
  try rw [hU]
  clear hU
  have b0 : U.cell? ⟨X.heap.size, 0, none⟩ = some (.int .i64 (-1)) := by rw [cell_of_blk hnb3]; rfl
  have b1 : U.cell? ⟨X.heap.size, 1, none⟩ = some (.int .i64 v) := by rw [cell_of_blk hnb3]; rfl
  have b2 : U.cell? ⟨X.heap.size, 2, none⟩ = some (.int .i64 k) := by rw [cell_of_blk hnb3]; rfl
  have nb := heap_lt hnb3
  have HU := Lib.hid (And.intro hT3 hnb3)
  clear hT3 hnb3
  go_wp2_with fail
  have hjk : 2 ≤ k ∧ (k : Int) < p.caps := H.out.1.1.jok _ (List.mem_cons_self ..)
  have hlf := HU.out.1.len
  have hkl : k < fit.length := by omega
  obtain ⟨gf, cf, hfe, _, _, hgfn, hgff⟩ := own_lit HU.out.1.mem.fit (by rw [List.length_map]; omega)
  rw [List.length_map] at hfe
  subst hfe
  have hfc : ∃ u, U.cell? ⟨gf, k, none⟩ = some u := by
    have h9 := HU.out.1.mem.fit.1
    rw [flat_i64] at h9
    have := h9.cells (g := gf) rfl k (.int .i64 fit[k]) (by rw [List.getElem?_map, List.getElem?_eq_getElem hkl]; rfl)
    rw [Addr.add_mid, Nat.zero_add] at this
    exact ⟨_, this⟩
  obtain ⟨u9, hfc⟩ := hfc
  have hff := hgff k
  have HC3 : Hid (∀ W, Below U.heap.size U W → W.cell? ⟨G, 2, none⟩ = some (.slice (some ⟨gf, 0, none⟩) fit.length cf) ∧ W.cell? ⟨X.heap.size, 1, none⟩ = some (.int .i64 v) ∧ W.cell? ⟨X.heap.size, 2, none⟩ = some (.int .i64 k)) := Lib.hid (fun W hW => by
    have h1 := (hW.block _ (heap_lt HU.out.1.mem.blk)).trans HU.out.1.mem.blk
    have h2 := (hW.block _ (heap_lt HU.out.2)).trans HU.out.2
    exact ⟨by rw [cell_of_blk h1]; rfl, by rw [cell_of_blk h2]; rfl, by rw [cell_of_blk h2]; rfl⟩)
  clear hjk hlf hgff b0 b1 b2
  refine wp_region_scrT (fun W => W.cell? ⟨G, 2, none⟩ = some (.slice (some ⟨gf, 0, none⟩) fit.length cf) ∧ W.cell? ⟨X.heap.size, 1, none⟩ = some (.int .i64 v) ∧ W.cell? ⟨X.heap.size, 2, none⟩ = some (.int .i64 k)) 9 [(true, 0, 89), (true, 1, 90), (true, 2, 91), (true, 3, 92), (true, 4, 93), (true, 5, 94), (true, 6, 95), (true, 7, 96), (true, 8, 97), (false, 9, 0)] (by kernel_rfl) (by kernel_rfl) (by kernel_rfl) (by kernel_rfl) rfl (fun c d v a w h => hQp c d v a w h) rfl (by kernel_rfl) ?_
  have HS3 := Lib.hid (HC3.out _ (Below.refl _ _).drew)
  refine ScrT.take (v := .pointer (some ⟨G, 0, none⟩)) rfl rfl (yw_pure (by rfl) (fun _ => by go_simp)) HS3.out ?_
  simp only [Act.put, List.setIfInBounds_toArray, List.set_cons_zero, List.set_cons_succ]
  refine ScrT.take (v := .pointer (some ⟨G, 0, none⟩)) rfl rfl (yw_pure (by rfl) (fun _ => by go_simp)) HS3.out ?_
  simp only [Act.put, List.setIfInBounds_toArray, List.set_cons_zero, List.set_cons_succ]
  refine ScrT.take (v := .pointer (some ⟨G, 2, none⟩)) rfl rfl (yw_pure (by rfl) (fun _ => by go_simp)) HS3.out ?_
  simp only [Act.put, List.setIfInBounds_toArray, List.set_cons_zero, List.set_cons_succ]
  refine ScrT.take (v := .slice (some ⟨gf, 0, none⟩) fit.length cf) rfl rfl (yw_cell 35 _ rfl ⟨G, 2, none⟩ (.slice (some ⟨gf, 0, none⟩) fit.length cf) rfl (by rfl) _ Tryd.underlying35 rfl (fun W hS => hS.1)) HS3.out ?_
  simp only [Act.put, List.setIfInBounds_toArray, List.set_cons_zero, List.set_cons_succ]
  refine ScrT.take (v := .pointer (some ⟨X.heap.size, 2, none⟩)) rfl rfl (yw_pure (by rfl) (fun _ => by go_simp)) HS3.out ?_
  simp only [Act.put, List.setIfInBounds_toArray, List.set_cons_zero, List.set_cons_succ]
  refine ScrT.take (v := .int .i64 k) rfl rfl (yw_cell 3 _ rfl ⟨X.heap.size, 2, none⟩ (.int .i64 k) rfl (by rfl) _ Tryd.underlying3 rfl (fun W hS => hS.2.2)) HS3.out ?_
  simp only [Act.put, List.setIfInBounds_toArray, List.set_cons_zero, List.set_cons_succ]
  refine ScrT.take (v := .pointer (some ⟨X.heap.size, 1, none⟩)) rfl rfl (yw_pure (by rfl) (fun _ => by go_simp)) HS3.out ?_
  simp only [Act.put, List.setIfInBounds_toArray, List.set_cons_zero, List.set_cons_succ]
  refine ScrT.take (v := .int .i64 v) rfl rfl (yw_cell 3 _ rfl ⟨X.heap.size, 1, none⟩ (.int .i64 v) rfl (by rfl) _ Tryd.underlying3 rfl (fun W hS => hS.2.1)) HS3.out ?_
  simp only [Act.put, List.setIfInBounds_toArray, List.set_cons_zero, List.set_cons_succ]
  refine ScrT.take (v := .pointer (some ⟨gf, k, none⟩)) rfl rfl (yw_pure (by rfl) (fun _ => by go_simp)) HS3.out ?_
  simp only [Act.put, List.setIfInBounds_toArray, List.set_cons_zero, List.set_cons_succ]
  refine ScrT.run rfl (by rfl) (fun K hK => ?_)
  go_simp
  refine hK _ _ (fun h => absurd h (by decide)) ?_
  clear hK K
  simp only [ScrT]
  have hT6 := (HU.out.1.below C (W' := U.drew) (Below.refl _ _).drew).putFit C rfl k v
  have H6 := Lib.hid hT6
  clear hT6 hfc hff hgfn
  go_wp2_with fail
  try go_step3
  have hp6 : pot (KB p) (allP p rs.length) (.back k v :: J) S = pot (KB p) (allP p rs.length) J S + 1 := rfl
  exact hJ _ _ _ ⟨_, rfl, ⟨rfl, rfl, rfl, rfl, rfl⟩, .inl ⟨rfl, _, _, _, _, _, _, _, _, _, H6.out, H.out.1.2.1, by have h9 := H.out.1.2.2; rw [hp6] at h9; omega⟩⟩ (lt_eq (by omega) (stOf_eq H6.out.mem))
end Go.Proofs.YthclpabmbhpohaaDoor
namespace Go.Proofs.YthclpabmbhpohaaDoor
open Go.RowKit
set_option linter.unusedVariables false
set_option maxRecDepth 1000000 in
set_option maxHeartbeats 8000000 in
theorem on_seen (p : Pg) (ad : Addr) (c G PB : Nat) (ia : Addr) (rs : List (Int × Int)) (lg : Bool) (D : Nat → Prop) (W0 : World) (Bd : Int) (Fw : Wk (Int × Int)) (C : TryCx p ad c G PB ia rs lg D W0 Bd) (i j : Nat) (J : List (Job (Int × Int))) (fit : List Int) (S : Wk (Int × Int)) (st : Int) (bv jv fv sv : Value) (ws : List Nat) (W : World) (h : OnI p ad c G PB rs lg D W0 Bd Fw i j J fit S st bv jv fv sv ws W) (hs : S.seen ((i : Int), (j : Int)) = true)
    (g : Nat → Value) (Q0 : Exit → Act → World → Prop) (hQ : ∀ (tm : Array Value) w, EndI p G rs D W0 Bd Fw w → Q0 .ret ⟨tm, []⟩ w) (hQp : ∀ c (d : Tmp) v a w, Q0 (.panic c) (a.put (some d) v) w → Q0 (.panic c) a w) (JX : Nat → Act → World → Prop) (hJ : ∀ l a w, JJ p ad c G PB ia rs lg D W0 Bd Fw l a w → st < stOf G w → JX l a w) :
    (tryR 1).wp Tryd.prog (jumps JX Q0) ⟨#[.pointer (some ⟨G, 0, none⟩), g 1, .pointer (some ia), g 3, .bool lg, g 5, .pointer (some ⟨PB, 0, none⟩), g 7, g 8, g 9, .int .i64 i, .int .i64 j, g 12, g 13, g 14, g 15, g 16, g 17, g 18, g 19, g 20, g 21, g 22, g 23, g 24, g 25, g 26, g 27, g 28, g 29, g 30, g 31, g 32, g 33, g 34, g 35, g 36, g 37, g 38, g 39, g 40, g 41, g 42, g 43, g 44, g 45, g 46, g 47, g 48, g 49, g 50, g 51, g 52, g 53, g 54, g 55, g 56, g 57, g 58, g 59, g 60, g 61, g 62, g 63, g 64, g 65, g 66, g 67, g 68, g 69, g 70, g 71, g 72, g 73, g 74, g 75, g 76, g 77, g 78, g 79, g 80, g 81, g 82, g 83, g 84, g 85, g 86, g 87, g 88, g 89, g 90, g 91, g 92, g 93, g 94, g 95, g 96, g 97, g 98, g 99, g 100, g 101, g 102, g 103, g 104, g 105, g 106, g 107, g 108, g 109, g 110, g 111, g 112, g 113, g 114, g 115, g 116, g 117, g 118, g 119, g 120, g 121, g 122, g 123, g 124, g 125, g 126, g 127, g 128, g 129, g 130, g 131, g 132, g 133, g 134, g 135, g 136, g 137, g 138, g 139, g 140, g 141, g 142, g 143, g 144, g 145, g 146, g 147, g 148, g 149, g 150, g 151, g 152, g 153, g 154, g 155, g 156, g 157, g 158, g 159, g 160, g 161, g 162, g 163, g 164, g 165, g 166, g 167, g 168, g 169, g 170, g 171, g 172, g 173, g 174, g 175, g 176, g 177, g 178, g 179, g 180, g 181, g 182, g 183, g 184, g 185, g 186, g 187, g 188, g 189, g 190, g 191, g 192, g 193, g 194, g 195, g 196, g 197, g 198, g 199, g 200, g 201, g 202, g 203, g 204, g 205, g 206, g 207, g 208, g 209, g 210, g 211, g 212, g 213, g 214, g 215, g 216, g 217, g 218, g 219, g 220, g 221, g 222, g 223, g 224, g 225, g 226, g 227, g 228, g 229, g 230, g 231, g 232, g 233, g 234, g 235, g 236, g 237, g 238, g 239, g 240, g 241, g 242, g 243, g 244], []⟩ W := by
  obtain ⟨n, jL, gb, cb, Y, ws', hw1, hw2, hw0, rfl, hfr, hT2⟩ := on_begin C h
  obtain ⟨c0, c1, c2, c3, c4, f, nG, x0, x1, x2, nP, ne, ne2⟩ := h.1.cells
  have f4 := f 4
  rw [hs] at hfr
  have hi := h.2.2.2.1
  have hj := h.2.2.2.2
  have H := Lib.hid (And.intro h (And.intro hT2 (And.intro hs (And.intro hi hj))))
  clear h hT2 hs hi hj f c0 c1 c2 c3 x1 x2
  conv => arg 2; whnf
  go_wp2_with fail
  refine hfr.mono ?_
  clear hfr hw1 hw2 hw0 c4 f4 nG x0 nP ne ne2
  rintro e w2 ⟨rfl, rfl⟩
  dsimp only
  obtain ⟨c0, c1, c2, c3, c4, f, nG, x0, x1, x2, nP, ne, ne2⟩ := H.out.2.1.cells
  go_wp2_with fail
  go_step3
  have hT3 : TrAt p ad c G PB rs lg D W0 J fit S (st + 1) _ jv fv sv ws' w2 := ⟨H.out.2.1.mem, by rw [← seen_same H.out.2.2.1]; exact H.out.2.1.bits, H.out.2.1.ob, H.out.2.1.oj, H.out.2.1.of, H.out.2.1.os, H.out.2.1.box, H.out.2.1.tch, H.out.2.1.hal, H.out.2.1.jok, H.out.2.1.len, H.out.2.1.pos⟩
  exact hJ _ _ _ ⟨_, rfl, ⟨rfl, rfl, rfl, rfl, rfl⟩, .inl ⟨rfl, _, _, _, _, _, _, _, _, _, H.out.1.next C.chk hT3 (fin_seen H.out.2.2.1 J fit) (Int.le_refl _)⟩⟩ (lt_eq (by omega) (stOf_eq hT3.mem))
end Go.Proofs.YthclpabmbhpohaaDoor
namespace Go.Proofs.YthclpabmbhpohaaDoor
open Go.RowKit
set_option linter.unusedVariables false
set_option maxRecDepth 1000000 in
set_option maxHeartbeats 8000000 in
theorem on_fail (p : Pg) (ad : Addr) (c G PB : Nat) (ia : Addr) (rs : List (Int × Int)) (lg : Bool) (D : Nat → Prop) (W0 : World) (Bd : Int) (Fw : Wk (Int × Int)) (C : TryCx p ad c G PB ia rs lg D W0 Bd) (i j : Nat) (J : List (Job (Int × Int))) (fit : List Int) (S : Wk (Int × Int)) (st : Int) (bv jv fv sv : Value) (ws : List Nat) (W : World) (h : OnI p ad c G PB rs lg D W0 Bd Fw i j J fit S st bv jv fv sv ws W) (hs : S.seen ((i : Int), (j : Int)) = false) (ho : (p.get i).op ≠ 1 ∧ (p.get i).op ≠ 2 ∧ (p.get i).op ≠ 3 ∧ (p.get i).op ≠ 4 ∧ (p.get i).op ≠ 5)
    (g : Nat → Value) (Q0 : Exit → Act → World → Prop) (hQ : ∀ (tm : Array Value) w, EndI p G rs D W0 Bd Fw w → Q0 .ret ⟨tm, []⟩ w) (hQp : ∀ c (d : Tmp) v a w, Q0 (.panic c) (a.put (some d) v) w → Q0 (.panic c) a w) (JX : Nat → Act → World → Prop) (hJ : ∀ l a w, JJ p ad c G PB ia rs lg D W0 Bd Fw l a w → st < stOf G w → JX l a w) :
    (tryR 1).wp Tryd.prog (jumps JX Q0) ⟨#[.pointer (some ⟨G, 0, none⟩), g 1, .pointer (some ia), g 3, .bool lg, g 5, .pointer (some ⟨PB, 0, none⟩), g 7, g 8, g 9, .int .i64 i, .int .i64 j, g 12, g 13, g 14, g 15, g 16, g 17, g 18, g 19, g 20, g 21, g 22, g 23, g 24, g 25, g 26, g 27, g 28, g 29, g 30, g 31, g 32, g 33, g 34, g 35, g 36, g 37, g 38, g 39, g 40, g 41, g 42, g 43, g 44, g 45, g 46, g 47, g 48, g 49, g 50, g 51, g 52, g 53, g 54, g 55, g 56, g 57, g 58, g 59, g 60, g 61, g 62, g 63, g 64, g 65, g 66, g 67, g 68, g 69, g 70, g 71, g 72, g 73, g 74, g 75, g 76, g 77, g 78, g 79, g 80, g 81, g 82, g 83, g 84, g 85, g 86, g 87, g 88, g 89, g 90, g 91, g 92, g 93, g 94, g 95, g 96, g 97, g 98, g 99, g 100, g 101, g 102, g 103, g 104, g 105, g 106, g 107, g 108, g 109, g 110, g 111, g 112, g 113, g 114, g 115, g 116, g 117, g 118, g 119, g 120, g 121, g 122, g 123, g 124, g 125, g 126, g 127, g 128, g 129, g 130, g 131, g 132, g 133, g 134, g 135, g 136, g 137, g 138, g 139, g 140, g 141, g 142, g 143, g 144, g 145, g 146, g 147, g 148, g 149, g 150, g 151, g 152, g 153, g 154, g 155, g 156, g 157, g 158, g 159, g 160, g 161, g 162, g 163, g 164, g 165, g 166, g 167, g 168, g 169, g 170, g 171, g 172, g 173, g 174, g 175, g 176, g 177, g 178, g 179, g 180, g 181, g 182, g 183, g 184, g 185, g 186, g 187, g 188, g 189, g 190, g 191, g 192, g 193, g 194, g 195, g 196, g 197, g 198, g 199, g 200, g 201, g 202, g 203, g 204, g 205, g 206, g 207, g 208, g 209, g 210, g 211, g 212, g 213, g 214, g 215, g 216, g 217, g 218, g 219, g 220, g 221, g 222, g 223, g 224, g 225, g 226, g 227, g 228, g 229, g 230, g 231, g 232, g 233, g 234, g 235, g 236, g 237, g 238, g 239, g 240, g 241, g 242, g 243, g 244], []⟩ W := by
  obtain ⟨n, jL, gb, cb, Y, ws', hw1, hw2, hw0, rfl, hfr, hT2⟩ := on_begin C h
  obtain ⟨c0, c1, c2, c3, c4, f, nG, x0, x1, x2, nP, ne, ne2⟩ := h.1.cells
  have f4 := f 4
  rw [hs] at hfr
  have hi := h.2.2.2.1
  have hj := h.2.2.2.2
  have H := Lib.hid (And.intro h (And.intro hT2 (And.intro hs (And.intro hi hj))))
  clear h hT2 hs hi hj f c0 c1 c2 c3 x1 x2
  conv => arg 2; whnf
  go_wp2_with fail
  refine hfr.mono ?_
  clear hfr hw1 hw2 hw0 c4 f4 nG x0 nP ne ne2
  rintro e w2 ⟨rfl, rfl⟩
  dsimp only
  obtain ⟨c0, c1, c2, c3, c4, f, nG, x0, x1, x2, nP, ne, ne2⟩ := H.out.2.1.cells
  obtain ⟨B3, d3, hadD, hadb, hd3, hd3m, hset, k0, k1, k2, k3, k4⟩ := ins_D (C.pg.touch H.out.2.1.tch) i H.out.2.2.2.1
  have hge := get_at p i H.out.2.2.2.1
  have hq : ((i : Int), (j : Int)) ∈ allP p rs.length := allP_iff.2 ⟨⟨by show (0 : Int) ≤ (i : Int); omega, by show (i : Int) < _; have := H.out.2.2.2.1; omega⟩, by show (0 : Int) ≤ (j : Int); omega, by show (j : Int) < _; have := H.out.2.2.2.2; omega⟩
  have hgo := check_good C.chk (show Pc p ((i : Nat) : Int) from (allP_iff.1 hq).1)
  have hpm := pot_le (K := KB p) (J := J) hq H.out.2.2.1
  have hfr := C.newW H.out.2.1.tch
  have HF0 := fin_step (rn := runeAt rs) (av := atOf rs) (lg := lg) (S := S) (J := J) (c := fit) C.chk hq H.out.2.1.hal H.out.2.2.1 ho.1 ho.2.2.2.1 (nexts_none ⟨ho.2.1, ho.2.2.1, ho.2.2.2.1, ho.2.2.2.2⟩ _)
  simp only [hge, List.map_cons, List.map_nil, List.nil_append, List.cons_append] at HF0
  have HN := Lib.hid (And.intro hq (And.intro hgo (And.intro hpm (And.intro hset (And.intro hadD (And.intro hfr ho))))))
  clear hq hgo hpm hset hfr
  have hi : i < p.ins.length := H.out.2.2.2.1
  have hxs : p.ins[i].set.length ≤ 1000000000 := C.set _ (List.getElem_mem hi)
  rw [hge] at ho HN
  clear hge hadD
  generalize p.ins[i] = x at *
  have o1 : (x.op == 1) = false := by simp; omega
  have o2 : (x.op == 2) = false := by simp; omega
  have o3 : (x.op == 3) = false := by simp; omega
  have o4 : (x.op == 4) = false := by simp; omega
  have o5 : (x.op == 5) = false := by simp; omega
  clear ho
  have HF := Lib.hid HF0
  clear HF0
  go_wp2_with fail
  try go_step3
  have hT3 := H.out.2.1.below C (below_al (Below.refl _ _) (.cells #[.int .i64 x.op, .int .i64 x.out, .int .i64 x.arg, .slice B3 x.set.length d3, .int .i64 x.at_] 64))
  exact hJ _ _ _ ⟨_, rfl, ⟨rfl, rfl, rfl, rfl, rfl⟩, .inl ⟨rfl, _, _, _, _, _, _, _, _, _, H.out.1.next C.chk hT3 HF.out (by have := HN.out.2.2.1; omega)⟩⟩ (lt_eq (by omega) (stOf_eq hT3.mem))
end Go.Proofs.YthclpabmbhpohaaDoor
