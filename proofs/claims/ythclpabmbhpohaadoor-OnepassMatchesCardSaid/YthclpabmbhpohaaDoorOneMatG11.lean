/-
  The walk of a program over a text as a graph: an instruction, a place. No condition.
  unicode/utf8.DecodeRune, by the shelf's contract; the two tables that it reads. No condition but that they are laid.
  A rune in memory. No condition.
  The document's input of a text: martelloref01.New, martellolaw11.Doc, (*martelloref01.Input).Len. No condition but that the two tables stand.
  The document's input and its index: martellolaw11.Doc, (*martelloref01.Input).Len, martelloref14.Index. No condition but that the two tables stand.
  The document's runes and places: martelloref02.Has, martelloref01.Word, (*martelloref01.Input).Rune, At. No condition but bounds.
-/
import Derived.Test.YthclpabmbhpohaaDoorOneMatG10
import Derived.Test.YthclpabmbhpohaaDoorRows
import Derived.Shelf.Spec.DecodeRune
import Derived.Lib.LaidU8T
import Derived.Lib.RuneCountTail
import Derived.PinnedBridge
import Derived.Test.YthclpabmbhpohaaDoorProg
import Derived.Lib.SmallJoins
import Derived.Lib.OwnKind
import Derived.Lib.MapLaws
import Derived.Lib.TrimU
import Derived.Deep.LoopGhost
namespace Go.Proofs.YthclpabmbhpohaaDoor
open Go.RowKit
set_option linter.unusedVariables false
section
variable (p : Pg) (rn av : Int → Int) (to : Int) (lg : Bool)
/-- What follows an instruction at a place. -/
def nextsP (q : Int × Int) : List (Int × Int) :=
  if (p.get q.1).op = 2 then (if hasB (p.get q.1).set (rn q.2) = true ∧ q.2 + 1 ≤ to then [((p.get q.1).out, q.2 + 1)] else []) else
  if (p.get q.1).op = 3 then [((p.get q.1).out, q.2), ((p.get q.1).arg, q.2)] else
  if (p.get q.1).op = 4 then [((p.get q.1).out, q.2)] else
  if (p.get q.1).op = 5 then (if hitB (av q.2) (p.get q.1).at_ = true then [((p.get q.1).out, q.2)] else []) else []
def updP (q : Int × Int) (c : List Int) : List Int := if (p.get q.1).op = 4 then c.set (p.get q.1).arg.toNat q.2 else c
def grP : Gr (Int × Int) where
  nexts := nextsP p rn av to
  mat q := (p.get q.1).op == 1
  pl q := q.2
  upd := updP p
  longest := lg
/-- All instructions at all places. -/
def allP (M : Nat) : List (Int × Int) := (List.range M).flatMap fun (j : Nat) => (List.range p.ins.length).map fun (i : Nat) => ((i : Int), (j : Int))
end
theorem allP_iff {p : Pg} {M : Nat} {q : Int × Int} : q ∈ allP p M ↔ Pc p q.1 ∧ 0 ≤ q.2 ∧ q.2 < M := by
  unfold allP
  simp only [List.mem_flatMap, List.mem_range, List.mem_map]
  constructor
  · rintro ⟨j, hj, i, hi, rfl⟩
    exact ⟨⟨by simp, by simpa using hi⟩, by simp, by simpa using hj⟩
  · rintro ⟨⟨h1, h2⟩, h3, h4⟩
    obtain ⟨a, b⟩ := q
    dsimp only at *
    exact ⟨b.toNat, by omega, a.toNat, by omega, by rw [Int.toNat_of_nonneg h1, Int.toNat_of_nonneg h3]⟩
theorem allP_len (p : Pg) (M : Nat) : (allP p M).length = M * p.ins.length := by
  unfold allP
  rw [List.length_flatMap]
  simp only [List.length_map, List.length_range]
  generalize p.ins.length = k
  induction M with
  | zero => simp
  | succ m ih => rw [List.range_succ, List.map_append, List.sum_append, ih, Nat.add_mul]; simp
theorem left_len {Q : Type} [DecidableEq Q] (U : List Q) (s : Wk Q) : left U s ≤ U.length := by
  unfold left; exact List.length_filter_le _ _
theorem within_P {p : Pg} (hl : Leads p) (rn av : Int → Int) {to : Int} (lg : Bool) {M : Nat} (hM : to < M) : Within (grP p rn av to lg) (allP p M) := by
  intro q hq r hr
  rw [allP_iff] at hq ⊢
  have h := hl q.1 hq.1
  have hr' : r ∈ nextsP p rn av to q := hr
  unfold nextsP at hr'
  by_cases c2 : (p.get q.1).op = 2
  · rw [if_pos c2] at hr'
    split at hr'
    · rename_i hh
      rw [List.mem_singleton.1 hr']
      exact ⟨h.1 (by omega), by dsimp only; omega, by dsimp only; omega⟩
    · cases hr'
  rw [if_neg c2] at hr'
  by_cases c3 : (p.get q.1).op = 3
  · rw [if_pos c3] at hr'
    rcases List.mem_cons.1 hr' with rfl | hr'
    · exact ⟨h.1 (by omega), hq.2⟩
    · rw [List.mem_singleton.1 hr']; exact ⟨h.2 c3, hq.2⟩
  rw [if_neg c3] at hr'
  by_cases c4 : (p.get q.1).op = 4
  · rw [if_pos c4] at hr'
    rw [List.mem_singleton.1 hr']; exact ⟨h.1 (by omega), hq.2⟩
  rw [if_neg c4] at hr'
  by_cases c5 : (p.get q.1).op = 5
  · rw [if_pos c5] at hr'
    split at hr'
    · rw [List.mem_singleton.1 hr']; exact ⟨h.1 (by omega), hq.2⟩
    · cases hr'
  rw [if_neg c5] at hr'; cases hr'
section
variable {p : Pg} {rn av : Int → Int} {to : Int} {lg : Bool} {n : Nat} {q : Int × Int} {c : List Int} {S : Wk (Int × Int)}
theorem come_new (h0 : halts (grP p rn av to lg) S = false) (h1 : S.seen q = false) (h2 : (p.get q.1).op ≠ 1) : come (grP p rn av to lg) (n + 1) q c S = comes (grP p rn av to lg) n (updP p q c) (nextsP p rn av to q) (markW q S) := by
  rw [come_succ, if_neg (by rw [h0]; simp), if_neg (by rw [h1]; simp), if_neg (by show ¬ ((p.get q.1).op == 1) = true; simpa using h2)]
  rfl
theorem come_mat (h0 : halts (grP p rn av to lg) S = false) (h1 : S.seen q = false) (h2 : (p.get q.1).op = 1) : come (grP p rn av to lg) (n + 1) q c S = ⟨(markW q S).seen, bestOf (grP p rn av to lg) q c S.best⟩ := by
  rw [come_succ, if_neg (by rw [h0]; simp), if_neg (by rw [h1]; simp), if_pos (by show ((p.get q.1).op == 1) = true; simpa using h2)]
theorem come_set (h0 : halts (grP p rn av to lg) S = false) (h1 : S.seen q = false) (h2 : (p.get q.1).op = 2) : come (grP p rn av to lg) (n + 1) q c S =
    if hasB (p.get q.1).set (rn q.2) = true ∧ q.2 + 1 ≤ to then come (grP p rn av to lg) n ((p.get q.1).out, q.2 + 1) c (markW q S) else markW q S := by
  rw [come_new h0 h1 (by omega)]
  unfold updP nextsP
  rw [if_pos h2, if_neg (by omega)]
  split <;> rfl
theorem come_alt (h0 : halts (grP p rn av to lg) S = false) (h1 : S.seen q = false) (h2 : (p.get q.1).op = 3) : come (grP p rn av to lg) (n + 1) q c S =
    come (grP p rn av to lg) n ((p.get q.1).arg, q.2) c (come (grP p rn av to lg) n ((p.get q.1).out, q.2) c (markW q S)) := by
  rw [come_new h0 h1 (by omega)]
  unfold updP nextsP
  rw [if_neg (by omega), if_pos h2, if_neg (by omega)]
  rfl
theorem come_cap (h0 : halts (grP p rn av to lg) S = false) (h1 : S.seen q = false) (h2 : (p.get q.1).op = 4) : come (grP p rn av to lg) (n + 1) q c S =
    come (grP p rn av to lg) n ((p.get q.1).out, q.2) (c.set (p.get q.1).arg.toNat q.2) (markW q S) := by
  rw [come_new h0 h1 (by omega)]
  unfold updP nextsP
  rw [if_pos h2, if_neg (by omega), if_neg (by omega), if_pos h2]
  rfl
theorem come_atw (h0 : halts (grP p rn av to lg) S = false) (h1 : S.seen q = false) (h2 : (p.get q.1).op = 5) : come (grP p rn av to lg) (n + 1) q c S =
    if hitB (av q.2) (p.get q.1).at_ = true then come (grP p rn av to lg) n ((p.get q.1).out, q.2) c (markW q S) else markW q S := by
  rw [come_new h0 h1 (by omega)]
  unfold updP nextsP
  rw [if_neg (by omega), if_neg (by omega), if_neg (by omega), if_pos h2, if_neg (by omega)]
  split <;> rfl
theorem come_none (h0 : halts (grP p rn av to lg) S = false) (h1 : S.seen q = false) (h2 : (p.get q.1).op ≠ 1 ∧ (p.get q.1).op ≠ 2 ∧ (p.get q.1).op ≠ 3 ∧ (p.get q.1).op ≠ 4 ∧ (p.get q.1).op ≠ 5) : come (grP p rn av to lg) (n + 1) q c S = markW q S := by
  rw [come_new h0 h1 h2.1]
  unfold nextsP
  rw [if_neg h2.2.1, if_neg h2.2.2.1, if_neg h2.2.2.2.1, if_neg h2.2.2.2.2]
  rfl
end
/-- The walk from a place. -/
def emptyW : Wk (Int × Int) := ⟨fun _ => false, none⟩
def fitP (p : Pg) (at_ : Int) : List Int := (List.replicate p.caps.toNat (-1)).set 0 at_
/-- martelloref12.Run in plain words; M places. -/
def runW (p : Pg) (rn av : Int → Int) (to : Int) (lg : Bool) (M : Nat) (at_ : Int) : Option (List Int) :=
  if to < at_ then none else (come (grP p rn av to lg) (M * p.ins.length + 1) (p.start, at_) (fitP p at_) emptyW).best
end Go.Proofs.YthclpabmbhpohaaDoor
namespace Go.Proofs.YthclpabmbhpohaaDoor
open Go.RowKit Go.Shelf
set_option linter.unusedVariables false
set_option maxRecDepth 100000
def layDecNums : Go.Shelf.Ren := ⟨fun | 32 => 45 | 49 => 67 | n => n, fun | 0 => 0 | 3 => 3 | 4 => 4 | 5 => 5 | 21 => 21 | 25 => 121 | 30 => 29 | 33 => 99 | 66 => 139 | 68 => 141 | 69 => 142 | 119 => 139 | 138 => 141 | 139 => 142 | n => n, fun | 2 => 0 | 3 => 1 | n => n⟩
theorem layDec : Lays7.n32 Tryd.prog layDecNums := {
  mixed := by kernel_rfl
  f32 := Tryd.func45.trans (congrArg some (by kernel_rfl))
  f49 := Tryd.func67.trans (congrArg some (by kernel_rfl))
  t0 := Tryd.underlying0
  a0 := Tryd.isAgg0
  z0 := Tryd.sizeOf0
  v0 := Tryd.zeroValue0
  i0 := by kernel_rfl
  t3 := Tryd.underlying3
  a3 := Tryd.isAgg3
  z3 := Tryd.sizeOf3
  v3 := Tryd.zeroValue3
  i3 := by kernel_rfl
  t4 := Tryd.underlying4
  a4 := Tryd.isAgg4
  z4 := Tryd.sizeOf4
  v4 := Tryd.zeroValue4
  i4 := by kernel_rfl
  t5 := Tryd.underlying5
  a5 := Tryd.isAgg5
  z5 := Tryd.sizeOf5
  v5 := Tryd.zeroValue5
  i5 := by kernel_rfl
  t21 := Tryd.underlying21
  a21 := Tryd.isAgg21
  z21 := Tryd.sizeOf21
  v21 := Tryd.zeroValue21
  i21 := by kernel_rfl
  t25 := Tryd.underlying121
  a25 := Tryd.isAgg121
  z25 := Tryd.sizeOf121
  v25 := Tryd.zeroValue121
  i25 := by kernel_rfl
  t30 := Tryd.underlying29
  a30 := Tryd.isAgg29
  z30 := Tryd.sizeOf29
  v30 := Tryd.zeroValue29
  i30 := by kernel_rfl
  t33 := Tryd.underlying99
  a33 := Tryd.isAgg99
  z33 := Tryd.sizeOf99
  v33 := Tryd.zeroValue99
  i33 := by kernel_rfl
  t66 := Tryd.underlying139
  a66 := Tryd.isAgg139
  z66 := Tryd.sizeOf139
  t68 := Tryd.underlying141
  a68 := Tryd.isAgg141
  z68 := Tryd.sizeOf141
  v68 := Tryd.zeroValue141
  i68 := by kernel_rfl
  t69 := Tryd.underlying142
  a69 := Tryd.isAgg142
  z69 := Tryd.sizeOf142
  v69 := Tryd.zeroValue142
  i69 := by kernel_rfl
  g2 := by kernel_rfl
  g3 := by kernel_rfl }
/-- The two tables stand. -/
def Tabs (w : World) : Prop := Lib.Utf8Tabs 0 1 w
/-- The same two tables under the numbers by which the bridge knows them. -/
def layTabNums : Go.Shelf.Ren := ⟨fun n => n, fun | 5 => 5 | 119 => 139 | 138 => 141 | 139 => 142 | n => n, fun | 3 => 0 | 4 => 1 | n => n⟩
theorem tabs_of {w : World} (h3 : Lib.VarReads Tryd.prog w "unicode/utf8.first" Lib.firstData) (h4 : Lib.VarReads Tryd.prog w "unicode/utf8.acceptRanges" Lib.acceptData) : Tabs w :=
  utf8Tabs_of_readsT (ρ := layTabNums) ⟨Tryd.underlying5, Tryd.underlying139, Tryd.underlying141, Tryd.underlying142⟩ ⟨by kernel_rfl, by kernel_rfl, by kernel_rfl, by kernel_rfl, by kernel_rfl, by kernel_rfl, by kernel_rfl⟩ h3 h4
theorem Tabs.below {w w' : World} (h : Tabs w) (hb : Below w.heap.size w w') : Tabs w' := by
  have hl : ∀ {p : Addr} {v : Value}, w.cell? p = some v → w'.cell? p = some v := fun {p v} hc => (hb.cell (World.block_lt_of_cell? w p hc)).trans hc
  exact ⟨fun c hc => hl (h.1 c hc), fun i hi => ⟨hl (h.2 i hi).1, hl (h.2 i hi).2⟩⟩
theorem pinFirst : Rows.laid_unicode_utf8_first = Lib.firstData := Pinned.utf8First_eq
theorem accData : Rows.laid_unicode_utf8_acceptRanges = Lib.acceptData := by kernel_rfl
/-- One rune, decoded from a place inside a text. -/
theorem decodeRune_any (ok : Nat → Prop) (w : World) (A : Addr) (c : Nat) (s : ByteArray) (pos : Nat) (h : TextC ok w (some A) s) (hp : pos < s.size) (hT : Tabs w) :
    Calls Tryd.prog 45 #[.slice (some (A.add pos)) (s.size - pos) c] w fun e w' => e = .returned (.tuple #[.int .i32 (Utf8.decode s pos).1, .int .i64 (Utf8.decode s pos).2]) ∧ Below w.heap.size w w' := by
  have hcell : ∀ j, j < s.size → w.cell? (A.add j) = some (.int .u8 (s.get! j).toNat) := fun j hj => by
    have hjl : j < s.data.toList.length := by rw [text_len]; exact hj
    obtain ⟨ad, cs, he, _, hcs, _, hc⟩ := h j _ (List.getElem?_eq_getElem hjl)
    injection he with he
    subst he
    rw [hcs] at hc
    have := hc 0 _ rfl
    rw [Nat.mul_one, Nat.add_zero] at this
    rw [this]
    have hsz : j < s.data.size := hj
    show some (Value.int .u8 (s.data.toList[j].toNat : Int)) = some (Value.int .u8 (s.data[j]!.toNat : Int))
    rw [getElem!_pos s.data j hsz, Array.getElem_toList]
  obtain ⟨b, off, sp⟩ := A
  have hsp : sp = none := by
    have h0 := hcell 0 (by omega)
    rw [show (⟨b, off, sp⟩ : Addr).add 0 = ⟨b, off, sp⟩ by simp [Addr.add]] at h0
    unfold World.cell? at h0
    split at h0
    · cases sp with
      | none => rfl
      | some k => simp at h0
    · cases h0
  subst hsp
  have hadd : ∀ n, (⟨b, off, none⟩ : Addr).add n = ⟨b, off + n, none⟩ := fun n => by unfold Addr.add; split <;> simp_all
  have hsz : (s.extract pos s.size).size = s.size - pos := by simp
  have hd : Lib.decodeGo (s.extract pos s.size) = Utf8.decode s pos := by
    unfold Lib.decodeGo
    rw [if_neg (by rw [hsz]; omega), Lib.tail_decode, Nat.add_zero]
  have hc := Any7.utf8_DecodeRune layDec (s.extract pos s.size) b (off + pos) c w hT (fun j hj => by
    rw [hsz] at hj
    have h1 := hcell (pos + j) (by omega)
    rw [hadd] at h1
    rw [Nat.add_assoc, h1, Lib.tail_get!])
  rw [hd, hsz] at hc
  rw [hadd]
  exact hc
end Go.Proofs.YthclpabmbhpohaaDoor
namespace Go.Proofs.YthclpabmbhpohaaDoor
open Go.RowKit
set_option linter.unusedVariables false
theorem infoRune : (Tryd.prog.info? 21).map (fun i => (i.zero, i.size, i.bytes)) = some (some (.int .i32 0), 1, 4) := by kernel_rfl
/-- A list of runes of one's own. -/
def runeC (x : Int) : List Value := [.int .i32 x]
end Go.Proofs.YthclpabmbhpohaaDoor
namespace Go.Proofs.YthclpabmbhpohaaDoor
open Go.RowKit Go.Shelf
set_option linter.unusedVariables false
/-- The document's input in memory: its runes. -/
def RefC (ok : Nat → Prop) (w : World) (a : Addr) (cs : List Int) : Prop :=
  ∃ A c, ok a.block ∧ w.cell? ⟨a.block, a.off + 2, none⟩ = some (.slice A cs.length c) ∧ cs.length ≤ c ∧ c ≤ maxLen ∧ Arr ok w 1 (IntC .i32) A cs
def codesOf (s : ByteArray) : List Int := (symsFrom s s.size 0).map (·.1)
theorem infoByte2 : (Tryd.prog.info? 5).map (fun i => (i.zero, i.size, i.bytes)) = some (some (.int .u8 0), 1, 1) := by kernel_rfl
theorem infoInt2 : (Tryd.prog.info? 3).map (fun i => (i.zero, i.size, i.bytes)) = some (some (.int .i64 0), 1, 8) := by kernel_rfl
def offC (x : Int) : List Value := [.int .i64 x]
/-- The document's input while it is being filled: its block b; what it has so far. -/
def Doc2 (B b : Nat) (kv bv : Value) (rs os : List Int) (w : World) : Prop :=
  ∃ rv ov, w.heap[b]? = some (.cells #[kv, bv, rv, ov] 115 (0, 0)) ∧ Owns w B 21 1 rv (rs.map runeC) ∧ Owns w B 3 1 ov (os.map offC)
theorem own_ne {w : World} {B : Nat} {e : TypeId} {sz : Nat} {v : Value} {css : List (List Value)} (h : Owns w B e sz v css) {b : Nat} {cs : Array Value} {ty : TypeId} {fr : Nat × Nat} (hb : w.heap[b]? = some (.cells cs ty fr)) (hne : ty ≠ e) : v.ownBlock ≠ some b := by
  intro hv
  obtain ⟨c, fz, hc⟩ := Lib.ownsRow_kind h.1 b hv
  rw [hb] at hc
  injection hc with hc
  injection hc with _ h2 _
  exact hne h2
theorem own_apart {w : World} {B B' : Nat} {e e' : TypeId} {sz sz' : Nat} {v v' : Value} {css css' : List (List Value)} (h : Owns w B e sz v css) (h' : Owns w B' e' sz' v' css') (hne : e ≠ e') : v.ownBlock = none ∨ v.ownBlock ≠ v'.ownBlock := by
  cases hv : v.ownBlock with
  | none => exact .inl rfl
  | some g =>
    refine .inr fun he => ?_
    obtain ⟨c, fz, hc⟩ := Lib.ownsRow_kind h.1 g hv
    exact own_ne h' hc hne he.symm
theorem Owns.setOther {w : World} {B : Nat} {e : TypeId} {sz : Nat} {v : Value} {css : List (List Value)} (h : Owns w B e sz v css) {a : Addr} (ha : v.ownBlock ≠ some a.block) (u : Value) : Owns (w.setCell a u) B e sz v css := ⟨ownsRow_setCell_other h.1 ha u, h.2⟩
theorem Doc2.below {B b : Nat} {kv bv : Value} {rs os : List Int} {w w' : World} (h : Doc2 B b kv bv rs os w) (hb : Below w.heap.size w w') : Doc2 B b kv bv rs os w' := by
  obtain ⟨rv, ov, h1, h2, h3⟩ := h
  exact ⟨rv, ov, (hb.block _ (heap_lt h1)).trans h1, h2.below hb, h3.below hb⟩
/-- A rune more. -/
theorem doc_rune {B b : Nat} {kv bv rv ov rv' : Value} {css css' : List (List Value)} {os : List Int} {w w1 : World} (hb : w.heap[b]? = some (.cells #[kv, bv, rv, ov] 115 (0, 0))) (hr : Owns w B 21 1 rv css) (ho : Owns w B 3 1 ov (os.map offC))
    (hown : Owns w1 B 21 1 rv' css') (hg : w.grownBy w1 rv.ownBlock) :
    w1.heap[b]? = some (.cells #[kv, bv, rv, ov] 115 (0, 0)) ∧ (w1.setCell ⟨b, 2, none⟩ rv').heap[b]? = some (.cells #[kv, bv, rv', ov] 115 (0, 0)) ∧ Owns (w1.setCell ⟨b, 2, none⟩ rv') B 21 1 rv' css' ∧ Owns (w1.setCell ⟨b, 2, none⟩ rv') B 3 1 ov (os.map offC) := by
  have h1 := (hg.block b (heap_lt hb) (fun e => own_ne hr hb (by decide) e.symm)).trans hb
  have h2 := ho.kept hg (own_apart ho hr (by decide))
  exact ⟨h1, heap_setCell_same h1 2 rv', hown.setOther (own_ne hown h1 (by decide)) _, h2.setOther (own_ne h2 h1 (by decide)) _⟩
/-- A place more. -/
theorem doc_off {B b : Nat} {kv bv rv ov ov' : Value} {css css' : List (List Value)} {rs : List Int} {w w1 : World} (hb : w.heap[b]? = some (.cells #[kv, bv, rv, ov] 115 (0, 0))) (hr : Owns w B 21 1 rv (rs.map runeC)) (ho : Owns w B 3 1 ov css)
    (hown : Owns w1 B 3 1 ov' css') (hg : w.grownBy w1 ov.ownBlock) :
    w1.heap[b]? = some (.cells #[kv, bv, rv, ov] 115 (0, 0)) ∧ (w1.setCell ⟨b, 3, none⟩ ov').heap[b]? = some (.cells #[kv, bv, rv, ov'] 115 (0, 0)) ∧ Owns (w1.setCell ⟨b, 3, none⟩ ov') B 3 1 ov' css' ∧ Owns (w1.setCell ⟨b, 3, none⟩ ov') B 21 1 rv (rs.map runeC) := by
  have h1 := (hg.block b (heap_lt hb) (fun e => own_ne ho hb (by decide) e.symm)).trans hb
  have h2 := hr.kept hg (own_apart hr ho (by decide))
  exact ⟨h1, heap_setCell_same h1 3 ov', hown.setOther (own_ne hown h1 (by decide)) _, h2.setOther (own_ne h2 h1 (by decide)) _⟩
theorem bytes_news {ok : Nat → Prop} {w w' : World} {ad : Addr} {s : ByteArray} (h : TextC ok w (some ad) s) (hb : Below w.heap.size w w') : ∀ (j : Nat) (u : Value), (s.data.toList.map fun x => Value.int .u8 (x.toNat : Int))[j]? = some u → w'.cell? (ad.add j) = some u := by
  intro j u hu
  rw [List.getElem?_map] at hu
  cases hx : s.data.toList[j]? with
  | none => rw [hx] at hu; cases hu
  | some x =>
    rw [hx] at hu
    cases hu
    obtain ⟨ad', cs, he, _, hcs, _, hc⟩ := h j x hx
    injection he with he
    subst he
    rw [hcs] at hc
    have h1 := hc 0 _ rfl
    rw [Nat.mul_one, Nat.add_zero] at h1
    exact (hb.cell (World.block_lt_of_cell? w _ h1)).trans h1
theorem heap_newS {W : World} {o : Obj} {n : Nat} (h : n = W.heap.size) : (W.alloc o).heap[n]? = some o := by subst h; exact World.alloc_heap_new _ _
theorem width_four (s : ByteArray) (pos : Nat) : (Utf8.decode s pos).2 ≤ 4 := by
  rw [Lib.decode_at]
  rcases Lib.decodeN_shape (s.size - pos) (s.get! pos).toNat (s.get! (pos + 1)).toNat (s.get! (pos + 2)).toNat (s.get! (pos + 3)).toNat with ⟨_, e⟩ | ⟨_, _, _, _, e⟩ | ⟨_, _, _, _, _, _, e⟩ | ⟨_, _, _, _, _, _, _, e⟩ | e <;> rw [e] <;> simp
def RefNewPost (w : World) (s : ByteArray) (e : Ending) (w' : World) : Prop :=
  ∃ b, e = .returned (.tuple #[.pointer (some ⟨b, 0, none⟩), .int .i64 0]) ∧ RefC (fun k => w.heap.size ≤ k) w' ⟨b, 0, none⟩ (codesOf s) ∧ Below w.heap.size w w'
set_option maxRecDepth 100000 in
set_option maxHeartbeats 4000000 in
theorem refNew_any (ok : Nat → Prop) (w : World) (A : Option Addr) (c : Nat) (s : ByteArray) (h : TextC ok w A s) (hsc : s.size ≤ c) (hc : c ≤ maxLen) (hs : s.size ≤ 65536) (hT : Tabs w) :
    Calls Tryd.prog 35 #[.int .i64 2, .slice A s.size c] w (RefNewPost w s) := by
  by_cases h0 : s.size = 0
  · have hk : codesOf s = [] := by unfold codesOf; rw [symsFrom_end s _ 0 (by omega)]; rfl
    clear h
    rw [h0] at hs hsc ⊢
    have e1 : ∀ W, Sem.run Tryd.prog (pure (#[] : Array Value)) W = .ok #[] W := fun _ => rfl
    have e2 : ∀ W, Sem.run Tryd.prog (storeCells ⟨w.heap.size, 0, none⟩ (#[] : Array Value).toList) W = .ok () W := fun _ => rfl
    have hB : Below w.heap.size w (((w.alloc (.cells #[] 5)).alloc (.cells #[.int .i64 0] 3)).alloc (.cells #[.int .i64 2, .slice (some ⟨w.heap.size, 0, none⟩) 0 0, .slice none 0 0, .slice (some ⟨w.heap.size + 1, 0, none⟩) 1 1] 115)) := below_al (below_al (below_al below_w _) _) _
    have hC := cell_of_blk (heap_new3 w (.cells #[] 5) (.cells #[.int .i64 0] 3) (.cells #[.int .i64 2, .slice (some ⟨w.heap.size, 0, none⟩) 0 0, .slice none 0 0, .slice (some ⟨w.heap.size + 1, 0, none⟩) 1 1] 115)) 2
    have HE := Lib.hid (And.intro hB hC)
    clear hB hC
    cases A with
    | none =>
      go_enter Tryd.func35, Tryd.ntmps35
      go_wp2_with fail
      go_loopw [7] (fun i wr => i = .int .i64 0 ∧ (((w.alloc (.cells #[] 5)).alloc (.cells #[.int .i64 0] 3)).alloc (.cells #[.int .i64 2, .slice (some ⟨w.heap.size, 0, none⟩) 0 0, .slice none 0 0, .slice (some ⟨w.heap.size + 1, 0, none⟩) 1 1] 115)) = wr) (fun _ _ => 0)
      case atStart => exact ⟨rfl, rfl⟩
      case round =>
        obtain ⟨rfl, rfl⟩ := hrel
        go_wp2_with fail
        go_ret2
        exact ⟨w.heap.size + 1 + 1, rfl, ⟨none, 0, by show w.heap.size ≤ w.heap.size + 1 + 1; omega, by rw [hk]; exact HE.out.2, by rw [hk]; exact Nat.le_refl _, Nat.zero_le _, by rw [hk]; exact Arr.nil⟩, HE.out.1⟩
    | some ad =>
      go_enter Tryd.func35, Tryd.ntmps35
      go_wp2_with fail
      go_loopw [7] (fun i wr => i = .int .i64 0 ∧ (((w.alloc (.cells #[] 5)).alloc (.cells #[.int .i64 0] 3)).alloc (.cells #[.int .i64 2, .slice (some ⟨w.heap.size, 0, none⟩) 0 0, .slice none 0 0, .slice (some ⟨w.heap.size + 1, 0, none⟩) 1 1] 115)) = wr) (fun _ _ => 0)
      case atStart => exact ⟨rfl, rfl⟩
      case round =>
        obtain ⟨rfl, rfl⟩ := hrel
        go_wp2_with fail
        go_ret2
        exact ⟨w.heap.size + 1 + 1, rfl, ⟨none, 0, by show w.heap.size ≤ w.heap.size + 1 + 1; omega, by rw [hk]; exact HE.out.2, by rw [hk]; exact Nat.le_refl _, Nat.zero_le _, by rw [hk]; exact Arr.nil⟩, HE.out.1⟩
  · obtain ⟨ad, rfl⟩ : ∃ ad, A = some ad := by
      obtain ⟨ad, _, hA, _⟩ := h 0 _ (List.getElem?_eq_getElem (by rw [text_len]; omega))
      exact ⟨ad, hA⟩
    go_enter Tryd.func35, Tryd.ntmps35
    obtain ⟨i0, hi, hxx⟩ := Option.map_eq_some_iff.1 infoByte2
    simp only [Prod.mk.injEq] at hxx
    obtain ⟨hz0, hz1, hz2⟩ := hxx
    have HT := Lib.hid h
    clear h
    go_wp2_with (at_builtin; refine wpList_append_own _ rfl _ _ 29 rfl w.heap.size 5 i0 _ 1 1 Tryd.underlying29 hi hz0 hz1 hz2 rfl (by decide) _ 0 [] rfl (World.ownsRow_made w #[] 0 (Nat.le_refl _) (by decide) rfl) ad s.size c (s.data.toList.map fun x => Value.int .u8 (x.toNat : Int)) rfl (by rw [List.length_map, text_len]; omega) (bytes_news HT.out (below_al below_w _)) ?c1 ?c2 ?c3 ?c4 ?_)
    case c1 => intro u hu; obtain ⟨x, _, rfl⟩ := List.mem_map.1 hu; rfl
    case c2 => unfold maxLen; omega
    case c3 => omega
    case c4 => simp
    intro bv w1 hown hgr _
    obtain ⟨A1, c1, rfl⟩ : ∃ A1 c1, bv = .slice A1 s.size c1 := by
      rcases Joins.ownsRow_forms hown with ⟨rfl, hn⟩ | ⟨g, cap, rfl⟩
      · omega
      · exact ⟨_, _, rfl⟩
    have hb1 : Below w.heap.size w w1 := (below_al (below_w) _).grown hgr (by simp) (fun k e => by simp [Value.ownBlock] at e; omega)
    clear hown hgr
    have HB := Lib.hid hb1
    clear hb1
    obtain ⟨i1, hi1, hx1⟩ := Option.map_eq_some_iff.1 infoRune
    simp only [Prod.mk.injEq] at hx1
    obtain ⟨hy0, hy1, hy2⟩ := hx1
    obtain ⟨i2, hi2, hx2⟩ := Option.map_eq_some_iff.1 infoInt2
    simp only [Prod.mk.injEq] at hx2
    obtain ⟨hw0, hw1, hw2⟩ := hx2
    have hsz1 := HB.out.size
    have hD0 : Doc2 w.heap.size (w1.heap.size + 1) (.int .i64 2) (.slice A1 s.size c1) [] [0] ((w1.alloc (.cells #[.int .i64 0] 3)).alloc (.cells #[.int .i64 2, .slice A1 s.size c1, .slice none 0 0, .slice (some ⟨w1.heap.size, 0, none⟩) 1 1] 115)) :=
      ⟨_, _, heap_new2 _ _ _, Owns.nil _ _ _ _, Owns.alloc ⟨⟨rfl, .inr ⟨w1.heap.size, 1, #[.int .i64 0], rfl, hsz1, World.alloc_heap_new _ _, Nat.le_refl _, by decide, rfl, rfl⟩⟩, fun cc hcc => by obtain rfl := List.mem_singleton.1 hcc; rfl⟩ _⟩
    have HD0 := Lib.hid hD0
    clear hD0
    go_wp2_with fail
    go_loopw [7] (fun i wr => ∃ (pos fuel : Nat) (rs os : List Int), i = .int .i64 pos ∧ Doc2 w.heap.size (w1.heap.size + 1) (.int .i64 2) (.slice A1 s.size c1) rs os wr ∧ Below w.heap.size w wr ∧ rs ++ (symsFrom s fuel pos).map (·.1) = codesOf s ∧ s.size ≤ pos + fuel ∧ pos ≤ s.size + 4 ∧ rs.length ≤ pos ∧ os.length ≤ pos + 1) (fun i _ => s.size - (intOf i).toNat)
    case atStart => exact ⟨0, s.size, [], [0], rfl, HD0.out, below_al (below_al HB.out _) _, rfl, by omega, by omega, by simp, by simp⟩
    case round =>
      obtain ⟨pos, fuel, rs, os, rfl, hD, hBr, hacc, hfu, hps, hrl, hol⟩ := hrel
      by_cases hp : pos < s.size
      · obtain ⟨f, rfl⟩ : ∃ f, fuel = f + 1 := ⟨fuel - 1, by omega⟩
        have hw1' := Lib.width_pos s pos
        have hw4 := width_four s pos
        have hd1 := decode_le s pos
        have hdec := decodeRune_any ok wr ad (c - pos) s pos (HT.out.move (fun b hok hb => ⟨hBr.block b hb, hok⟩)) hp (hT.below hBr)
        have HH := Lib.hid (And.intro hD (And.intro hBr hacc))
        clear hD hBr hacc
        go_wp2_with (first
          | (go_at_call 45
             refine hdec.mono ?_
             clear hdec
             rintro e w3 ⟨rfl, hb3⟩
             obtain ⟨rv, ov, hk1, hk2, hk3⟩ := HH.out.1.below hb3
             have hc2 : w3.cell? ⟨w1.heap.size + 1, 2, none⟩ = some rv := by rw [cell_of_blk hk1]; rfl
             have H3 := Lib.hid (And.intro hk1 (And.intro hk2 (And.intro hk3 (below_and hb3 HH.out.2.1))))
             clear hk1 hk2 hk3 hb3)
          | (at_builtin; refine wpList_app1 rfl _ _ 113 rfl w.heap.size 21 i1 (.int .i32 0) 1 4 Tryd.underlying113 hi1 hy0 hy1 hy2 rfl (by decide) _ _ rfl (H3.out.2.1.alloc _) _ [.int .i32 ((Utf8.decode s pos).1 : Int)] rfl rfl (heap_new1 _ _) ?c2 ?c3 ?c4 ?c5 ?_))
        case c2 => intro u hu; simp at hu; subst hu; rfl
        case c3 => rw [List.length_map]; unfold maxLen; omega
        case c4 => rw [List.length_map]; omega
        case c5 => have := H3.out.2.2.2.size; simp; omega
        intro rv' w4 hown' hgrow
        obtain ⟨hk1, hk2, hk3, hb3⟩ := H3.out
        have hb4 := below_app (below_al hb3 (.cells #[.int .i32 ((Utf8.decode s pos).1 : Int)] 21)) (by have := hb3.size; simp; omega) (hk2.alloc _) hgrow
        obtain ⟨k1, k2, k3, k4⟩ := doc_rune ((Below.heap_alloc w3 _ _ (heap_lt hk1)).trans hk1) (hk2.alloc _) (hk3.alloc _) hown' hgrow
        obtain ⟨A5, c5, rfl, _, _⟩ := hown'.shape
        have hc4 : w4.cell? ⟨w1.heap.size + 1, 2, none⟩ = some rv := by rw [cell_of_blk k1]; rfl
        have hf4 : w4.frozen? ⟨w1.heap.size + 1, 2, none⟩ = false := by simp [World.frozen?, k1]
        generalize hcss : List.map runeC rs ++ [[Value.int .i32 ((Utf8.decode s pos).1 : Int)]] = css at *
        have hcss' : css = (rs ++ [((Utf8.decode s pos).1 : Int)]).map runeC := by rw [← hcss, List.map_append]; rfl
        have hb5 : Below w.heap.size w (w4.setCell ⟨w1.heap.size + 1, 2, none⟩ (.slice A5 css.length c5)) := hb4.setCell (p := ⟨w1.heap.size + 1, 2, none⟩) (by show w.heap.size ≤ w1.heap.size + 1; omega) _
        have hc5 : (w4.setCell ⟨w1.heap.size + 1, 2, none⟩ (.slice A5 css.length c5)).cell? ⟨w1.heap.size + 1, 3, none⟩ = some ov := by rw [cell_of_blk k2]; rfl
        have H5 := Lib.hid (And.intro k2 (And.intro k3 (And.intro k4 (And.intro hb5 hcss'))))
        clear hown' hgrow hk1 hk2 hk3 hb3 hb4 k1 k2 k3 k4 hb5 hcss hcss' hc2
        generalize hn5 : css.length = n5 at *
        have HN5 := Lib.hid hn5
        clear hn5
        go_wp2_with (at_builtin; refine wpList_app1 rfl _ _ 35 rfl w.heap.size 3 i2 (.int .i64 0) 1 8 Tryd.underlying35 hi2 hw0 hw1 hw2 rfl (by decide) _ _ rfl (H5.out.2.2.1.alloc _) _ (offC ((pos : Int) + ((Utf8.decode s pos).2 : Int))) rfl rfl (heap_newS (by simp)) ?c2 ?c3 ?c4 ?c5 ?_)
        case c2 => intro u hu; simp [offC] at hu; subst hu; rfl
        case c3 => rw [List.length_map]; unfold maxLen; omega
        case c4 => rw [List.length_map]; omega
        case c5 => have := H5.out.2.2.2.1.size; simp at this ⊢; omega
        intro ov' w6 hown' hgrow
        obtain ⟨k2, k3, k4, hb5, hcss⟩ := H5.out
        have hb6 := below_app (below_al hb5 (.cells (offC ((pos : Int) + ((Utf8.decode s pos).2 : Int))).toArray 3)) (by have := hb5.size; simp at this ⊢; omega) (k4.alloc _) hgrow
        rw [hcss] at k3
        obtain ⟨m1, m2, m3, m4⟩ := doc_off ((Below.heap_alloc _ _ _ (heap_lt k2)).trans k2) (k3.alloc _) (k4.alloc _) hown' hgrow
        obtain ⟨A7, c7, rfl, _, _⟩ := hown'.shape
        have hc6 : w6.cell? ⟨w1.heap.size + 1, 3, none⟩ = some ov := by rw [cell_of_blk m1]; rfl
        have hf6 : w6.frozen? ⟨w1.heap.size + 1, 3, none⟩ = false := by simp [World.frozen?, m1]
        have hb7 := hb6.setCell (p := ⟨w1.heap.size + 1, 3, none⟩) (by show w.heap.size ≤ w1.heap.size + 1; omega) (.slice A7 (os.map offC ++ [offC ((pos : Int) + ((Utf8.decode s pos).2 : Int))]).length c7)
        rw [show os.map offC ++ [offC ((pos : Int) + ((Utf8.decode s pos).2 : Int))] = (os ++ [(pos : Int) + ((Utf8.decode s pos).2 : Int)]).map offC by rw [List.map_append]; rfl] at m2 m3 m4 hb7 ⊢
        have H7 := Lib.hid (And.intro m2 (And.intro m3 (And.intro m4 hb7)))
        clear hown' hgrow k2 k3 k4 hb5 hcss hb6 m1 m2 m3 m4 hb7
        generalize hn7 : ((os ++ [(pos : Int) + ((Utf8.decode s pos).2 : Int)]).map offC).length = n7 at *
        have HN7 := Lib.hid hn7
        clear hn7
        go_wp2_with fail
        go_round
        case rel =>
          refine ⟨pos + (Utf8.decode s pos).2, f, rs ++ [((Utf8.decode s pos).1 : Int)], os ++ [(pos : Int) + ((Utf8.decode s pos).2 : Int)], by go_num, ⟨_, _, H7.out.1, H7.out.2.2.1, H7.out.2.1⟩, H7.out.2.2.2, ?_, by omega, by omega, by simp; omega, by simp; omega⟩
          rw [← HH.out.2.2, symsFrom, if_pos hp, List.append_assoc]
          rfl
        case measure => simp [intOf]; omega
      · have HH := Lib.hid (And.intro hD (And.intro hBr hacc))
        clear hD hBr hacc
        go_wp2_with fail
        go_ret2
        obtain ⟨⟨rv, ov, k1, k2, k3⟩, hBr, hacc⟩ := HH.out
        rw [symsFrom_end s fuel pos hp, List.map_nil, List.append_nil] at hacc
        subst hacc
        have hl := k2.lt
        obtain ⟨A9, c9, rfl, h9, h10⟩ := k2.shape
        simp only [List.length_map] at k1 k2 h9
        refine ⟨_, rfl, ⟨A9, c9, by show w.heap.size ≤ w1.heap.size + 1; omega, ?_, h9, h10, ?_⟩, hBr⟩
        · rw [cell_of_blk k1]; rfl
        · refine Owns.arr k2 (by simp) (fun i x cs hx hc => ?_) (fun a ha => ?_)
          · rw [List.getElem?_map, hx] at hc; simp at hc; subst hc; rfl
          · subst ha; exact (hl a.block rfl).1
end Go.Proofs.YthclpabmbhpohaaDoor
namespace Go.Proofs.YthclpabmbhpohaaDoor
open Go.RowKit Go.Shelf
set_option linter.unusedVariables false
def DocPost (w : World) (s : ByteArray) (e : Ending) (w' : World) : Prop :=
  ∃ b, e = .returned (.pointer (some ⟨b, 0, none⟩)) ∧ RefC (fun k => w.heap.size ≤ k) w' ⟨b, 0, none⟩ (codesOf s) ∧ Below w.heap.size w w'
set_option maxHeartbeats 400000 in
theorem doc_any (ok : Nat → Prop) (w : World) (A : Option Addr) (c : Nat) (s : ByteArray) (h : TextC ok w A s) (hsc : s.size ≤ c) (hc : c ≤ maxLen) (hs : s.size ≤ 65536) (hT : Tabs w) :
    Calls Tryd.prog 18 #[.slice A s.size c] w (DocPost w s) := by
  have hn := refNew_any ok w A c s h hsc hc hs hT
  clear h hT
  go_enter Tryd.func18, Tryd.ntmps18
  go_wp2_with (go_at_call 35; refine hn.mono ?_; clear hn; rintro e w2 ⟨b, rfl, hI, hb2⟩)
  go_ret
  exact ⟨b, rfl, hI, hb2⟩
set_option maxHeartbeats 400000 in
theorem refLen_any (w : World) (b : Nat) (cs : List Int) (A : Option Addr) (c : Nat) (h : w.cell? ⟨b, 2, none⟩ = some (.slice A cs.length c)) (hl : cs.length ≤ 1000000000) :
    Calls Tryd.prog 34 #[.pointer (some ⟨b, 0, none⟩)] w fun e w' => e = .returned (.int .i64 (cs.length : Int)) ∧ w = w' := by
  go_enter Tryd.func34, Tryd.ntmps34
  go_wp2
  go_ret
  exact ⟨rfl, rfl⟩
/-- The document's runes are the program's. -/
def SameRunes (rs : List (Int × Int)) (cs : List Int) : Prop := rs.length = cs.length + 1 ∧ ∀ (k : Nat) (hk : k < cs.length), runeAt rs (k : Int) = cs[k]
theorem same_runes (s : ByteArray) : SameRunes (symsOf s) (codesOf s) := by
  refine ⟨by simp [symsOf, codesOf], fun k hk => ?_⟩
  have hk' : k < (symsFrom s s.size 0).length := by simpa [codesOf] using hk
  unfold runeAt
  rw [if_pos (by omega), Int.toNat_natCast]
  simp [symsOf, codesOf, List.getElem?_append_left hk', List.getElem?_eq_getElem hk']
end Go.Proofs.YthclpabmbhpohaaDoor
namespace Go.Proofs.YthclpabmbhpohaaDoor
open Go.RowKit
set_option linter.unusedVariables false
set_option maxHeartbeats 1000000 in
theorem word01_any (w : World) (c : Int) : Calls Tryd.prog 84 #[.int .i32 c] w fun e w' => e = .returned (.bool (wordB c)) ∧ w = w' := by
  have hh : wordB c = ((decide (48 ≤ c) && decide (c ≤ 57)) || (decide (65 ≤ c) && decide (c ≤ 90)) || (decide (97 ≤ c) && decide (c ≤ 122)) || (c == 95)) := rfl
  have HH := Lib.hid hh
  clear hh
  generalize wordB c = r at *
  go_enter Tryd.func84, Tryd.ntmps84
  go_wp2
  all_goals
    go_ret
    refine ⟨ret_bool ?_, rfl⟩
    rw [HH.out]
    clear HH
    rw [Bool.eq_iff_iff]
    simp only [Bool.or_eq_true, Bool.and_eq_true, decide_eq_true_eq, beq_iff_eq, true_iff]
    omega
def codeAt (cs : List Int) (i : Int) : Int := if 0 ≤ i then (cs[i.toNat]?).getD (-1) else -1
def RefB (ok : Nat → Prop) (w : World) (b : Nat) (cs : List Int) : Prop := ∃ A c, ok b ∧ w.cell? ⟨b, 2, none⟩ = some (.slice A cs.length c) ∧ cs.length ≤ 1000000 ∧ Arr ok w 1 (IntC .i32) A cs
theorem RefB.move {ok ok' : Nat → Prop} {w w' : World} {b : Nat} {cs : List Int} (h : RefB ok w b cs) (hm : ∀ k, ok k → k < w.heap.size → w'.heap[k]? = w.heap[k]? ∧ ok' k) : RefB ok' w' b cs := by
  obtain ⟨A, c, h0, h1, h2, h3⟩ := h
  obtain ⟨m1, m2⟩ := hm b h0 (World.block_lt_of_cell? w _ h1)
  exact ⟨A, c, m2, by rw [← h1]; exact World.cell?_of_block m1, h2, h3.move hm (by omega)⟩
set_option maxHeartbeats 1000000 in
theorem rune01_any (ok : Nat → Prop) (w : World) (b : Nat) (cs : List Int) (h : RefB ok w b cs) (i : Int) :
    Calls Tryd.prog 65 #[.pointer (some ⟨b, 0, none⟩), .int .i64 i] w fun e w' => e = .returned (.int .i32 (codeAt cs i)) ∧ w = w' := by
  obtain ⟨A, c, h0, h1, h2, h3⟩ := h
  by_cases hi : i < 0
  · have hr : codeAt cs i = -1 := by unfold codeAt; rw [if_neg (by omega)]
    have HR := Lib.hid hr
    clear h0 h3 hr
    go_enter Tryd.func65, Tryd.ntmps65
    go_wp2
    go_ret
    exact ⟨ret_int HR.out.symm, rfl⟩
  · obtain ⟨n, rfl⟩ := Int.eq_ofNat_of_zero_le (Int.not_lt.1 hi)
    by_cases hn : n < cs.length
    · obtain ⟨ad, rfl, hc0⟩ := ints_at h3 n hn
      have hr : codeAt cs n = cs[n] := by unfold codeAt; rw [if_pos (by omega)]; simp [hn]
      have HR := Lib.hid hr
      clear h0 h3 hr hi
      go_enter Tryd.func65, Tryd.ntmps65
      go_wp2
      go_ret
      exact ⟨ret_int HR.out.symm, rfl⟩
    · have hr : codeAt cs n = -1 := by unfold codeAt; rw [if_pos (by omega)]; simp [List.getElem?_eq_none (show cs.length ≤ n by omega)]
      have HR := Lib.hid hr
      clear h0 h3 hr hi
      go_enter Tryd.func65, Tryd.ntmps65
      go_wp2
      go_ret
      exact ⟨ret_int HR.out.symm, rfl⟩
/-- What a place is, of what is on both sides. -/
def atD (z0 zn a10 n10 nw : Bool) : Int := (if z0 = true then 5 else if a10 = true then 4 else 0) + (if zn = true then 10 else if n10 = true then 8 else 0) + (if nw = true then 16 else 32)
def docAt (cs : List Int) (i : Int) : Int := if i < 0 ∨ (cs.length : Int) < i then 0 else atD (i == 0) (i == (cs.length : Int)) (codeAt cs (i - 1) == 10) (codeAt cs i == 10) (!(wordB (codeAt cs (i - 1)) == wordB (codeAt cs i)))
set_option maxRecDepth 100000 in
set_option maxHeartbeats 4000000 in
theorem at01_any (ok : Nat → Prop) (w : World) (b : Nat) (cs : List Int) (h : RefB ok w b cs) (i : Int) (hi : -9223372036854775807 ≤ i) :
    Calls Tryd.prog 66 #[.pointer (some ⟨b, 0, none⟩), .int .i64 i] w fun e w' => e = .returned (.int .i64 (docAt cs i)) ∧ w = w' := by
  have hrn := fun j => rune01_any ok w b cs h j
  obtain ⟨A, c, h0, h1, h2, h3⟩ := h
  by_cases hi0 : i < 0
  · have e : docAt cs i = 0 := by unfold docAt; rw [if_pos (.inl hi0)]
    rw [e]
    clear e h0 h3 hrn
    go_enter Tryd.func66, Tryd.ntmps66
    go_wp2_with fail
    go_ret
    exact ⟨rfl, rfl⟩
  by_cases hi1 : (cs.length : Int) < i
  · have e : docAt cs i = 0 := by unfold docAt; rw [if_pos (.inr hi1)]
    rw [e]
    clear e h0 h3 hrn
    go_enter Tryd.func66, Tryd.ntmps66
    go_wp2_with fail
    go_ret
    exact ⟨rfl, rfl⟩
  · have e : docAt cs i = atD (i == 0) (i == (cs.length : Int)) (codeAt cs (i - 1) == 10) (codeAt cs i == 10) (!(wordB (codeAt cs (i - 1)) == wordB (codeAt cs i))) := by unfold docAt; rw [if_neg (by omega)]
    have hw : IntKind.i64.wrap (i - 1) = i - 1 := IntWalk.i64_in _ (by omega)
    rw [e]
    have hW := word01_any
    clear e h0 h3
    go_enter Tryd.func66, Tryd.ntmps66
    go_wp2_with (first
      | (go_at_call 65; refine (hrn _).mono ?_; rintro e w' ⟨rfl, rfl⟩)
      | (go_at_call 84; refine (hW _ _).mono ?_; rintro e w' ⟨rfl, rfl⟩))
    all_goals
      go_ret
      refine ⟨ret_int ?_, rfl⟩
      clear hW hrn hi hi0 hi1 h1 h2 hw
      generalize (i == 0) = z0 at *
      generalize (i == (cs.length : Int)) = zn at *
      generalize (codeAt cs (i - 1) == 10) = a1 at *
      generalize (codeAt cs i == 10) = n1 at *
      generalize (!(wordB (codeAt cs (i - 1)) == wordB (codeAt cs i))) = nw at *
      (try simp only [Bool.not_eq_true', Bool.not_eq_false'] at *)
      subst_vars
      (first | kernel_rfl | (cases a1 <;> kernel_rfl) | (cases n1 <;> kernel_rfl) | (cases a1 <;> cases n1 <;> kernel_rfl) | trace_state)
theorem has_no {l : List Rg} {c : Int} {i : Nat} (hl : i = l.length) (h : ∀ j (hj : j < l.length), j < i → inR c l[j] = false) : hasB l c = false := by
  unfold hasB
  rw [show l.any (inR c) = false by
    rw [List.any_eq_false]
    intro x hx
    obtain ⟨j, hj, rfl⟩ := List.getElem_of_mem hx
    rw [h j hj (by omega)]; simp]
  simp
theorem has_yes {l : List Rg} {c : Int} {i : Nat} (hi : i < l.length) (h0 : 0 ≤ c) (h1 : c ≤ 1114111) (h : inR c l[i] = true) : hasB l c = true := by
  unfold hasB
  rw [decide_eq_true h0, decide_eq_true h1, show l.any (inR c) = true from List.any_eq_true.2 ⟨_, List.getElem_mem hi, h⟩]; rfl
set_option maxRecDepth 100000 in
set_option maxHeartbeats 1000000 in
theorem has02_any (ok : Nat → Prop) (w : World) (c : Int) (l : List Rg) (A : Option Addr) (d : Nat) (h6 : Arr ok w 2 RgC A l) (hN : l.length ≤ 140737488351232) :
    Calls Tryd.prog 64 #[.slice A l.length d, .int .i32 c] w fun e w' => e = .returned (.bool (hasB l c)) ∧ w = w' := by
  have HA := Lib.hid h6
  clear h6
  go_enter Tryd.func64, Tryd.ntmps64
  go_wp2_with fail
  go_loopg [5] (l.length + 1) (fun g s5 wr => wr = w ∧ ∃ i : Nat, s5 = .int .i64 i ∧ i ≤ l.length ∧ l.length + 1 - i ≤ g ∧ Hid (∀ j (hj : j < l.length), j < i → inR c l[j] = false))
  case atStart => exact ⟨rfl, 0, rfl, Nat.zero_le _, by omega, Lib.hid (fun j _ h => by omega)⟩
  case round =>
    obtain ⟨rfl, i, rfl, hi, hg, HF⟩ := hrel
    by_cases hil : i < l.length
    · have hdi : decide ((i : Int) < (l.length : Int)) = true := decide_eq_true (by omega)
      by_cases h0 : 0 ≤ c
      · have d0 : decide (0 ≤ c) = true := decide_eq_true h0
        by_cases h1 : c ≤ 1114111
        · have d1 : decide (c ≤ 1114111) = true := decide_eq_true h1
          obtain ⟨ad, rfl, k0, k1⟩ := rg_at2 HA.out _ (Below.refl _ _) i hil
          by_cases h2 : l[i].lo ≤ c
          · have d2 : decide (l[i].lo ≤ c) = true := decide_eq_true h2
            by_cases h3 : c ≤ l[i].hi
            · have d3 : decide (c ≤ l[i].hi) = true := decide_eq_true h3
              have HR : Hid (hasB l c = true) := Lib.hid (has_yes hil h0 h1 (by unfold inR; rw [d2, d3]; rfl))
              generalize l[i] = x at *
              go_wp2_with fail
              go_ret
              exact ⟨by rw [HR.out]; rfl, rfl⟩
            · have d3 : decide (c ≤ l[i].hi) = false := decide_eq_false h3
              have HG : Hid (∀ j (hj : j < l.length), j < i + 1 → inR c l[j] = false) := Lib.hid (fun j hj hji => by
                rcases Nat.lt_or_ge j i with h9 | h9
                · exact HF.out j hj h9
                · obtain rfl : j = i := by omega
                  unfold inR; rw [d2, d3]; rfl)
              generalize l[i] = x at *
              go_wp2_with fail
              go_roundg (gk - 1)
              case measure => omega
              case rel => exact ⟨rfl, i + 1, by go_num, by omega, by omega, HG⟩
          · have d2 : decide (l[i].lo ≤ c) = false := decide_eq_false h2
            have HG : Hid (∀ j (hj : j < l.length), j < i + 1 → inR c l[j] = false) := Lib.hid (fun j hj hji => by
              rcases Nat.lt_or_ge j i with h9 | h9
              · exact HF.out j hj h9
              · obtain rfl : j = i := by omega
                unfold inR; rw [d2]; rfl)
            generalize l[i] = x at *
            go_wp2_with fail
            go_roundg (gk - 1)
            case measure => omega
            case rel => exact ⟨rfl, i + 1, by go_num, by omega, by omega, HG⟩
        · have d1 : decide (c ≤ 1114111) = false := decide_eq_false h1
          have HR : Hid (hasB l c = false) := Lib.hid (by unfold hasB; rw [d1]; simp)
          go_wp2_with fail
          go_ret
          exact ⟨by rw [HR.out]; rfl, rfl⟩
      · have d0 : decide (0 ≤ c) = false := decide_eq_false h0
        have HR : Hid (hasB l c = false) := Lib.hid (by unfold hasB; rw [d0]; simp)
        go_wp2_with fail
        go_ret
        exact ⟨by rw [HR.out]; rfl, rfl⟩
    · have hdi : decide ((i : Int) < (l.length : Int)) = false := decide_eq_false (by omega)
      have HR : Hid (hasB l c = false) := Lib.hid (has_no (i := i) (by omega) HF.out)
      go_wp2_with fail
      go_ret
      exact ⟨by rw [HR.out]; rfl, rfl⟩
end Go.Proofs.YthclpabmbhpohaaDoor
