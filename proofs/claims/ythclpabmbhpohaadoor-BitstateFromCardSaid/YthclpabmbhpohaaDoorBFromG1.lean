/-
  The machine with bits in plain words: a try from a place, tries one behind the other, what is found; its laws. No program here, no condition.
  martellolaw16.BitstateFrom: the walk: it tells true. No condition but that the program's fields are values of their types.
  BitstateFrom: the row and the tied card, from its walk.
-/
import Derived.Test.YthclpabmbhpohaaDoorBWithG1
import Derived.Test.YthclpabmbhpohaaDoorCards
import Derived.Test.YthclpabmbhpohaaDoorTie
set_option linter.unusedVariables false
set_option linter.unusedSimpArgs false
namespace Go.Proofs.YthclpabmbhpohaaDoor
open Go.RowKit
set_option linter.unusedVariables false
section
variable (p : Pg) (rn av : Int → Int) (lg : Bool) (M : Nat)
end
section
variable {p : Pg} {rn av : Int → Int} {lg : Bool} {M : Nat}
/-- BitstateFrom in plain words. -/
theorem find_from (hck : checkS rightR p = 0) (fr : Int) : (∀ b, findB p rn av lg M fr true = some b → findB p rn av lg M fr false = some b) ∧
    ∀ a, findB p rn av lg M fr false = some a → (a.length : Int) = p.caps ∧ findB p rn av lg M (a.getD 0 0) true = some a ∧ (a.getD 0 0 = fr → (findB p rn av lg M fr true).isSome = true) := by
  constructor
  · intro b hb
    obtain ⟨a, h0, h1, h2, h3, h4, _⟩ := find_spec hb
    obtain rfl := h4 rfl
    unfold findB
    rw [if_neg (by simp)]
    exact first_at _ 0 _ _ (by omega) (by rw [show max a 0 + ((0 : Nat) : Int) = a by omega]; exact h3) (fun j hj => by omega)
  · intro a ha
    obtain ⟨x, h0, h1, h2, h3, _, _⟩ := find_spec ha
    have f1 := (run_fit hck h0 h1 h3).1
    have e : findB p rn av lg M x true = some a := by unfold findB; rw [if_pos rfl, if_neg (by omega)]; exact h3
    refine ⟨f1.len, by rw [f1.fst]; exact e, fun h => ?_⟩
    rw [f1.fst] at h
    subst h
    rw [e]; rfl
end
end Go.Proofs.YthclpabmbhpohaaDoor
namespace Go.Proofs.YthclpabmbhpohaaDoor
open Go.RowKit
set_option linter.unusedVariables false
/-- BitstateFrom, of any program. -/
theorem from_of (p : Pg) (rs : List (Int × Int)) (fr : Int) (lg : Bool) : (findOf p rs lg fr false = none ∧ findOf p rs lg fr true = none) ∨
    ∃ a0 la, findOf p rs lg fr false = some la ∧ la[0]? = some a0 ∧ la.length ≤ 4002 ∧ findOf p rs lg a0 true = some la ∧ fr ≤ a0 ∧ a0 ≤ (rs.length : Int) - 1 ∧ (findOf p rs lg fr true = some la ∨ (findOf p rs lg fr true = none ∧ a0 ≠ fr)) := by
  unfold findOf
  cases hA : admitB p rs.length with
  | false => exact .inl ⟨rfl, rfl⟩
  | true =>
    simp only [if_true]
    have hck : checkS rightR p = 0 := by unfold admitB at hA; simp only [Bool.and_eq_true, beq_iff_eq] at hA; exact hA.1
    have hk := check_ok hck
    obtain ⟨h1, h2⟩ := find_from (rn := runeAt rs) (av := atOf rs) (M := rs.length) (lg := lg) hck fr
    have hw := within_of p rs fr false
    unfold findOf at hw
    simp only [hA, if_true] at hw
    cases ha : findB p (runeAt rs) (atOf rs) lg rs.length fr false with
    | none =>
      cases hb : findB p (runeAt rs) (atOf rs) lg rs.length fr true with
      | none => exact .inl ⟨rfl, rfl⟩
      | some b => rw [h1 b hb] at ha; cases ha
    | some a =>
      obtain ⟨k1, k2, k3⟩ := h2 a ha
      have c1 := hk.2.2.2.1
      have c2 := hk.2.2.2.2.1
      have g : a[0]? = some (a.getD 0 0) := by have : 0 < a.length := by omega
                                               simp [List.getD, this]
      refine .inr ⟨a.getD 0 0, a, rfl, g, by omega, k2, ?_, ?_, ?_⟩
      · rcases hw with ⟨e1, e2⟩ | ⟨a0, a1, b1, la, lb, e1, e2, z0, z1, y0, y1, _, _, f1, f2, f3, f4, _⟩
        · cases lg with
          | false => rw [e1] at ha; cases ha
          | true => rw [e2] at ha; cases ha
        · cases lg with
          | false => rw [e1] at ha; cases ha; rw [g] at z0; cases z0; exact f1
          | true => rw [e2] at ha; cases ha; rw [g] at y0; cases y0; exact f1
      · rcases hw with ⟨e1, e2⟩ | ⟨a0, a1, b1, la, lb, e1, e2, z0, z1, y0, y1, _, _, f1, f2, f3, f4, _⟩
        · cases lg with
          | false => rw [e1] at ha; cases ha
          | true => rw [e2] at ha; cases ha
        · cases lg with
          | false => rw [e1] at ha; cases ha; rw [g] at z0; cases z0; omega
          | true => rw [e2] at ha; cases ha; rw [g] at y0; cases y0; omega
      · cases hb : findB p (runeAt rs) (atOf rs) lg rs.length fr true with
        | some b => rw [h1 b hb] at ha; exact .inl ha
        | none => exact .inr ⟨rfl, fun e => by have h9 := k3 e; rw [hb] at h9; cases h9⟩
theorem box7_prog {W : World} {b : Nat} {ty : TypeId} {fr : Nat × Nat} {a0 a1 a2 a3 a4 a5 a6 : Value} (h : W.heap[b]? = some (.cells #[a0, a1, a2, a3, a4, a5, a6] ty fr)) : ∀ (r : Nat) (u : Value), ([a0, a1, a2] : List Value)[r]? = some u → W.cell? ((⟨b, 0, none⟩ : Addr).add r) = some u := by
  intro r u hu
  have hadd : ∀ n, (⟨b, 0, none⟩ : Addr).add n = ⟨b, n, none⟩ := fun n => by unfold Addr.add; split <;> simp_all
  rw [hadd, cell_of_blk h]
  match r, hu with
  | 0, hu => exact hu
  | 1, hu => exact hu
  | 2, hu => exact hu
set_option maxRecDepth 100000 in
set_option maxHeartbeats 4000000 in
theorem bFrom_any (w : World) (p : Pg) (A : Option Addr) (c : Nat) (hp : PgC (fun k => k < w.heap.size) w p [.slice A p.ins.length c, .int .i64 p.start, .int .i64 p.caps]) (hN : p.ins.length ≤ 140737488351232) (hs : ∀ x ∈ p.ins, x.set.length ≤ 140737488351232)
    (ok : Nat → Prop) (T : Option Addr) (tc : Nat) (s : ByteArray) (ht : TextC ok w T s) (fr : Int) (hfr : -9223372036854775808 ≤ fr ∧ fr ≤ 9223372036854775807) (an lg : Bool) :
    Calls Tryd.prog 5 #[.agg #[.slice A p.ins.length c, .int .i64 p.start, .int .i64 p.caps, .slice T s.size tc, .int .i64 fr, .bool an, .bool lg]] w fun e w' => e = .returned (.bool true) ∧ Below w.heap.size w w' := by
  have hB0 := below_al (Below.refl w.heap.size w) (.cells #[.slice A p.ins.length c, .int .i64 p.start, .int .i64 p.caps, .slice T s.size tc, .int .i64 fr, .bool an, .bool lg] 31)
  have hx0 := heap_new1 w (.cells #[.slice A p.ins.length c, .int .i64 p.start, .int .i64 p.caps, .slice T s.size tc, .int .i64 fr, .bool an, .bool lg] 31)
  have hhd := head16_any
  have hnw := new_any
  have hpX : ∀ W, Below w.heap.size w W → PgC (fun k => k < w.heap.size) W p [.slice A p.ins.length c, .int .i64 p.start, .int .i64 p.caps] := fun W hW => hp.move fun k hk _ => ⟨hW.block k hk, hk⟩
  have htX : ∀ W, Below w.heap.size w W → TextC ok W T s := fun W hW => ht.move fun k hk hlt => ⟨hW.block k hlt, hk⟩
  have HP := Lib.hid (And.intro hpX (And.intro htX hs))
  have HX0 := Lib.hid (And.intro hB0 hx0)
  clear hp hs ht hB0 hx0 hpX htX
  obtain ⟨q0, q1, q2, q3, q4, q5, q6⟩ := cells7 HX0.out.2
  have hn := heap_lt HX0.out.2
  go_enter Tryd.func5, Tryd.ntmps5
  go_wp2_with fail
  refine (hhd _).mono ?_
  clear hhd
  rintro e X1 ⟨rfl, hb1⟩
  dsimp only
  have hbx := (hb1.block _ (heap_lt HX0.out.2)).trans HX0.out.2
  have hB := HX0.out.1.trans (hb1.mono HX0.out.1.size)
  clear q0 q1 q2 q3 q4 q5 q6 hn
  obtain ⟨q0, q1, q2, q3, q4, q5, q6⟩ := cells7 hbx
  have hn := heap_lt hbx
  have HX1 := Lib.hid (And.intro hB hbx)
  clear hbx hB
  clear hb1
  by_cases hbig : 65536 < s.size
  · have htb := text_big X1 T tc s.size hbig
    go_wp2_with fail
    refine htb.mono ?_
    clear htb
    rintro e X2 ⟨rfl, rfl⟩
    dsimp only
    go_wp2_with fail
    refine (hnw _).mono ?_
    rintro e X3 ⟨rfl, rfl⟩
    dsimp only
    go_wp2_with fail
    go_ret
    exact ⟨rfl, below_al HX1.out.1 _⟩
  have htb := text_small ok X1 T tc s (HP.out.2.1 _ HX1.out.1) (by omega)
  go_wp2_with fail
  refine htb.mono ?_
  clear htb
  rintro e X2 ⟨bt, rfl, hI2, hb2⟩
  dsimp only
  have hbx := (hb2.block _ (heap_lt HX1.out.2)).trans HX1.out.2
  have hB := HX1.out.1.trans (hb2.mono HX1.out.1.size)
  clear q0 q1 q2 q3 q4 q5 q6 hn
  obtain ⟨q0, q1, q2, q3, q4, q5, q6⟩ := cells7 hbx
  have hn := heap_lt hbx
  have HX2 := Lib.hid (And.intro hB hbx)
  clear hbx hB
  have HI2 := Lib.hid hI2
  clear hb2 hI2
  go_wp2_with fail
  refine (hnw _).mono ?_
  clear hnw
  rintro e X3 ⟨rfl, hX3⟩
  dsimp only
  obtain ⟨G, hG⟩ : ∃ G, X2.heap.size = G := ⟨_, rfl⟩
  rw [hG]
  have hB23 : Below X2.heap.size X2 X3 := by rw [hX3]; exact below_al (Below.refl _ _) _
  have hm3 : X3.heap[G]? = some (.cells #[.slice none 0 0, .slice none 0 0, .slice none 0 0, .slice none 0 0, .int .i64 0] 70 (0, 0)) := by rw [hX3, ← hG]; exact heap_new1 _ _
  have hG3 : X3.heap.size = G + 1 := by rw [hX3, ← hG]; simp
  have sz2 := HX2.out.1.size
  have sz1 := HX1.out.1.size
  have hwG : w.heap.size < G := by have := heap_lt HX2.out.2; omega
  have HC : Hid ((∀ W, Below w.heap.size w W ∧ W.heap[w.heap.size]? = X3.heap[w.heap.size]? → W.heap[w.heap.size]? = some (.cells #[.slice A p.ins.length c, .int .i64 p.start, .int .i64 p.caps, .slice T s.size tc, .int .i64 fr, .bool an, .bool lg] 31 (0, 0))) ∧
      (∀ W, Below w.heap.size w W → PgC (fun k => k < w.heap.size) W p [.slice A p.ins.length c, .int .i64 p.start, .int .i64 p.caps]) ∧ InpC (fun k => k < G ∧ w.heap.size < k) X3 ⟨bt, 0, none⟩ (symsOf s) ∧ MaOK X3 G (fun k => k = G) ∧ Below w.heap.size w X3) := Lib.hid (by
    have hbw : X3.heap[w.heap.size]? = some (.cells #[.slice A p.ins.length c, .int .i64 p.start, .int .i64 p.caps, .slice T s.size tc, .int .i64 fr, .bool an, .bool lg] 31 (0, 0)) := (hB23.block _ (by omega)).trans HX2.out.2
    refine ⟨fun W hW => hW.2.trans hbw, HP.out.1, HI2.out.move fun k hk hlt => ⟨hB23.block k hlt, by have := heap_lt HX1.out.2; omega⟩, ma_new hm3, below_then HX2.out.1 HX2.out.1.size hB23⟩)
  have hX33 : Below w.heap.size w X3 ∧ X3.heap[w.heap.size]? = X3.heap[w.heap.size]? := ⟨HC.out.2.2.2.2, rfl⟩
  have HG := Lib.hid (And.intro hG3 hwG)
  clear hX3 hB23 hm3 hG3 sz1 sz2 hwG hG HI2
  clear q0 q1 q2 q3 q4 q5 q6 hn
  obtain ⟨q0, q1, q2, q3, q4, q5, q6⟩ := cells7 (HC.out.1 _ hX33)
  have hn := heap_lt (HC.out.1 _ hX33)
  have HX3 := Lib.hid hX33
  clear hX33
  have hlg := long15_any X3 p A T c s.size tc ((HC.out.2.1 _ HX3.out.1).move fun k hk hlt => ⟨rfl, hlt⟩) hN HP.out.2.2 (by omega)
  cases hl : longB2 p s.size with
  | true =>
    rw [hl] at hlg
    go_wp2_with fail
    refine hlg.mono ?_
    clear hlg
    rintro e X4 ⟨rfl, hb4⟩
    dsimp only
    have H4 := Lib.hid (below_then HX3.out.1 HX3.out.1.size hb4)
    clear hb4
    go_wp2_with fail
    go_ret
    exact ⟨rfl, H4.out⟩
  | false =>
    rw [hl] at hlg
    have hle : p.ins.length + heftP p.ins ≤ 2000 ∧ s.size ≤ 3000 ∧ p.ins.length * (s.size + 1) ≤ 100000 := by
      unfold longB2 longB at hl
      simp at hl
      omega
    have hsl : ∀ x ∈ p.ins, x.set.length ≤ 2000 := fun x hx => by have := heft_mem hx; omega
    have hrl : 1 ≤ (symsOf s).length ∧ (symsOf s).length ≤ 3001 := by rw [syms_len]; have := codes_len s; omega
    have HL := Lib.hid (And.intro hle (And.intro hsl hrl))
    clear hl hle hsl hrl
    go_wp2_with fail
    refine hlg.mono ?_
    clear hlg
    rintro e X4 ⟨rfl, hb4⟩
    dsimp only
    have hX4 : Below w.heap.size w X4 ∧ X4.heap[w.heap.size]? = X3.heap[w.heap.size]? := ⟨below_then HX3.out.1 HX3.out.1.size hb4, hb4.block _ (by have := HG.out; omega)⟩
    have hma := HC.out.2.2.2.1.below hb4
    have hin := HC.out.2.2.1.move (w' := X4) (ok' := fun k => k < G ∧ w.heap.size < k) (fun k hk hlt => ⟨hb4.block k hlt, hk⟩)
    have hwG := HG.out
    have sz4 := hb4.size
    clear q0 q1 q2 q3 q4 q5 q6 hn
    obtain ⟨q0, q1, q2, q3, q4, q5, q6⟩ := cells7 (HC.out.1 _ hX4)
    have hn := heap_lt (HC.out.1 _ hX4)
    have HX4 := Lib.hid hX4
    clear hX4
    have fz1 : 1 ≤ (symsOf s).length := HL.out.2.2.1
    have fz2 : (symsOf s).length ≤ 1000000 := by have := HL.out.2.2; omega
    have hset : ∀ x ∈ p.ins, x.set.length ≤ 1000000000 := fun x hx => by have := HL.out.2.1 x hx; omega
    have HZ := Lib.hid (And.intro fz1 (And.intro fz2 hset))
    clear fz1 fz2 hset
    have hf := bfind_all p A c G ⟨bt, 0, none⟩ (symsOf s) lg false fr hfr (fun k => k = G ∨ X4.heap.size ≤ k) X4 (hma.wide fun k hk => .inl hk) ((HC.out.2.1 _ HX4.out.1).move fun k hk hlt => ⟨rfl, by omega⟩) (hin.move fun k hk hlt => ⟨rfl, by omega⟩) (fun k hk => .inr hk) HZ.out.1 HZ.out.2.1 hN HZ.out.2.2 (runes_out s)
    unfold FindPost at hf
    obtain ⟨oa, hoa⟩ : ∃ oa, findOf p (symsOf s) lg fr false = oa := ⟨_, rfl⟩
    rw [hoa] at hf
    have HOA := Lib.hid hoa
    clear hoa
    have H4 := Lib.hid (And.intro hma (And.intro hin (And.intro hwG sz4)))
    clear hma hin hwG sz4
    obtain ⟨la, hla⟩ : ∃ la, oa.getD [] = la := ⟨_, rfl⟩
    obtain ⟨sa, hsa⟩ : ∃ sa, oa.isSome = sa := ⟨_, rfl⟩
    rw [hla, hsa] at hf
    have HLA := Lib.hid (And.intro hla hsa)
    clear hla hsa
    go_wp2_with fail
    refine hf.mono ?_
    clear hf
    rintro e X5 ⟨Aa, ca, n5, rfl, ga1, ga2, _, _, hT5, D5, hD5, hM5, hA5⟩
    dsimp only
    obtain ⟨hma4, hin4, hwG, sz4⟩ := H4.out
    have s4 := HX4.out.1.size
    have s5 := hT5.size
    have hX5 : Below w.heap.size w X5 ∧ X5.heap[w.heap.size]? = X3.heap[w.heap.size]? := ⟨HX4.out.1.trans (hT5.below fun k hk => by rcases hk with hk | hk <;> omega), (hT5.block _ (fun h => by rcases h with h | h <;> omega)).trans HX4.out.2⟩
    have hin5 := hin4.move (w' := X5) (ok' := fun k => (k < G ∧ w.heap.size < k) ∧ ¬ D5 k) (fun k hk hlt => ⟨hT5.block k (fun h => by rcases h with h | h <;> omega), hk, fun h => by rcases hD5 k h with h | h <;> omega⟩)
    have hpg5 := (HC.out.2.1 _ HX4.out.1).move (w' := X5) (ok' := fun k => k < w.heap.size ∧ ¬ D5 k) (fun k hk hlt => ⟨hT5.block k (fun h => by rcases h with h | h <;> omega), hk, fun h => by rcases hD5 k h with h | h <;> omega⟩)
    have hDw5 : ∀ k, D5 k → w.heap.size < k := fun k h => by rcases hD5 k h with h | h <;> omega
    clear q0 q1 q2 q3 q4 q5 q6 hn
    obtain ⟨q0, q1, q2, q3, q4, q5, q6⟩ := cells7 (HC.out.1 _ hX5)
    have hn := heap_lt (HC.out.1 _ hX5)
    have HX5 := Lib.hid hX5
    clear hX5
    have hf := bfind_all p A c G ⟨bt, 0, none⟩ (symsOf s) lg true fr hfr (fun k => D5 k ∨ X5.heap.size ≤ k) X5 (hM5.wide fun k hk => .inl hk) (hpg5.move fun k hk hlt => ⟨rfl, fun h => by rcases h with h | h; exact hk.2 h; omega⟩) (hin5.move fun k hk hlt => ⟨rfl, fun h => by rcases h with h | h; exact hk.2 h; omega⟩) (fun k hk => .inr hk) HZ.out.1 HZ.out.2.1 hN HZ.out.2.2 (runes_out s)
    unfold FindPost at hf
    obtain ⟨ob, hob⟩ : ∃ ob, findOf p (symsOf s) lg fr true = ob := ⟨_, rfl⟩
    rw [hob] at hf
    have HOB := Lib.hid hob
    clear hob
    obtain ⟨lb, hlb⟩ : ∃ lb, ob.getD [] = lb := ⟨_, rfl⟩
    obtain ⟨sb, hsb⟩ : ∃ sb, ob.isSome = sb := ⟨_, rfl⟩
    rw [hlb, hsb] at hf
    have HLB := Lib.hid (And.intro hlb hsb)
    have H5 := Lib.hid (And.intro hA5 (And.intro hin5 (And.intro hpg5 (And.intro hDw5 (And.intro hwG (And.intro s5 (And.intro s4 hM5)))))))
    have HGA := Lib.hid (And.intro ga1 ga2)
    clear hlb hsb hA5 hin5 hpg5 hDw5 hwG s4 s5 sz4 hma4 hin4 hT5 hD5 hM5 ga1 ga2
    go_wp2_with fail
    refine hf.mono ?_
    clear hf
    rintro e X6 ⟨Ab, cb, n6, rfl, gb1, gb2, _, _, hT6, D6, hD6, hM6, hA6⟩
    dsimp only
    obtain ⟨hA5, hin5, hpg5, hDw5, hwG, s5, s4, _⟩ := H5.out
    have hX6 : Below w.heap.size w X6 ∧ X6.heap[w.heap.size]? = X3.heap[w.heap.size]? := ⟨HX5.out.1.trans (hT6.below fun k hk => by rcases hk with hk | hk; exact Nat.le_of_lt (hDw5 k hk); omega), (hT6.block _ (fun h => by rcases h with h | h; exact absurd (hDw5 _ h) (by omega); omega)).trans HX5.out.2⟩
    have HA := Lib.hid (hA5.move (w' := X6) (ok' := fun _ => True) (fun k hk hlt => ⟨hT6.block k (fun h => by rcases h with h | h; exact hk h; omega), trivial⟩) (by have := HGA.out; omega))
    have HB := Lib.hid (hA6.move (w' := X6) (ok' := fun _ => True) (fun k hk hlt => ⟨rfl, trivial⟩) (by omega))
    have HIN := Lib.hid (hin5.move (w' := X6) (ok' := fun _ => True) (fun k hk hlt => ⟨hT6.block k (fun h => by rcases h with h | h; exact hk.2 h; omega), trivial⟩))
    have HGB := Lib.hid (And.intro gb1 gb2)
    clear q0 q1 q2 q3 q4 q5 q6 hn
    obtain ⟨q0, q1, q2, q3, q4, q5, q6⟩ := cells7 (HC.out.1 _ hX6)
    have hn := heap_lt (HC.out.1 _ hX6)
    have HX6 := Lib.hid hX6
    clear hX6
    have hin6 := hin5.move (w' := X6) (ok' := fun k => (k < G ∧ w.heap.size < k) ∧ ¬ D6 k) (fun k hk hlt => ⟨hT6.block k (fun h => by rcases h with h | h; exact hk.2 h; omega), hk.1, fun h => by rcases hD6 k h with h | h; exact hk.2 h; omega⟩)
    have hpg6 := hpg5.move (w' := X6) (ok' := fun k => k < w.heap.size ∧ ¬ D6 k) (fun k hk hlt => ⟨hT6.block k (fun h => by rcases h with h | h; exact hk.2 h; omega), hk.1, fun h => by rcases hD6 k h with h | h; exact hk.2 h; omega⟩)
    have hDw6 : ∀ k, D6 k → w.heap.size < k := fun k h => by have := heap_lt (HC.out.1 _ HX5.out); rcases hD6 k h with h | h; exact hDw5 k h; omega
    have ha6 := hA5.move (w' := X6) (ok' := fun k => ¬ D6 k) (fun k hk hlt => ⟨hT6.block k (fun h => by rcases h with h | h; exact hk h; omega), fun h => by rcases hD6 k h with h | h; exact hk h; omega⟩) (by have := HGA.out; omega)
    have s6 := hT6.size
    have H6 := Lib.hid (And.intro hin6 (And.intro hpg6 (And.intro hDw6 (And.intro ha6 (And.intro hM6 (And.intro hwG (And.intro s4 (And.intro s5 s6))))))))
    clear hin6 hpg6 hDw6 ha6 s6
    clear hA5 hin5 hpg5 hDw5 hwG s5 s4 hT6 hD6 hM6 hA6 gb1 gb2 H4
    have hw := from_of p (symsOf s) fr lg
    rw [HOA.out, HOB.out] at hw
    rcases hw with ⟨rfl, rfl⟩ | ⟨a0, la', rfl, ha0, hla, hfa, f1, f2, hbb⟩
    · obtain ⟨rfl, rfl⟩ := HLA.out
      obtain ⟨rfl, rfl⟩ := HLB.out
      simp only [Option.getD_none, List.length_nil, Option.isSome_none]
      go_wp2_with fail
      go_ret
      exact ⟨rfl, HX6.out.1⟩
    · obtain ⟨ea, rfl⟩ := HLA.out
      simp only [Option.getD_some] at ea
      subst ea
      have l0 : 0 < la'.length := by have := (List.getElem?_eq_some_iff.1 ha0).1; omega
      have HF0 := Lib.hid (And.intro ha0 (And.intro hla (And.intro hfa (And.intro f1 (And.intro f2 l0)))))
      clear ha0 hla hfa f1 f2 l0
      rcases hbb with rfl | ⟨rfl, hne⟩
      · obtain ⟨eb, rfl⟩ := HLB.out
        simp only [Option.getD_some] at eb
        subst eb
        have hsi := sameInts_any X6 Aa Ab ca cb la' la' HA.out HB.out (by have := HF0.out.2.1; omega) (by have := HF0.out.2.1; omega)
        rw [beq_self_eq_true] at hsi
        simp only [Option.isSome_some]
        go_wp2_with fail
        refine hsi.mono ?_
        clear hsi
        rintro e X7 ⟨rfl, hb7⟩
        dsimp only
        have HY := Lib.hid hb7
        clear hb7 q0 q1 q2 q3 q4 q5 q6 hn
        obtain ⟨hin6, hpg6, hDw6, ha6, hM6, hwG, s4, s5, s6⟩ := H6.out
        obtain ⟨ha0, hla, hfa, f1, f2, l0⟩ := HF0.out
        obtain ⟨Z, hZ⟩ : ∃ Z, X7.drew = Z := ⟨_, rfl⟩
        have hYZ : Below X6.heap.size X6 Z := by rw [← hZ]; exact HY.out.drew
        have sZ := hYZ.size
        have hsw := heap_lt (HC.out.1 _ HX6.out)
        have hf := bfind_all p A c G ⟨bt, 0, none⟩ (symsOf s) lg true a0 (by have := HZ.out.2.1; omega) (fun k => D6 k ∨ Z.heap.size ≤ k) Z ((hM6.below hYZ).wide fun k hk => .inl hk)
          (hpg6.move (w' := Z) fun k hk hlt => ⟨hYZ.block k hlt, fun h => by rcases h with h | h; exact hk.2 h; omega⟩) (hin6.move (w' := Z) fun k hk hlt => ⟨hYZ.block k hlt, fun h => by rcases h with h | h; exact hk.2 h; omega⟩) (fun k hk => .inr hk) HZ.out.1 HZ.out.2.1 hN HZ.out.2.2 (runes_out s)
        rw [hfa] at hf
        unfold FindPost at hf
        simp only [Option.getD_some, Option.isSome_some] at hf
        have haZ := ha6.move (w' := Z) (ok' := fun k => ¬ D6 k ∧ k < Z.heap.size) (fun k hk hlt => ⟨hYZ.block k hlt, hk, by omega⟩) (by omega)
        have hda : ∀ b, Aa = some b → ¬ D6 b.block ∧ b.block < Z.heap.size := fun b hb => by
          obtain ⟨b', _, e, h, _⟩ := haZ 0 _ ha0
          rw [hb] at e
          cases e
          exact h
        obtain ⟨ad, rfl, z0⟩ := ints_at haZ 0 l0
        rw [(List.getElem?_eq_some_iff.1 ha0).2, show ad.add 0 = ad by unfold Addr.add; rw [if_pos rfl]] at z0
        have hdd := hda ad rfl
        have hbZ : Z.heap[w.heap.size]? = some (.cells #[.slice A p.ins.length c, .int .i64 p.start, .int .i64 p.caps, .slice T s.size tc, .int .i64 fr, .bool an, .bool lg] 31 (0, 0)) := (hYZ.block _ hsw).trans (HC.out.1 _ HX6.out)
        have hwD : ¬ (D6 w.heap.size ∨ Z.heap.size ≤ w.heap.size) := fun h => by rcases h with h | h; exact absurd (hDw6 _ h) (by omega); omega
        have HS := Lib.hid (And.intro (fun W (hW : TouchD (fun k => D6 k ∨ Z.heap.size ≤ k) Z W) => ((World.cell?_of_block (hW.block ad.block (fun h => by rcases h with h | h; exact hdd.1 h; omega))).trans z0 : W.cell? ad = some (.int .i64 a0)))
          (And.intro (fun W (hW : TouchD (fun k => D6 k ∨ Z.heap.size ≤ k) Z W) => box7_prog ((hW.block _ hwD).trans hbZ)) (fun W (hW : TouchD (fun k => D6 k ∨ Z.heap.size ≤ k) Z W) => (cells7 ((hW.block _ hwD).trans hbZ)).2.2.2.2.2.2)))
        have HQ := Lib.hid (And.intro hYZ (And.intro haZ (And.intro hbZ (And.intro hwD hDw6))))
        have hl0 : ((la'.length : Int) ≤ 0) = False := eq_false (by omega)
        clear hin6 hpg6 ha6 hM6 hwG s4 s5 s6 sZ ha0 hfa f1 f2 hda haZ hdd hbZ hwD hDw6 hYZ
        go_wp2_with fail
        refine wp_region_scr (fun W' => TouchD (fun k => D6 k ∨ Z.heap.size ≤ k) Z W') [(true, 0, 83), (true, 1, 84), (true, 2, 85), (true, 3, 86), (true, 4, 87), (true, 5, 88), (true, 6, 89), (true, 7, 90), (true, 8, 91), (false, 9, 92), (true, 10, 82), (true, 11, 93), (true, 12, 94), (true, 13, 95), (true, 14, 12), (true, 15, 13), (true, 16, 14)] (by kernel_rfl) (by kernel_rfl) (fun _ _ _ _ _ h => h) rfl (by kernel_rfl) ?_
        rw [hZ]
        have HV := Lib.hid (TouchD.refl (fun k => D6 k ∨ Z.heap.size ≤ k) Z)
        refine Scr.take (v := .pointer (some ⟨G, 0, none⟩)) rfl rfl (yw_pure (by rfl) (fun _ => by go_simp)) HV.out ?_
        simp only [Act.put, List.setIfInBounds_toArray, List.set_cons_zero, List.set_cons_succ]
        refine Scr.take (v := .pointer (some ⟨w.heap.size, 0, none⟩)) rfl rfl (yw_pure (by rfl) (fun _ => by go_simp)) HV.out ?_
        simp only [Act.put, List.setIfInBounds_toArray, List.set_cons_zero, List.set_cons_succ]
        refine Scr.take (v := .agg #[.slice A p.ins.length c, .int .i64 p.start, .int .i64 p.caps]) rfl rfl (yw_rowB 28 _ rfl ⟨w.heap.size, 0, none⟩ ([.slice A p.ins.length c, .int .i64 p.start, .int .i64 p.caps] : List Value) rfl (by rfl) _ Tryd.underlying28 rfl (by rfl) (fun W hS => HS.out.2.1 W hS)) HV.out ?_
        simp only [Act.put, List.setIfInBounds_toArray, List.set_cons_zero, List.set_cons_succ]
        refine Scr.take (v := .pointer (some ⟨bt, 0, none⟩)) rfl rfl (yw_pure (by rfl) (fun _ => by go_simp)) HV.out ?_
        simp only [Act.put, List.setIfInBounds_toArray, List.set_cons_zero, List.set_cons_succ]
        refine Scr.take (v := .slice (some ad) la'.length ca) rfl rfl (yw_pure (by rfl) (fun _ => by go_simp)) HV.out ?_
        simp only [Act.put, List.setIfInBounds_toArray, List.set_cons_zero, List.set_cons_succ]
        refine Scr.take (v := .pointer (some ad)) rfl rfl (yw_pure (by rfl) (fun _ => by go_simp)) HV.out ?_
        simp only [Act.put, List.setIfInBounds_toArray, List.set_cons_zero, List.set_cons_succ]
        refine Scr.take (v := .int .i64 a0) rfl rfl (yw_cell 3 _ rfl ad (.int .i64 a0) rfl (by rfl) _ Tryd.underlying3 rfl (fun W hS => HS.out.1 W hS)) HV.out ?_
        simp only [Act.put, List.setIfInBounds_toArray, List.set_cons_zero, List.set_cons_succ]
        refine Scr.take (v := .pointer (some ⟨w.heap.size, 6, none⟩)) rfl rfl (yw_pure (by rfl) (fun _ => by go_simp)) HV.out ?_
        simp only [Act.put, List.setIfInBounds_toArray, List.set_cons_zero, List.set_cons_succ]
        refine Scr.take (v := .bool lg) rfl rfl (yw_cell 4 _ rfl ⟨w.heap.size, 6, none⟩ (.bool lg) rfl (by rfl) _ Tryd.underlying4 rfl (fun W hS => HS.out.2.2 W hS)) HV.out ?_
        simp only [Act.put, List.setIfInBounds_toArray, List.set_cons_zero, List.set_cons_succ]
        refine Scr.run rfl (by rfl) (fun K hK => ?_)
        go_simp
        refine (hf).mono ?_
        rintro e w9 ⟨Ac, cc, n7, rfl, gc1, gc2, _, _, hT7, D7, hD7, hM7, hA7⟩
        dsimp only
        have hB9 := HV.out.trans hT7
        refine hK _ _ hB9 ?_
        clear hK K HV hf
        have HV := Lib.hid hB9
        refine Scr.take (v := .tuple #[.slice Ac la'.length cc, .bool true, .int .i64 n7]) rfl rfl (yw_pure (by rfl) (fun _ => by go_simp)) HV.out ?_
        simp only [Act.put, List.setIfInBounds_toArray, List.set_cons_zero, List.set_cons_succ]
        refine Scr.take (v := .slice Ac la'.length cc) rfl rfl (yw_pure (by rfl) (fun _ => by go_simp)) HV.out ?_
        simp only [Act.put, List.setIfInBounds_toArray, List.set_cons_zero, List.set_cons_succ]
        refine Scr.take (v := .bool true) rfl rfl (yw_pure (by rfl) (fun _ => by go_simp)) HV.out ?_
        simp only [Act.put, List.setIfInBounds_toArray, List.set_cons_zero, List.set_cons_succ]
        refine Scr.take (v := .int .i64 n7) rfl rfl (yw_pure (by rfl) (fun _ => by go_simp)) HV.out ?_
        simp only [Act.put, List.setIfInBounds_toArray, List.set_cons_zero, List.set_cons_succ]
        refine Scr.take (v := .slice Ac la'.length cc) rfl rfl (yw_pure (by rfl) (fun _ => by go_simp)) HV.out ?_
        simp only [Act.put, List.setIfInBounds_toArray, List.set_cons_zero, List.set_cons_succ]
        refine Scr.take (v := .bool true) rfl rfl (yw_pure (by rfl) (fun _ => by go_simp)) HV.out ?_
        simp only [Act.put, List.setIfInBounds_toArray, List.set_cons_zero, List.set_cons_succ]
        refine Scr.take (v := .int .i64 n7) rfl rfl (yw_pure (by rfl) (fun _ => by go_simp)) HV.out ?_
        simp only [Act.put, List.setIfInBounds_toArray, List.set_cons_zero, List.set_cons_succ]
        simp only [Scr]
        obtain ⟨X8, rfl⟩ : ∃ X8, X8 = w9 := ⟨_, rfl⟩
        obtain ⟨hYZ, haZ, hbZ, hwD, hDw6⟩ := HQ.out
        have hx8 := (HV.out.block _ hwD).trans hbZ
        have a8 := haZ.move (w' := X8) (ok' := fun _ => True) (fun k hk hlt => ⟨HV.out.block k (fun h => by rcases h with h | h; exact hk.1 h; omega), trivial⟩) (by omega)
        have c8 := hA7.move (w' := X8) (ok' := fun _ => True) (fun k hk hlt => ⟨rfl, trivial⟩) (by omega)
        have z8 := HS.out.1 _ HV.out
        have b8 : Below w.heap.size w X8 := HX6.out.1.trans ((hYZ.mono HX6.out.1.size).trans (HV.out.below fun k hk => by rcases hk with hk | hk; exact Nat.le_of_lt (hDw6 k hk); (have := hYZ.size; omega)))
        have HT := Lib.hid (And.intro (fun W (hW : Below X8.heap.size X8 W) => ((hW.cell (World.block_lt_of_cell? X8 _ z8)).trans z8 : W.cell? ad = some (.int .i64 a0)))
          (And.intro (fun W (hW : Below X8.heap.size X8 W) => (cells7 ((hW.block _ (heap_lt hx8)).trans hx8)).2.2.2.2.1)
          (fun W (hW : Below X8.heap.size X8 W) => by
            have h9 := sameInts_any W (some ad) Ac ca cc la' la' (a8.move (fun k _ hlt => ⟨hW.block k hlt, trivial⟩) (by omega)) (c8.move (fun k _ hlt => ⟨hW.block k hlt, trivial⟩) (by omega)) (by omega) (by omega)
            rw [beq_self_eq_true] at h9
            exact h9)))
        have H8 := Lib.hid b8
        clear hYZ haZ hbZ hwD hDw6 hx8 a8 c8 z8 b8 hA7 hT7 hD7 hM7 gc1 gc2 hB9 hZ
        go_wp2_with fail
        refine wp_region_scr (fun W' => Below X8.heap.size X8 W') [(true, 0, 96), (true, 1, 97), (true, 2, 98), (true, 3, 99), (true, 4, 100), (true, 5, 101), (true, 6, 102), (false, 7, 103), (true, 8, 104), (true, 9, 105), (true, 10, 106), (true, 11, 107), (true, 12, 108), (true, 13, 109), (true, 14, 110), (true, 15, 111), (true, 16, 112), (true, 17, 113), (true, 18, 114), (true, 19, 115), (true, 20, 2)] (by kernel_rfl) (by kernel_rfl) (fun _ _ _ _ _ h => h) rfl (by kernel_rfl) ?_
        have HU := Lib.hid (show Below X8.heap.size X8 X8.drew from (Below.refl _ _).drew)
        refine Scr.take (v := .bool true) rfl rfl (yw_pure (by rfl) (fun _ => by go_simp)) HU.out ?_
        simp only [Act.put, List.setIfInBounds_toArray, List.set_cons_zero, List.set_cons_succ]
        refine Scr.take (v := .bool true) rfl rfl (yw_pure (by rfl) (fun _ => by go_simp)) HU.out ?_
        simp only [Act.put, List.setIfInBounds_toArray, List.set_cons_zero, List.set_cons_succ]
        refine Scr.take (v := .bool true) rfl rfl (yw_pure (by rfl) (fun _ => by go_simp)) HU.out ?_
        simp only [Act.put, List.setIfInBounds_toArray, List.set_cons_zero, List.set_cons_succ]
        refine Scr.take (v := .bool true) rfl rfl (yw_pure (by rfl) (fun _ => by go_simp)) HU.out ?_
        simp only [Act.put, List.setIfInBounds_toArray, List.set_cons_zero, List.set_cons_succ]
        refine Scr.take (v := .bool true) rfl rfl (yw_pure (by rfl) (fun _ => by go_simp)) HU.out ?_
        simp only [Act.put, List.setIfInBounds_toArray, List.set_cons_zero, List.set_cons_succ]
        refine Scr.take (v := .slice (some ad) la'.length ca) rfl rfl (yw_pure (by rfl) (fun _ => by go_simp)) HU.out ?_
        simp only [Act.put, List.setIfInBounds_toArray, List.set_cons_zero, List.set_cons_succ]
        refine Scr.take (v := .slice Ac la'.length cc) rfl rfl (yw_pure (by rfl) (fun _ => by go_simp)) HU.out ?_
        simp only [Act.put, List.setIfInBounds_toArray, List.set_cons_zero, List.set_cons_succ]
        refine Scr.run rfl (by rfl) (fun K hK => ?_)
        go_simp
        refine (HT.out.2.2 _ HU.out).mono ?_
        rintro e w9 ⟨rfl, hb9⟩
        dsimp only
        have hB9 := HU.out.trans (hb9.mono HU.out.size)
        refine hK _ _ hB9 ?_
        clear hK K HU hb9
        have HU := Lib.hid hB9
        clear hB9
        refine Scr.take (v := .bool true) rfl rfl (yw_pure (by rfl) (fun _ => by go_simp)) HU.out ?_
        simp only [Act.put, List.setIfInBounds_toArray, List.set_cons_zero, List.set_cons_succ]
        refine Scr.take (v := .bool true) rfl rfl (yw_pure (by rfl) (fun _ => by go_simp)) HU.out ?_
        simp only [Act.put, List.setIfInBounds_toArray, List.set_cons_zero, List.set_cons_succ]
        refine Scr.take (v := .bool true) rfl rfl (yw_pure (by rfl) (fun _ => by go_simp)) HU.out ?_
        simp only [Act.put, List.setIfInBounds_toArray, List.set_cons_zero, List.set_cons_succ]
        refine Scr.take (v := .bool true) rfl rfl (yw_pure (by rfl) (fun _ => by go_simp)) HU.out ?_
        simp only [Act.put, List.setIfInBounds_toArray, List.set_cons_zero, List.set_cons_succ]
        refine Scr.take (v := undef) rfl rfl (yw_no (by rfl)) HU.out ?_
        simp only [Act.put, List.setIfInBounds_toArray, List.set_cons_zero, List.set_cons_succ]
        refine Scr.take (v := undef) rfl rfl (yw_no (by rfl)) HU.out ?_
        simp only [Act.put, List.setIfInBounds_toArray, List.set_cons_zero, List.set_cons_succ]
        refine Scr.take (v := undef) rfl rfl (yw_no (by rfl)) HU.out ?_
        simp only [Act.put, List.setIfInBounds_toArray, List.set_cons_zero, List.set_cons_succ]
        refine Scr.take (v := undef) rfl rfl (yw_no (by rfl)) HU.out ?_
        simp only [Act.put, List.setIfInBounds_toArray, List.set_cons_zero, List.set_cons_succ]
        refine Scr.take (v := undef) rfl rfl (yw_no (by rfl)) HU.out ?_
        simp only [Act.put, List.setIfInBounds_toArray, List.set_cons_zero, List.set_cons_succ]
        refine Scr.take (v := undef) rfl rfl (yw_no (by rfl)) HU.out ?_
        simp only [Act.put, List.setIfInBounds_toArray, List.set_cons_zero, List.set_cons_succ]
        refine Scr.take (v := .bool true) rfl rfl (yw_pure (by rfl) (fun _ => by go_simp)) HU.out ?_
        simp only [Act.put, List.setIfInBounds_toArray, List.set_cons_zero, List.set_cons_succ]
        refine Scr.take (v := .bool true) rfl rfl (yw_pure (by rfl) (fun _ => by go_simp)) HU.out ?_
        simp only [Act.put, List.setIfInBounds_toArray, List.set_cons_zero, List.set_cons_succ]
        refine Scr.take (v := .bool true) rfl rfl (yw_pure (by rfl) (fun _ => by go_simp)) HU.out ?_
        simp only [Act.put, List.setIfInBounds_toArray, List.set_cons_zero, List.set_cons_succ]
        simp only [Scr]
        go_wp2_with fail
        go_ret
        exact ⟨rfl, H8.out.trans (HU.out.mono H8.out.size)⟩
      · obtain ⟨rfl, rfl⟩ := HLB.out
        simp only [Option.isSome_some, Option.isSome_none, Option.getD_none, List.length_nil]
        have HY := Lib.hid (Below.refl X6.heap.size X6)
        clear q0 q1 q2 q3 q4 q5 q6 hn
        obtain ⟨hin6, hpg6, hDw6, ha6, hM6, hwG, s4, s5, s6⟩ := H6.out
        obtain ⟨ha0, hla, hfa, f1, f2, l0⟩ := HF0.out
        obtain ⟨Z, hZ⟩ : ∃ Z, X6.drew = Z := ⟨_, rfl⟩
        have hYZ : Below X6.heap.size X6 Z := by rw [← hZ]; exact HY.out.drew
        have sZ := hYZ.size
        have hsw := heap_lt (HC.out.1 _ HX6.out)
        have hf := bfind_all p A c G ⟨bt, 0, none⟩ (symsOf s) lg true a0 (by have := HZ.out.2.1; omega) (fun k => D6 k ∨ Z.heap.size ≤ k) Z ((hM6.below hYZ).wide fun k hk => .inl hk)
          (hpg6.move (w' := Z) fun k hk hlt => ⟨hYZ.block k hlt, fun h => by rcases h with h | h; exact hk.2 h; omega⟩) (hin6.move (w' := Z) fun k hk hlt => ⟨hYZ.block k hlt, fun h => by rcases h with h | h; exact hk.2 h; omega⟩) (fun k hk => .inr hk) HZ.out.1 HZ.out.2.1 hN HZ.out.2.2 (runes_out s)
        rw [hfa] at hf
        unfold FindPost at hf
        simp only [Option.getD_some, Option.isSome_some] at hf
        have haZ := ha6.move (w' := Z) (ok' := fun k => ¬ D6 k ∧ k < Z.heap.size) (fun k hk hlt => ⟨hYZ.block k hlt, hk, by omega⟩) (by omega)
        have hda : ∀ b, Aa = some b → ¬ D6 b.block ∧ b.block < Z.heap.size := fun b hb => by
          obtain ⟨b', _, e, h, _⟩ := haZ 0 _ ha0
          rw [hb] at e
          cases e
          exact h
        obtain ⟨ad, rfl, z0⟩ := ints_at haZ 0 l0
        rw [(List.getElem?_eq_some_iff.1 ha0).2, show ad.add 0 = ad by unfold Addr.add; rw [if_pos rfl]] at z0
        have hdd := hda ad rfl
        have hbZ : Z.heap[w.heap.size]? = some (.cells #[.slice A p.ins.length c, .int .i64 p.start, .int .i64 p.caps, .slice T s.size tc, .int .i64 fr, .bool an, .bool lg] 31 (0, 0)) := (hYZ.block _ hsw).trans (HC.out.1 _ HX6.out)
        have hwD : ¬ (D6 w.heap.size ∨ Z.heap.size ≤ w.heap.size) := fun h => by rcases h with h | h; exact absurd (hDw6 _ h) (by omega); omega
        have HS := Lib.hid (And.intro (fun W (hW : TouchD (fun k => D6 k ∨ Z.heap.size ≤ k) Z W) => ((World.cell?_of_block (hW.block ad.block (fun h => by rcases h with h | h; exact hdd.1 h; omega))).trans z0 : W.cell? ad = some (.int .i64 a0)))
          (And.intro (fun W (hW : TouchD (fun k => D6 k ∨ Z.heap.size ≤ k) Z W) => box7_prog ((hW.block _ hwD).trans hbZ)) (fun W (hW : TouchD (fun k => D6 k ∨ Z.heap.size ≤ k) Z W) => (cells7 ((hW.block _ hwD).trans hbZ)).2.2.2.2.2.2)))
        have HQ := Lib.hid (And.intro hYZ (And.intro haZ (And.intro hbZ (And.intro hwD hDw6))))
        have hl0 : ((la'.length : Int) ≤ 0) = False := eq_false (by omega)
        clear hin6 hpg6 ha6 hM6 hwG s4 s5 s6 sZ ha0 hfa f1 f2 hda haZ hdd hbZ hwD hDw6 hYZ
        go_wp2_with fail
        refine wp_region_scr (fun W' => TouchD (fun k => D6 k ∨ Z.heap.size ≤ k) Z W') [(true, 0, 83), (true, 1, 84), (true, 2, 85), (true, 3, 86), (true, 4, 87), (true, 5, 88), (true, 6, 89), (true, 7, 90), (true, 8, 91), (false, 9, 92), (true, 10, 82), (true, 11, 93), (true, 12, 94), (true, 13, 95), (true, 14, 12), (true, 15, 13), (true, 16, 14)] (by kernel_rfl) (by kernel_rfl) (fun _ _ _ _ _ h => h) rfl (by kernel_rfl) ?_
        rw [hZ]
        have HV := Lib.hid (TouchD.refl (fun k => D6 k ∨ Z.heap.size ≤ k) Z)
        refine Scr.take (v := .pointer (some ⟨G, 0, none⟩)) rfl rfl (yw_pure (by rfl) (fun _ => by go_simp)) HV.out ?_
        simp only [Act.put, List.setIfInBounds_toArray, List.set_cons_zero, List.set_cons_succ]
        refine Scr.take (v := .pointer (some ⟨w.heap.size, 0, none⟩)) rfl rfl (yw_pure (by rfl) (fun _ => by go_simp)) HV.out ?_
        simp only [Act.put, List.setIfInBounds_toArray, List.set_cons_zero, List.set_cons_succ]
        refine Scr.take (v := .agg #[.slice A p.ins.length c, .int .i64 p.start, .int .i64 p.caps]) rfl rfl (yw_rowB 28 _ rfl ⟨w.heap.size, 0, none⟩ ([.slice A p.ins.length c, .int .i64 p.start, .int .i64 p.caps] : List Value) rfl (by rfl) _ Tryd.underlying28 rfl (by rfl) (fun W hS => HS.out.2.1 W hS)) HV.out ?_
        simp only [Act.put, List.setIfInBounds_toArray, List.set_cons_zero, List.set_cons_succ]
        refine Scr.take (v := .pointer (some ⟨bt, 0, none⟩)) rfl rfl (yw_pure (by rfl) (fun _ => by go_simp)) HV.out ?_
        simp only [Act.put, List.setIfInBounds_toArray, List.set_cons_zero, List.set_cons_succ]
        refine Scr.take (v := .slice (some ad) la'.length ca) rfl rfl (yw_pure (by rfl) (fun _ => by go_simp)) HV.out ?_
        simp only [Act.put, List.setIfInBounds_toArray, List.set_cons_zero, List.set_cons_succ]
        refine Scr.take (v := .pointer (some ad)) rfl rfl (yw_pure (by rfl) (fun _ => by go_simp)) HV.out ?_
        simp only [Act.put, List.setIfInBounds_toArray, List.set_cons_zero, List.set_cons_succ]
        refine Scr.take (v := .int .i64 a0) rfl rfl (yw_cell 3 _ rfl ad (.int .i64 a0) rfl (by rfl) _ Tryd.underlying3 rfl (fun W hS => HS.out.1 W hS)) HV.out ?_
        simp only [Act.put, List.setIfInBounds_toArray, List.set_cons_zero, List.set_cons_succ]
        refine Scr.take (v := .pointer (some ⟨w.heap.size, 6, none⟩)) rfl rfl (yw_pure (by rfl) (fun _ => by go_simp)) HV.out ?_
        simp only [Act.put, List.setIfInBounds_toArray, List.set_cons_zero, List.set_cons_succ]
        refine Scr.take (v := .bool lg) rfl rfl (yw_cell 4 _ rfl ⟨w.heap.size, 6, none⟩ (.bool lg) rfl (by rfl) _ Tryd.underlying4 rfl (fun W hS => HS.out.2.2 W hS)) HV.out ?_
        simp only [Act.put, List.setIfInBounds_toArray, List.set_cons_zero, List.set_cons_succ]
        refine Scr.run rfl (by rfl) (fun K hK => ?_)
        go_simp
        refine (hf).mono ?_
        rintro e w9 ⟨Ac, cc, n7, rfl, gc1, gc2, _, _, hT7, D7, hD7, hM7, hA7⟩
        dsimp only
        have hB9 := HV.out.trans hT7
        refine hK _ _ hB9 ?_
        clear hK K HV hf
        have HV := Lib.hid hB9
        refine Scr.take (v := .tuple #[.slice Ac la'.length cc, .bool true, .int .i64 n7]) rfl rfl (yw_pure (by rfl) (fun _ => by go_simp)) HV.out ?_
        simp only [Act.put, List.setIfInBounds_toArray, List.set_cons_zero, List.set_cons_succ]
        refine Scr.take (v := .slice Ac la'.length cc) rfl rfl (yw_pure (by rfl) (fun _ => by go_simp)) HV.out ?_
        simp only [Act.put, List.setIfInBounds_toArray, List.set_cons_zero, List.set_cons_succ]
        refine Scr.take (v := .bool true) rfl rfl (yw_pure (by rfl) (fun _ => by go_simp)) HV.out ?_
        simp only [Act.put, List.setIfInBounds_toArray, List.set_cons_zero, List.set_cons_succ]
        refine Scr.take (v := .int .i64 n7) rfl rfl (yw_pure (by rfl) (fun _ => by go_simp)) HV.out ?_
        simp only [Act.put, List.setIfInBounds_toArray, List.set_cons_zero, List.set_cons_succ]
        refine Scr.take (v := .slice Ac la'.length cc) rfl rfl (yw_pure (by rfl) (fun _ => by go_simp)) HV.out ?_
        simp only [Act.put, List.setIfInBounds_toArray, List.set_cons_zero, List.set_cons_succ]
        refine Scr.take (v := .bool true) rfl rfl (yw_pure (by rfl) (fun _ => by go_simp)) HV.out ?_
        simp only [Act.put, List.setIfInBounds_toArray, List.set_cons_zero, List.set_cons_succ]
        refine Scr.take (v := .int .i64 n7) rfl rfl (yw_pure (by rfl) (fun _ => by go_simp)) HV.out ?_
        simp only [Act.put, List.setIfInBounds_toArray, List.set_cons_zero, List.set_cons_succ]
        simp only [Scr]
        obtain ⟨X8, rfl⟩ : ∃ X8, X8 = w9 := ⟨_, rfl⟩
        obtain ⟨hYZ, haZ, hbZ, hwD, hDw6⟩ := HQ.out
        have hx8 := (HV.out.block _ hwD).trans hbZ
        have a8 := haZ.move (w' := X8) (ok' := fun _ => True) (fun k hk hlt => ⟨HV.out.block k (fun h => by rcases h with h | h; exact hk.1 h; omega), trivial⟩) (by omega)
        have c8 := hA7.move (w' := X8) (ok' := fun _ => True) (fun k hk hlt => ⟨rfl, trivial⟩) (by omega)
        have z8 := HS.out.1 _ HV.out
        have b8 : Below w.heap.size w X8 := HX6.out.1.trans ((hYZ.mono HX6.out.1.size).trans (HV.out.below fun k hk => by rcases hk with hk | hk; exact Nat.le_of_lt (hDw6 k hk); (have := hYZ.size; omega)))
        have HT := Lib.hid (And.intro (fun W (hW : Below X8.heap.size X8 W) => ((hW.cell (World.block_lt_of_cell? X8 _ z8)).trans z8 : W.cell? ad = some (.int .i64 a0)))
          (And.intro (fun W (hW : Below X8.heap.size X8 W) => (cells7 ((hW.block _ (heap_lt hx8)).trans hx8)).2.2.2.2.1)
          (fun W (hW : Below X8.heap.size X8 W) => by
            have h9 := sameInts_any W (some ad) Ac ca cc la' la' (a8.move (fun k _ hlt => ⟨hW.block k hlt, trivial⟩) (by omega)) (c8.move (fun k _ hlt => ⟨hW.block k hlt, trivial⟩) (by omega)) (by omega) (by omega)
            rw [beq_self_eq_true] at h9
            exact h9)))
        have H8 := Lib.hid b8
        clear hYZ haZ hbZ hwD hDw6 hx8 a8 c8 z8 b8 hA7 hT7 hD7 hM7 gc1 gc2 hB9 hZ
        go_wp2_with fail
        refine wp_region_scr (fun W' => Below X8.heap.size X8 W') [(true, 0, 96), (true, 1, 97), (true, 2, 98), (true, 3, 99), (true, 4, 100), (true, 5, 101), (true, 6, 102), (false, 7, 103), (true, 8, 104), (true, 9, 105), (true, 10, 106), (true, 11, 107), (true, 12, 108), (true, 13, 109), (true, 14, 110), (true, 15, 111), (true, 16, 112), (true, 17, 113), (true, 18, 114), (true, 19, 115), (true, 20, 2)] (by kernel_rfl) (by kernel_rfl) (fun _ _ _ _ _ h => h) rfl (by kernel_rfl) ?_
        have HU := Lib.hid (show Below X8.heap.size X8 X8.drew from (Below.refl _ _).drew)
        refine Scr.take (v := .bool true) rfl rfl (yw_pure (by rfl) (fun _ => by go_simp)) HU.out ?_
        simp only [Act.put, List.setIfInBounds_toArray, List.set_cons_zero, List.set_cons_succ]
        refine Scr.take (v := .bool true) rfl rfl (yw_pure (by rfl) (fun _ => by go_simp)) HU.out ?_
        simp only [Act.put, List.setIfInBounds_toArray, List.set_cons_zero, List.set_cons_succ]
        refine Scr.take (v := .bool true) rfl rfl (yw_pure (by rfl) (fun _ => by go_simp)) HU.out ?_
        simp only [Act.put, List.setIfInBounds_toArray, List.set_cons_zero, List.set_cons_succ]
        refine Scr.take (v := .bool true) rfl rfl (yw_pure (by rfl) (fun _ => by go_simp)) HU.out ?_
        simp only [Act.put, List.setIfInBounds_toArray, List.set_cons_zero, List.set_cons_succ]
        refine Scr.take (v := .bool true) rfl rfl (yw_pure (by rfl) (fun _ => by go_simp)) HU.out ?_
        simp only [Act.put, List.setIfInBounds_toArray, List.set_cons_zero, List.set_cons_succ]
        refine Scr.take (v := .slice (some ad) la'.length ca) rfl rfl (yw_pure (by rfl) (fun _ => by go_simp)) HU.out ?_
        simp only [Act.put, List.setIfInBounds_toArray, List.set_cons_zero, List.set_cons_succ]
        refine Scr.take (v := .slice Ac la'.length cc) rfl rfl (yw_pure (by rfl) (fun _ => by go_simp)) HU.out ?_
        simp only [Act.put, List.setIfInBounds_toArray, List.set_cons_zero, List.set_cons_succ]
        refine Scr.run rfl (by rfl) (fun K hK => ?_)
        go_simp
        refine (HT.out.2.2 _ HU.out).mono ?_
        rintro e w9 ⟨rfl, hb9⟩
        dsimp only
        have hB9 := HU.out.trans (hb9.mono HU.out.size)
        refine hK _ _ hB9 ?_
        clear hK K HU hb9
        have HU := Lib.hid hB9
        clear hB9
        refine Scr.take (v := .bool true) rfl rfl (yw_pure (by rfl) (fun _ => by go_simp)) HU.out ?_
        simp only [Act.put, List.setIfInBounds_toArray, List.set_cons_zero, List.set_cons_succ]
        refine Scr.take (v := .bool true) rfl rfl (yw_pure (by rfl) (fun _ => by go_simp)) HU.out ?_
        simp only [Act.put, List.setIfInBounds_toArray, List.set_cons_zero, List.set_cons_succ]
        refine Scr.take (v := .bool false) rfl rfl (yw_pure (by rfl) (fun _ => by go_simp)) HU.out ?_
        simp only [Act.put, List.setIfInBounds_toArray, List.set_cons_zero, List.set_cons_succ]
        refine Scr.take (v := .bool false) rfl rfl (yw_pure (by rfl) (fun _ => by go_simp)) HU.out ?_
        simp only [Act.put, List.setIfInBounds_toArray, List.set_cons_zero, List.set_cons_succ]
        refine Scr.take (v := .slice (some ad) la'.length ca) rfl rfl (yw_pure (by rfl) (fun _ => by go_simp)) HU.out ?_
        simp only [Act.put, List.setIfInBounds_toArray, List.set_cons_zero, List.set_cons_succ]
        refine Scr.take (v := .pointer (some ad)) rfl rfl (yw_pure (by rfl) (fun _ => by go_simp)) HU.out ?_
        simp only [Act.put, List.setIfInBounds_toArray, List.set_cons_zero, List.set_cons_succ]
        refine Scr.take (v := .int .i64 a0) rfl rfl (yw_cell 3 _ rfl ad (.int .i64 a0) rfl (by rfl) _ Tryd.underlying3 rfl (fun W hS => HT.out.1 W hS)) HU.out ?_
        simp only [Act.put, List.setIfInBounds_toArray, List.set_cons_zero, List.set_cons_succ]
        refine Scr.take (v := .pointer (some ⟨w.heap.size, 4, none⟩)) rfl rfl (yw_pure (by rfl) (fun _ => by go_simp)) HU.out ?_
        simp only [Act.put, List.setIfInBounds_toArray, List.set_cons_zero, List.set_cons_succ]
        refine Scr.take (v := .int .i64 fr) rfl rfl (yw_cell 3 _ rfl ⟨w.heap.size, 4, none⟩ (.int .i64 fr) rfl (by rfl) _ Tryd.underlying3 rfl (fun W hS => HT.out.2.1 W hS)) HU.out ?_
        simp only [Act.put, List.setIfInBounds_toArray, List.set_cons_zero, List.set_cons_succ]
        refine Scr.take (v := .bool true) rfl rfl (yw_pure (by rfl) (fun _ => by go_simp)) HU.out ?_
        simp only [Act.put, List.setIfInBounds_toArray, List.set_cons_zero, List.set_cons_succ]
        refine Scr.take (v := .bool true) rfl rfl (yw_pure (by rfl) (fun _ => by go_simp)) HU.out ?_
        simp only [Act.put, List.setIfInBounds_toArray, List.set_cons_zero, List.set_cons_succ]
        refine Scr.take (v := .bool true) rfl rfl (yw_pure (by rfl) (fun _ => by go_simp)) HU.out ?_
        simp only [Act.put, List.setIfInBounds_toArray, List.set_cons_zero, List.set_cons_succ]
        refine Scr.take (v := .bool true) rfl rfl (yw_pure (by rfl) (fun _ => by go_simp)) HU.out ?_
        simp only [Act.put, List.setIfInBounds_toArray, List.set_cons_zero, List.set_cons_succ]
        simp only [Scr]
        go_wp2_with fail
        go_ret
        exact ⟨rfl, H8.out.trans (HU.out.mono H8.out.size)⟩
end Go.Proofs.YthclpabmbhpohaaDoor
namespace Go.Proofs.YthclpabmbhpohaaDoor.bitstateFrom
open Go.ChangeShapes Go.WideShapes Go.ChangeAt Go.RowKit
set_option linter.unusedVariables false
set_option maxRecDepth 100000 in
theorem lifted (os : Os) (started : os.Started) (H : Type) (enc : TypeId × Value → H) :
    ReturnsInHanded {} Tryd.checked os 5 .any (fun w args => (Rows.bitstateFromSpec.pre enc Tryd.prog Tryd.f5 Rows.bitstateFromRow.domain false w args ∧ laidMetH Tryd.prog Rows.bitstateFromRow.laid w) ∧ sizedMet enc Tryd.prog Tryd.f5 (OpenSpec.ofChange Rows.bitstateFromSpec) false w args)
      (Rows.bitstateFromSpec.post enc Tryd.prog Tryd.f5 false true false false) := by
  refine returnsInHanded_of_change_and (C := Tryd.checked) (X := fun w _ => laidMetH Tryd.prog Rows.bitstateFromRow.laid w) (fun _ _ _ hh h => h.of_heap hh) ownGodebug started (by kernel_rfl) Tryd.func5
    (ChangeSpec.witness_shaped (enc := enc) (C := Tryd.checked) (os := os) (X := fun w _ => laidMetH Tryd.prog Rows.bitstateFromRow.laid w) false (World.laidAll Tryd.prog os Rows.bitstateFromRow.laid) #[.agg #[.slice none 0 0, .int .i64 0, .int .i64 0, .slice none 0 0, .int .i64 0, .bool false, .bool false]] 8 (World.laidAll_os _ _ _)
      (World.shaped_of_ZipB (by kernel_rfl) (by kernel_rfl)) (by kernel_rfl) (by kernel_rfl) (by kernel_rfl)
      (by rw [MakeChecks.laidMetH_plain _ _ _ (by kernel_rfl)]; exact laidMet_laidAll _ (by kernel_rfl) (by kernel_rfl))) ?_
  intro W base args ds gs before hval0 hW hc hsz0 hL _
  have hval : ∀ (j : Nat) t v, Tryd.f5.params[j]? = some t → args[j]? = some v → Value.okWide Tryd.prog W .any base t v := hval0
  have hW' := hW
  obtain ⟨p, q, hA0, hV, rfl, _, _⟩ := hW
  have hA : DataW.TrodAll enc Tryd.prog W 0 (fun _ => true) true Tryd.f5.params.toList args.toList ds p := hA0
  rw [Tryd.params5] at hA hval
  obtain ⟨v0, vs0, d0, ds0, p0, q0, hargs, rfl, rfl, h0, r0⟩ := trodAll_cons hA
  obtain ⟨rfl, rfl, rfl⟩ := trodAll_nil r0
  obtain rfl : args = #[v0] := by cases args; simp_all
  obtain ⟨rfl, rfl⟩ := trodVars_none hV
  obtain ⟨cs0, rfl, hcsz0⟩ := okWide_struct Tryd.underlying31 (hval 0 31 v0 rfl rfl)
  have hz0 : SizedD d0 31 := fun n hn => by
    have h9 := List.all_eq_true.1 hsz0 n (DataW.weights_mem_each (j := 0) (t := 31) (by rw [Tryd.params5]; rfl) rfl n hn)
    have h8 : n ≤ reachBytes := by simpa using h9
    exact Nat.le_trans h8 (by unfold reachBytes; omega)
  have htr0 := h0
  obtain ⟨fuel0, hf0⟩ := htr0
  obtain ⟨t0, A0, T0, c0, tc0, s0, fr0, an0, lg0, hcs0, htc0, htx0, hnc0, hcm0, hfr0, hfw0, hsm0⟩ := ask_of hf0
  have hlt0 : ∀ x ∈ p0, x.block < W.heap.size := fun x hx => hW'.lt x (by simp [hx])
  clear hA0 hval0
  obtain rfl : cs0 = #[.slice A0 t0.ins.length c0, .int .i64 t0.start, .int .i64 t0.caps, .slice T0 s0.size tc0, .int .i64 fr0, .bool an0, .bool lg0] := by
    cases cs0 with | mk l => exact congrArg Array.mk hcs0
  have hsz := hsm0 hz0
  have hf9 : -9223372036854775808 ≤ fr0 ∧ fr0 ≤ 9223372036854775807 := by simp [Lit.wf, IntKind.min, IntKind.max, IntKind.signed, IntKind.bits] at hfr0; omega
  have walk := bFrom_any W t0 A0 c0 htc0 (by omega) hsz.2 _ T0 tc0 s0 htx0 fr0 hf9 an0 lg0
  refine walk.mono fun e W' ⟨he, bel⟩ => ?_
  subst he
  exact ⟨_, rfl, post_grown (pv := []) hW' bel rfl (fun _ _ _ => trodAll_mk1 (shut_bool Tryd.underlying4 _))
    (fun sp hsp => (trodAll_cons_mk (WideElems.Trod_stays laidOut (by kernel_rfl) (of_decide_eq_true (by kernel_rfl)) h0 (fun x hx => bel.same (hlt0 x hx)) (fun x hx => hsp x (by simp [hx]))) trodAll_mk0)) (fun _ _ => rfl) (ok_one (by kernel_rfl) rfl (okWide_bool_mk Tryd.underlying4 _))⟩
theorem said : Rows.BitstateFromSaid :=
  OpenClaim.holds_of_wide 5 Tryd.f5 rfl rfl rfl rfl rfl rfl rfl ⟨rfl, rfl, rfl, rfl, rfl⟩ rfl rfl rfl rfl rfl (by kernel_rfl) Tryd.func5 (by kernel_rfl)
    (of_decide_eq_true (by kernel_rfl)) (by unfold Func.isWrapper; first | (rw [if_pos (by decide +kernel)]; kernel_rfl) | (rw [if_neg (by decide +kernel)]; exact ⟨rfl, rfl⟩))
    (fun os started H enc _ => lifted os started H enc)
/-- No parameter wants a stand-in; the program's own looks are off. -/
theorem plain (f : FuncId) (fn : Func) (hf : Tryd.pinned.checked.prog.funcNamed "martello/martellolaw16.BitstateFrom" = some f) (hfn : Tryd.pinned.checked.prog.funcs[f]? = some fn) :
    false = Tryd.pinned.checked.prog.looks [] ∧ ∀ (j : Nat) t, fn.params[j]? = some t → Tryd.pinned.checked.prog.wantsStandIn t = false := by
  obtain rfl : f = 5 := Option.some.inj ((show Tryd.prog.funcNamed "martello/martellolaw16.BitstateFrom" = some 5 by kernel_rfl).symm.trans hf) |>.symm
  obtain rfl : fn = Tryd.f5 := (Option.some.inj (Tryd.func5.symm.trans hfn)).symm
  refine ⟨by kernel_rfl, fun j t ht => ?_⟩
  rw [Tryd.params5] at ht
  have hm : t ∈ [31] := by simpa using Array.mem_of_getElem? ht
  have hall : ([31].all fun u => !Tryd.prog.wantsStandIn u) = true := by kernel_rfl
  exact (show Tryd.prog.wantsStandIn t = false by simpa using List.all_eq_true.1 hall t hm)
theorem card : Rows.BitstateFromCardSaid :=
  Claim7.holds_tied_plain_at .later [] _ _ _ _ said (fun _ h => by cases h) (by kernel_rfl) (fun _ h => by cases h) bitstateFrom_row_tie rfl ⟨rfl, rfl⟩ (by kernel_rfl) rfl plain (by kernel_rfl)
end Go.Proofs.YthclpabmbhpohaaDoor.bitstateFrom
namespace Go.Proofs.YthclpabmbhpohaaDoor
/-- The card, under a short name, for the claim. -/
theorem bitstateFrom_card : Rows.BitstateFromCardSaid := bitstateFrom.card
end Go.Proofs.YthclpabmbhpohaaDoor
