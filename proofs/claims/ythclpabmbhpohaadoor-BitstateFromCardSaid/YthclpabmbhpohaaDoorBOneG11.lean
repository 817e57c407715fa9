/-
  martellolaw16.BitstateOnepass: the walk: it tells true. No condition but that the program's fields are values of their types.
  A law's row: its last step where below the call's own blocks nothing has turned; slices of whole numbers that came in.
  A list of ranges, an instruction, a program that came in as an argument: what the row's reading of it gives of memory. No condition.
  A program that came in as an argument: what the row's reading of it gives of memory. No condition.
  Bytes that came in as an argument: a text.
  BitstateOnepass: the row and the tied card, from its walk.
-/
import Derived.Test.YthclpabmbhpohaaDoorBOneG10
import Derived.Test.YthclpabmbhpohaaDoorRows
import Derived.WalkKit
import Derived.ProofKit
import Derived.OpenShut
import Derived.LaidMore
import Derived.Lay
import Derived.SevenTiedAt
import Derived.Stop.Joined
import Derived.ChangeOld
import Derived.ChangeSame
import Derived.Below
import Derived.Carry
import Derived.ShutString
import Derived.SizedLaws
import Derived.Test.YthclpabmbhpohaaDoorCards
import Derived.Test.YthclpabmbhpohaaDoorTie
set_option linter.unusedVariables false
set_option linter.unusedSimpArgs false
namespace Go.Proofs.YthclpabmbhpohaaDoor
open Go.RowKit
set_option linter.unusedVariables false
/-- What lies in a machine's own block is no list of two numbers. -/
theorem ints_ne {ok : Nat → Prop} {W : World} {A : Option Addr} {l : List Int} {G : Nat} {fr : Nat × Nat} (h : Arr ok W 1 (IntC .i64) A l) (hm : W.heap[G]? = some (.cells #[.slice none 0 0, .slice none 0 0, .slice none 0 0, .slice none 0 0, .int .i64 0] 70 fr)) (h2 : l.length ≠ 1) : Arr (fun k => k ≠ G) W 1 (IntC .i64) A l := by
  intro i x hx
  have hi := (List.getElem?_eq_some_iff.1 hx).1
  obtain ⟨ad, cs, rfl, hok, hI, hlen, hc⟩ := h i x hx
  refine ⟨ad, cs, rfl, ?_, hI, hlen, hc⟩
  intro e
  obtain ⟨_, e0, z0⟩ := ints_at h 0 (by omega)
  obtain ⟨_, e1, z1⟩ := ints_at h 1 (by omega)
  cases e0
  cases e1
  obtain ⟨b, off, sp⟩ := ad
  dsimp only at e
  subst e
  unfold Addr.add at z0 z1
  unfold World.cell? at z0 z1
  simp only [hm, if_true, if_neg (show ¬ (1 = 0) by decide)] at z0 z1
  rcases off with _ | _ | _ | _ | _ | off <;> simp at z0 z1
theorem runes_out (s : ByteArray) : runeAt (symsOf s) (((symsOf s).length : Int) - 1) < 0 := by
  rw [same_code, syms_len]
  unfold codeAt
  simp
set_option maxRecDepth 100000 in
set_option maxHeartbeats 4000000 in
theorem bOne_any (w : World) (p : Pg) (A : Option Addr) (c : Nat) (hp : PgC (fun k => k < w.heap.size) w p [.slice A p.ins.length c, .int .i64 p.start, .int .i64 p.caps]) (hN : p.ins.length ≤ 140737488351232) (hs : ∀ x ∈ p.ins, x.set.length ≤ 140737488351232)
    (ok : Nat → Prop) (T : Option Addr) (tc : Nat) (s : ByteArray) (ht : TextC ok w T s) (lg : Bool) :
    Calls Tryd.prog 8 #[.agg #[.slice A p.ins.length c, .int .i64 p.start, .int .i64 p.caps], .slice T s.size tc, .bool lg] w fun e w' => e = .returned (.bool true) ∧ Below w.heap.size w w' := by
  have hB0 := below_al (Below.refl w.heap.size w) (.cells #[.slice A p.ins.length c, .int .i64 p.start, .int .i64 p.caps] 28)
  have hx0 := heap_new1 w (.cells #[.slice A p.ins.length c, .int .i64 p.start, .int .i64 p.caps] 28)
  have hhd := head16_any
  have hnw := new_any
  have hpX : ∀ W, Below w.heap.size w W → PgC (fun k => k < w.heap.size) W p [.slice A p.ins.length c, .int .i64 p.start, .int .i64 p.caps] := fun W hW => hp.move fun k hk _ => ⟨hW.block k hk, hk⟩
  have htX : ∀ W, Below w.heap.size w W → TextC ok W T s := fun W hW => ht.move fun k hk hlt => ⟨hW.block k hlt, hk⟩
  have HP := Lib.hid (And.intro hpX (And.intro htX hs))
  have HX0 := Lib.hid (And.intro hB0 hx0)
  clear hp hs ht hB0 hx0 hpX htX
  obtain ⟨q0, q1, q2⟩ := cells3 HX0.out.2
  have hn := heap_lt HX0.out.2
  go_enter Tryd.func8, Tryd.ntmps8
  go_wp2_with fail
  refine (hhd _).mono ?_
  clear hhd
  rintro e X1 ⟨rfl, hb1⟩
  dsimp only
  have hbx := (hb1.block _ (heap_lt HX0.out.2)).trans HX0.out.2
  have hB := HX0.out.1.trans (hb1.mono HX0.out.1.size)
  clear q0 q1 q2 hn
  obtain ⟨q0, q1, q2⟩ := cells3 hbx
  have hn := heap_lt hbx
  have HX1 := Lib.hid (And.intro hB hbx)
  clear hbx hB
  clear hb1
  by_cases hbig : 65536 < s.size
  · have htb := text_big X1 T tc s.size hbig
    go_wp2_with fail
    refine htb.mono ?_
    clear htb
    rintro e X2 ⟨rfl, rfl⟩
    dsimp only
    go_wp2_with fail
    refine (hnw _).mono ?_
    rintro e X3 ⟨rfl, rfl⟩
    dsimp only
    go_wp2_with fail
    go_ret
    exact ⟨rfl, below_al HX1.out.1 _⟩
  have htb := text_small ok X1 T tc s (HP.out.2.1 _ HX1.out.1) (by omega)
  go_wp2_with fail
  refine htb.mono ?_
  clear htb
  rintro e X2 ⟨bt, rfl, hI2, hb2⟩
  dsimp only
  have hbx := (hb2.block _ (heap_lt HX1.out.2)).trans HX1.out.2
  have hB := HX1.out.1.trans (hb2.mono HX1.out.1.size)
  clear q0 q1 q2 hn
  obtain ⟨q0, q1, q2⟩ := cells3 hbx
  have hn := heap_lt hbx
  have HX2 := Lib.hid (And.intro hB hbx)
  clear hbx hB
  have HI2 := Lib.hid hI2
  clear hb2 hI2
  go_wp2_with fail
  refine (hnw _).mono ?_
  clear hnw
  rintro e X3 ⟨rfl, hX3⟩
  dsimp only
  obtain ⟨G, hG⟩ : ∃ G, X2.heap.size = G := ⟨_, rfl⟩
  rw [hG]
  have hB23 : Below X2.heap.size X2 X3 := by rw [hX3]; exact below_al (Below.refl _ _) _
  have hm3 : X3.heap[G]? = some (.cells #[.slice none 0 0, .slice none 0 0, .slice none 0 0, .slice none 0 0, .int .i64 0] 70 (0, 0)) := by rw [hX3, ← hG]; exact heap_new1 _ _
  have hG3 : X3.heap.size = G + 1 := by rw [hX3, ← hG]; simp
  have sz2 := HX2.out.1.size
  have sz1 := HX1.out.1.size
  have hwG : w.heap.size < G := by have := heap_lt HX2.out.2; omega
  have HC : Hid ((∀ W, Below X3.heap.size X3 W → W.heap[w.heap.size]? = some (.cells #[.slice A p.ins.length c, .int .i64 p.start, .int .i64 p.caps] 28 (0, 0))) ∧
      (∀ W, Below X3.heap.size X3 W → PgC (fun k => k < w.heap.size) W p [.slice A p.ins.length c, .int .i64 p.start, .int .i64 p.caps]) ∧
      (∀ W, Below X3.heap.size X3 W → InpC (fun k => k < G) W ⟨bt, 0, none⟩ (symsOf s)) ∧
      (∀ W, Below X3.heap.size X3 W → W.heap[G]? = some (.cells #[.slice none 0 0, .slice none 0 0, .slice none 0 0, .slice none 0 0, .int .i64 0] 70 (0, 0))) ∧
      (∀ W, Below X3.heap.size X3 W → Below w.heap.size w W)) := Lib.hid (by
    have hBw : ∀ W, Below X3.heap.size X3 W → Below X2.heap.size X2 W := fun W hW => below_then hB23 hB23.size hW
    refine ⟨fun W hW => ?_, fun W hW => ?_, fun W hW => ?_, fun W hW => ?_, fun W hW => ?_⟩
    · exact ((hBw W hW).block _ (by omega)).trans HX2.out.2
    · exact HP.out.1 W (below_then HX2.out.1 HX2.out.1.size (hBw W hW))
    · exact HI2.out.move fun k _ hlt => ⟨(hBw W hW).block k hlt, by omega⟩
    · exact (hW.block _ (by omega)).trans hm3
    · exact below_then HX2.out.1 HX2.out.1.size (hBw W hW))
  have hX33 : Below X3.heap.size X3 X3 := Below.refl _ _
  clear q0 q1 q2 hn
  obtain ⟨q0, q1, q2⟩ := cells3 (HC.out.1 _ hX33)
  have hn := heap_lt (HC.out.1 _ hX33)
  have HX3 := Lib.hid hX33
  have HG := Lib.hid (And.intro hG3 hwG)
  clear hX33 hX3 hB23 hm3 hG3 sz1 sz2 hwG hG HI2
  have hlg := long15_any X3 p A T c s.size tc ((HC.out.2.1 _ HX3.out).move fun k hk hlt => ⟨rfl, hlt⟩) hN HP.out.2.2 (by omega)
  cases hl : longB2 p s.size with
  | true =>
    rw [hl] at hlg
    go_wp2_with fail
    refine hlg.mono ?_
    clear hlg
    rintro e X4 ⟨rfl, hb4⟩
    dsimp only
    have hB := HX3.out.trans (hb4.mono HX3.out.size)
    clear q0 q1 q2 hn
    obtain ⟨q0, q1, q2⟩ := cells3 (HC.out.1 _ hB)
    have hn := heap_lt (HC.out.1 _ hB)
    have HX4 := Lib.hid hB
    clear hB hb4
    go_wp2_with fail
    go_ret
    exact ⟨rfl, HC.out.2.2.2.2 _ HX4.out⟩
  | false =>
    rw [hl] at hlg
    have hle : p.ins.length + heftP p.ins ≤ 2000 ∧ s.size ≤ 3000 ∧ p.ins.length * (s.size + 1) ≤ 100000 := by
      unfold longB2 longB at hl
      simp at hl
      omega
    have hsl : ∀ x ∈ p.ins, x.set.length ≤ 2000 := fun x hx => by have := heft_mem hx; omega
    have hrl : 1 ≤ (symsOf s).length ∧ (symsOf s).length ≤ 3001 := by rw [syms_len]; have := codes_len s; omega
    have HL := Lib.hid (And.intro hle (And.intro hsl hrl))
    clear hl hle hsl hrl
    have hpT : ∀ W, Below X3.heap.size X3 W → PgC (fun _ => True) W p [.slice A p.ins.length c, .int .i64 p.start, .int .i64 p.caps] := fun W hW => (HC.out.2.1 W hW).move fun k _ _ => ⟨rfl, trivial⟩
    have hiT : ∀ W, Below X3.heap.size X3 W → InpC (fun _ => True) W ⟨bt, 0, none⟩ (symsOf s) := fun W hW => (HC.out.2.2.1 W hW).move fun k _ _ => ⟨rfl, trivial⟩
    have hset : ∀ x ∈ p.ins, x.set.length ≤ 1000000000 := fun x hx => by have := HL.out.2.1 x hx; omega
    have ha1 := fun W hW => admits_any (fun _ => True) W p [.slice A p.ins.length c, .int .i64 p.start, .int .i64 p.caps] (hpT W hW) hN hset
    have ha2 := fun W hW => badmits_any (fun _ => True) W p A c (hpT W hW) hN hset ⟨bt, 0, none⟩ (symsOf s) (fun _ => True) (hiT W hW) (by have := HL.out.2.2; omega) (by have := HL.out.2.2; omega)
    have hma := fun W hW => match_any (fun _ => True) W p [.slice A p.ins.length c, .int .i64 p.start, .int .i64 p.caps] (hpT W hW) hN hset ⟨bt, 0, none⟩ (symsOf s) (hiT W hW) (by have := HL.out.2.2; omega) (by have := HL.out.2.2; omega) lg
    have HT := Lib.hid (And.intro ha1 (And.intro ha2 (And.intro hma (And.intro hpT hset))))
    clear ha1 ha2 hma hpT hiT hset
    cases hA1 : admitsB p with
    | false =>
      have HA1 := Lib.hid hA1
      go_wp2_with fail
      refine hlg.mono ?_
      clear hlg
      rintro e X4 ⟨rfl, hb4⟩
      dsimp only
      have hB := HX3.out.trans (hb4.mono HX3.out.size)
      clear q0 q1 q2 hn
      obtain ⟨q0, q1, q2⟩ := cells3 (HC.out.1 _ hB)
      have hn := heap_lt (HC.out.1 _ hB)
      have HX4 := Lib.hid hB
      clear hB hb4
      have h5 := HT.out.1 X4 HX4.out
      rw [hA1] at h5
      go_wp2_with fail
      refine h5.mono ?_
      clear h5
      rintro e X5 ⟨rfl, hb5⟩
      dsimp only
      have hB := HX4.out.trans (hb5.mono HX4.out.size)
      clear q0 q1 q2 hn
      obtain ⟨q0, q1, q2⟩ := cells3 (HC.out.1 _ hB)
      have hn := heap_lt (HC.out.1 _ hB)
      have HX5 := Lib.hid hB
      clear hB hb5
      go_wp2_with fail
      go_ret
      exact ⟨rfl, HC.out.2.2.2.2 _ HX5.out⟩
    | true =>
      have HA1 := Lib.hid hA1
      go_wp2_with fail
      refine hlg.mono ?_
      clear hlg
      rintro e X4 ⟨rfl, hb4⟩
      dsimp only
      have hB := HX3.out.trans (hb4.mono HX3.out.size)
      clear q0 q1 q2 hn
      obtain ⟨q0, q1, q2⟩ := cells3 (HC.out.1 _ hB)
      have hn := heap_lt (HC.out.1 _ hB)
      have HX4 := Lib.hid hB
      clear hB hb4
      have h5 := HT.out.1 X4 HX4.out
      rw [hA1] at h5
      go_wp2_with fail
      refine h5.mono ?_
      clear h5
      rintro e X5 ⟨rfl, hb5⟩
      dsimp only
      have hB := HX4.out.trans (hb5.mono HX4.out.size)
      clear q0 q1 q2 hn
      obtain ⟨q0, q1, q2⟩ := cells3 (HC.out.1 _ hB)
      have hn := heap_lt (HC.out.1 _ hB)
      have HX5 := Lib.hid hB
      clear hB hb5
      have h6 := HT.out.2.1 X5 HX5.out
      clear hA1
      cases hA2 : admitB p (symsOf s).length with
      | false =>
        rw [hA2] at h6
        go_wp2_with fail
        refine h6.mono ?_
        clear h6
        rintro e X6 ⟨rfl, hb6⟩
        dsimp only
        have hB := HX5.out.trans (hb6.mono HX5.out.size)
        clear q0 q1 q2 hn
        obtain ⟨q0, q1, q2⟩ := cells3 (HC.out.1 _ hB)
        have hn := heap_lt (HC.out.1 _ hB)
        have HX6 := Lib.hid hB
        clear hB hb6
        go_wp2_with fail
        go_ret
        exact ⟨rfl, HC.out.2.2.2.2 _ HX6.out⟩
      | true =>
        rw [hA2] at h6
        have HA2 := Lib.hid hA2
        clear hA2
        go_wp2_with fail
        refine h6.mono ?_
        clear h6
        rintro e X6 ⟨rfl, hb6⟩
        dsimp only
        have hB := HX5.out.trans (hb6.mono HX5.out.size)
        clear q0 q1 q2 hn
        obtain ⟨q0, q1, q2⟩ := cells3 (HC.out.1 _ hB)
        have hn := heap_lt (HC.out.1 _ hB)
        have HX6 := Lib.hid hB
        clear hB hb6
        have h7 := HT.out.2.2.1 X6 HX6.out
        rw [show matchOf p (symsOf s) lg = matchS p (symsOf s) lg by unfold matchOf; rw [HA1.out]; rfl] at h7
        obtain ⟨_, _, _, md4, md5⟩ := match_doc HA1.out s lg
        have hff := find_floor HA1.out s lg
        have hol : ((matchS p (symsOf s) lg).best.getD []).length ≤ 5000 := by
          cases hb : (matchS p (symsOf s) lg).best with
          | none => simp
          | some b => have h9 := md5 b hb; have := (check_ok md4).2.2.2.2.1; simp; omega
        have hol1 : ((matchS p (symsOf s) lg).best.getD []).length ≠ 1 := by
          cases hb : (matchS p (symsOf s) lg).best with
          | none => simp
          | some b => have h9 := md5 b hb; have := (check_ok md4).2.2.2.1; simp; omega
        unfold MatchPost at h7
        obtain ⟨ob, hob⟩ : ∃ ob, (matchS p (symsOf s) lg).best = ob := ⟨_, rfl⟩
        rw [hob] at h7 hol hol1 hff
        obtain ⟨l, hl⟩ : ∃ l, ob.getD [] = l := ⟨_, rfl⟩
        obtain ⟨sm, hsm⟩ : ∃ sm, ob.isSome = sm := ⟨_, rfl⟩
        obtain ⟨st, hst⟩ : ∃ st, (matchS p (symsOf s) lg).steps = st := ⟨_, rfl⟩
        rw [hl, hsm, hst] at h7
        rw [hl] at hol hol1
        have HF := Lib.hid (And.intro hff (And.intro hl (And.intro hsm (And.intro hol hol1))))
        clear md4 md5 hff hob hl hsm hst hol hol1
        go_wp2_with fail
        refine h7.mono ?_
        clear h7
        rintro e X7 ⟨v7, rfl, ⟨Aa, ca, rfl, _, _, hAa⟩, hb7⟩
        dsimp only
        have hB := HX6.out.trans (hb7.mono HX6.out.size)
        clear q0 q1 q2 hn
        obtain ⟨q0, q1, q2⟩ := cells3 (HC.out.1 _ hB)
        have hn := heap_lt (HC.out.1 _ hB)
        have HX7 := Lib.hid hB
        clear hB hb7
        have HAA := Lib.hid hAa
        clear hAa
        have hf := bfind_any p A c G ⟨bt, 0, none⟩ (symsOf s) lg false 0 (by decide) (fun k => k = G ∨ X7.heap.size ≤ k) X7 ((ma_new (HC.out.2.2.2.1 _ HX7.out)).wide fun k hk => .inl hk)
          ((HC.out.2.1 _ HX7.out).move fun k hk hlt => ⟨rfl, by have := HG.out; omega⟩) ((HC.out.2.2.1 _ HX7.out).move fun k hk hlt => ⟨rfl, by omega⟩) (fun k hk => .inr hk)
          HL.out.2.2.1 (by have := HL.out.2.2; omega) HT.out.2.2.2.2 (runes_out s) HA2.out
        rw [HF.out.1] at hf
        unfold FindPost at hf
        rw [HF.out.2.1, HF.out.2.2.1] at hf
        go_wp2_with fail
        refine hf.mono ?_
        clear hf
        rintro e X8 ⟨Ab, cb, n8, rfl, _, _, _, _, hT8, D8, hD8, _, hAb⟩
        dsimp only
        have hB8 : Below w.heap.size w X8 := (HC.out.2.2.2.2 _ HX7.out).trans (hT8.below fun k hk => by
          have h1 := HG.out.2
          have h2 := (HC.out.2.2.2.2 _ HX7.out).size
          rcases hk with hk | hk <;> omega)
        have hA8 := (ints_ne HAA.out (HC.out.2.2.2.1 _ HX7.out) HF.out.2.2.2.2).move (w' := X8) (ok' := fun _ => True) (fun k hk hlt => ⟨hT8.block k (fun h => by rcases h with h | h <;> omega), trivial⟩) (by have := HF.out.2.2.2.1; omega)
        have hll : l.length ≤ 140737488351232 := by have := HF.out.2.2.2.1; omega
        have h9 := sameInts_any X8 Aa Ab ca cb l l hA8 (hAb.move (fun k _ _ => ⟨rfl, trivial⟩) (by omega)) hll hll
        rw [beq_self_eq_true] at h9
        have H8 := Lib.hid hB8
        clear q0 q1 q2 hn hB8 hA8 hll hT8 hD8 hAb
        go_wp2_with fail
        refine h9.mono ?_
        clear h9
        rintro e X9 ⟨rfl, hb9⟩
        dsimp only
        have H9 := Lib.hid (below_and hb9 H8.out)
        clear hb9
        go_wp2_with fail
        go_ret
        exact ⟨rfl, H9.out⟩
end Go.Proofs.YthclpabmbhpohaaDoor
namespace Go.Proofs.YthclpabmbhpohaaDoor
open Go.ChangeShapes Go.WideShapes Go.ChangeAt Go.RowKit
set_option linter.unusedVariables false
theorem ownGodebug : ownKnob Tryd.prog.godebug = none := by kernel_rfl
theorem laidOut : laidOutB Tryd.prog = true := by kernel_rfl
section
variable {H : Type} {enc : TypeId × Value → H} {P : Program}
/-- What the law's call owes behind a world that has only grown. -/
theorem post_grown {f : Func} {s : ChangeSpec} {apart fresh handsOn again : Bool} {W W' : World} {args : Array Value} {v : Value} {ds gs : List (DataW H)} {before pa pv : List MemPlace}
    (hW : DataW.Whole enc P f.params.toList s.vars apart W args.toList ds gs before) (hb : Below W.heap.size W W') (hps : before = pa ++ pv)
    (hres : ∀ (b : Nat) (sp : Nat → Bool) (hd : Bool), DataW.TrodAll enc P W' b sp hd f.resultTypes.toList (v.resultList f.resultTypes.size) (s.fn H (ds ++ gs)).results [])
    (hargs : ∀ sp : Nat → Bool, (∀ p ∈ before, sp p.block = true) → DataW.TrodAll enc P W' 0 sp true f.params.toList args.toList (s.fn H (ds ++ gs)).args pa)
    (hvars : ∀ sp : Nat → Bool, (∀ p ∈ before, sp p.block = true) → DataW.TrodVars enc P W' sp s.vars (s.fn H (ds ++ gs)).vars pv)
    (hok : ∀ (j : Nat) (t : TypeId) (r : Value), f.resultTypes[j]? = some t → (v.resultList f.resultTypes.size)[j]? = some r → Value.okWide P W' .any 0 t r) :
    s.post enc P f apart fresh handsOn again W args v W' := by
  have old : ∀ p ∈ before, p.block < W.heap.size := hW.lt
  refine ⟨ds, gs, before, [], pa, pv, hW, hres _ _ _, hargs (fun b => decide (b < W.heap.size)) (fun p hp => decide_eq_true (old p hp)), hvars (fun b => decide (b < W.heap.size)) (fun p hp => decide_eq_true (old p hp)),
    World.keptBut_mono (fun p hp => ⟨hp, .inr (List.mem_append.1 (hps ▸ hp))⟩) (hb.frame (· ∈ before)), fun _ => ⟨hok, _, _, ([] ++ pa) ++ pv, ⟨[] ++ pa, pv, trodAll_append (hargs _ (fun _ _ => rfl)) (hres _ _ _), hvars _ (fun _ _ => rfl), rfl, ?_, ?_⟩, fun p hp _ => by rw [hps]; simpa using hp⟩⟩
  · obtain ⟨_, _, _, _, _, hz, _⟩ := hW
    intro b off hp
    have hin : MemPlace.cell b off ∈ before := by rw [hps]; simpa using hp
    rw [hb.frozen (old _ hin)]
    exact hz b off hin
  · obtain ⟨_, _, _, _, _, _, hn⟩ := hW
    intro ha
    have := hn ha
    rw [hps] at this
    simpa using this
end
/-- A slice of whole numbers that came in. -/
def Came (k : IntKind) (w : World) (A : Option Addr) (n c : Nat) (xs : List Int) : Prop := xs.length = n ∧ n ≤ c ∧ c ≤ maxLen ∧ Arr (fun b => b < w.heap.size) w 1 (IntC k) A xs ∧ ∀ x ∈ xs, (Lit.int k x).wf = true
theorem came_of {H : Type} {enc : TypeId × Value → H} {w : World} {sp : Nat → Bool} {hd : Bool} {t e : TypeId} {k : IntKind} (ht : Tryd.prog.underlying t = some (.slice e)) (he : Tryd.prog.underlying e = some (.int k)) (hc : Tryd.prog.cellsOf e = 1) {A : Option Addr} {n c : Nat} {d : DataW H} {ps : List MemPlace}
    (h : DataW.Trod enc Tryd.prog w 0 sp hd t (.slice A n c) d ps) : ∃ xs, Came k w A n c xs := by
  obtain ⟨fuel, hf⟩ := h
  rcases open_ints ht he hc hf with ⟨hcs, _⟩ | ⟨x, l, cp, zs, hcs, _, hl, hm, hz, _, hcell, hwz⟩
  · simp [Value.cells] at hcs
    obtain ⟨rfl, rfl, rfl⟩ := hcs
    exact ⟨[], rfl, Nat.le_refl _, Nat.zero_le _, Arr.nil, by simp⟩
  · simp [Value.cells] at hcs
    obtain ⟨rfl, rfl, rfl⟩ := hcs
    have hn : n ≤ zs.length := by rw [hz]; split <;> omega
    refine ⟨zs.take n, by rw [List.length_take]; omega, hl, hm, fun i y hi => ?_, fun y hy => hwz y (List.mem_of_mem_take hy)⟩
    rw [List.getElem?_take] at hi
    split at hi
    · rename_i hin
      have hcl := hcell i (by omega)
      rw [List.getD, hi] at hcl
      refine ⟨x, _, rfl, ?_, rfl, rfl, fun j u hj => ?_⟩
      · have := World.block_lt_of_cell? w _ hcl
        rwa [add_block] at this
      · rcases j with _ | j
        · cases hj; simpa using hcl
        · simp at hj
    · cases hi
end Go.Proofs.YthclpabmbhpohaaDoor
namespace Go.Proofs.YthclpabmbhpohaaDoor
open Go.ChangeShapes Go.WideShapes Go.ChangeAt Go.RowKit
set_option linter.unusedVariables false
def SizedD {H : Type} (d : DataW H) (t : TypeId) : Prop := ∀ n ∈ d.weights Tryd.prog t, n ≤ 140737488351232
theorem list_of {α : Type} {Q : Nat → α → Prop} : ∀ n : Nat, (∀ i, i < n → ∃ x, Q i x) → ∃ l : List α, l.length = n ∧ ∀ (i : Nat) (x : α), l[i]? = some x → Q i x
  | 0, _ => ⟨[], rfl, fun i x h => by simp at h⟩
  | n + 1, h => by
    obtain ⟨l, hl, hq⟩ := list_of n (fun i hi => h i (by omega))
    obtain ⟨y, hy⟩ := h n (by omega)
    refine ⟨l ++ [y], by simp [hl], fun i x hi => ?_⟩
    rcases Nat.lt_or_ge i n with h1 | h1
    · rw [List.getElem?_append_left (by omega)] at hi
      exact hq i x hi
    · rw [List.getElem?_append_right (by omega)] at hi
      rcases Nat.eq_or_lt_of_le h1 with rfl | h2
      · rw [hl, Nat.sub_self] at hi; cases hi; exact hy
      · rw [List.getElem?_eq_none (by simp; omega)] at hi; cases hi
section
variable {H : Type} {enc : TypeId × Value → H} {w : World} {sp : Nat → Bool} {hd : Bool}
theorem rangeCells : Tryd.prog.cellsOf 66 = 2 := by kernel_rfl
theorem cellI32 : Tryd.prog.cellsOf 21 = 1 := by kernel_rfl
set_option maxRecDepth 100000 in
theorem range_of {fuel : Nat} {cs : List Value} {x : DataW H × List MemPlace} (h : DataW.trod enc Tryd.prog w 0 sp hd fuel 66 cs = some x) :
    ∃ r : Rg, RgC r cs ∧ (Lit.int .i32 r.lo).wf = true ∧ (Lit.int .i32 r.hi).wf = true := by
  obtain ⟨xs, n, rfl, _, hl, hxs, hf⟩ := DataW.trod_struct Tryd.underlying66 h
  rw [rangeCells] at hl
  have hn : xs.length = 2 := hxs
  have f0 : DataW.trod enc Tryd.prog w 0 sp hd n 21 ((cs.drop 0).take (Tryd.prog.cellsOf 21)) = xs[0]? := hf 0 _ rfl
  have f1 : DataW.trod enc Tryd.prog w 0 sp hd n 21 ((cs.drop 1).take (Tryd.prog.cellsOf 21)) = xs[1]? := hf 1 _ rfl
  rw [List.getElem?_eq_getElem (by omega), cellI32] at f0 f1
  obtain ⟨lo, e0, _, w0⟩ := DataW.trod_int Tryd.underlying21 f0
  obtain ⟨hi, e1, _, w1⟩ := DataW.trod_int Tryd.underlying21 f1
  match cs, hl with
  | [a, b], _ =>
    simp at e0 e1
    exact ⟨⟨lo, hi⟩, by simp [RgC, e0, e1], w0, w1⟩
theorem cells_arr {A : Addr} {n sz : Nat} {α : Type} {E : α → List Value → Prop} {xs : List α} (hx : xs.length = n) (hsz : 0 < sz) (h : ∀ (i : Nat) (x : α), xs[i]? = some x → ∃ cs, w.cells? 0 (A.add (i * sz)) sz = some cs ∧ E x cs) :
    Arr (fun b => b < w.heap.size) w sz E (some A) xs := by
  intro i x hi
  obtain ⟨cs, hc, hE⟩ := h i x hi
  obtain ⟨_, h2, h3⟩ := World.cells?_some hc
  refine ⟨A, cs, rfl, ?_, hE, h2, fun j u hj => ?_⟩
  · have h0 := h3 0 hsz
    rw [List.getElem?_eq_getElem (by omega)] at h0
    have := World.block_lt_of_cell? w _ h0
    rwa [add_block, add_block] at this
  · have hj' : j < cs.length := (List.getElem?_eq_some_iff.1 hj).1
    have := h3 j (by omega)
    rw [add_add] at this
    rw [this, hj]
theorem ranges_of {fuel : Nat} {cs : List Value} {x : DataW H × List MemPlace} (h : DataW.trod enc Tryd.prog w 0 sp hd fuel 61 cs = some x) :
    ∃ (B : Option Addr) (d : Nat) (set : List Rg), cs = [.slice B set.length d] ∧ set.length ≤ d ∧ d ≤ maxLen ∧ Arr (fun b => b < w.heap.size) w 2 RgC B set ∧ (∀ r ∈ set, (Lit.int .i32 r.lo).wf = true ∧ (Lit.int .i32 r.hi).wf = true) ∧ (SizedD x.1 61 → set.length ≤ 140737488351232) := by
  rcases DataW.trod_slice Tryd.underlying61 h with ⟨rfl, _⟩ | ⟨a, len, cap, elems, rest, n, rfl, rfl, hx, _, hlc, hcm, hel, hE, _, _⟩
  · exact ⟨none, 0, [], rfl, Nat.le_refl _, Nat.zero_le _, Arr.nil, by simp, fun _ => by simp⟩
  · rw [rangeCells] at hE
    obtain ⟨set, hl, hq⟩ := list_of (α := Rg) (Q := fun i r => ∃ cs, w.cells? 0 (a.add (i * 2)) 2 = some cs ∧ RgC r cs ∧ (Lit.int .i32 r.lo).wf = true ∧ (Lit.int .i32 r.hi).wf = true) len (fun i hi => by
      have h1 := hE i hi
      rw [List.getElem?_eq_getElem (by omega), Option.bind_eq_some_iff] at h1
      obtain ⟨cs', hc, hy⟩ := h1
      obtain ⟨r, hr, h2, h3⟩ := range_of hy
      exact ⟨r, cs', hc, hr, h2, h3⟩)
    refine ⟨some a, cap, set, by rw [hl], by omega, hcm, cells_arr hl (by omega) (fun i r hi => ?_), fun r hr => ?_, fun hz => ?_⟩
    · obtain ⟨cs, h1, h2, _⟩ := hq i r hi
      exact ⟨cs, h1, h2⟩
    · obtain ⟨i, hi, rfl⟩ := List.mem_iff_getElem.1 hr
      obtain ⟨cs, _, _, h3⟩ := hq i _ (List.getElem?_eq_getElem hi)
      exact h3
    · have h5 := hz ((elems.length + rest.length) * Tryd.prog.bytesOf 66) (by rw [hx]; simp [DataW.weights, Tryd.underlying61])
      rw [show Tryd.prog.bytesOf 66 = 8 by kernel_rfl] at h5
      omega
theorem weights_kid {e : TypeId} {d : DataW H} : ∀ {l : List (DataW H)}, d ∈ l → ∀ n ∈ d.weights Tryd.prog e, n ∈ DataW.weightsAll Tryd.prog e l
  | y :: l, hd, n, hn => by
    rw [DataW.weightsAll]
    rcases List.mem_cons.1 hd with rfl | hd
    · exact List.mem_append.2 (.inl hn)
    · exact List.mem_append.2 (.inr (weights_kid hd n hn))
end
end Go.Proofs.YthclpabmbhpohaaDoor
namespace Go.Proofs.YthclpabmbhpohaaDoor
open Go.ChangeShapes Go.WideShapes Go.ChangeAt Go.RowKit
set_option linter.unusedVariables false
section
variable {H : Type} {enc : TypeId × Value → H} {w : World} {sp : Nat → Bool} {hd : Bool}
theorem instCells : Tryd.prog.cellsOf 64 = 5 := by kernel_rfl
theorem progCells : Tryd.prog.cellsOf 28 = 3 := by kernel_rfl
theorem oneCellsP : Tryd.prog.cellsOf 3 = 1 ∧ Tryd.prog.cellsOf 60 = 1 ∧ Tryd.prog.cellsOf 62 = 1 ∧ Tryd.prog.cellsOf 26 = 1 ∧ Tryd.prog.cellsOf 61 = 1 := by
  refine ⟨?_, ?_, ?_, ?_, ?_⟩ <;> kernel_rfl
/-- The fields of an instruction are values of their types. -/
def FieldsI (x : In) : Prop :=
  ((Lit.int .i64 x.op).wf = true ∧ (Lit.int .i64 x.out).wf = true ∧ (Lit.int .i64 x.arg).wf = true ∧ (Lit.int .i64 x.at_).wf = true) ∧ ∀ r ∈ x.set, (Lit.int .i32 r.lo).wf = true ∧ (Lit.int .i32 r.hi).wf = true
set_option maxRecDepth 100000 in
theorem inst_of {fuel : Nat} {cs : List Value} {x : DataW H × List MemPlace} (h : DataW.trod enc Tryd.prog w 0 sp hd fuel 64 cs = some x) :
    ∃ t : In, InO (fun b => b < w.heap.size) w t cs ∧ FieldsI t ∧ (SizedD x.1 64 → t.set.length ≤ 140737488351232) := by
  obtain ⟨xs, n, rfl, hxd, hl, hxs, hf⟩ := DataW.trod_struct Tryd.underlying64 h
  rw [instCells] at hl
  have hn : xs.length = 5 := hxs
  obtain ⟨c1, c2, c3, c4, c5⟩ := oneCellsP
  have f0 : DataW.trod enc Tryd.prog w 0 sp hd n 60 ((cs.drop 0).take (Tryd.prog.cellsOf 60)) = xs[0]? := hf 0 _ rfl
  have f1 : DataW.trod enc Tryd.prog w 0 sp hd n 3 ((cs.drop 1).take (Tryd.prog.cellsOf 3)) = xs[1]? := hf 1 _ rfl
  have f2 : DataW.trod enc Tryd.prog w 0 sp hd n 3 ((cs.drop 2).take (Tryd.prog.cellsOf 3)) = xs[2]? := hf 2 _ rfl
  have f3 : DataW.trod enc Tryd.prog w 0 sp hd n 61 ((cs.drop 3).take (Tryd.prog.cellsOf 61)) = xs[3]? := hf 3 _ rfl
  have f4 : DataW.trod enc Tryd.prog w 0 sp hd n 62 ((cs.drop 4).take (Tryd.prog.cellsOf 62)) = xs[4]? := hf 4 _ rfl
  rw [List.getElem?_eq_getElem (by omega)] at f0 f1 f2 f3 f4
  have hz : ∀ (j : Nat) (hj : j < xs.length) (ty : TypeId), (([60, 3, 3, 61, 62] : List TypeId)[j]? = some ty) → SizedD x.1 64 → SizedD xs[j].1 ty := by
    intro j hj ty hty hs m hm
    refine hs m ?_
    rw [hxd]
    simp only [DataW.weights, Tryd.underlying64]
    exact DataW.weights_mem_each (j := j) (t := ty) (by simpa using hty) (by rw [List.getElem?_map, List.getElem?_eq_getElem hj]; rfl) m hm
  simp only [c1, c2, c3, c5] at f0 f1 f2 f3 f4
  obtain ⟨op, e0, _, w0⟩ := DataW.trod_int Tryd.underlying60 f0
  obtain ⟨out, e1, _, w1⟩ := DataW.trod_int Tryd.underlying3 f1
  obtain ⟨arg, e2, _, w2⟩ := DataW.trod_int Tryd.underlying3 f2
  obtain ⟨B, d, set, e3, s1, s2, s3, s4, s5⟩ := ranges_of f3
  obtain ⟨at_, e4, _, w4⟩ := DataW.trod_int Tryd.underlying62 f4
  refine ⟨⟨op, out, arg, set, at_⟩, ⟨B, d, ?_, s1, s2, s3⟩, ⟨⟨w0, w1, w2, w4⟩, s4⟩, fun hsd => s5 (hz 3 (by omega) _ rfl hsd)⟩
  match cs, hl with
  | [a0, a1, a2, a3, a4], _ =>
    simp at e0 e1 e2 e3 e4
    simp [e0, e1, e2, e3, e4]
set_option maxRecDepth 100000 in
theorem prog_of {fuel : Nat} {cs : List Value} {x : DataW H × List MemPlace} (h : DataW.trod enc Tryd.prog w 0 sp hd fuel 28 cs = some x) :
    ∃ t : Pg, PgC (fun b => b < w.heap.size) w t cs ∧ ((Lit.int .i64 t.start).wf = true ∧ (Lit.int .i64 t.caps).wf = true) ∧ (∀ y ∈ t.ins, FieldsI y) ∧ (SizedD x.1 28 → t.ins.length * 56 ≤ 140737488351232 ∧ ∀ y ∈ t.ins, y.set.length ≤ 140737488351232) := by
  obtain ⟨xs, n, rfl, hxd, hl, hxs, hf⟩ := DataW.trod_struct Tryd.underlying28 h
  rw [progCells] at hl
  have hn : xs.length = 3 := hxs
  obtain ⟨c1, c2, c3, c4, c5⟩ := oneCellsP
  have f0 : DataW.trod enc Tryd.prog w 0 sp hd n 26 ((cs.drop 0).take (Tryd.prog.cellsOf 26)) = xs[0]? := hf 0 _ rfl
  have f1 : DataW.trod enc Tryd.prog w 0 sp hd n 3 ((cs.drop 1).take (Tryd.prog.cellsOf 3)) = xs[1]? := hf 1 _ rfl
  have f2 : DataW.trod enc Tryd.prog w 0 sp hd n 3 ((cs.drop 2).take (Tryd.prog.cellsOf 3)) = xs[2]? := hf 2 _ rfl
  rw [List.getElem?_eq_getElem (by omega)] at f0 f1 f2
  have hz : SizedD x.1 28 → SizedD (xs[0]'(by omega)).1 26 := by
    intro hs m hm
    refine hs m ?_
    rw [hxd]
    simp only [DataW.weights, Tryd.underlying28]
    exact DataW.weights_mem_each (j := 0) (t := 26) (by rfl) (by rw [List.getElem?_map, List.getElem?_eq_getElem (by omega)]; rfl) m hm
  simp only [c1, c4] at f0 f1 f2
  obtain ⟨st, e1, _, w1⟩ := DataW.trod_int Tryd.underlying3 f1
  obtain ⟨cp, e2, _, w2⟩ := DataW.trod_int Tryd.underlying3 f2
  have hk : ∃ (A : Option Addr) (c : Nat) (ins : List In), ((cs.drop 0).take 1) = [.slice A ins.length c] ∧ ins.length ≤ c ∧ c ≤ maxLen ∧ Arr (fun b => b < w.heap.size) w 5 (InO (fun b => b < w.heap.size) w) A ins ∧ (∀ y ∈ ins, FieldsI y) ∧ (SizedD (xs[0]'(by omega)).1 26 → ins.length * 56 ≤ 140737488351232 ∧ ∀ y ∈ ins, y.set.length ≤ 140737488351232) := by
    rcases DataW.trod_slice Tryd.underlying26 f0 with ⟨e1, _⟩ | ⟨a, len, cap, elems, rest, m, hnm, e1, hx1, _, hlc, hcm, hel, hE, _, _⟩
    · exact ⟨none, 0, [], e1, Nat.le_refl _, Nat.zero_le _, Arr.nil, by simp, fun _ => ⟨by simp, by simp⟩⟩
    · rw [instCells] at hE
      obtain ⟨ins, hkl, hq⟩ := list_of (α := In) (Q := fun i k => ∃ cs, w.cells? 0 (a.add (i * 5)) 5 = some cs ∧ InO (fun b => b < w.heap.size) w k cs ∧ FieldsI k ∧ ∀ d, (elems.map (·.1))[i]? = some d → SizedD d 64 → k.set.length ≤ 140737488351232) len (fun i hi => by
        have h1 := hE i hi
        rw [List.getElem?_eq_getElem (by omega), Option.bind_eq_some_iff] at h1
        obtain ⟨cs', hc, hy⟩ := h1
        obtain ⟨k, hk1, hk2, hk3⟩ := inst_of hy
        exact ⟨k, cs', hc, hk1, hk2, fun d hd => by
          rw [List.getElem?_map, List.getElem?_eq_getElem (by omega)] at hd
          simp only [Option.map_some, Option.some.injEq] at hd
          rw [← hd]; exact hk3⟩)
      refine ⟨some a, cap, ins, by rw [hkl]; exact e1, by omega, hcm, cells_arr hkl (by omega) (fun i r hi => ?_), fun k hk => ?_, fun hsd => ⟨?_, fun k hk => ?_⟩⟩
      · obtain ⟨cs, h1, h2, _⟩ := hq i r hi
        exact ⟨cs, h1, h2⟩
      · obtain ⟨i, hi, rfl⟩ := List.mem_iff_getElem.1 hk
        obtain ⟨cs, _, _, h3, _⟩ := hq i _ (List.getElem?_eq_getElem hi)
        exact h3
      · have h5 := hsd ((elems.length + rest.length) * Tryd.prog.bytesOf 64) (by rw [hx1]; simp [DataW.weights, Tryd.underlying26])
        rw [show Tryd.prog.bytesOf 64 = 56 by kernel_rfl] at h5
        omega
      · obtain ⟨i, hi, rfl⟩ := List.mem_iff_getElem.1 hk
        obtain ⟨cs, _, _, _, h4⟩ := hq i _ (List.getElem?_eq_getElem hi)
        have hie : i < (elems.map (·.1)).length := by simp; omega
        refine h4 _ (List.getElem?_eq_getElem hie) (fun m hm => hsd m ?_)
        rw [hx1]
        simp only [DataW.weights, Tryd.underlying26]
        exact List.mem_cons_of_mem _ (List.mem_append.2 (.inl (weights_kid (List.getElem_mem hie) m hm)))
  obtain ⟨A, c, ins, e0, k1, k2, k3, k4, k5⟩ := hk
  refine ⟨⟨ins, st, cp⟩, ⟨A, c, ?_, k1, k2, k3⟩, ⟨w1, w2⟩, k4, fun hsd => k5 (hz hsd)⟩
  obtain ⟨a0, a1, a2, rfl⟩ : ∃ a0 a1 a2, cs = [a0, a1, a2] := by
    match cs, hl with
    | [a0, a1, a2], _ => exact ⟨a0, a1, a2, rfl⟩
  simp at e0 e1 e2
  simp [e0, e1, e2]
end
end Go.Proofs.YthclpabmbhpohaaDoor
namespace Go.Proofs.YthclpabmbhpohaaDoor
open Go.RowKit
set_option linter.unusedVariables false
theorem wf_u8 {z : Int} (h : (Lit.int .u8 z).wf = true) : 0 ≤ z ∧ z ≤ 255 := by
  simp [Lit.wf, IntKind.min, IntKind.max, IntKind.signed, IntKind.bits] at h
  omega
theorem came_text {w : World} {A : Option Addr} {n c : Nat} {xs : List Int} (h : Came .u8 w A n c xs) : ∃ s : ByteArray, n = s.size ∧ TextC (fun b => b < w.heap.size) w A s ∧ n ≤ c ∧ c ≤ maxLen := by
  obtain ⟨hl, h1, h2, h3, h4⟩ := h
  refine ⟨⟨(xs.map fun x => UInt8.ofNat x.toNat).toArray⟩, ?_, ?_, h1, h2⟩
  · show n = ((xs.map fun x => UInt8.ofNat x.toNat).toArray).size
    simp [hl]
  · intro i y hi
    simp only [List.getElem?_map] at hi
    cases hx : xs[i]? with
    | none => rw [hx] at hi; cases hi
    | some x =>
      rw [hx] at hi
      cases hi
      obtain ⟨ad, cs, h5, h6, h7, h8, h9⟩ := h3 i x hx
      refine ⟨ad, cs, h5, h6, ?_, h8, h9⟩
      have hw := wf_u8 (h4 x (List.mem_of_getElem? hx))
      rw [h7]
      show [Value.int .u8 x] = [Value.int .u8 ((UInt8.ofNat x.toNat).toNat : Int)]
      rw [UInt8.toNat_ofNat', show x.toNat % 2 ^ 8 = x.toNat by omega, show (x.toNat : Int) = x by omega]
end Go.Proofs.YthclpabmbhpohaaDoor
namespace Go.Proofs.YthclpabmbhpohaaDoor.bitstateOnepass
open Go.ChangeShapes Go.WideShapes Go.ChangeAt Go.RowKit
set_option linter.unusedVariables false
set_option maxRecDepth 100000 in
theorem lifted (os : Os) (started : os.Started) (H : Type) (enc : TypeId × Value → H) :
    ReturnsInHanded {} Tryd.checked os 8 .any (fun w args => (Rows.bitstateOnepassSpec.pre enc Tryd.prog Tryd.f8 Rows.bitstateOnepassRow.domain false w args ∧ laidMetH Tryd.prog Rows.bitstateOnepassRow.laid w) ∧ sizedMet enc Tryd.prog Tryd.f8 (OpenSpec.ofChange Rows.bitstateOnepassSpec) false w args)
      (Rows.bitstateOnepassSpec.post enc Tryd.prog Tryd.f8 false true false false) := by
  refine returnsInHanded_of_change_and (C := Tryd.checked) (X := fun w _ => laidMetH Tryd.prog Rows.bitstateOnepassRow.laid w) (fun _ _ _ hh h => h.of_heap hh) ownGodebug started (by kernel_rfl) Tryd.func8
    (ChangeSpec.witness_shaped (enc := enc) (C := Tryd.checked) (os := os) (X := fun w _ => laidMetH Tryd.prog Rows.bitstateOnepassRow.laid w) false (World.laidAll Tryd.prog os Rows.bitstateOnepassRow.laid) #[.agg #[.slice none 0 0, .int .i64 0, .int .i64 0], .slice none 0 0, .bool false] 8 (World.laidAll_os _ _ _)
      (World.shaped_of_ZipB (by kernel_rfl) (by kernel_rfl)) (by kernel_rfl) (by kernel_rfl) (by kernel_rfl)
      (by rw [MakeChecks.laidMetH_plain _ _ _ (by kernel_rfl)]; exact laidMet_laidAll _ (by kernel_rfl) (by kernel_rfl))) ?_
  intro W base args ds gs before hval0 hW hc hsz0 hL _
  have hval : ∀ (j : Nat) t v, Tryd.f8.params[j]? = some t → args[j]? = some v → Value.okWide Tryd.prog W .any base t v := hval0
  have hW' := hW
  obtain ⟨p, q, hA0, hV, rfl, _, _⟩ := hW
  have hA : DataW.TrodAll enc Tryd.prog W 0 (fun _ => true) true Tryd.f8.params.toList args.toList ds p := hA0
  rw [Tryd.params8] at hA hval
  obtain ⟨v0, vs0, d0, ds0, p0, q0, hargs, rfl, rfl, h0, r0⟩ := trodAll_cons hA
  obtain ⟨v1, vs1, d1, ds1, p1, q1, rfl, rfl, rfl, h1, r1⟩ := trodAll_cons r0
  obtain ⟨v2, vs2, d2, ds2, p2, q2, rfl, rfl, rfl, h2, r2⟩ := trodAll_cons r1
  obtain ⟨rfl, rfl, rfl⟩ := trodAll_nil r2
  obtain rfl : args = #[v0, v1, v2] := by cases args; simp_all
  obtain ⟨rfl, rfl⟩ := trodVars_none hV
  obtain ⟨cs0, rfl, hcsz0⟩ := okWide_struct Tryd.underlying28 (hval 0 28 v0 rfl rfl)
  have hz0 : SizedD d0 28 := fun n hn => by
    have h9 := List.all_eq_true.1 hsz0 n (DataW.weights_mem_each (j := 0) (t := 28) (by rw [Tryd.params8]; rfl) rfl n hn)
    have h8 : n ≤ reachBytes := by simpa using h9
    exact Nat.le_trans h8 (by unfold reachBytes; omega)
  have htr0 := h0
  obtain ⟨fuel0, hf0⟩ := htr0
  obtain ⟨t0, htc0, hwf0, hfw0, hsm0⟩ := prog_of hf0
  have hlt0 : ∀ x ∈ p0, x.block < W.heap.size := fun x hx => hW'.lt x (by simp [hx])
  obtain ⟨a1, n1, c1, rfl⟩ := okWide_slice Tryd.underlying29 (hval 1 29 v1 rfl rfl)
  obtain ⟨xs1, came1⟩ := came_of Tryd.underlying29 Tryd.underlying5 (by kernel_rfl) h1
  have hlt1 : ∀ x ∈ p1, x.block < W.heap.size := fun x hx => hW'.lt x (by simp [hx])
  obtain ⟨s1, rfl, htx1, hnc1, hcm1⟩ := came_text came1
  obtain ⟨b2, rfl, rfl, rfl⟩ := open_bool Tryd.underlying4 (hval 2 4 v2 rfl rfl) h2
  clear hA0 hval0
  obtain ⟨A0, c0, hps, hc1, hc2, harr⟩ := id htc0
  obtain rfl : cs0 = #[.slice A0 t0.ins.length c0, .int .i64 t0.start, .int .i64 t0.caps] := by
    cases cs0 with | mk l => exact congrArg Array.mk hps
  have hsz := hsm0 hz0
  have walk := bOne_any W t0 A0 c0 htc0 (by omega) hsz.2 _ a1 c1 s1 htx1 b2
  refine walk.mono fun e W' ⟨he, bel⟩ => ?_
  subst he
  exact ⟨_, rfl, post_grown (pv := []) hW' bel rfl (fun _ _ _ => trodAll_mk1 (shut_bool Tryd.underlying4 _))
    (fun sp hsp => (trodAll_cons_mk (WideElems.Trod_stays laidOut (by kernel_rfl) (of_decide_eq_true (by kernel_rfl)) h0 (fun x hx => bel.same (hlt0 x hx)) (fun x hx => hsp x (by simp [hx]))) (trodAll_cons_mk (WideElems.Trod_stays laidOut (by kernel_rfl) (of_decide_eq_true (by kernel_rfl)) h1 (fun x hx => bel.same (hlt1 x hx)) (fun x hx => hsp x (by simp [hx]))) (trodAll_cons_mk (shut_bool Tryd.underlying4 _) trodAll_mk0)))) (fun _ _ => rfl) (ok_one (by kernel_rfl) rfl (okWide_bool_mk Tryd.underlying4 _))⟩
theorem said : Rows.BitstateOnepassSaid :=
  OpenClaim.holds_of_wide 8 Tryd.f8 rfl rfl rfl rfl rfl rfl rfl ⟨rfl, rfl, rfl, rfl, rfl⟩ rfl rfl rfl rfl rfl (by kernel_rfl) Tryd.func8 (by kernel_rfl)
    (of_decide_eq_true (by kernel_rfl)) (by unfold Func.isWrapper; first | (rw [if_pos (by decide +kernel)]; kernel_rfl) | (rw [if_neg (by decide +kernel)]; exact ⟨rfl, rfl⟩))
    (fun os started H enc _ => lifted os started H enc)
/-- No parameter wants a stand-in; the program's own looks are off. -/
theorem plain (f : FuncId) (fn : Func) (hf : Tryd.pinned.checked.prog.funcNamed "martello/martellolaw16.BitstateOnepass" = some f) (hfn : Tryd.pinned.checked.prog.funcs[f]? = some fn) :
    false = Tryd.pinned.checked.prog.looks [] ∧ ∀ (j : Nat) t, fn.params[j]? = some t → Tryd.pinned.checked.prog.wantsStandIn t = false := by
  obtain rfl : f = 8 := Option.some.inj ((show Tryd.prog.funcNamed "martello/martellolaw16.BitstateOnepass" = some 8 by kernel_rfl).symm.trans hf) |>.symm
  obtain rfl : fn = Tryd.f8 := (Option.some.inj (Tryd.func8.symm.trans hfn)).symm
  refine ⟨by kernel_rfl, fun j t ht => ?_⟩
  rw [Tryd.params8] at ht
  have hm : t ∈ [28, 29, 4] := by simpa using Array.mem_of_getElem? ht
  have hall : ([28, 29, 4].all fun u => !Tryd.prog.wantsStandIn u) = true := by kernel_rfl
  exact (show Tryd.prog.wantsStandIn t = false by simpa using List.all_eq_true.1 hall t hm)
theorem card : Rows.BitstateOnepassCardSaid :=
  Claim7.holds_tied_plain_at .later [] _ _ _ _ said (fun _ h => by cases h) (by kernel_rfl) (fun _ h => by cases h) bitstateOnepass_row_tie rfl ⟨rfl, rfl⟩ (by kernel_rfl) rfl plain (by kernel_rfl)
end Go.Proofs.YthclpabmbhpohaaDoor.bitstateOnepass
namespace Go.Proofs.YthclpabmbhpohaaDoor
/-- The card, under a short name, for the claim. -/
theorem bitstateOnepass_card : Rows.BitstateOnepassCardSaid := bitstateOnepass.card
end Go.Proofs.YthclpabmbhpohaaDoor
