/-
  Law 10's runes; SimplifyCounts. No condition.
-/
import Derived.Test.YtdnbholiijgedaaSimple
namespace Go.Proofs.Ytdnbholiijgedaa
open Go.RowKit
set_option linter.unusedVariables false

mutual
def rnS : Tr → Nat
  | ⟨op, kids, rune, set, at_, cap, name, mn, mx, lz⟩ => (if op = 3 then 1 else 0) + rnL kids
def rnL : List Tr → Nat
  | [] => 0
  | k :: ks => rnS k + rnL ks
end
theorem rnS_eq (t : Tr) : rnS t = (if t.op = 3 then 1 else 0) + rnL t.kids := by cases t; rw [rnS]
theorem rnL_app : ∀ a b : List Tr, rnL (a ++ b) = rnL a + rnL b
  | [], b => by rw [List.nil_append, rnL]; omega
  | k :: a, b => by rw [List.cons_append, rnL, rnL, rnL_app a b]; omega
theorem rnL_one (x : Tr) : rnL [x] = rnS x := by rw [rnL, rnL]; rfl
theorem rnL_rep (x : Tr) : ∀ n, rnL (List.replicate n x) = n * rnS x
  | 0 => by rw [List.replicate_zero, rnL]; omega
  | n + 1 => by rw [List.replicate_succ, rnL, rnL_rep x n, Nat.succ_mul]; omega
mutual
theorem rnS_le : ∀ t : Tr, rnS t ≤ szT t
  | ⟨op, kids, rune, set, at_, cap, name, mn, mx, lz⟩ => by
    rw [rnS, szT_eq]
    have h := rnL_le kids
    show _ ≤ 1 + szL kids
    split <;> omega
theorem rnL_le : ∀ l : List Tr, rnL l ≤ szL l
  | [] => by rw [rnL]; exact Nat.zero_le _
  | k :: ks => by
    rw [rnL, szL_cons]
    have h1 := rnS_le k
    have h2 := rnL_le ks
    omega
end
theorem rnL_take {l : List Tr} {j : Nat} (h : j < l.length) : rnL (l.take (j + 1)) = rnL (l.take j) + rnS l[j] := by
  rw [List.take_succ_eq_append_getElem h, rnL_app, rnL_one]
theorem rnL_take_le (l : List Tr) (j : Nat) : rnL (l.take j) ≤ rnL l := by
  have h := congrArg rnL (List.take_append_drop j l)
  rw [rnL_app] at h
  omega
def RunesRel (w : World) (t : Tr) (ct : List Value) (u : Nat) (s3 s4 : Value) (wr : World) : Prop :=
  ∃ j : Nat, s4 = .int .i64 j ∧ s3 = .int .i64 ((u + rnL (t.kids.take j) : Nat) : Int) ∧ j ≤ t.kids.length ∧ Below w.heap.size w wr ∧ wr.heap[w.heap.size]? = some (.cells ct.toArray 27 (0, 0))
set_option maxRecDepth 100000 in
set_option maxHeartbeats 1000000 in
theorem runes_any (ok : Nat → Prop) : ∀ (n : Nat) (t : Tr) (cs : List Value) (w : World), szT t ≤ n → TrC ok w t cs → n ≤ 1000000000 →
    Calls Try.prog 15 #[.agg cs.toArray] w fun e w' => e = .returned (.int .i64 (rnS t)) ∧ Below w.heap.size w w' := by
  intro n
  induction n with
  | zero => intro t cs w hn; rw [szT_eq] at hn; omega
  | succ n ih =>
    intro t cs w hn ht hn9
    obtain ⟨A, c, B, d, rfl, h1, h2, h3, h4, h5, h6⟩ := trC_iff.1 ht
    have hrS := rnS_eq t
    have hrl := rnS_le t
    have hkl : t.kids.length ≤ 1000000001 := by have := kids_szT t; omega
    have HS := Lib.hid (And.intro hrS h6)
    clear hrS ht h5 h6
    go_enter Try.func15, Try.ntmps15
    have hx := heap_new1 w (.cells #[.int .i64 t.op, .slice A t.kids.length c, .int .i32 t.rune, .slice B t.set.length d, .int .i64 t.at_, .int .i64 t.cap, .string t.name, .int .i64 t.mn, .int .i64 t.mx, .bool t.lz] 27)
    have hxb : Below w.heap.size w (w.alloc (.cells #[.int .i64 t.op, .slice A t.kids.length c, .int .i32 t.rune, .slice B t.set.length d, .int .i64 t.at_, .int .i64 t.cap, .string t.name, .int .i64 t.mn, .int .i64 t.mx, .bool t.lz] 27)) := below_al (Below.refl _ _) _
    have HX := Lib.hid (And.intro hx hxb)
    clear hx hxb
    obtain ⟨u, hu, hu1⟩ : ∃ u : Nat, (if t.op = 3 then 1 else 0) = u ∧ u ≤ 1 := ⟨_, rfl, by split <;> omega⟩
    have HU := Lib.hid hu
    clear hu
    by_cases e3 : t.op = 3
    · have o3 : (t.op == 3) = true := (by rw [e3]; rfl)
      have hu1 := HU.out
      rw [if_pos e3] at hu1
      subst hu1
      clear e3
      go_wp2_with fail
      go_loopw [3, 4] (fun s3 s4 wr => RunesRel w t [.int .i64 t.op, .slice A t.kids.length c, .int .i32 t.rune, .slice B t.set.length d, .int .i64 t.at_, .int .i64 t.cap, .string t.name, .int .i64 t.mn, .int .i64 t.mx, .bool t.lz] 1 s3 s4 wr) (fun _ s4 _ => t.kids.length - (intOf s4).toNat)
      case atStart => exact ⟨0, rfl, by rw [List.take_zero, rnL]; rfl, Nat.zero_le _, HX.out.2, HX.out.1⟩
      case round =>
        obtain ⟨j, rfl, hs3, hj, hBr, hbx⟩ := hrel
        obtain ⟨g0, g1, g2, g3, g4, g5, g6, g7, g8, g9⟩ := cells10 hbx
        have hfl := rnL_take_le t.kids j
        have hkl2 := rnL_le t.kids
        rw [szT_eq] at hn
        have hn0 := heap_lt hbx
        by_cases hlt : j < t.kids.length
        · obtain ⟨ad, A1, c1, A3, c3, rfl, hTk, k0, k1, k2, k3, k4, k5, k6, k7, k8, k9⟩ := trArr_at HS.out.2 wr (fun b _ hb' => hBr.block b hb') j hlt
          have hkk := parts_kid hlt
          have hfl1 := rnL_take_le t.kids (j + 1)
          have hsn := rnL_take hlt
          have hih := ih t.kids[j] _ wr (by have := szT_eq t; unfold szT at *; omega) (hTk.move (fun b hb' hlt' => ⟨hBr.block b hlt', hb'⟩)) (by omega)
          generalize t.kids[j] = kj at *
          generalize rnS kj = r at *
          have HB := Lib.hid (And.intro hBr (And.intro hbx hsn))
          rw [hsn] at hfl1
          subst hs3
          generalize rnL (t.kids.take j) = a at *
          clear hBr hbx hsn hTk hkk
          go_wp2_with fail
          refine hih.mono ?_
          clear hih g0 g1 g2 g3 g4 g5 g6 g7 g8 g9 k0 k1 k2 k3 k4 k5 k6 k7 k8 k9
          rintro e w1 ⟨rfl, hb1⟩
          dsimp only
          have HZ := Lib.hid (And.intro ((hb1.block _ hn0).trans HB.out.2.1) (And.intro (below_and hb1 HB.out.1) HB.out.2.2))
          clear hb1
          go_wp2_with fail
          go_roundw
          case rel => exact ⟨j + 1, by go_num, by rw [HZ.out.2.2]; go_num, by omega, HZ.out.2.1, HZ.out.1⟩
          case measure => simp [intOf]; omega
        · obtain rfl : j = t.kids.length := by omega
          rw [List.take_length] at hs3
          subst hs3
          have HB := Lib.hid (And.intro hBr HS.out.1)
          generalize rnL t.kids = a at *
          clear hBr hbx
          go_wp2_with fail
          go_ret
          exact ⟨ret_int (by rw [HB.out.2, HU.out]), HB.out.1⟩
    · have o3 : (t.op == 3) = false := (by simpa using e3)
      have hu1 := HU.out
      rw [if_neg e3] at hu1
      subst hu1
      clear e3
      go_wp2_with fail
      go_loopw [3, 4] (fun s3 s4 wr => RunesRel w t [.int .i64 t.op, .slice A t.kids.length c, .int .i32 t.rune, .slice B t.set.length d, .int .i64 t.at_, .int .i64 t.cap, .string t.name, .int .i64 t.mn, .int .i64 t.mx, .bool t.lz] 0 s3 s4 wr) (fun _ s4 _ => t.kids.length - (intOf s4).toNat)
      case atStart => exact ⟨0, rfl, by rw [List.take_zero, rnL]; rfl, Nat.zero_le _, HX.out.2, HX.out.1⟩
      case round =>
        obtain ⟨j, rfl, hs3, hj, hBr, hbx⟩ := hrel
        obtain ⟨g0, g1, g2, g3, g4, g5, g6, g7, g8, g9⟩ := cells10 hbx
        have hfl := rnL_take_le t.kids j
        have hkl2 := rnL_le t.kids
        rw [szT_eq] at hn
        have hn0 := heap_lt hbx
        by_cases hlt : j < t.kids.length
        · obtain ⟨ad, A1, c1, A3, c3, rfl, hTk, k0, k1, k2, k3, k4, k5, k6, k7, k8, k9⟩ := trArr_at HS.out.2 wr (fun b _ hb' => hBr.block b hb') j hlt
          have hkk := parts_kid hlt
          have hfl1 := rnL_take_le t.kids (j + 1)
          have hsn := rnL_take hlt
          have hih := ih t.kids[j] _ wr (by have := szT_eq t; unfold szT at *; omega) (hTk.move (fun b hb' hlt' => ⟨hBr.block b hlt', hb'⟩)) (by omega)
          generalize t.kids[j] = kj at *
          generalize rnS kj = r at *
          have HB := Lib.hid (And.intro hBr (And.intro hbx hsn))
          rw [hsn] at hfl1
          subst hs3
          generalize rnL (t.kids.take j) = a at *
          clear hBr hbx hsn hTk hkk
          go_wp2_with fail
          refine hih.mono ?_
          clear hih g0 g1 g2 g3 g4 g5 g6 g7 g8 g9 k0 k1 k2 k3 k4 k5 k6 k7 k8 k9
          rintro e w1 ⟨rfl, hb1⟩
          dsimp only
          have HZ := Lib.hid (And.intro ((hb1.block _ hn0).trans HB.out.2.1) (And.intro (below_and hb1 HB.out.1) HB.out.2.2))
          clear hb1
          go_wp2_with fail
          go_roundw
          case rel => exact ⟨j + 1, by go_num, by rw [HZ.out.2.2]; go_num, by omega, HZ.out.2.1, HZ.out.1⟩
          case measure => simp [intOf]; omega
        · obtain rfl : j = t.kids.length := by omega
          rw [List.take_length] at hs3
          subst hs3
          have HB := Lib.hid (And.intro hBr HS.out.1)
          generalize rnL t.kids = a at *
          clear hBr hbx
          go_wp2_with fail
          go_ret
          exact ⟨ret_int (by rw [HB.out.2, HU.out]), HB.out.1⟩

/-! ### the plain law of counts -/
theorem rn_runeA : rnS runeA = 1 := by kernel_rfl
theorem simple_runeA : simpleS runeA = runeA := by kernel_rfl
theorem rn_opT (op : Int) (l : List Tr) (lz : Bool) (h : op ≠ 3) : rnS (opT op l lz) = rnL l := by rw [rnS_eq]; show (if op = 3 then 1 else 0) + rnL l = _; rw [if_neg h]; omega
/-- Trees as they stand in a repeat of a rune. -/
def Cnt (t : Tr) : Prop := t = runeA ∨ t = opT 2 [] false ∨ t.op = 7 ∨ t.op = 8 ∨ t.op = 9
theorem cnt_flat {l : List Tr} (h : ∀ k ∈ l, Cnt k) : flatK l = l := by
  unfold flatK
  induction l with
  | nil => rfl
  | cons k l ih =>
    have hk : ¬ k.op = 11 := by
      rcases h k (by simp) with rfl | rfl | e | e | e
      · decide
      · exact (by decide : ¬ (2 : Int) = 11)
      all_goals omega
    rw [List.flatMap_cons, if_neg hk, ih (fun x hx => h x (by simp [hx]))]; rfl
theorem cnt_filter {l : List Tr} (h : ∀ k ∈ l, Cnt k) : rnL (l.filter (fun t => !(t.op == 2))) = rnL l := by
  induction l with
  | nil => rfl
  | cons k l ih =>
    have h9 := ih (fun x hx => h x (by simp [hx]))
    rw [List.filter_cons]
    by_cases e : k.op = 2
    · rw [if_neg (by simp [e]), h9, rnL]
      have : rnS k = 0 := by
        rcases h k (by simp) with rfl | rfl | e2 | e2 | e2
        · exact absurd e (by decide)
        · kernel_rfl
        all_goals omega
      omega
    · rw [if_pos (by simp [e]), rnL, rnL, h9]
theorem cnt_joined {l : List Tr} (h : ∀ k ∈ l, Cnt k) : rnS (joinedS l) = rnL l := by
  have hf := cnt_filter h
  unfold joinedS
  rw [cnt_flat h]
  simp only
  have hm : ∀ k ∈ l.filter (fun t => !(t.op == 2)), ¬ k.op = 1 := fun k hk => by
    rcases h k (List.mem_filter.1 hk).1 with rfl | rfl | e | e | e
    · decide
    · exact (by decide : ¬ (2 : Int) = 1)
    all_goals omega
  generalize l.filter (fun t => !(t.op == 2)) = out at *
  rw [if_neg (by rw [List.any_eq_true]; rintro ⟨k, hk, he⟩; exact hm k hk (by simpa using he))]
  split
  · rw [rn_opT _ _ _ (by decide), ← hf]
  · rw [← hf, rnL_one]
  · rw [rn_opT _ _ _ (by decide), ← hf]
theorem cnt_rest (lz : Bool) : ∀ n, Cnt (restS runeA lz n) ∧ rnS (restS runeA lz n) = n
  | 0 => ⟨.inr (.inl rfl), by rw [restS, rn_opT _ _ _ (by decide), rnL]⟩
  | n + 1 => by
    obtain ⟨h1, h2⟩ := cnt_rest lz n
    have hc : ∀ k ∈ [runeA, restS runeA lz n], Cnt k := fun k hk => by
      simp at hk
      rcases hk with rfl | rfl
      · exact .inl rfl
      · exact h1
    have hj := cnt_joined hc
    rw [rnL, rnL_one, rn_runeA, h2] at hj
    rw [restS]
    have hq : questS (joinedS [runeA, restS runeA lz n]) lz = opT 9 [joinedS [runeA, restS runeA lz n]] lz := by
      unfold questS
      rw [if_neg]
      intro e
      have e' : (joinedS [runeA, restS runeA lz n]).op = 1 ∨ (joinedS [runeA, restS runeA lz n]).op = 2 := by simpa using e
      have hg : GoodT (joinedS [runeA, restS runeA lz n]) := good_joined (fun k hk => by
        have hr : GoodT runeA := good_iff.2 ⟨⟨plainF_iff.1 (by kernel_rfl), by decide, by decide, fun k hk => by simp [runeA] at hk, by decide, Nat.zero_le _, Nat.zero_le _⟩, fun k hk => by simp [runeA] at hk⟩
        simp at hk
        rcases hk with rfl | rfl
        · exact hr
        · exact good_rest lz hr n)
      obtain ⟨_, _, o3, _⟩ := (good_iff.1 hg).1.pl.ops
      have h0 := List.eq_nil_of_length_eq_zero (o3 (by omega))
      rw [rnS_eq, h0, rnL] at hj
      rcases e' with e' | e' <;> rw [e'] at hj <;> simp at hj <;> omega
    rw [hq]
    refine ⟨.inr (.inr (.inr (.inr rfl))), ?_⟩
    rw [rn_opT _ _ _ (by decide), rnL_one, hj]; omega
theorem counts_law (n q : Nat) (hn : n ≤ 255) (hq : q ≤ 255) (lz : Bool) :
    rnS (simpR ⟨10, [runeA], 0, [], 0, 0, ⟨#[]⟩, n, (n + q : Nat), lz⟩) = n + q ∧ rnS (simpR ⟨10, [runeA], 0, [], 0, 0, ⟨#[]⟩, n, -1, lz⟩) = max n 1 := by
  have hright : ∀ mx : Int, (mx = -1 ∨ mx = ((n + q : Nat) : Int)) → rightTB rightR ⟨10, [runeA], 0, [], 0, 0, ⟨#[]⟩, n, mx, lz⟩ = true := fun mx hmx => by
    have hd : dS ⟨10, [runeA], 0, [], 0, 0, ⟨#[]⟩, n, mx, lz⟩ = 2 := rfl
    have hw : wS ⟨10, [runeA], 0, [], 0, 0, ⟨#[]⟩, n, mx, lz⟩ ≤ 4000 := by
      rw [wS_eq]
      have h1 : wL [runeA] 0 = 1 := by kernel_rfl
      show min (opW 10 (wL [runeA] 0) 1 n mx) 4001 ≤ 4000
      rw [h1]
      unfold opW
      rw [if_neg (by decide), if_neg (by decide), if_pos rfl]
      omega
    have hp : plainB rightR ⟨10, [runeA], 0, [], 0, 0, ⟨#[]⟩, n, mx, lz⟩ = true := by
      refine plainF_iff.2 ⟨fun _ => rfl, fun _ => rfl, fun _ => rfl, fun _ => rfl, fun _ => rfl, fun h => absurd rfl h, fun h => absurd rfl h, fun _ _ _ h => absurd rfl h, ?_⟩
      show opV (rightR []) 10 1 0 0 0 ⟨#[]⟩ n mx = true
      unfold opV
      simp
      omega
    unfold rightTB
    rw [hd, decide_eq_true hw]
    have hparts : parts ⟨10, [runeA], 0, [], 0, 0, ⟨#[]⟩, n, mx, lz⟩ = [⟨10, [runeA], 0, [], 0, 0, ⟨#[]⟩, n, mx, lz⟩, runeA] := by rw [parts_eq, partsL_flat]; rfl
    have h1 : rightStep rightR (0, []) ⟨10, [runeA], 0, [], 0, 0, ⟨#[]⟩, n, mx, lz⟩ = some (0, []) := by
      unfold rightStep
      rw [if_neg (by rw [hp]; simp), if_neg (by show ¬ (10 : Int) = 6; decide)]
    have h2 : rightStep rightR (0, []) runeA = some (0, []) := by
      unfold rightStep
      rw [if_neg (by rw [show plainB rightR runeA = true by kernel_rfl]; simp), if_neg (by decide)]
    rw [hparts]
    simp [rightFold, h1, h2]
  have hs : ∀ mx : Int, (mx = -1 ∨ mx = ((n + q : Nat) : Int)) → simpR ⟨10, [runeA], 0, [], 0, 0, ⟨#[]⟩, n, mx, lz⟩ = (if mx = 0 then opT 2 [] false
     else if 0 < mx then joinedS (List.replicate n runeA ++ [restS runeA lz (mx - n).toNat])
     else if (n : Int) = 0 then starS runeA lz
     else joinedS (List.replicate ((n : Int) - 1).toNat runeA ++ [plusS runeA lz])) := fun mx hmx => by
    unfold simpR
    rw [if_pos (hright mx hmx), simpleS_eq]
    have hl : (Tr.mk 10 [runeA] 0 [] 0 0 ⟨#[]⟩ n mx lz).kids.map simpleS = [runeA] := by show [simpleS runeA] = _; rw [simple_runeA]
    rw [hl]
    unfold simpleN
    rw [if_neg (by show ¬ (10 : Int) = 11; decide), if_neg (by show ¬ (10 : Int) = 12; decide), if_neg (by show ¬ (10 : Int) = 6; decide), if_neg (by show ¬ (10 : Int) = 7; decide), if_neg (by show ¬ (10 : Int) = 8; decide), if_neg (by show ¬ (10 : Int) = 9; decide), if_pos rfl]
    rfl
  have hrep : ∀ (m : Nat) (y : Tr), Cnt y → rnS (joinedS (List.replicate m runeA ++ [y])) = m + rnS y := fun m y hy => by
    rw [cnt_joined (fun k hk => by
      rcases List.mem_append.1 hk with hk | hk
      · exact .inl (List.mem_replicate.1 hk).2
      · rw [List.mem_singleton.1 hk]; exact hy), rnL_app, rnL_rep, rnL_one, rn_runeA]; omega
  have hst : rnS (starS runeA lz) = 1 := by
    have : starS runeA lz = opT 7 [runeA] lz := by unfold starS; rw [if_pos (by kernel_rfl)]
    rw [this, rn_opT _ _ _ (by decide), rnL_one, rn_runeA]
  have hpl : plusS runeA lz = opT 8 [runeA] lz := by unfold plusS; rw [if_pos (by kernel_rfl)]
  constructor
  · rw [hs _ (.inr rfl)]
    split
    · rename_i h; rw [rn_opT _ _ _ (by decide), rnL]; omega
    · rw [if_pos (by omega), hrep _ _ (cnt_rest lz _).1, (cnt_rest lz _).2]; omega
  · rw [hs _ (.inl rfl), if_neg (by decide), if_neg (by decide)]
    split
    · rw [hst]; omega
    · rw [hrep _ _ (by rw [hpl]; exact .inr (.inr (.inr (.inl rfl)))), hpl, rn_opT _ _ _ (by decide), rnL_one, rn_runeA]; omega
theorem simpR_rep_size (n mx : Int) (lz : Bool) : szT (simpR ⟨10, [runeA], 0, [], 0, 0, ⟨#[]⟩, n, mx, lz⟩) ≤ 12000 := by
  unfold simpR
  split
  · rename_i h; exact simpR_size h
  · rw [opT_sz, szL_nil]; omega
set_option maxRecDepth 100000 in
set_option maxHeartbeats 2000000 in
theorem simplifyCounts_any (w : World) (n q : Nat) (hn : n ≤ 255) (hq : q ≤ 255) (op lz : Bool) :
    Calls Try.prog 5 #[.int .u8 n, .int .u8 q, .bool op, .bool lz] w fun e w' => e = .returned (.bool true) ∧ Below w.heap.size w w' := by
  have hlaw := counts_law n q hn hq lz
  have HL := Lib.hid hlaw
  clear hlaw
  have hn1 : (n : Int) ≤ 255 := by omega
  have hq1 : (q : Int) ≤ 255 := by omega
  go_enter Try.func5, Try.ntmps5
  go_wp2_with (go_at_call 14; refine (head10_any _).mono ?_; rintro e w1 ⟨rfl, hb1⟩; have HB := Lib.hid hb1; clear hb1)
  · have hx := heap_new1 w1 (.cells #[.int .i64 3, .slice none 0 0, .int .i32 97, .slice none 0 0, .int .i64 0, .int .i64 0, .string ⟨#[]⟩, .int .i64 0, .int .i64 0, .bool false] 27)
    have hr := trC_rep n (-1) lz ((Below.heap_alloc _ (.cells #[.int .i64 10, .slice (some ⟨w1.heap.size, 0, none⟩) 1 1, .int .i32 0, .slice none 0 0, .int .i64 0, .int .i64 0, .string ⟨#[]⟩, .int .i64 n, .int .i64 (-1), .bool lz] 27) _ (heap_lt hx)).trans hx)
    have hS := Simple_any (fun _ => True) _ _ _ hr (small_rep n (-1) lz)
    refine hS.mono ?_
    clear hS hr hx
    rintro e w2 ⟨cs, rfl, ht, hb2⟩
    dsimp only
    have hlw := HL.out.2
    have hrn := runes_any _ 12000 _ cs w2 (simpR_rep_size n (-1) lz) ht (by omega)
    rw [hlw] at hrn
    have HB2 := Lib.hid (below_and (below_and hb2 (below_al (below_al (Below.refl _ _) _) _)) HB.out)
    clear hlw ht hb2
    go_wp2_with fail
    refine hrn.mono ?_
    clear hrn
    rintro e w3 ⟨rfl, hb3⟩
    dsimp only
    have HB3 := Lib.hid (below_and hb3 HB2.out)
    clear hb3
    go_wp2_with fail
    go_ret
    exact ⟨ret_bool (by simp <;> omega), HB3.out⟩
  · have hx := heap_new1 w1 (.cells #[.int .i64 3, .slice none 0 0, .int .i32 97, .slice none 0 0, .int .i64 0, .int .i64 0, .string ⟨#[]⟩, .int .i64 0, .int .i64 0, .bool false] 27)
    have hr := trC_rep n ((n : Int) + q) lz ((Below.heap_alloc _ (.cells #[.int .i64 10, .slice (some ⟨w1.heap.size, 0, none⟩) 1 1, .int .i32 0, .slice none 0 0, .int .i64 0, .int .i64 0, .string ⟨#[]⟩, .int .i64 n, .int .i64 ((n : Int) + q), .bool lz] 27) _ (heap_lt hx)).trans hx)
    have hS := Simple_any (fun _ => True) _ _ _ hr (small_rep n ((n : Int) + q) lz)
    refine hS.mono ?_
    clear hS hr hx
    rintro e w2 ⟨cs, rfl, ht, hb2⟩
    dsimp only
    have hlw := (show rnS (simpR ⟨10, [runeA], 0, [], 0, 0, ⟨#[]⟩, n, (n : Int) + q, lz⟩) = n + q from HL.out.1)
    have hrn := runes_any _ 12000 _ cs w2 (simpR_rep_size n ((n : Int) + q) lz) ht (by omega)
    rw [hlw] at hrn
    have HB2 := Lib.hid (below_and (below_and hb2 (below_al (below_al (Below.refl _ _) _) _)) HB.out)
    clear hlw ht hb2
    go_wp2_with fail
    refine hrn.mono ?_
    clear hrn
    rintro e w3 ⟨rfl, hb3⟩
    dsimp only
    have HB3 := Lib.hid (below_and hb3 HB2.out)
    clear hb3
    go_wp2_with fail
    go_ret
    exact ⟨ret_bool (by simp <;> omega), HB3.out⟩
end Go.Proofs.Ytdnbholiijgedaa
