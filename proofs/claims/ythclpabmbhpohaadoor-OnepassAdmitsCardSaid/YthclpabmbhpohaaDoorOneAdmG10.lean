/-
  slices.Repeat of one element, at each element type. No condition but on the size.
  onepass.Match. No condition but bounds.
  martellolaw15.head: what is asked of one program and one text. No condition.
  martellolaw12.Long, martellolaw15.Long, Steps, martelloref11.SameInts: what the laws ask ahead of a walk, and behind. No condition but bounds.
  martellolaw15.OnepassAdmits: the walk: it tells true. No condition but that the program's fields are values of their types.
  A law's row: its last step where below the call's own blocks nothing has turned; slices of whole numbers that came in.
  A list of ranges, an instruction, a program that came in as an argument: what the row's reading of it gives of memory. No condition.
  A program that came in as an argument: what the row's reading of it gives of memory. No condition.
  OnepassAdmits: the row and the tied card, from its walk.
-/
import Derived.Test.YthclpabmbhpohaaDoorOneAdmG9
import Derived.Lib.SlBytesConst
import Derived.Deep.LoopGhost
import Derived.Test.YthclpabmbhpohaaDoorRows
import Derived.WalkKit
import Derived.ProofKit
import Derived.OpenShut
import Derived.LaidMore
import Derived.Lay
import Derived.SevenTiedAt
import Derived.Stop.Joined
import Derived.ChangeOld
import Derived.ChangeSame
import Derived.Below
import Derived.Carry
import Derived.ShutString
import Derived.SizedLaws
import Derived.Test.YthclpabmbhpohaaDoorCards
import Derived.Test.YthclpabmbhpohaaDoorTie
namespace Go.Proofs.YthclpabmbhpohaaDoor
open Go.RowKit
set_option linter.unusedVariables false
def RepRel (w : World) (e : TypeId) (sz n : Nat) (X : List Value) (s8 : Value) (wr : World) : Prop :=
  ∃ (m : Nat) (R : List Value), s8 = .int .i64 m ∧ m ≤ n ∧ (0 < n → 0 < m) ∧ Below w.heap.size w wr ∧ wr.heap[w.heap.size]? = some (.cells ((List.replicate m X).flatten ++ R).toArray e (0, 0)) ∧ R.length = (n - m) * sz
def RepPost (e : TypeId) (sz n : Nat) (X : List Value) (w : World) (en : Ending) (w' : World) : Prop :=
  ∃ v', en = .returned v' ∧ Owns w' w.heap.size e sz v' (List.replicate n X) ∧ Below w.heap.size w w'
theorem flat_rep {X : List Value} {sz : Nat} (hX : X.length = sz) (n : Nat) : (List.replicate n X).flatten.length = n * sz := by
  induction n with
  | zero => simp
  | succ n ih => rw [List.replicate_succ, List.flatten_cons, List.length_append, ih, hX, Nat.succ_mul]; omega
theorem rep_splice {X : List Value} {sz : Nat} (hX : X.length = sz) {m k n : Nat} {R : List Value} (hR : R.length = (n - m) * sz) (hk : k ≤ n - m) :
    ∃ R', splice ((List.replicate m X).flatten ++ R) (m * sz) (List.replicate k X).flatten = (List.replicate (m + k) X).flatten ++ R' ∧ R'.length = (n - (m + k)) * sz := by
  refine ⟨R.drop (k * sz), ?_, ?_⟩
  · have h1 := flat_rep hX m
    have h2 := flat_rep hX k
    unfold splice
    rw [h2, List.take_left' h1, ← Nat.add_mul, ← List.replicate_append_replicate, List.flatten_append, List.append_assoc, List.drop_append, h1, List.drop_eq_nil_of_le (by rw [h1]; exact Nat.mul_le_mul_right _ (by omega)), List.nil_append, show (m + k) * sz - m * sz = k * sz by rw [Nat.add_mul]; omega]
  · rw [List.length_drop, hR, ← Nat.sub_mul]
    congr 1
    omega
theorem rep_pre {X : List Value} {m k : Nat} (hk : k ≤ m) (R : List Value) {j : Nat} {v : Value} (h : (List.replicate k X).flatten[j]? = some v) : ((List.replicate m X).flatten ++ R)[j]? = some v := by
  obtain ⟨d, rfl⟩ : ∃ d, m = k + d := ⟨m - k, by omega⟩
  rw [← List.replicate_append_replicate, List.flatten_append, List.append_assoc, List.getElem?_append_left (List.getElem?_eq_some_iff.1 h).1]
  exact h
theorem copy_src (gx : Nat) (X : List Value) (k m : Nat) (hk : k ≤ m) (R : List Value) (w : World) {T : TypeId} (h : w.heap[gx]? = some (.cells ((List.replicate m X).flatten ++ R).toArray T (0, 0))) : ∀ j v, (List.replicate k X).flatten[j]? = some v → w.cell? ((⟨gx, 0, none⟩ : Addr).add j) = some v := by
  intro j v hj
  have h9 := rep_pre (X := X) (m := m) hk R hj
  rw [show (⟨gx, 0, none⟩ : Addr).add j = ⟨gx, j, none⟩ by unfold Addr.add; split <;> simp_all, cell_of_blk h]
  simpa using h9
theorem infoRInt : (Tryd.prog.info? 3).map (fun i => (i.zero, i.size, i.bytes)) = some (some (.int .i64 0), 1, 8) := by kernel_rfl
theorem infoRsInt : (Tryd.prog.info? 3).map (·.size) = some 1 := by kernel_rfl
set_option maxRecDepth 100000 in
set_option maxHeartbeats 2000000 in
theorem repInt (w : World) (gx n : Nat) (X : List Value) (hX : X.length = 1) (h1 : ∀ u ∈ X, u.oneCell' = true) (hg : w.heap[gx]? = some (.cells X.toArray 3 (0, 0))) (hn : n ≤ 1000000) :
    Calls Tryd.prog 41 #[.slice (some ⟨gx, 0, none⟩) 1 1, .int .i64 n] w (RepPost 3 1 n X w) := by
  obtain ⟨i0, hi, hz0, hz1, hz2⟩ := info_parts infoRInt
  have hmul := fun W => mul_one n (by omega) W
  have hone : ∀ k, ∀ u ∈ (List.replicate k X).flatten, u.oneCell' = true := fun k u hu => by
    obtain ⟨c', hc', hu'⟩ := List.mem_flatten.1 hu
    rw [(List.mem_replicate.1 hc').2] at hu'
    exact h1 u hu'
  have H := Lib.hid (And.intro hX (And.intro hg hone))
  clear hX hg hone h1
  have hsz : gx < w.heap.size := heap_lt H.out.2.1
  obtain ⟨m0, hm0⟩ : ∃ m0, Nat.min 1 n = m0 := ⟨_, rfl⟩
  have HM := Lib.hid hm0
  clear hm0
  go_enter Tryd.func41, Tryd.ntmps41
  go_wp2_with (first | (go_at_call 63; refine (hmul _).mono ?_; clear hmul; rintro e w' ⟨rfl, rfl⟩) | (at_make; refine wpList_make_full _ rfl _ _ 35 rfl w.heap.size 3 i0 (.int .i64 0) 1 Tryd.underlying35 hi hz0 hz1 _ _ _ _ n rfl rfl rfl rfl (by rw [hz2]; omega) (by unfold maxLen; omega) (Nat.le_refl _) ?_))
  intro w1 hown hgr
  have hs1 : w1.heap.size = w1.heap.size := rfl
  rcases hown.2 with ⟨hv, _⟩ | ⟨g, cap, cur, hv, _, hcur, _, _, hcs, _⟩
  · simp at hv
  simp only [Value.slice.injEq, Option.some.injEq, Addr.mk.injEq, and_true, true_and] at hv
  obtain ⟨rfl, rfl⟩ := hv
  have hb1 : Below w.heap.size w w1 := (Below.refl _ _).grown hgr (Nat.le_refl _) (fun k e => by cases e)
  have hgx1 := (hb1.block gx hsz).trans H.out.2.1
  have H1 := Lib.hid (And.intro hb1 (And.intro hcur (And.intro (show cur.toList.length = n * 1 by simpa using hcs) hgx1)))
  clear hown hgr hb1 hcur hcs hgx1 hs1
  have hc1 := copy_src gx X m0 1 (by rw [← HM.out]; exact Nat.min_le_left 1 n) [] w1 (by simpa using H1.out.2.2.2)
  have hc2 : 0 + (List.replicate m0 X).flatten.length ≤ cur.toList.length := by
    rw [flat_rep H.out.1, H1.out.2.2.1, Nat.zero_add]
    exact Nat.mul_le_mul_right _ (by rw [← HM.out]; exact Nat.min_le_right 1 n)
  have HC := Lib.hid (And.intro hc1 hc2)
  clear hc1 hc2
  go_wp2_with ((refine wpList_copyS rfl _ _ 35 35 rfl 3 1 Tryd.underlying35 infoRsInt _ _ _ _ _ _ rfl rfl w.heap.size 0 cur.toList 3 (by simpa using H1.out.2.1) (List.replicate m0 X).flatten (by rw [HM.out]; exact flat_rep H.out.1 _) (fun _ => ⟨rfl, _, rfl, HC.out.1⟩) (by decide) HC.out.2 (H.out.2.2 _) m0 HM.out ?_))
  intro w2 HG2 hgr2 hs2
  have hm : m0 ≤ n := by rw [← HM.out]; exact Nat.min_le_right 1 n
  have hm0 : 0 < n → 0 < m0 := fun h => by rw [← HM.out]; show 0 < min 1 n; omega
  obtain ⟨R, hR1, hR2⟩ := rep_splice (X := X) H.out.1 (m := 0) (n := n) (R := cur.toList) (by rw [H1.out.2.2.1, Nat.sub_zero]) hm
  simp only [List.replicate_zero, List.flatten_nil, List.nil_append, Nat.zero_mul, Nat.zero_add] at hR1 hR2
  have hb2 : Below w.heap.size w w2 := H1.out.1.grown hgr2 H1.out.1.size (fun k e => by cases e; exact Nat.le_refl _)
  have hc2 := HG2.out
  rw [hR1] at hc2
  have H2 := Lib.hid (And.intro hb2 (And.intro hc2 hR2))
  clear HG2 hgr2 hs2 hR1 hR2 hb2 hc2
  go_wp2_with fail
  go_loopw [8] (fun s8 wr => RepRel w 3 1 n X s8 wr) (fun s8 _ => n - (intOf s8).toNat)
  case atStart => exact ⟨m0, R, rfl, hm, hm0, H2.out.1, H2.out.2.1, H2.out.2.2⟩
  case round =>
    obtain ⟨m, R, rfl, hmn, hmp, hBr, hcr, hRl⟩ := hrel
    have HR := Lib.hid (And.intro hBr (And.intro hcr (And.intro hRl hmp)))
    clear hBr hcr hRl hmp H2 H1 hm hm0
    by_cases hlt : m < n
    · obtain ⟨k, hk⟩ : ∃ k, k = Nat.min m (n - m) := ⟨_, rfl⟩
      have hmp := HR.out.2.2.2 (by omega)
      have hkb : 0 < k ∧ k ≤ m ∧ k ≤ n - m := by have hk' : k = min m (n - m) := hk; omega
      obtain ⟨hk1, hk2, hk3⟩ := hkb
      have HK := Lib.hid hk
      clear hk
      have hi1 : (0 : Int) ≤ (m : Int) := by omega
      have hi2 : (m : Int) ≤ (n : Int) := by omega
      have hw9 : IntKind.i64.wrap ((m : Int) + (k : Int)) = (m : Int) + (k : Int) := IntWalk.i64_in _ (by omega)
      go_wp2_with fail
      have hsrc := copy_src w.heap.size X k m hk2 R wr.drew HR.out.2.1
      have hfit : m * 1 + (List.replicate k X).flatten.length ≤ ((List.replicate m X).flatten ++ R).length := by
        rw [List.length_append, flat_rep H.out.1, flat_rep H.out.1, HR.out.2.2.1]
        exact Nat.add_le_add_left (Nat.mul_le_mul_right _ hk3) _
      have HS := Lib.hid (And.intro hsrc hfit)
      clear hsrc hfit
      go_region_law ((refine step_copyS (by rfl) (.tmp 41) (.tmp 44) 35 35 (by rfl) 3 1 Tryd.underlying35 infoRsInt (if n = m then some ⟨w.heap.size, 0, none⟩ else some ⟨w.heap.size, m, none⟩) (some ⟨w.heap.size, 0, none⟩) (n - m) (n - m) m n (by simp [Act.eval, Act.put]) (by simp [Act.eval, Act.put]) w.heap.size (m * 1) ((List.replicate m X).flatten ++ R) 3 HR.out.2.1 (List.replicate k X).flatten (by rw [← HK.out]; exact flat_rep H.out.1 _) (fun _ => ⟨by rw [if_neg (by omega)] <;> simp, _, rfl, HS.out.1⟩) (by decide) HS.out.2 (H.out.2.2 _) k HK.out.symm ?_; intro w3 HG3 hgr3 hs3))
      obtain ⟨R', hR1, hR2⟩ := rep_splice (X := X) H.out.1 (m := m) (n := n) (R := R) HR.out.2.2.1 hk3
      have hc3 := HG3.out
      rw [hR1] at hc3
      have hb3 : Below w.heap.size w w3 := (HR.out.1.drew).grown hgr3 HR.out.1.size (fun k e => by cases e; exact Nat.le_refl _)
      have H3 := Lib.hid (And.intro hb3 (And.intro hc3 hR2))
      clear HG3 hgr3 hs3 hR1 hR2 hb3 hc3
      go_wp2_with fail
      go_roundw
      case rel => exact ⟨m + k, R', by go_num, by omega, fun _ => by omega, H3.out.1, H3.out.2.1, H3.out.2.2⟩
      case measure => simp [intOf]; omega
    · obtain rfl : m = n := by omega
      go_wp2_with fail
      go_ret
      refine ⟨.slice (some ⟨w.heap.size, 0, none⟩) m m, rfl, ⟨⟨?_, .inr ⟨w.heap.size, m, ((List.replicate m X).flatten ++ R).toArray, by rw [List.length_replicate], Nat.le_refl _, HR.out.2.1, by rw [List.length_replicate]; exact Nat.le_refl _, by unfold maxLen; omega, ?_, ?_⟩⟩, fun c hc => by rw [(List.mem_replicate.1 hc).2]; exact H.out.1⟩, HR.out.1⟩
      · rw [List.length_replicate]; exact flat_rep H.out.1 _
      · have h9 := flat_rep H.out.1 m
        have h8 := HR.out.2.2.1
        rw [List.size_toArray, List.length_append, h9, h8]; omega
      · rw [List.length_replicate]
        exact List.take_left' (flat_rep H.out.1 m)
end Go.Proofs.YthclpabmbhpohaaDoor
namespace Go.Proofs.YthclpabmbhpohaaDoor
open Go.RowKit
set_option linter.unusedVariables false
/-- What Match tells: the best match, is there one, the steps. -/
def MatchPost (s : Rn) (w : World) (e : Ending) (w' : World) : Prop :=
  ∃ v, e = .returned (.tuple #[v, .bool s.best.isSome, .int .i64 s.steps]) ∧ (∃ A c, v = .slice A (s.best.getD []).length c ∧ (s.best.getD []).length ≤ c ∧ c ≤ maxLen ∧ Arr (fun _ => True) w' 1 (IntC .i64) A (s.best.getD [])) ∧ Below w.heap.size w w'
def noRn : Rn := ⟨0, none, 0, [], false⟩
/-- What Match tells of any program. -/
def matchOf (p : Pg) (rs : List (Int × Int)) (lg : Bool) : Rn := if admitsB p = true then matchS p rs lg else noRn
theorem noRn_post (w w' : World) (h : Below w.heap.size w w') : MatchPost noRn w (.returned (.tuple #[.slice none 0 0, .bool false, .int .i64 0])) w' := ⟨_, rfl, ⟨none, 0, rfl, Nat.le_refl _, Nat.zero_le _, Arr.nil⟩, h⟩
set_option maxRecDepth 100000 in
set_option maxHeartbeats 1000000 in
theorem match_no (ok : Nat → Prop) (w : World) (p : Pg) (ps : List Value) (hp : PgC ok w p ps) (hN : p.ins.length ≤ 140737488351232) (hset : ∀ x ∈ p.ins, x.set.length ≤ 1000000000) (ia : Addr) (lg : Bool) (hA : admitsB p = false) :
    Calls Tryd.prog 25 #[.agg ps.toArray, .pointer (some ia), .bool lg] w (MatchPost noRn w) := by
  have hB := below_al (Below.refl w.heap.size w) (.cells ps.toArray 28)
  have had := admits_any ok _ p ps (hp.below hB) hN hset
  rw [hA] at had
  obtain ⟨A, c, rfl, p1, p2, _⟩ := hp
  have HB := Lib.hid hB
  clear hB
  go_enter Tryd.func25, Tryd.ntmps25
  go_wp2_with fail
  refine had.mono ?_
  clear had
  rintro e w1 ⟨rfl, hb1⟩
  dsimp only
  have H1 := Lib.hid (below_and hb1 HB.out)
  clear hb1
  go_wp2_with fail
  go_ret3
  exact noRn_post _ _ H1.out
theorem RnAt.setNx {W : World} {G : Nat} {u0 u1 u2 : Value} {ia : Addr} {lg : Bool} {bv nv : Value} {s : Rn} (h : RnAt W G u0 u1 u2 ia lg bv nv s) (n : Int) : RnAt (W.setCell ⟨G, 7, none⟩ (.int .i64 n)) G u0 u1 u2 ia lg bv nv ⟨s.steps, s.best, n, s.nf, s.stop⟩ :=
  ⟨by rw [heap_set0 h.blk 7]; simp, h.best.grown (grown_set0 W G 7 _), h.nf.grown (grown_set0 W G 7 _)⟩
theorem hC_in {p : Pg} {G : Nat} {u0 u1 u2 : Value} {ia : Addr} {rs : List (Int × Int)} {w0 wr : World} (C : Ctx p G u0 u1 u2 ia rs w0) (h : Below G w0 wr) : InpC (fun k => k < G) wr ia rs := C.inp.move (fun b hb _ => ⟨h.block b hb, hb⟩)
set_option maxRecDepth 100000 in
set_option maxHeartbeats 4000000 in
theorem match_yes (ok : Nat → Prop) (w : World) (p : Pg) (ps : List Value) (hp : PgC ok w p ps) (hset : ∀ x ∈ p.ins, x.set.length ≤ 1000000000) (ia : Addr) (rs : List (Int × Int)) (hin : InpC ok w ia rs) (hrs : rs.length ≤ 1000000) (hr1 : 1 ≤ rs.length) (lg : Bool) (hA : admitsB p = true) :
    Calls Tryd.prog 25 #[.agg ps.toArray, .pointer (some ia), .bool lg] w (MatchPost (matchS p rs lg) w) := by
  have h0 : checkS rightR p = 0 := by unfold admitsB at hA; simp only [Bool.and_eq_true, beq_iff_eq] at hA; exact hA.1
  have hAdm : admG p (simpleW meetB un2 p) (p.ins.length + 1) 0 [p.start] = true := by unfold admitsB admW at hA; simp only [Bool.and_eq_true] at hA; exact hA.2.2
  have hk := check_ok h0
  have hl := check_leads h0
  have hT := adm_leads hl hk.2.2.1 hAdm
  obtain ⟨T, hTs, hTc⟩ := hT
  have hB := below_al (Below.refl w.heap.size w) (.cells ps.toArray 28)
  have had := admits_any ok _ p ps (hp.below hB) (by omega) hset
  rw [hA] at had
  have hpg : PgC (fun k => k < w.heap.size) w p ps := hp.old.move fun b hb hlt => ⟨rfl, hb.2⟩
  have hinp : InpC (fun k => k < w.heap.size) w ia rs := hin.move fun b hb hlt => ⟨rfl, hlt⟩
  obtain ⟨A, c, rfl, p1, p2, _⟩ := hp
  have hx := heap_new1 w (.cells #[.slice A p.ins.length c, .int .i64 p.start, .int .i64 p.caps] 28)
  obtain ⟨R, hR⟩ : ∃ R, matchS p rs lg = R := ⟨_, rfl⟩
  rw [hR]
  obtain ⟨n, hn⟩ := Int.eq_ofNat_of_zero_le (show 0 ≤ p.caps by omega)
  have HH := Lib.hid (And.intro hB (And.intro hx (And.intro hpg (And.intro hinp (And.intro hR (And.intro hk (And.intro hTs (And.intro hTc (And.intro h0 hn)))))))))
  have hn2 : n ≤ 4002 ∧ 2 ≤ n := by omega
  clear hB hx hpg hinp hR hk hTs hTc hAdm hl h0 hA hin hn
  go_enter Tryd.func25, Tryd.ntmps25
  go_wp2_with fail
  refine had.mono ?_
  clear had
  rintro e w1 ⟨rfl, hb1⟩
  dsimp only
  have h1 := (hb1.block w.heap.size (by simp)).trans HH.out.2.1
  obtain ⟨q0, q1, q2⟩ := cells3 h1
  rw [HH.out.2.2.2.2.2.2.2.2.2] at q2
  have hsz := heap_lt h1
  have H1 := Lib.hid (And.intro (below_and hb1 HH.out.1) h1)
  clear hb1 h1
  go_wp2_with fail
  have hrep := repInt ((w1.alloc (.cells #[.slice A p.ins.length c, .int .i64 p.start, .int .i64 n, .pointer (some ia), .bool lg, .int .i64 0, .slice none 0 0, .int .i64 0, .slice none 0 0, .bool false] 92)).alloc (.cells #[.int .i64 (-1)] 3)) (w1.heap.size + 1) n [.int .i64 (-1)] rfl (one_i64 _) (heap_new2 w1 _ _) (by omega)
  refine hrep.mono ?_
  clear hrep
  rintro e w2 ⟨v2, rfl, hown, hb2⟩
  dsimp only
  have hrepl : List.replicate n [Value.int .i64 (-1)] = (List.replicate n (-1 : Int)).map i64C := by simp [i64C]
  rw [hrepl] at hown
  have hcap : p.caps = (n : Int) := HH.out.2.2.2.2.2.2.2.2.2
  have hG2 : w2.heap[w1.heap.size]? = some (.cells #[.slice A p.ins.length c, .int .i64 p.start, .int .i64 n, .pointer (some ia), .bool lg, .int .i64 0, .slice none 0 0, .int .i64 0, .slice none 0 0, .bool false] 92 (0, 0)) := (hb2.block _ (by simp; omega)).trans ((Below.heap_alloc _ _ _ (by simp)).trans (heap_new1 w1 _))
  obtain ⟨g, cg, rfl⟩ : ∃ g cg, v2 = .slice (some ⟨g, 0, none⟩) n cg := by
    rcases hown.1.2 with ⟨rfl, h9⟩ | ⟨g, cap, cur, rfl, _⟩
    · exfalso
      obtain ⟨A3, c3, he, _⟩ := hown.shape
      simp only [Value.slice.injEq, List.length_map, List.length_replicate] at he
      omega
    · exact ⟨g, cap, by rw [List.length_map, List.length_replicate]⟩
  have hgn := (hown.lt g rfl).1
  simp only [World.size_alloc] at hgn
  obtain ⟨cs2, hk2⟩ := own_blk hown rfl
  have hcell0 : ∃ u, w2.cell? ⟨g, 0, none⟩ = some u := by
    obtain ⟨ad9, e9, hc9⟩ := ints_at (ownI64_arr0 hown) 0 (by simp; omega)
    cases e9
    exact ⟨_, by simpa [Addr.add] using hc9⟩
  obtain ⟨u9, hcell0⟩ := hcell0
  have hgf : w2.frozen? ⟨g, 0, none⟩ = false := frozenOf hk2 0
  have hng := heap_lt hk2
  have hGg : (g = w1.heap.size) = False := by simp; omega
  have hGg2 : (w1.heap.size = g) = False := by simp; omega
  have hwG : w.heap.size < w1.heap.size := hsz
  have hgw : (g = w.heap.size) = False := by simp; omega
  have hgw2 : (w.heap.size = g) = False := by simp; omega
  have hB2 : Below w1.heap.size w1 w2 := (below_al (below_al (Below.refl _ _) _) _).trans (hb2.mono (by simp; omega))
  have hb3 := (hB2.block w.heap.size hsz).trans H1.out.2
  clear q0 q1 q2
  obtain ⟨q0, q1, q2⟩ := cells3 hb3
  have ny := heap_lt hb3
  have y7 : w2.cell? ⟨w1.heap.size, 7, none⟩ = some (.int .i64 0) := by rw [cell_of_blk hG2]; rfl
  have y8 : w2.cell? ⟨w1.heap.size, 8, none⟩ = some (.slice none 0 0) := by rw [cell_of_blk hG2]; rfl
  have yf7 := frozenOf hG2 7
  have yf8 := frozenOf hG2 8
  have hGl := heap_lt hG2
  have H2 := Lib.hid (And.intro hown (And.intro hB2 (And.intro hG2 (And.intro hb3 hcap))))
  clear hown hB2 hG2 hb3 hb2 hk2 hcap hrepl
  go_wp2_with fail
  have hZ : ∃ bv nv, RnAt (((w2.setCell ⟨g, 0, none⟩ (.int .i64 0)).setCell ⟨w1.heap.size, 7, none⟩ (.int .i64 p.start)).setCell ⟨w1.heap.size, 8, none⟩ (.slice (some ⟨g, 0, none⟩) n cg)) w1.heap.size (.slice A p.ins.length c) (.int .i64 p.start) (.int .i64 p.caps) ia lg bv nv ⟨0, none, p.start, fit0 p, false⟩ := by
    obtain ⟨hown, hB2, hG2, hb3, hcap⟩ := H2.out
    have h8 : RnAt (w2.setCell ⟨g, 0, none⟩ (.int .i64 0)) w1.heap.size (.slice A p.ins.length c) (.int .i64 p.start) (.int .i64 p.caps) ia lg (.slice none 0 0) (.slice none 0 0) ⟨0, none, 0, [], false⟩ :=
      ⟨by rw [hcap]; exact (set_ne0 _ _ (by show w1.heap.size ≠ g; omega)).trans hG2, rfl, ⟨none, 0, rfl, Nat.le_refl _, Nat.zero_le _, Arr.nil⟩⟩
    have h9 := owns_put (l := List.replicate n (-1 : Int)) (g := g) (c := cg) (by simpa using hown) 0 0
    have h10 : FitL (w2.setCell ⟨g, 0, none⟩ (.int .i64 0)) w1.heap.size (.slice (some ⟨g, 0, none⟩) n cg) (fit0 p) := by
      have e : fit0 p = (List.replicate n (-1 : Int)).set 0 0 := by unfold fit0; rw [hcap]; rfl
      rw [e]
      have := owns_fit (G := w1.heap.size) h9 (by first | omega | (simp only [World.size_alloc]; omega))
      simpa using this
    exact ⟨_, _, h8.setNext p.start h10⟩
  have hBZ : Below w1.heap.size w1 (((w2.setCell ⟨g, 0, none⟩ (.int .i64 0)).setCell ⟨w1.heap.size, 7, none⟩ (.int .i64 p.start)).setCell ⟨w1.heap.size, 8, none⟩ (.slice (some ⟨g, 0, none⟩) n cg)) :=
    (((H2.out.2.1.setCell (p := ⟨g, 0, none⟩) (by show w1.heap.size ≤ g; omega) _).setCell (p := ⟨w1.heap.size, 7, none⟩) (Nat.le_refl _) _).setCell (p := ⟨w1.heap.size, 8, none⟩) (Nat.le_refl _) _)
  have hC : Ctx p w1.heap.size (.slice A p.ins.length c) (.int .i64 p.start) (.int .i64 p.caps) ia rs w1 :=
    ⟨HH.out.2.2.1.move (fun b hb hlt => ⟨H1.out.1.block b hb, by omega⟩), HH.out.2.2.2.1.move (fun b hb hlt => ⟨H1.out.1.block b hb, by omega⟩), Nat.le_refl _, HH.out.2.2.2.2.2.2.2.2.1, hrs⟩
  have hwalk := walk_all p w1.heap.size _ _ _ ia rs lg w1 hC (p.ins.length + 1)
  obtain ⟨D, hD⟩ : ∃ D, p.ins.length * (1 + n) = D := ⟨_, rfl⟩
  have hDl : D ≤ 40030000 := by rw [← hD]; exact Nat.le_trans (Nat.mul_le_mul HH.out.2.2.2.2.2.1.2.1 (show 1 + n ≤ 4003 by omega)) (by omega)
  have HD := Lib.hid hD
  have HC := Lib.hid (And.intro hC hwalk)
  have HZ := Lib.hid (And.intro hZ hBZ)
  have hcapn : p.caps = (n : Int) := H2.out.2.2.2.2
  have HCN := Lib.hid hcapn
  clear hD hC hwalk hZ hBZ q0 q1 q2 y7 y8 yf7 yf8 hcell0 hgf hng hGg hGg2 hgw hgw2 hcapn
  go_loopg [11] (rs.length + 1) (fun gm s11 wr => ∃ (j : Nat) (s : Rn) (bv nv : Value), s11 = .int .i64 j ∧ j ≤ rs.length ∧ rs.length + 1 - j ≤ gm ∧ RnAt wr w1.heap.size (.slice A p.ins.length c) (.int .i64 p.start) (.int .i64 p.caps) ia lg bv nv s ∧ Below w1.heap.size w1 wr ∧ (s.next < 0 ∨ s.next ∈ T) ∧ 0 ≤ s.steps ∧ s.steps ≤ ((j * D : Nat) : Int) ∧ (s.nf.length : Int) = p.caps ∧ (∀ b, s.best = some b → (b.length : Int) = p.caps) ∧ runL p (runeAt rs) (atOf rs) lg ((rs.length : Int) - 1) (rs.length - j) j s = R)
  case atStart =>
    obtain ⟨⟨bv, nv, hz⟩, hbz⟩ := HZ.out
    refine ⟨0, _, bv, nv, rfl, by omega, by omega, hz, hbz, .inr HH.out.2.2.2.2.2.2.1, Int.le_refl _, by simp, ?_, fun b hb => (by cases hb), HH.out.2.2.2.2.1⟩
    have := HCN.out
    simp [fit0]; omega
  case round =>
    obtain ⟨j, s, bv, nv, rfl, hj, hgm, hrn, hBr, hnx, hs0, hs1, hnf, hbst, hrun⟩ := hrel
    have hjD : j * D ≤ 1000000 * 40030000 := Nat.mul_le_mul (by omega) hDl
    obtain ⟨c0, c3, c4, c5, c6, c7, c8, c9, fz, ng⟩ := hrn.cells
    have hinr := hC_in HC.out.1 hBr
    have hlen := len_any (fun _ => True) wr ia rs (hinr.move (fun b _ _ => ⟨rfl, trivial⟩))
    have fz7 := fz 7
    have fz9 := fz 9
    have HJ := Lib.hid (And.intro hrn (And.intro hBr (And.intro hnx (And.intro hs1 (And.intro hnf (And.intro hbst (And.intro hrun hgm)))))))
    by_cases hneg : s.next < 0
    · have hRs : s = R := by
        rw [← hrun]
        cases hm : rs.length - j with
        | zero => rfl
        | succ m => rw [runL, if_pos (.inl hneg)]
      have HRS := Lib.hid hRs
      clear hrn hBr hnx hs1 hnf hbst hrun hgm hinr hRs
      have hd : decide (0 ≤ s.next) = false := by simp; omega
      clear hlen fz7 fz9 fz
      have hbv := HJ.out.1.best
      cases hbb : s.best with
      | none =>
        rw [hbb] at hbv
        obtain rfl : bv = .slice none 0 0 := hbv
        have HBB := Lib.hid hbb
        clear hbb
        go_wp2_with fail
        go_quiet (fail)
        go_wp2_with fail
        go_ret3
        rw [← HRS.out]
        exact ⟨.slice none 0 0, by rw [HBB.out]; rfl, ⟨none, 0, by rw [HBB.out]; rfl, by rw [HBB.out]; exact Nat.le_refl _, Nat.zero_le _, by rw [HBB.out]; exact Arr.nil⟩, below_drewN (H1.out.1.trans (HJ.out.2.1.mono H1.out.1.size)) _⟩
      | some l =>
        rw [hbb] at hbv
        obtain ⟨⟨A9, c9, rfl, hb1, hb2, hb3⟩, hb4⟩ := hbv
        obtain ⟨ad9, rfl, _⟩ := ints_at hb3 0 (by omega)
        have HBB := Lib.hid (And.intro hbb hb3)
        clear hbb hb3
        go_wp2_with fail
        go_quiet (fail)
        go_wp2_with fail
        go_ret3
        rw [← HRS.out]
        exact ⟨.slice (some ad9) l.length c9, by rw [HBB.out.1]; rfl, ⟨some ad9, c9, by rw [HBB.out.1]; rfl, by rw [HBB.out.1]; exact hb1, hb2, by rw [HBB.out.1]; exact HBB.out.2.move (fun b _ _ => ⟨rfl, trivial⟩) (by omega)⟩, below_drewN (H1.out.1.trans (HJ.out.2.1.mono H1.out.1.size)) _⟩
    · have hd : decide (0 ≤ s.next) = true := by simp; omega
      by_cases hlast : (rs.length : Int) - 1 < j
      · have hRs : s = R := by
          rw [← hrun]
          rw [show rs.length - j = 0 by omega]; rfl
        have HRS := Lib.hid hRs
        clear hrn hBr hnx hs1 hnf hbst hrun hgm hinr hRs fz7 fz9 fz
        have hle2 : decide ((j : Int) ≤ (rs.length : Int) - 1) = false := by simp; omega
        go_wp2_with (go_at_call 15; refine hlen.mono ?_; clear hlen; rintro e w' ⟨rfl, rfl⟩)
        have hbv := HJ.out.1.best
        cases hbb : s.best with
        | none =>
          rw [hbb] at hbv
          obtain rfl : bv = .slice none 0 0 := hbv
          have HBB := Lib.hid hbb
          clear hbb
          go_wp2_with fail
          go_quiet (fail)
          go_wp2_with fail
          go_ret3
          rw [← HRS.out]
          exact ⟨.slice none 0 0, by rw [HBB.out]; rfl, ⟨none, 0, by rw [HBB.out]; rfl, by rw [HBB.out]; exact Nat.le_refl _, Nat.zero_le _, by rw [HBB.out]; exact Arr.nil⟩, below_drewN (H1.out.1.trans (HJ.out.2.1.mono H1.out.1.size)) _⟩
        | some l =>
          rw [hbb] at hbv
          obtain ⟨⟨A9, c9, rfl, hb1, hb2, hb3⟩, hb4⟩ := hbv
          obtain ⟨ad9, rfl, _⟩ := ints_at hb3 0 (by omega)
          have HBB := Lib.hid (And.intro hbb hb3)
          clear hbb hb3
          go_wp2_with fail
          go_quiet (fail)
          go_wp2_with fail
          go_ret3
          rw [← HRS.out]
          exact ⟨.slice (some ad9) l.length c9, by rw [HBB.out.1]; rfl, ⟨some ad9, c9, by rw [HBB.out.1]; rfl, by rw [HBB.out.1]; exact hb1, hb2, by rw [HBB.out.1]; exact HBB.out.2.move (fun b _ _ => ⟨rfl, trivial⟩) (by omega)⟩, below_drewN (H1.out.1.trans (HJ.out.2.1.mono H1.out.1.size)) _⟩
      · have hle2 : decide ((j : Int) ≤ (rs.length : Int) - 1) = true := by simp; omega
        have hpcT : s.next ∈ T := hnx.resolve_left hneg
        obtain ⟨hpc, hsimp, houts⟩ := HH.out.2.2.2.2.2.2.2.1 _ hpcT
        have hrun2 : runL p (runeAt rs) (atOf rs) lg ((rs.length : Int) - 1) (rs.length - (j + 1)) ((j + 1 : Nat) : Int) (placeS p (runeAt rs) (atOf rs) lg j s) = R := by
          rw [← hrun, show rs.length - j = (rs.length - (j + 1)) + 1 by omega, runL, if_neg (by omega)]; rfl
        have hgood := walkS_good (me := meetB) (un := un2) (p := p) (rn := runeAt rs) (av := atOf rs) (lg := lg) (p.ins.length + 1) s.next j s.nf ⟨s.steps, s.best, -1, s.nf, false⟩ ⟨[], [], [], 0⟩ hsimp hnf hnf hbst
        have hpot := walkS_pot (me := meetB) (un := un2) (runeAt rs) (atOf rs) lg (check_leads HC.out.1.chk) (1 + n) (p.ins.length + 1) s.next j s.nf ⟨s.steps, s.best, -1, s.nf, false⟩ ⟨[], [], [], 0⟩ hpc hsimp (by have := HCN.out; omega)
        have HG := Lib.hid (And.intro hrun2 (And.intro hgood (And.intro hpot (And.intro hpc (And.intro hsimp houts)))))
        clear hrn hBr hnx hs1 hnf hbst hrun hgm hinr hrun2 hgood hpot hpc hsimp houts hpcT
        go_wp2_with (go_at_call 15; refine hlen.mono ?_; clear hlen; rintro e w' ⟨rfl, rfl⟩)
        go_quiet (fail)
        have hr2 := HJ.out.1.below (below_drewN (Below.refl _ _) nq)
        have hB2 := below_drewN HJ.out.2.1 nq
        generalize wr.drewN nq = wq at *
        clear c0 c3 c4 c5 c6 c7 c8 c9 fz ng fz7 fz9
        obtain ⟨c0, c3, c4, c5, c6, c7, c8, c9, fz, ng⟩ := hr2.cells
        have fz7 := fz 7
        have fz9 := fz 9
        have HQ := Lib.hid (And.intro hr2 hB2)
        clear hr2 hB2 fz
        go_wp2_with fail
        have hY := (HQ.out.1.setNx (-1)).setStop false
        have hBY := (HQ.out.2.setCell (p := ⟨w1.heap.size, 7, none⟩) (Nat.le_refl _) (.int .i64 (-1))).setCell (p := ⟨w1.heap.size, 9, none⟩) (Nat.le_refl _) (.bool false)
        have hfY := HQ.out.1.nf.grown (grown_set (grown_set0 wq w1.heap.size 7 (.int .i64 (-1))) 9 (.bool false))
        have hpt : potR p (1 + s.nf.length) ⟨[], [], [], 0⟩ ⟨s.steps, s.best, -1, s.nf, false⟩ ≤ BIG := by
          unfold potR BIG
          simp only [leftN_nil]
          have e1 : 1 + s.nf.length = 1 + n := by have := HJ.out.2.2.2.2.1; have := HCN.out; omega
          rw [e1, HD.out]
          have := HJ.out.2.2.2.1
          omega
        refine (HC.out.2 s.next j s.nf nv ⟨s.steps, s.best, -1, s.nf, false⟩ ⟨[], [], [], 0⟩ _ _ _ HG.out.2.2.2.2.1 HG.out.2.2.2.1 (by omega) (by omega) hY hfY HJ.out.2.2.2.2.1 hBY hs0 hpt).mono ?_
        rintro e w5 ⟨rfl, ⟨bv5, nv5, h5⟩, hg5⟩
        dsimp only
        have HL := Lib.hid (And.intro h5 (hBY.trans (below_of_grown hg5 (by simp [World.setCell]; omega))))
        clear hY hBY hfY hpt h5 hg5
        go_wp2_with fail
        go_roundg (gk - 1)
        case measure => have := HJ.out.2.2.2.2.2.2.2; omega
        case rel =>
          obtain ⟨hrun2, hgood, hpot, hpc, hsimp, houts⟩ := HG.out
          refine ⟨j + 1, placeS p (runeAt rs) (atOf rs) lg j s, bv5, nv5, by go_num, by omega, by have := HJ.out.2.2.2.2.2.2.2; omega, HL.out.1, HL.out.2, ?_, Int.le_trans hs0 hpot.1, ?_, hgood.nf, hgood.best, hrun2⟩
          · rcases hgood.next with e | ⟨x, hx, e⟩
            · exact .inl (by show (walkS _ _ _ _ _ _ _ _ _).next < 0; rw [e]; show (-1 : Int) < 0; omega)
            · exact .inr (by show (walkS _ _ _ _ _ _ _ _ _).next ∈ T; rw [e]; exact houts x hx)
          · have h9 := hpot.2
            unfold potR at h9
            have h9 := Int.le_trans (Int.le_add_of_nonneg_right (Int.natCast_nonneg _)) h9
            simp only [leftN_nil] at h9
            rw [HD.out] at h9
            have h10 := HJ.out.2.2.2.1
            show (walkS _ _ _ _ _ _ _ _ _).steps ≤ _
            rw [Nat.add_mul, Nat.one_mul]
            omega
theorem match_any (ok : Nat → Prop) (w : World) (p : Pg) (ps : List Value) (hp : PgC ok w p ps) (hN : p.ins.length ≤ 140737488351232) (hset : ∀ x ∈ p.ins, x.set.length ≤ 1000000000) (ia : Addr) (rs : List (Int × Int)) (hin : InpC ok w ia rs) (hrs : rs.length ≤ 1000000) (hr1 : 1 ≤ rs.length) (lg : Bool) :
    Calls Tryd.prog 25 #[.agg ps.toArray, .pointer (some ia), .bool lg] w (MatchPost (matchOf p rs lg) w) := by
  unfold matchOf
  cases hA : admitsB p with
  | true => rw [if_pos rfl]; exact match_yes ok w p ps hp hset ia rs hin hrs hr1 lg hA
  | false => rw [if_neg (by simp)]; exact match_no ok w p ps hp hN hset ia lg hA
end Go.Proofs.YthclpabmbhpohaaDoor
namespace Go.Proofs.YthclpabmbhpohaaDoor
open Go.RowKit
set_option linter.unusedVariables false
def pHd : Pg := ⟨[⟨1, 0, 0, [], 0⟩, ⟨5, 0, 0, [], 1⟩], 1, 2⟩
def txA : ByteArray := ⟨#[97]⟩
theorem symsA : symsOf txA = [(97, 0), (-1, 1)] := by kernel_rfl
theorem adm_hd : admitsB pHd = true := by kernel_rfl
theorem adm_nil : admitsB ⟨[], 0, 0⟩ = false := by kernel_rfl
theorem match_hd : matchS pHd [(97, 0), (-1, 1)] false = ⟨2, some [0, 0], -1, [0, -1], true⟩ := by kernel_rfl
theorem matchOf_hd : matchOf pHd (symsOf txA) false = ⟨2, some [0, 0], -1, [0, -1], true⟩ := by unfold matchOf; rw [if_pos adm_hd, symsA, match_hd]
def insHd : List Value := [.int .i64 1, .int .i64 0, .int .i64 0, .slice none 0 0, .int .i64 0, .int .i64 5, .int .i64 0, .int .i64 0, .slice none 0 0, .int .i64 1]
theorem pg_hd (W : World) (b : Nat) (fr : Nat × Nat) (h : W.heap[b]? = some (.cells insHd.toArray 64 fr)) : PgC (fun k => k = b) W pHd [.slice (some ⟨b, 0, none⟩) 2 2, .int .i64 1, .int .i64 2] := by
  refine ⟨some ⟨b, 0, none⟩, 2, rfl, Nat.le_refl _, by unfold maxLen; omega, fun i x hx => ?_⟩
  have hadd : ∀ n, (⟨b, 0, none⟩ : Addr).add n = ⟨b, n, none⟩ := fun n => by unfold Addr.add; split <;> simp_all
  match i, hx with
  | 0, hx =>
    simp [pHd] at hx
    subst hx
    refine ⟨_, [.int .i64 1, .int .i64 0, .int .i64 0, .slice none 0 0, .int .i64 0], rfl, rfl, ⟨none, 0, rfl, Nat.le_refl _, Nat.zero_le _, Arr.nil⟩, rfl, fun j u hu => ?_⟩
    rw [hadd, cell_of_blk h]
    match j, hu with
    | 0, hu => exact hu
    | 1, hu => exact hu
    | 2, hu => exact hu
    | 3, hu => exact hu
    | 4, hu => exact hu
  | 1, hx =>
    simp [pHd] at hx
    subst hx
    refine ⟨_, [.int .i64 5, .int .i64 0, .int .i64 0, .slice none 0 0, .int .i64 1], rfl, rfl, ⟨none, 0, rfl, Nat.le_refl _, Nat.zero_le _, Arr.nil⟩, rfl, fun j u hu => ?_⟩
    rw [hadd, cell_of_blk h]
    match j, hu with
    | 0, hu => exact hu
    | 1, hu => exact hu
    | 2, hu => exact hu
    | 3, hu => exact hu
    | 4, hu => exact hu
theorem set_hd : ∀ x ∈ pHd.ins, x.set.length ≤ 1000000000 := by intro x hx; simp [pHd] at hx; rcases hx with rfl | rfl <;> simp
theorem textA (W : World) (b : Nat) (fr : Nat × Nat) (hb : W.heap[b]? = some (.cells #[.int .u8 97] 5 fr)) : TextC (fun _ => True) W (some ⟨b, 0, none⟩) txA := by
  intro i x hi
  have hadd : ∀ n, (⟨b, 0, none⟩ : Addr).add n = ⟨b, n, none⟩ := fun n => by unfold Addr.add; split <;> simp_all
  refine ⟨_, _, rfl, trivial, rfl, rfl, fun j u hj => ?_⟩
  rw [hadd, cell_of_blk hb]
  simp only [List.getElem?_singleton] at hj
  split at hj
  · rename_i h0
    subst h0
    cases hj
    change ([97] : List UInt8)[i]? = some x at hi
    rcases i with _ | i <;> simp at hi <;> subst hi <;> rfl
  · cases hj
def HeadPost15 (w : World) (e : Ending) (w' : World) : Prop := e = .returned (.bool true) ∧ Below w.heap.size w w'
set_option maxRecDepth 100000 in
set_option maxHeartbeats 2000000 in
theorem head15_any (w : World) : Calls Tryd.prog 21 #[] w (HeadPost15 w) := by
  have kc := fun (w : World) (C : Array Value) (n c : Nat) => Lib.run_convert_bytes_const (P := Tryd.prog) w 29 5 C n c Tryd.underlying29 Tryd.underlying5
  go_enter Tryd.func21, Tryd.ntmps21
  go_wp2_with fail
  obtain ⟨X, hX⟩ : ∃ X, ((w.alloc (.cells #[.int .i64 1, .int .i64 0, .int .i64 0, .slice none 0 0, .int .i64 0, .int .i64 5, .int .i64 0, .int .i64 0, .slice none 0 0, .int .i64 1] 64)).alloc (.cells #[.slice (some ⟨w.heap.size, 0, none⟩) 2 2, .int .i64 1, .int .i64 2] 28)) = X := ⟨_, rfl⟩
  have hXb : Below w.heap.size w X := by rw [← hX]; exact below_al (below_al (Below.refl _ _) _) _
  have hX0 : X.heap[w.heap.size]? = some (.cells insHd.toArray 64 (0, 0)) := by rw [← hX, Below.heap_alloc _ _ _ (by simp)]; exact heap_new1 _ _
  have hX1 : X.heap[w.heap.size + 1]? = some (.cells #[.slice (some ⟨w.heap.size, 0, none⟩) 2 2, .int .i64 1, .int .i64 2] 28 (0, 0)) := by rw [← hX]; exact heap_new2 _ _ _
  rw [hX]
  have HX := Lib.hid (And.intro hXb (And.intro hX0 hX1))
  clear hX hXb hX0 hX1
  refine wp_region_scr (fun W' => Below X.heap.size X W') [(true, 0, 10), (false, 1, 11), (false, 2, 12), (false, 3, 13), (false, 4, 14), (true, 5, 9), (true, 6, 15), (true, 7, 16), (true, 8, 17), (true, 9, 2), (true, 10, 3), (true, 11, 4)] (by kernel_rfl) (by kernel_rfl) (fun _ _ _ _ _ h => h) rfl (by kernel_rfl) ?_
  have HV := Lib.hid (show Below X.heap.size X X.drew from (Below.refl _ _).drew)
  refine Scr.take (v := .agg ([.slice (some ⟨w.heap.size, 0, none⟩) 2 2, .int .i64 1, .int .i64 2] : List Value).toArray) rfl rfl (yw_row 28 _ rfl (w.heap.size + 1) [.slice (some ⟨w.heap.size, 0, none⟩) 2 2, .int .i64 1, .int .i64 2] 28 rfl (by rfl) _ Tryd.underlying28 rfl (by kernel_rfl) (fun W hS => (hS.block _ (heap_lt HX.out.2.2)).trans HX.out.2.2)) HV.out ?_
  simp only [Act.put, List.setIfInBounds_toArray, List.set_cons_zero, List.set_cons_succ]
  refine Scr.run rfl (by rfl) (fun K hK => ?_)
  go_simp
  have hB1 : Below X.heap.size X (X.drew.alloc (.cells #[.int .u8 97] 5)) := (below_al (Below.refl _ X.drew) _ |> fun h => (Below.refl X.heap.size X).drew.trans h)
  refine hK _ _ hB1 ?_
  clear hK K HV
  have HV := Lib.hid hB1
  have kd : Sem.run Tryd.prog (convert 29 29 (.slice (some ⟨X.heap.size, 0, none⟩) 1 1)) (X.alloc (.cells #[.int .u8 97] 5)).drew = .ok (.slice (some ⟨X.heap.size, 0, none⟩) 1 1) (X.alloc (.cells #[.int .u8 97] 5 (1, 2))).drew := kc X.drew #[.int .u8 97] 1 1
  refine Scr.run rfl (by rfl) (fun K hK => ?_)
  go_simp
  have hB2 : Below X.heap.size X (X.alloc (.cells #[.int .u8 97] 5 (1, 2))).drew := (below_al (Below.refl _ X) _).drew
  refine hK _ _ hB2 ?_
  clear hK K HV kd
  have htx := text_small (fun _ => True) (X.alloc (.cells #[.int .u8 97] 5 (1, 2))).drew (some ⟨X.heap.size, 0, none⟩) 1 txA (textA _ _ _ (heap_new1 X _)) (by decide)
  have HB2 := Lib.hid hB2
  refine Scr.run rfl (by rfl) (fun K hK => ?_)
  go_simp
  refine htx.mono ?_
  clear htx
  rintro e w3 ⟨b3, rfl, hI, hb3⟩
  dsimp only
  have hB3 : Below X.heap.size X w3 := HB2.out.trans (hb3.mono HB2.out.size)
  refine hK _ _ hB3 ?_
  clear hK K hB2
  have hm := match_any (fun _ => True) w3 pHd _ ((pg_hd X _ _ HX.out.2.1).move (fun b hb hlt => ⟨hB3.block b hlt, trivial⟩)) (by decide) set_hd ⟨b3, 0, none⟩ (symsOf txA) (hI.move (fun b hb _ => ⟨rfl, trivial⟩)) (by rw [symsA]; decide) (by rw [symsA]; decide) false
  rw [matchOf_hd] at hm
  have HB3 := Lib.hid hB3
  clear hI hb3 hB3
  refine Scr.run rfl (by rfl) (fun K hK => ?_)
  go_simp
  refine hm.mono ?_
  clear hm
  rintro e w4 ⟨v4, rfl, ⟨A4, c4, rfl, h41, h42, h43⟩, hb4⟩
  dsimp only
  have hB4 : Below X.heap.size X w4 := HB3.out.trans (hb4.mono HB3.out.size)
  refine hK _ _ hB4 ?_
  clear hK K
  have HV := Lib.hid hB4
  simp only [Option.getD_some, List.length_cons, List.length_nil, Nat.zero_add, Nat.reduceAdd] at h41 h42 h43 ⊢
  obtain ⟨ad, rfl, z0⟩ := ints_at h43 0 (by decide)
  obtain ⟨ad', e', z1⟩ := ints_at h43 1 (by decide)
  cases e'
  have z0 : w4.cell? ad = some (.int .i64 0) := by simpa [Addr.add] using z0
  have z1 : w4.cell? ⟨ad.block, ad.off + 1, none⟩ = some (.int .i64 0) := by
    have h9 : ad.add 1 = ⟨ad.block, ad.off + 1, none⟩ := by unfold Addr.add; rw [if_neg (by decide)]
    rw [← h9]; exact z1
  have H4 := Lib.hid hB4
  clear h41 h42 h43 hb4 hB4
  refine Scr.take (v := .tuple #[.slice (some ad) 2 c4, .bool true, .int .i64 2]) rfl rfl (yw_pure (by rfl) (fun _ => by go_simp)) HV.out ?_
  simp only [Act.put, List.setIfInBounds_toArray, List.set_cons_zero, List.set_cons_succ]
  refine Scr.take (v := .slice (some ad) 2 c4) rfl rfl (yw_pure (by rfl) (fun _ => by go_simp)) HV.out ?_
  simp only [Act.put, List.setIfInBounds_toArray, List.set_cons_zero, List.set_cons_succ]
  refine Scr.take (v := .bool true) rfl rfl (yw_pure (by rfl) (fun _ => by go_simp)) HV.out ?_
  simp only [Act.put, List.setIfInBounds_toArray, List.set_cons_zero, List.set_cons_succ]
  refine Scr.take (v := .int .i64 2) rfl rfl (yw_pure (by rfl) (fun _ => by go_simp)) HV.out ?_
  simp only [Act.put, List.setIfInBounds_toArray, List.set_cons_zero, List.set_cons_succ]
  refine Scr.take (v := .slice (some ad) 2 c4) rfl rfl (yw_pure (by rfl) (fun _ => by go_simp)) HV.out ?_
  simp only [Act.put, List.setIfInBounds_toArray, List.set_cons_zero, List.set_cons_succ]
  refine Scr.take (v := .bool true) rfl rfl (yw_pure (by rfl) (fun _ => by go_simp)) HV.out ?_
  simp only [Act.put, List.setIfInBounds_toArray, List.set_cons_zero, List.set_cons_succ]
  refine Scr.take (v := .int .i64 2) rfl rfl (yw_pure (by rfl) (fun _ => by go_simp)) HV.out ?_
  simp only [Act.put, List.setIfInBounds_toArray, List.set_cons_zero, List.set_cons_succ]
  simp only [Scr]
  have ha1 := fun (W : World) (hW : Below X.heap.size X W) => admits_any (fun _ => True) W pHd _ ((pg_hd X _ _ HX.out.2.1).move (fun b hb hlt => ⟨hW.block b hlt, trivial⟩)) (by decide) set_hd
  have ha2 := fun (W : World) => admits_any (fun _ => True) W ⟨[], 0, 0⟩ [.slice none 0 0, .int .i64 0, .int .i64 0] ⟨none, 0, rfl, Nat.le_refl _, Nat.zero_le _, Arr.nil⟩ (by decide) (fun x hx => by simp at hx)
  rw [adm_hd] at ha1
  rw [adm_nil] at ha2
  have hb9 := (H4.out.block _ (heap_lt HX.out.2.2)).trans HX.out.2.2
  obtain ⟨q0, q1, q2⟩ := cells3 hb9
  have nq := heap_lt hb9
  have ha1 := ha1 w4 H4.out
  clear hb9
  go_wp2_with fail
  refine ha1.mono ?_
  clear ha1
  rintro e w5 ⟨rfl, hb5⟩
  dsimp only
  have hc5 : ∀ p : Addr, p.block < w4.heap.size → w5.cell? p = w4.cell? p := fun p hp => hb5.cell hp
  have z0 := (hc5 _ (World.block_lt_of_cell? w4 _ z0)).trans z0
  have z1 := (hc5 _ (World.block_lt_of_cell? w4 _ z1)).trans z1
  have H5 := Lib.hid (below_and hb5 (below_then HX.out.1 HX.out.1.size H4.out))
  clear hb5 hc5 q0 q1 q2 nq
  go_wp2_with fail
  refine (ha2 _).mono ?_
  rintro e w6 ⟨rfl, hb6⟩
  dsimp only
  have H6 := Lib.hid (below_and hb6 H5.out)
  clear hb6
  go_wp2_with fail
  go_ret
  exact ⟨rfl, H6.out⟩
end Go.Proofs.YthclpabmbhpohaaDoor
namespace Go.Proofs.YthclpabmbhpohaaDoor
open Go.RowKit
set_option linter.unusedVariables false
/-- How much a program weighs. -/
def heftP (l : List In) : Nat := (l.map fun x => x.set.length).sum
def longB (p : Pg) : Bool := decide (2000 < p.ins.length + heftP p.ins)
theorem heft_take {l : List In} {i : Nat} (h : i < l.length) : heftP (l.take (i + 1)) = heftP (l.take i) + l[i].set.length := by
  unfold heftP
  rw [List.take_succ_eq_append_getElem h, List.map_append, List.sum_append]
  rfl
theorem heft_le (l : List In) (i : Nat) : heftP (l.take i) ≤ heftP l := by
  have : l = l.take i ++ l.drop i := (List.take_append_drop i l).symm
  conv => rhs; rw [this]
  unfold heftP
  rw [List.map_append, List.sum_append]
  omega
set_option maxRecDepth 100000 in
set_option maxHeartbeats 1000000 in
theorem long12_any (w : World) (p : Pg) (A : Option Addr) (c : Nat) (hp : PgC (fun k => k < w.heap.size) w p [.slice A p.ins.length c, .int .i64 p.start, .int .i64 p.caps]) (hN : p.ins.length ≤ 140737488351232) (hs : ∀ x ∈ p.ins, x.set.length ≤ 140737488351232) :
    Calls Tryd.prog 22 #[.agg #[.slice A p.ins.length c, .int .i64 p.start, .int .i64 p.caps]] w fun e w' => e = .returned (.bool (longB p)) ∧ Below w.heap.size w w' := by
  have hB := below_al (Below.refl w.heap.size w) (.cells #[.slice A p.ins.length c, .int .i64 p.start, .int .i64 p.caps] 28)
  have hx := heap_new1 w (.cells #[.slice A p.ins.length c, .int .i64 p.start, .int .i64 p.caps] 28)
  have hxn := heap_lt hx
  obtain ⟨q0, q1, q2⟩ := cells3 hx
  have HP := Lib.hid (And.intro hp (And.intro hs hB))
  clear hp hs hB hx
  go_enter Tryd.func22, Tryd.ntmps22
  go_wp2_with fail
  go_loopg [3, 4] (p.ins.length + 1) (fun g s3 s4 wr => wr = w.alloc (.cells #[.slice A p.ins.length c, .int .i64 p.start, .int .i64 p.caps] 28) ∧ ∃ (i n : Nat), s3 = .int .i64 n ∧ s4 = .int .i64 i ∧ i ≤ p.ins.length ∧ p.ins.length + 1 - i ≤ g ∧ n = p.ins.length + heftP (p.ins.take i) ∧ n ≤ 140737488351232 + 2000)
  case atStart => exact ⟨rfl, 0, p.ins.length, rfl, rfl, Nat.zero_le _, by omega, by simp [heftP], by omega⟩
  case round =>
    obtain ⟨rfl, i, n, rfl, rfl, hi, hg, hn, hnb⟩ := hrel
    by_cases hil : i < p.ins.length
    · have hd : decide ((i : Int) < (p.ins.length : Int)) = true := decide_eq_true (by omega)
      by_cases hn2 : n ≤ 2000
      · have hd2 : decide ((n : Int) ≤ 2000) = true := decide_eq_true (by omega)
        obtain ⟨ad, c', B, d, he, _, _, _, _, _, hk⟩ := ins_at HP.out.1 (Nat.le_refl _) i hil
        simp only [List.cons.injEq, Value.slice.injEq] at he
        obtain ⟨⟨rfl, _, rfl⟩, _⟩ := he
        obtain ⟨_, _, _, _, k3, _⟩ := hk _ HP.out.2.2
        have hsl := HP.out.2.1 _ (List.getElem_mem hil)
        have htk := heft_take hil
        generalize p.ins[i] = x at *
        obtain ⟨m, hm⟩ : ∃ m, x.set.length = m := ⟨_, rfl⟩
        rw [hm] at k3 hsl htk
        have HN := Lib.hid (And.intro hn htk)
        clear hn htk hk
        go_wp2_with fail
        go_roundg (gk - 1)
        case measure => omega
        case rel => exact ⟨rfl, i + 1, n + m, by go_num, by go_num, by omega, by omega, by have := HN.out.1; have := HN.out.2; omega, by omega⟩
      · have hd2 : decide ((n : Int) ≤ 2000) = false := decide_eq_false (by omega)
        have hd3 : decide ((2000 : Int) < (n : Int)) = true := decide_eq_true (by omega)
        have HR : Hid (longB p = true) := Lib.hid (decide_eq_true (by have := heft_le p.ins i; omega))
        go_wp2_with fail
        go_ret
        exact ⟨by rw [HR.out]; rfl, HP.out.2.2⟩
    · have hd : decide ((i : Int) < (p.ins.length : Int)) = false := decide_eq_false (by omega)
      have hie : p.ins.take i = p.ins := List.take_of_length_le (by omega)
      have HR : Hid (longB p = decide (2000 < n)) := Lib.hid (by rw [hie] at hn; unfold longB; rw [hn])
      have hd3 : decide ((2000 : Int) < (n : Int)) = decide (2000 < n) := decide_eq_decide.2 (by omega)
      clear hie hn
      go_wp2_with fail
      go_ret
      exact ⟨by rw [HR.out]; rfl, HP.out.2.2⟩
end Go.Proofs.YthclpabmbhpohaaDoor
namespace Go.Proofs.YthclpabmbhpohaaDoor
open Go.RowKit
set_option linter.unusedVariables false
theorem heft_mem {l : List In} {x : In} (h : x ∈ l) : x.set.length ≤ heftP l := by
  unfold heftP
  induction l with
  | nil => cases h
  | cons y l ih =>
    rw [List.map_cons, List.sum_cons]
    rcases List.mem_cons.1 h with rfl | h
    · omega
    · have := ih h; omega
theorem adms_same (p : Pg) : admitsB p = admB15 p := by
  unfold admitsB admB15
  by_cases h0 : checkS rightR p = 0
  · have hk := check_ok h0
    rw [adm_same (me := meetB) (me' := meetB) (un := un2) (has := hasB) (check_leads h0) hk.2.2.1 meetB_iff meetB_iff (fun a b c => has_union a b c) has_nil]
  · rw [show (checkS rightR p == 0) = false by simpa using h0]; rfl
set_option maxRecDepth 100000 in
set_option maxHeartbeats 2000000 in
theorem oneAdm_any (w : World) (p : Pg) (A : Option Addr) (c : Nat) (hp : PgC (fun k => k < w.heap.size) w p [.slice A p.ins.length c, .int .i64 p.start, .int .i64 p.caps]) (hN : p.ins.length ≤ 140737488351232) (hs : ∀ x ∈ p.ins, x.set.length ≤ 140737488351232)
    (hw : ∀ x ∈ p.ins, ∀ r ∈ x.set, (Lit.int .i32 r.lo).wf = true ∧ (Lit.int .i32 r.hi).wf = true) :
    Calls Tryd.prog 6 #[.agg #[.slice A p.ins.length c, .int .i64 p.start, .int .i64 p.caps]] w fun e w' => e = .returned (.bool true) ∧ Below w.heap.size w w' := by
  have hB := below_al (Below.refl w.heap.size w) (.cells #[.slice A p.ins.length c, .int .i64 p.start, .int .i64 p.caps] 28)
  have hx := heap_new1 w (.cells #[.slice A p.ins.length c, .int .i64 p.start, .int .i64 p.caps] 28)
  have hhd := head15_any
  have HP := Lib.hid (And.intro hp (And.intro hs (And.intro hw (And.intro hB hx))))
  clear hp hs hw hB hx
  go_enter Tryd.func6, Tryd.ntmps6
  go_wp2_with fail
  refine (hhd _).mono ?_
  clear hhd
  rintro e X ⟨rfl, hbX⟩
  dsimp only
  have hBX := below_and hbX HP.out.2.2.2.1
  have hbx := (hbX.block _ (heap_lt HP.out.2.2.2.2)).trans HP.out.2.2.2.2
  obtain ⟨bx, hbe⟩ : ∃ bx, w.heap.size = bx := ⟨_, rfl⟩
  rw [hbe] at hbx ⊢
  have HC : Hid ((∀ W, Below X.heap.size X W → W.heap[bx]? = some (.cells #[.slice A p.ins.length c, .int .i64 p.start, .int .i64 p.caps] 28 (0, 0))) ∧ Below bx w X) := Lib.hid ⟨fun W hW => (hW.block _ (heap_lt hbx)).trans hbx, by rw [← hbe]; exact hBX⟩
  have hpX : ∀ W, Below X.heap.size X W → PgC (fun k => k < W.heap.size) W p [.slice A p.ins.length c, .int .i64 p.start, .int .i64 p.caps] := fun W hW => (HP.out.1).move fun k hk _ => ⟨(hBX.trans (hW.mono hBX.size)).block k hk, by have := hW.size; have := hBX.size; omega⟩
  clear hbX hBX hbx
  cases hl : longB p with
  | true =>
    have hlg := fun W hW => long12_any W p A c (hpX W hW) hN HP.out.2.1
    rw [hl] at hlg
    clear hl hpX
    go_wp2_with fail
    refine wp_region_scr (fun W' => Below X.heap.size X W') [(true, 0, 5), (true, 1, 6), (true, 2, 7), (false, 3, 8), (true, 4, 9), (true, 5, 10), (true, 7, 12), (false, 6, 11), (false, 8, 13), (true, 9, 14), (true, 10, 15), (true, 11, 16), (true, 12, 2)] (by kernel_rfl) (by kernel_rfl) (fun _ _ _ _ _ h => h) rfl (by kernel_rfl) ?_
    have HV := Lib.hid (show Below X.heap.size X X.drew from (Below.refl _ _).drew)
    refine Scr.take (v := .bool true) rfl rfl (yw_pure (by rfl) (fun _ => by go_simp)) HV.out ?_
    simp only [Act.put, List.setIfInBounds_toArray, List.set_cons_zero, List.set_cons_succ]
    refine Scr.take (v := .bool true) rfl rfl (yw_pure (by rfl) (fun _ => by go_simp)) HV.out ?_
    simp only [Act.put, List.setIfInBounds_toArray, List.set_cons_zero, List.set_cons_succ]
    refine Scr.take (v := .agg #[.slice A p.ins.length c, .int .i64 p.start, .int .i64 p.caps]) rfl rfl (yw_row 28 _ rfl bx ([.slice A p.ins.length c, .int .i64 p.start, .int .i64 p.caps] : List Value) 28 rfl (by rfl) _ Tryd.underlying28 rfl (by rfl) (fun W hS => HC.out.1 W hS)) HV.out ?_
    simp only [Act.put, List.setIfInBounds_toArray, List.set_cons_zero, List.set_cons_succ]
    refine Scr.run rfl (by rfl) (fun K hK => ?_)
    go_simp
    refine (hlg X.drew HV.out).mono ?_
    rintro e w4 ⟨rfl, hb4⟩
    dsimp only
    have hB4 : Below X.heap.size X w4 := HV.out.trans (hb4.mono HV.out.size)
    refine hK _ _ hB4 ?_
    clear hK K HV hb4
    have HV := Lib.hid hB4
    clear hB4
    refine Scr.take (v := .bool true) rfl rfl (yw_pure (by rfl) (fun _ => by go_simp)) HV.out ?_
    simp only [Act.put, List.setIfInBounds_toArray, List.set_cons_zero, List.set_cons_succ]
    refine Scr.take (v := undef) rfl rfl (yw_no (by rfl)) HV.out ?_
    simp only [Act.put, List.setIfInBounds_toArray, List.set_cons_zero, List.set_cons_succ]
    refine Scr.take (v := undef) rfl rfl (yw_no (by rfl)) HV.out ?_
    simp only [Act.put, List.setIfInBounds_toArray, List.set_cons_zero, List.set_cons_succ]
    refine Scr.skip rfl rfl (by rfl) HV.out ?_
    simp only [Act.put, List.setIfInBounds_toArray, List.set_cons_zero, List.set_cons_succ]
    refine Scr.skip rfl rfl (by rfl) HV.out ?_
    simp only [Act.put, List.setIfInBounds_toArray, List.set_cons_zero, List.set_cons_succ]
    refine Scr.take (v := undef) rfl rfl (yw_no (by rfl)) HV.out ?_
    simp only [Act.put, List.setIfInBounds_toArray, List.set_cons_zero, List.set_cons_succ]
    refine Scr.take (v := .bool true) rfl rfl (yw_pure (by rfl) (fun _ => by go_simp)) HV.out ?_
    simp only [Act.put, List.setIfInBounds_toArray, List.set_cons_zero, List.set_cons_succ]
    refine Scr.take (v := .bool true) rfl rfl (yw_pure (by rfl) (fun _ => by go_simp)) HV.out ?_
    simp only [Act.put, List.setIfInBounds_toArray, List.set_cons_zero, List.set_cons_succ]
    refine Scr.take (v := .bool true) rfl rfl (yw_pure (by rfl) (fun _ => by go_simp)) HV.out ?_
    simp only [Act.put, List.setIfInBounds_toArray, List.set_cons_zero, List.set_cons_succ]
    simp only [Scr]
    go_wp2_with fail
    go_ret
    exact ⟨rfl, by have h9 := HC.out.2; rw [← hbe] at h9; exact h9.trans (HV.out.mono h9.size)⟩
  | false =>
    have hlg := fun W hW => long12_any W p A c (hpX W hW) hN HP.out.2.1
    have hle : p.ins.length + heftP p.ins ≤ 2000 := by unfold longB at hl; simpa using hl
    have hsl : ∀ x ∈ p.ins, x.set.length ≤ 2000 := fun x hx => by have := heft_mem hx; omega
    have had := fun W hW => admits_any (fun k => k < W.heap.size) W p [.slice A p.ins.length c, .int .i64 p.start, .int .i64 p.caps] (hpX W hW) hN (fun x hx => by have := hsl x hx; omega)
    have had2 := fun W hW => admits15_any W p A c (hpX W hW) (by omega) HP.out.2.2.1 (fun x hx => by have := hsl x hx; omega)
    rw [hl] at hlg
    rw [← adms_same p] at had2
    clear hl hpX hle hsl
    generalize admitsB p = r at *
    go_wp2_with fail
    refine wp_region_scr (fun W' => Below X.heap.size X W') [(true, 0, 5), (true, 1, 6), (true, 2, 7), (false, 3, 8), (true, 4, 9), (true, 5, 10), (true, 7, 12), (false, 6, 11), (false, 8, 13), (true, 9, 14), (true, 10, 15), (true, 11, 16), (true, 12, 2)] (by kernel_rfl) (by kernel_rfl) (fun _ _ _ _ _ h => h) rfl (by kernel_rfl) ?_
    have HV := Lib.hid (show Below X.heap.size X X.drew from (Below.refl _ _).drew)
    refine Scr.take (v := .bool true) rfl rfl (yw_pure (by rfl) (fun _ => by go_simp)) HV.out ?_
    simp only [Act.put, List.setIfInBounds_toArray, List.set_cons_zero, List.set_cons_succ]
    refine Scr.take (v := .bool true) rfl rfl (yw_pure (by rfl) (fun _ => by go_simp)) HV.out ?_
    simp only [Act.put, List.setIfInBounds_toArray, List.set_cons_zero, List.set_cons_succ]
    refine Scr.take (v := .agg #[.slice A p.ins.length c, .int .i64 p.start, .int .i64 p.caps]) rfl rfl (yw_row 28 _ rfl bx ([.slice A p.ins.length c, .int .i64 p.start, .int .i64 p.caps] : List Value) 28 rfl (by rfl) _ Tryd.underlying28 rfl (by rfl) (fun W hS => HC.out.1 W hS)) HV.out ?_
    simp only [Act.put, List.setIfInBounds_toArray, List.set_cons_zero, List.set_cons_succ]
    refine Scr.run rfl (by rfl) (fun K hK => ?_)
    go_simp
    refine (hlg X.drew HV.out).mono ?_
    rintro e w4 ⟨rfl, hb4⟩
    dsimp only
    have hB4 : Below X.heap.size X w4 := HV.out.trans (hb4.mono HV.out.size)
    refine hK _ _ hB4 ?_
    clear hK K HV hb4
    have HV := Lib.hid hB4
    clear hB4
    refine Scr.take (v := .bool false) rfl rfl (yw_pure (by rfl) (fun _ => by go_simp)) HV.out ?_
    simp only [Act.put, List.setIfInBounds_toArray, List.set_cons_zero, List.set_cons_succ]
    refine Scr.take (v := .agg #[.slice A p.ins.length c, .int .i64 p.start, .int .i64 p.caps]) rfl rfl (yw_row 28 _ rfl bx ([.slice A p.ins.length c, .int .i64 p.start, .int .i64 p.caps] : List Value) 28 rfl (by rfl) _ Tryd.underlying28 rfl (by rfl) (fun W hS => HC.out.1 W hS)) HV.out ?_
    simp only [Act.put, List.setIfInBounds_toArray, List.set_cons_zero, List.set_cons_succ]
    refine Scr.take (v := .agg #[.slice A p.ins.length c, .int .i64 p.start, .int .i64 p.caps]) rfl rfl (yw_row 28 _ rfl bx ([.slice A p.ins.length c, .int .i64 p.start, .int .i64 p.caps] : List Value) 28 rfl (by rfl) _ Tryd.underlying28 rfl (by rfl) (fun W hS => HC.out.1 W hS)) HV.out ?_
    simp only [Act.put, List.setIfInBounds_toArray, List.set_cons_zero, List.set_cons_succ]
    refine Scr.run rfl (by rfl) (fun K hK => ?_)
    go_simp
    refine (had _ HV.out).mono ?_
    rintro e w4 ⟨rfl, hb4⟩
    dsimp only
    have hB4 : Below X.heap.size X w4 := HV.out.trans (hb4.mono HV.out.size)
    refine hK _ _ hB4 ?_
    clear hK K HV hb4
    have HV := Lib.hid hB4
    clear hB4
    refine Scr.run rfl (by rfl) (fun K hK => ?_)
    go_simp
    refine (had2 _ HV.out).mono ?_
    rintro e w4 ⟨rfl, hb4⟩
    dsimp only
    have hB4 : Below X.heap.size X w4 := HV.out.trans (hb4.mono HV.out.size)
    refine hK _ _ hB4 ?_
    clear hK K HV hb4
    have HV := Lib.hid hB4
    clear hB4
    refine Scr.take (v := .bool true) rfl rfl (yw_pure (by rfl) (fun _ => by go_simp)) HV.out ?_
    simp only [Act.put, List.setIfInBounds_toArray, List.set_cons_zero, List.set_cons_succ]
    refine Scr.take (v := .bool true) rfl rfl (yw_pure (by rfl) (fun _ => by go_simp)) HV.out ?_
    simp only [Act.put, List.setIfInBounds_toArray, List.set_cons_zero, List.set_cons_succ]
    refine Scr.take (v := .bool true) rfl rfl (yw_pure (by rfl) (fun _ => by go_simp)) HV.out ?_
    simp only [Act.put, List.setIfInBounds_toArray, List.set_cons_zero, List.set_cons_succ]
    refine Scr.take (v := .bool true) rfl rfl (yw_pure (by rfl) (fun _ => by go_simp)) HV.out ?_
    simp only [Act.put, List.setIfInBounds_toArray, List.set_cons_zero, List.set_cons_succ]
    simp only [Scr]
    go_wp2_with fail
    go_ret
    exact ⟨rfl, by have h9 := HC.out.2; rw [← hbe] at h9; exact h9.trans (HV.out.mono h9.size)⟩
end Go.Proofs.YthclpabmbhpohaaDoor
namespace Go.Proofs.YthclpabmbhpohaaDoor
open Go.ChangeShapes Go.WideShapes Go.ChangeAt Go.RowKit
set_option linter.unusedVariables false
theorem ownGodebug : ownKnob Tryd.prog.godebug = none := by kernel_rfl
theorem laidOut : laidOutB Tryd.prog = true := by kernel_rfl
section
variable {H : Type} {enc : TypeId × Value → H} {P : Program}
/-- What the law's call owes behind a world that has only grown. -/
theorem post_grown {f : Func} {s : ChangeSpec} {apart fresh handsOn again : Bool} {W W' : World} {args : Array Value} {v : Value} {ds gs : List (DataW H)} {before pa pv : List MemPlace}
    (hW : DataW.Whole enc P f.params.toList s.vars apart W args.toList ds gs before) (hb : Below W.heap.size W W') (hps : before = pa ++ pv)
    (hres : ∀ (b : Nat) (sp : Nat → Bool) (hd : Bool), DataW.TrodAll enc P W' b sp hd f.resultTypes.toList (v.resultList f.resultTypes.size) (s.fn H (ds ++ gs)).results [])
    (hargs : ∀ sp : Nat → Bool, (∀ p ∈ before, sp p.block = true) → DataW.TrodAll enc P W' 0 sp true f.params.toList args.toList (s.fn H (ds ++ gs)).args pa)
    (hvars : ∀ sp : Nat → Bool, (∀ p ∈ before, sp p.block = true) → DataW.TrodVars enc P W' sp s.vars (s.fn H (ds ++ gs)).vars pv)
    (hok : ∀ (j : Nat) (t : TypeId) (r : Value), f.resultTypes[j]? = some t → (v.resultList f.resultTypes.size)[j]? = some r → Value.okWide P W' .any 0 t r) :
    s.post enc P f apart fresh handsOn again W args v W' := by
  have old : ∀ p ∈ before, p.block < W.heap.size := hW.lt
  refine ⟨ds, gs, before, [], pa, pv, hW, hres _ _ _, hargs (fun b => decide (b < W.heap.size)) (fun p hp => decide_eq_true (old p hp)), hvars (fun b => decide (b < W.heap.size)) (fun p hp => decide_eq_true (old p hp)),
    World.keptBut_mono (fun p hp => ⟨hp, .inr (List.mem_append.1 (hps ▸ hp))⟩) (hb.frame (· ∈ before)), fun _ => ⟨hok, _, _, ([] ++ pa) ++ pv, ⟨[] ++ pa, pv, trodAll_append (hargs _ (fun _ _ => rfl)) (hres _ _ _), hvars _ (fun _ _ => rfl), rfl, ?_, ?_⟩, fun p hp _ => by rw [hps]; simpa using hp⟩⟩
  · obtain ⟨_, _, _, _, _, hz, _⟩ := hW
    intro b off hp
    have hin : MemPlace.cell b off ∈ before := by rw [hps]; simpa using hp
    rw [hb.frozen (old _ hin)]
    exact hz b off hin
  · obtain ⟨_, _, _, _, _, _, hn⟩ := hW
    intro ha
    have := hn ha
    rw [hps] at this
    simpa using this
end
end Go.Proofs.YthclpabmbhpohaaDoor
namespace Go.Proofs.YthclpabmbhpohaaDoor
open Go.ChangeShapes Go.WideShapes Go.ChangeAt Go.RowKit
set_option linter.unusedVariables false
def SizedD {H : Type} (d : DataW H) (t : TypeId) : Prop := ∀ n ∈ d.weights Tryd.prog t, n ≤ 140737488351232
theorem list_of {α : Type} {Q : Nat → α → Prop} : ∀ n : Nat, (∀ i, i < n → ∃ x, Q i x) → ∃ l : List α, l.length = n ∧ ∀ (i : Nat) (x : α), l[i]? = some x → Q i x
  | 0, _ => ⟨[], rfl, fun i x h => by simp at h⟩
  | n + 1, h => by
    obtain ⟨l, hl, hq⟩ := list_of n (fun i hi => h i (by omega))
    obtain ⟨y, hy⟩ := h n (by omega)
    refine ⟨l ++ [y], by simp [hl], fun i x hi => ?_⟩
    rcases Nat.lt_or_ge i n with h1 | h1
    · rw [List.getElem?_append_left (by omega)] at hi
      exact hq i x hi
    · rw [List.getElem?_append_right (by omega)] at hi
      rcases Nat.eq_or_lt_of_le h1 with rfl | h2
      · rw [hl, Nat.sub_self] at hi; cases hi; exact hy
      · rw [List.getElem?_eq_none (by simp; omega)] at hi; cases hi
section
variable {H : Type} {enc : TypeId × Value → H} {w : World} {sp : Nat → Bool} {hd : Bool}
theorem rangeCells : Tryd.prog.cellsOf 66 = 2 := by kernel_rfl
theorem cellI32 : Tryd.prog.cellsOf 21 = 1 := by kernel_rfl
set_option maxRecDepth 100000 in
theorem range_of {fuel : Nat} {cs : List Value} {x : DataW H × List MemPlace} (h : DataW.trod enc Tryd.prog w 0 sp hd fuel 66 cs = some x) :
    ∃ r : Rg, RgC r cs ∧ (Lit.int .i32 r.lo).wf = true ∧ (Lit.int .i32 r.hi).wf = true := by
  obtain ⟨xs, n, rfl, _, hl, hxs, hf⟩ := DataW.trod_struct Tryd.underlying66 h
  rw [rangeCells] at hl
  have hn : xs.length = 2 := hxs
  have f0 : DataW.trod enc Tryd.prog w 0 sp hd n 21 ((cs.drop 0).take (Tryd.prog.cellsOf 21)) = xs[0]? := hf 0 _ rfl
  have f1 : DataW.trod enc Tryd.prog w 0 sp hd n 21 ((cs.drop 1).take (Tryd.prog.cellsOf 21)) = xs[1]? := hf 1 _ rfl
  rw [List.getElem?_eq_getElem (by omega), cellI32] at f0 f1
  obtain ⟨lo, e0, _, w0⟩ := DataW.trod_int Tryd.underlying21 f0
  obtain ⟨hi, e1, _, w1⟩ := DataW.trod_int Tryd.underlying21 f1
  match cs, hl with
  | [a, b], _ =>
    simp at e0 e1
    exact ⟨⟨lo, hi⟩, by simp [RgC, e0, e1], w0, w1⟩
theorem cells_arr {A : Addr} {n sz : Nat} {α : Type} {E : α → List Value → Prop} {xs : List α} (hx : xs.length = n) (hsz : 0 < sz) (h : ∀ (i : Nat) (x : α), xs[i]? = some x → ∃ cs, w.cells? 0 (A.add (i * sz)) sz = some cs ∧ E x cs) :
    Arr (fun b => b < w.heap.size) w sz E (some A) xs := by
  intro i x hi
  obtain ⟨cs, hc, hE⟩ := h i x hi
  obtain ⟨_, h2, h3⟩ := World.cells?_some hc
  refine ⟨A, cs, rfl, ?_, hE, h2, fun j u hj => ?_⟩
  · have h0 := h3 0 hsz
    rw [List.getElem?_eq_getElem (by omega)] at h0
    have := World.block_lt_of_cell? w _ h0
    rwa [add_block, add_block] at this
  · have hj' : j < cs.length := (List.getElem?_eq_some_iff.1 hj).1
    have := h3 j (by omega)
    rw [add_add] at this
    rw [this, hj]
theorem ranges_of {fuel : Nat} {cs : List Value} {x : DataW H × List MemPlace} (h : DataW.trod enc Tryd.prog w 0 sp hd fuel 61 cs = some x) :
    ∃ (B : Option Addr) (d : Nat) (set : List Rg), cs = [.slice B set.length d] ∧ set.length ≤ d ∧ d ≤ maxLen ∧ Arr (fun b => b < w.heap.size) w 2 RgC B set ∧ (∀ r ∈ set, (Lit.int .i32 r.lo).wf = true ∧ (Lit.int .i32 r.hi).wf = true) ∧ (SizedD x.1 61 → set.length ≤ 140737488351232) := by
  rcases DataW.trod_slice Tryd.underlying61 h with ⟨rfl, _⟩ | ⟨a, len, cap, elems, rest, n, rfl, rfl, hx, _, hlc, hcm, hel, hE, _, _⟩
  · exact ⟨none, 0, [], rfl, Nat.le_refl _, Nat.zero_le _, Arr.nil, by simp, fun _ => by simp⟩
  · rw [rangeCells] at hE
    obtain ⟨set, hl, hq⟩ := list_of (α := Rg) (Q := fun i r => ∃ cs, w.cells? 0 (a.add (i * 2)) 2 = some cs ∧ RgC r cs ∧ (Lit.int .i32 r.lo).wf = true ∧ (Lit.int .i32 r.hi).wf = true) len (fun i hi => by
      have h1 := hE i hi
      rw [List.getElem?_eq_getElem (by omega), Option.bind_eq_some_iff] at h1
      obtain ⟨cs', hc, hy⟩ := h1
      obtain ⟨r, hr, h2, h3⟩ := range_of hy
      exact ⟨r, cs', hc, hr, h2, h3⟩)
    refine ⟨some a, cap, set, by rw [hl], by omega, hcm, cells_arr hl (by omega) (fun i r hi => ?_), fun r hr => ?_, fun hz => ?_⟩
    · obtain ⟨cs, h1, h2, _⟩ := hq i r hi
      exact ⟨cs, h1, h2⟩
    · obtain ⟨i, hi, rfl⟩ := List.mem_iff_getElem.1 hr
      obtain ⟨cs, _, _, h3⟩ := hq i _ (List.getElem?_eq_getElem hi)
      exact h3
    · have h5 := hz ((elems.length + rest.length) * Tryd.prog.bytesOf 66) (by rw [hx]; simp [DataW.weights, Tryd.underlying61])
      rw [show Tryd.prog.bytesOf 66 = 8 by kernel_rfl] at h5
      omega
theorem weights_kid {e : TypeId} {d : DataW H} : ∀ {l : List (DataW H)}, d ∈ l → ∀ n ∈ d.weights Tryd.prog e, n ∈ DataW.weightsAll Tryd.prog e l
  | y :: l, hd, n, hn => by
    rw [DataW.weightsAll]
    rcases List.mem_cons.1 hd with rfl | hd
    · exact List.mem_append.2 (.inl hn)
    · exact List.mem_append.2 (.inr (weights_kid hd n hn))
end
end Go.Proofs.YthclpabmbhpohaaDoor
namespace Go.Proofs.YthclpabmbhpohaaDoor
open Go.ChangeShapes Go.WideShapes Go.ChangeAt Go.RowKit
set_option linter.unusedVariables false
section
variable {H : Type} {enc : TypeId × Value → H} {w : World} {sp : Nat → Bool} {hd : Bool}
theorem instCells : Tryd.prog.cellsOf 64 = 5 := by kernel_rfl
theorem progCells : Tryd.prog.cellsOf 28 = 3 := by kernel_rfl
theorem oneCellsP : Tryd.prog.cellsOf 3 = 1 ∧ Tryd.prog.cellsOf 60 = 1 ∧ Tryd.prog.cellsOf 62 = 1 ∧ Tryd.prog.cellsOf 26 = 1 ∧ Tryd.prog.cellsOf 61 = 1 := by
  refine ⟨?_, ?_, ?_, ?_, ?_⟩ <;> kernel_rfl
/-- The fields of an instruction are values of their types. -/
def FieldsI (x : In) : Prop :=
  ((Lit.int .i64 x.op).wf = true ∧ (Lit.int .i64 x.out).wf = true ∧ (Lit.int .i64 x.arg).wf = true ∧ (Lit.int .i64 x.at_).wf = true) ∧ ∀ r ∈ x.set, (Lit.int .i32 r.lo).wf = true ∧ (Lit.int .i32 r.hi).wf = true
set_option maxRecDepth 100000 in
theorem inst_of {fuel : Nat} {cs : List Value} {x : DataW H × List MemPlace} (h : DataW.trod enc Tryd.prog w 0 sp hd fuel 64 cs = some x) :
    ∃ t : In, InO (fun b => b < w.heap.size) w t cs ∧ FieldsI t ∧ (SizedD x.1 64 → t.set.length ≤ 140737488351232) := by
  obtain ⟨xs, n, rfl, hxd, hl, hxs, hf⟩ := DataW.trod_struct Tryd.underlying64 h
  rw [instCells] at hl
  have hn : xs.length = 5 := hxs
  obtain ⟨c1, c2, c3, c4, c5⟩ := oneCellsP
  have f0 : DataW.trod enc Tryd.prog w 0 sp hd n 60 ((cs.drop 0).take (Tryd.prog.cellsOf 60)) = xs[0]? := hf 0 _ rfl
  have f1 : DataW.trod enc Tryd.prog w 0 sp hd n 3 ((cs.drop 1).take (Tryd.prog.cellsOf 3)) = xs[1]? := hf 1 _ rfl
  have f2 : DataW.trod enc Tryd.prog w 0 sp hd n 3 ((cs.drop 2).take (Tryd.prog.cellsOf 3)) = xs[2]? := hf 2 _ rfl
  have f3 : DataW.trod enc Tryd.prog w 0 sp hd n 61 ((cs.drop 3).take (Tryd.prog.cellsOf 61)) = xs[3]? := hf 3 _ rfl
  have f4 : DataW.trod enc Tryd.prog w 0 sp hd n 62 ((cs.drop 4).take (Tryd.prog.cellsOf 62)) = xs[4]? := hf 4 _ rfl
  rw [List.getElem?_eq_getElem (by omega)] at f0 f1 f2 f3 f4
  have hz : ∀ (j : Nat) (hj : j < xs.length) (ty : TypeId), (([60, 3, 3, 61, 62] : List TypeId)[j]? = some ty) → SizedD x.1 64 → SizedD xs[j].1 ty := by
    intro j hj ty hty hs m hm
    refine hs m ?_
    rw [hxd]
    simp only [DataW.weights, Tryd.underlying64]
    exact DataW.weights_mem_each (j := j) (t := ty) (by simpa using hty) (by rw [List.getElem?_map, List.getElem?_eq_getElem hj]; rfl) m hm
  simp only [c1, c2, c3, c4, c5] at f0 f1 f2 f3 f4
  obtain ⟨op, e0, _, w0⟩ := DataW.trod_int Tryd.underlying60 f0
  obtain ⟨out, e1, _, w1⟩ := DataW.trod_int Tryd.underlying3 f1
  obtain ⟨arg, e2, _, w2⟩ := DataW.trod_int Tryd.underlying3 f2
  obtain ⟨B, d, set, e3, s1, s2, s3, s4, s5⟩ := ranges_of f3
  obtain ⟨at_, e4, _, w4⟩ := DataW.trod_int Tryd.underlying62 f4
  refine ⟨⟨op, out, arg, set, at_⟩, ⟨B, d, ?_, s1, s2, s3⟩, ⟨⟨w0, w1, w2, w4⟩, s4⟩, fun hsd => s5 (hz 3 (by omega) _ rfl hsd)⟩
  match cs, hl with
  | [a0, a1, a2, a3, a4], _ =>
    simp at e0 e1 e2 e3 e4
    simp [e0, e1, e2, e3, e4]
set_option maxRecDepth 100000 in
theorem prog_of {fuel : Nat} {cs : List Value} {x : DataW H × List MemPlace} (h : DataW.trod enc Tryd.prog w 0 sp hd fuel 28 cs = some x) :
    ∃ t : Pg, PgC (fun b => b < w.heap.size) w t cs ∧ ((Lit.int .i64 t.start).wf = true ∧ (Lit.int .i64 t.caps).wf = true) ∧ (∀ y ∈ t.ins, FieldsI y) ∧ (SizedD x.1 28 → t.ins.length * 56 ≤ 140737488351232 ∧ ∀ y ∈ t.ins, y.set.length ≤ 140737488351232) := by
  obtain ⟨xs, n, rfl, hxd, hl, hxs, hf⟩ := DataW.trod_struct Tryd.underlying28 h
  rw [progCells] at hl
  have hn : xs.length = 3 := hxs
  obtain ⟨c1, c2, c3, c4, c5⟩ := oneCellsP
  have f0 : DataW.trod enc Tryd.prog w 0 sp hd n 26 ((cs.drop 0).take (Tryd.prog.cellsOf 26)) = xs[0]? := hf 0 _ rfl
  have f1 : DataW.trod enc Tryd.prog w 0 sp hd n 3 ((cs.drop 1).take (Tryd.prog.cellsOf 3)) = xs[1]? := hf 1 _ rfl
  have f2 : DataW.trod enc Tryd.prog w 0 sp hd n 3 ((cs.drop 2).take (Tryd.prog.cellsOf 3)) = xs[2]? := hf 2 _ rfl
  rw [List.getElem?_eq_getElem (by omega)] at f0 f1 f2
  have hz : SizedD x.1 28 → SizedD (xs[0]'(by omega)).1 26 := by
    intro hs m hm
    refine hs m ?_
    rw [hxd]
    simp only [DataW.weights, Tryd.underlying28]
    exact DataW.weights_mem_each (j := 0) (t := 26) (by rfl) (by rw [List.getElem?_map, List.getElem?_eq_getElem (by omega)]; rfl) m hm
  simp only [c1, c2, c3, c4, c5] at f0 f1 f2
  obtain ⟨st, e1, _, w1⟩ := DataW.trod_int Tryd.underlying3 f1
  obtain ⟨cp, e2, _, w2⟩ := DataW.trod_int Tryd.underlying3 f2
  have hk : ∃ (A : Option Addr) (c : Nat) (ins : List In), ((cs.drop 0).take 1) = [.slice A ins.length c] ∧ ins.length ≤ c ∧ c ≤ maxLen ∧ Arr (fun b => b < w.heap.size) w 5 (InO (fun b => b < w.heap.size) w) A ins ∧ (∀ y ∈ ins, FieldsI y) ∧ (SizedD (xs[0]'(by omega)).1 26 → ins.length * 56 ≤ 140737488351232 ∧ ∀ y ∈ ins, y.set.length ≤ 140737488351232) := by
    rcases DataW.trod_slice Tryd.underlying26 f0 with ⟨e1, _⟩ | ⟨a, len, cap, elems, rest, m, hnm, e1, hx1, _, hlc, hcm, hel, hE, _, _⟩
    · exact ⟨none, 0, [], e1, Nat.le_refl _, Nat.zero_le _, Arr.nil, by simp, fun _ => ⟨by simp, by simp⟩⟩
    · rw [instCells] at hE
      obtain ⟨ins, hkl, hq⟩ := list_of (α := In) (Q := fun i k => ∃ cs, w.cells? 0 (a.add (i * 5)) 5 = some cs ∧ InO (fun b => b < w.heap.size) w k cs ∧ FieldsI k ∧ ∀ d, (elems.map (·.1))[i]? = some d → SizedD d 64 → k.set.length ≤ 140737488351232) len (fun i hi => by
        have h1 := hE i hi
        rw [List.getElem?_eq_getElem (by omega), Option.bind_eq_some_iff] at h1
        obtain ⟨cs', hc, hy⟩ := h1
        obtain ⟨k, hk1, hk2, hk3⟩ := inst_of hy
        exact ⟨k, cs', hc, hk1, hk2, fun d hd => by
          rw [List.getElem?_map, List.getElem?_eq_getElem (by omega)] at hd
          simp only [Option.map_some, Option.some.injEq] at hd
          rw [← hd]; exact hk3⟩)
      refine ⟨some a, cap, ins, by rw [hkl]; exact e1, by omega, hcm, cells_arr hkl (by omega) (fun i r hi => ?_), fun k hk => ?_, fun hsd => ⟨?_, fun k hk => ?_⟩⟩
      · obtain ⟨cs, h1, h2, _⟩ := hq i r hi
        exact ⟨cs, h1, h2⟩
      · obtain ⟨i, hi, rfl⟩ := List.mem_iff_getElem.1 hk
        obtain ⟨cs, _, _, h3, _⟩ := hq i _ (List.getElem?_eq_getElem hi)
        exact h3
      · have h5 := hsd ((elems.length + rest.length) * Tryd.prog.bytesOf 64) (by rw [hx1]; simp [DataW.weights, Tryd.underlying26])
        rw [show Tryd.prog.bytesOf 64 = 56 by kernel_rfl] at h5
        omega
      · obtain ⟨i, hi, rfl⟩ := List.mem_iff_getElem.1 hk
        obtain ⟨cs, _, _, _, h4⟩ := hq i _ (List.getElem?_eq_getElem hi)
        have hie : i < (elems.map (·.1)).length := by simp; omega
        refine h4 _ (List.getElem?_eq_getElem hie) (fun m hm => hsd m ?_)
        rw [hx1]
        simp only [DataW.weights, Tryd.underlying26]
        exact List.mem_cons_of_mem _ (List.mem_append.2 (.inl (weights_kid (List.getElem_mem hie) m hm)))
  obtain ⟨A, c, ins, e0, k1, k2, k3, k4, k5⟩ := hk
  refine ⟨⟨ins, st, cp⟩, ⟨A, c, ?_, k1, k2, k3⟩, ⟨w1, w2⟩, k4, fun hsd => k5 (hz hsd)⟩
  obtain ⟨a0, a1, a2, rfl⟩ : ∃ a0 a1 a2, cs = [a0, a1, a2] := by
    match cs, hl with
    | [a0, a1, a2], _ => exact ⟨a0, a1, a2, rfl⟩
  simp at e0 e1 e2
  simp [e0, e1, e2]
end
end Go.Proofs.YthclpabmbhpohaaDoor
namespace Go.Proofs.YthclpabmbhpohaaDoor.onepassAdmits
open Go.ChangeShapes Go.WideShapes Go.ChangeAt Go.RowKit
set_option linter.unusedVariables false
set_option maxRecDepth 100000 in
theorem lifted (os : Os) (started : os.Started) (H : Type) (enc : TypeId × Value → H) :
    ReturnsInHanded {} Tryd.checked os 6 .any (fun w args => (Rows.onepassAdmitsSpec.pre enc Tryd.prog Tryd.f6 Rows.onepassAdmitsRow.domain false w args ∧ laidMetH Tryd.prog Rows.onepassAdmitsRow.laid w) ∧ sizedMet enc Tryd.prog Tryd.f6 (OpenSpec.ofChange Rows.onepassAdmitsSpec) false w args)
      (Rows.onepassAdmitsSpec.post enc Tryd.prog Tryd.f6 false true false false) := by
  refine returnsInHanded_of_change_and (C := Tryd.checked) (X := fun w _ => laidMetH Tryd.prog Rows.onepassAdmitsRow.laid w) (fun _ _ _ hh h => h.of_heap hh) ownGodebug started (by kernel_rfl) Tryd.func6
    (ChangeSpec.witness_shaped (enc := enc) (C := Tryd.checked) (os := os) (X := fun w _ => laidMetH Tryd.prog Rows.onepassAdmitsRow.laid w) false (World.laidAll Tryd.prog os Rows.onepassAdmitsRow.laid) #[.agg #[.slice none 0 0, .int .i64 0, .int .i64 0]] 8 (World.laidAll_os _ _ _)
      (World.shaped_of_ZipB (by kernel_rfl) (by kernel_rfl)) (by kernel_rfl) (by kernel_rfl) (by kernel_rfl)
      (by rw [MakeChecks.laidMetH_plain _ _ _ (by kernel_rfl)]; exact laidMet_laidAll _ (by kernel_rfl) (by kernel_rfl))) ?_
  intro W base args ds gs before hval0 hW hc hsz0 hL _
  have hval : ∀ (j : Nat) t v, Tryd.f6.params[j]? = some t → args[j]? = some v → Value.okWide Tryd.prog W .any base t v := hval0
  have hW' := hW
  obtain ⟨p, q, hA0, hV, rfl, _, _⟩ := hW
  have hA : DataW.TrodAll enc Tryd.prog W 0 (fun _ => true) true Tryd.f6.params.toList args.toList ds p := hA0
  rw [Tryd.params6] at hA hval
  obtain ⟨v0, vs0, d0, ds0, p0, q0, hargs, rfl, rfl, h0, r0⟩ := trodAll_cons hA
  obtain ⟨rfl, rfl, rfl⟩ := trodAll_nil r0
  obtain rfl : args = #[v0] := by cases args; simp_all
  obtain ⟨rfl, rfl⟩ := trodVars_none hV
  obtain ⟨cs0, rfl, hcsz0⟩ := okWide_struct Tryd.underlying28 (hval 0 28 v0 rfl rfl)
  have hz0 : SizedD d0 28 := fun n hn => by
    have h9 := List.all_eq_true.1 hsz0 n (DataW.weights_mem_each (j := 0) (t := 28) (by rw [Tryd.params6]; rfl) rfl n hn)
    have h8 : n ≤ reachBytes := by simpa using h9
    exact Nat.le_trans h8 (by unfold reachBytes; omega)
  have htr0 := h0
  obtain ⟨fuel0, hf0⟩ := htr0
  obtain ⟨t0, htc0, hwf0, hfw0, hsm0⟩ := prog_of hf0
  have hlt0 : ∀ x ∈ p0, x.block < W.heap.size := fun x hx => hW'.lt x (by simp [hx])
  clear hA0 hval0
  obtain ⟨A0, c0, hps, hc1, hc2, harr⟩ := id htc0
  obtain rfl : cs0 = #[.slice A0 t0.ins.length c0, .int .i64 t0.start, .int .i64 t0.caps] := by
    cases cs0 with | mk l => exact congrArg Array.mk hps
  have hsz := hsm0 hz0
  have walk := oneAdm_any W t0 A0 c0 htc0 (by omega) hsz.2 (fun x hx => (hfw0 x hx).2)
  refine walk.mono fun e W' ⟨he, bel⟩ => ?_
  subst he
  exact ⟨_, rfl, post_grown (pv := []) hW' bel rfl (fun _ _ _ => trodAll_mk1 (shut_bool Tryd.underlying4 _))
    (fun sp hsp => (trodAll_cons_mk (WideElems.Trod_stays laidOut (by kernel_rfl) (of_decide_eq_true (by kernel_rfl)) h0 (fun x hx => bel.same (hlt0 x hx)) (fun x hx => hsp x (by simp [hx]))) trodAll_mk0)) (fun _ _ => rfl) (ok_one (by kernel_rfl) rfl (okWide_bool_mk Tryd.underlying4 _))⟩
theorem said : Rows.OnepassAdmitsSaid :=
  OpenClaim.holds_of_wide 6 Tryd.f6 rfl rfl rfl rfl rfl rfl rfl ⟨rfl, rfl, rfl, rfl, rfl⟩ rfl rfl rfl rfl rfl (by kernel_rfl) Tryd.func6 (by kernel_rfl)
    (of_decide_eq_true (by kernel_rfl)) (by unfold Func.isWrapper; first | (rw [if_pos (by decide +kernel)]; kernel_rfl) | (rw [if_neg (by decide +kernel)]; exact ⟨rfl, rfl⟩))
    (fun os started H enc _ => lifted os started H enc)
/-- No parameter wants a stand-in; the program's own looks are off. -/
theorem plain (f : FuncId) (fn : Func) (hf : Tryd.pinned.checked.prog.funcNamed "martello/martellolaw15.OnepassAdmits" = some f) (hfn : Tryd.pinned.checked.prog.funcs[f]? = some fn) :
    false = Tryd.pinned.checked.prog.looks [] ∧ ∀ (j : Nat) t, fn.params[j]? = some t → Tryd.pinned.checked.prog.wantsStandIn t = false := by
  obtain rfl : f = 6 := Option.some.inj ((show Tryd.prog.funcNamed "martello/martellolaw15.OnepassAdmits" = some 6 by kernel_rfl).symm.trans hf) |>.symm
  obtain rfl : fn = Tryd.f6 := (Option.some.inj (Tryd.func6.symm.trans hfn)).symm
  refine ⟨by kernel_rfl, fun j t ht => ?_⟩
  rw [Tryd.params6] at ht
  have hm : t ∈ [28] := by simpa using Array.mem_of_getElem? ht
  have hall : ([28].all fun u => !Tryd.prog.wantsStandIn u) = true := by kernel_rfl
  exact (show Tryd.prog.wantsStandIn t = false by simpa using List.all_eq_true.1 hall t hm)
theorem card : Rows.OnepassAdmitsCardSaid :=
  Claim7.holds_tied_plain_at .later [] _ _ _ _ said (fun _ h => by cases h) (by kernel_rfl) (fun _ h => by cases h) onepassAdmits_row_tie rfl ⟨rfl, rfl⟩ (by kernel_rfl) rfl plain (by kernel_rfl)
end Go.Proofs.YthclpabmbhpohaaDoor.onepassAdmits
namespace Go.Proofs.YthclpabmbhpohaaDoor
/-- The card, under a short name, for the claim. -/
theorem onepassAdmits_card : Rows.OnepassAdmitsCardSaid := onepassAdmits.card
end Go.Proofs.YthclpabmbhpohaaDoor
