/-
  martelloref05.Parts: how many parts a tree has, its sets' ranges counted too, or more than asked for. The lists are no longer than the row's reach lets them be.
-/
import Derived.Test.YtdnbholiijgedaaMore
import Derived.Test.YtdnbholiijgedaaTree
namespace Go.Proofs.Ytdnbholiijgedaa
open Go.RowKit
set_option linter.unusedVariables false

mutual
def pw : Tr → Nat
  | ⟨_, kids, _, set, _, _, _, _, _, _⟩ => 1 + set.length + pwL kids
def pwL : List Tr → Nat
  | [] => 0
  | x :: xs => pw x + pwL xs
end
theorem pw_eq (t : Tr) : pw t = 1 + t.set.length + pwL t.kids := by cases t; rw [pw]
theorem pwL_app : ∀ (a b : List Tr), pwL (a ++ b) = pwL a + pwL b
  | [], b => by simp [pwL]
  | x :: a, b => by rw [List.cons_append, pwL, pwL, pwL_app a b]; omega
theorem pwL_take {l : List Tr} {j : Nat} (h : j < l.length) : pwL (l.take (j + 1)) = pwL (l.take j) + pw l[j] := by
  rw [List.take_succ_eq_append_getElem h, pwL_app]; simp [pwL]
theorem pwL_le (l : List Tr) (j : Nat) : pwL (l.take j) ≤ pwL l := by
  have h := pwL_app (l.take j) (l.drop j)
  rw [List.take_append_drop] at h; omega
/-- What Parts answers: the count, or something that is more than asked for. -/
def PartsR (t : Tr) (m r : Int) : Prop := 0 < r ∧ r ≤ m + 1 + 140737488351232 ∧ (r ≤ m → r = pw t) ∧ (m < r → m < pw t)
def PartsPost (t : Tr) (m : Int) (w : World) (e : Ending) (w' : World) : Prop := ∃ r : Int, e = .returned (.int .i64 r) ∧ PartsR t m r ∧ Below w.heap.size w w'
set_option maxRecDepth 100000 in
set_option maxHeartbeats 1000000 in
theorem parts_any (ok : Nat → Prop) : ∀ (n : Nat) (t : Tr) (cs : List Value) (m : Int) (w : World), (parts t).length ≤ n → TrC ok w t cs → (∀ p ∈ parts t, SmallP p) → 0 ≤ m → m ≤ 1000000 →
    Calls Try.prog 10 #[.agg cs.toArray, .int .i64 m] w (PartsPost t m w) := by
  intro n
  induction n with
  | zero => intro t cs m w hn; have := parts_eq t; rw [this] at hn; simp at hn
  | succ n ih =>
    intro t cs m w hn ht hsm hm0 hm1
    have hsz := hsm t (by rw [parts_eq]; simp)
    have hs1 : t.set.length ≤ 140737488351232 := hsz.1
    have hs2 : t.kids.length ≤ 140737488351232 := hsz.2
    obtain ⟨A, c, B, d, rfl, h1, h2, h3, h4, h5, h6⟩ := trC_iff.1 ht
    have hpw := pw_eq t
    have HP := Lib.hid hpw
    have HS := Lib.hid hsm
    clear hpw hsz hsm ht
    go_enter Try.func10, Try.ntmps10
    go_wp2_with fail
    go_loopw [5, 6] (fun s5 s6 wr => ∃ (j : Nat) (v : Int), s6 = .int .i64 j ∧ s5 = .int .i64 v ∧ j ≤ t.kids.length ∧ 0 < v ∧ v ≤ m + 1 + 140737488351232 ∧ Hid ((v ≤ m → v = 1 + t.set.length + pwL (t.kids.take j)) ∧ (m < v → m < (pw t : Int))) ∧ Below w.heap.size w wr ∧ wr.heap[w.heap.size]? = some (.cells #[.int .i64 t.op, .slice A t.kids.length c, .int .i32 t.rune, .slice B t.set.length d, .int .i64 t.at_, .int .i64 t.cap, .string t.name, .int .i64 t.mn, .int .i64 t.mx, .bool t.lz] 27 (0, 0))) (fun _ s6 _ => t.kids.length - (intOf s6).toNat)
    case atStart => exact ⟨0, 1 + t.set.length, rfl, by go_num, Nat.zero_le _, by omega, by omega, Lib.hid ⟨fun _ => by simp [pwL], fun h => by rw [HP.out]; omega⟩, below_al (Below.refl _ _) _, heap_new1 _ _⟩
    case round =>
      obtain ⟨j, v, rfl, rfl, hj, hv0, hv1, HV, hBr, hbx⟩ := hrel
      obtain ⟨g0, g1, g2, g3, g4, g5, g6, g7, g8, g9⟩ := cells10 hbx
      have HX := Lib.hid hbx
      clear hbx
      by_cases hlt : j < t.kids.length
      · by_cases hvm : v ≤ m
        · obtain ⟨ad, A1, c1, A3, c3, rfl, hTk, k0, k1, k2, k3, k4, k5, k6, k7, k8, k9⟩ := trArr_at h6 wr (fun b _ hb' => hBr.block b hb') j hlt
          have hkk := parts_kid hlt
          have hih0 : Calls Try.prog 10 #[.agg #[.int .i64 t.kids[j].op, .slice A1 t.kids[j].kids.length c1, .int .i32 t.kids[j].rune, .slice A3 t.kids[j].set.length c3, .int .i64 t.kids[j].at_, .int .i64 t.kids[j].cap, .string t.kids[j].name, .int .i64 t.kids[j].mn, .int .i64 t.kids[j].mx, .bool t.kids[j].lz], .int .i64 (m - v)] wr (PartsPost t.kids[j] (m - v) wr) :=
            ih _ _ _ _ (by omega) (hTk.move (fun b hb' hlt' => ⟨hBr.block b hlt', hb'⟩)) (fun p hp => HS.out p (mem_parts_kid hlt hp)) (by omega) (by omega)
          clear hkk hTk ih
          go_wp2_with (go_at_call 10; refine hih0.mono ?_; clear hih0; rintro e w1 ⟨r, rfl, ⟨hr0, hr1, hr2, hr3⟩, hb1⟩)
          have HR := Lib.hid (And.intro hr2 hr3)
          clear hr2 hr3
          have hbx2 : w1.heap[w.heap.size]? = _ := (hb1.block _ (heap_lt HX.out)).trans HX.out
          have hp1 := pwL_take hlt
          have hp2 := pwL_le t.kids (j + 1)
          have hst : Hid ((v + r ≤ m → v + r = 1 + t.set.length + pwL (t.kids.take (j + 1))) ∧ (m < v + r → m < (pw t : Int))) := Lib.hid (by
            have h8 := HV.out.1 hvm
            have h9 := HP.out
            obtain ⟨a1, a2⟩ := HR.out
            refine ⟨fun h => ?_, fun h => ?_⟩
            · have := a1 (by omega); omega
            · have := a2 (by omega); omega)
          have HB := Lib.hid (And.intro (below_and hb1 hBr) hbx2)
          clear hp1 hp2 hbx2 hBr hb1
          go_wp2_with fail
          go_roundw
          case measure => simp [intOf]; omega
          case rel => exact ⟨j + 1, v + r, by go_num, rfl, by omega, by omega, by omega, hst, HB.out.1, HB.out.2⟩
        · go_wp2_with fail
          go_ret
          exact ⟨v, rfl, ⟨hv0, hv1, fun h => by omega, HV.out.2⟩, hBr⟩
      · obtain rfl : j = t.kids.length := by omega
        by_cases hvm : v ≤ m
        · go_wp2_with fail
          go_ret
          exact ⟨v, rfl, ⟨hv0, hv1, fun h => by rw [HV.out.1 hvm, HP.out, List.take_length]; omega, HV.out.2⟩, hBr⟩
        · go_wp2_with fail
          go_ret
          exact ⟨v, rfl, ⟨hv0, hv1, fun h => by omega, HV.out.2⟩, hBr⟩
end Go.Proofs.Ytdnbholiijgedaa
