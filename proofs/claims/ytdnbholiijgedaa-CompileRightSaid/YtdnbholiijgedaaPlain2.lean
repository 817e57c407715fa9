/-
  trees.plain: is a part well formed? What sets.Right answers of its set is a premise. No other condition.
-/
import Derived.Test.YtdnbholiijgedaaPlain
namespace Go.Proofs.Ytdnbholiijgedaa
open Go.RowKit
set_option linter.unusedVariables false

theorem arr_lit {ok : Nat → Prop} {W : World} {k : IntKind} {g : Nat} {ty : TypeId} {fr : Nat × Nat} {xs : List Int} (h : W.heap[g]? = some (.cells (xs.map (Value.int k)).toArray ty fr)) (hok : ok g) : Arr ok W 1 (IntC k) (some ⟨g, 0, none⟩) xs := by
  intro i x hx
  refine ⟨_, _, rfl, hok, rfl, rfl, fun j u hu => ?_⟩
  obtain ⟨rfl, rfl⟩ : j = 0 ∧ u = .int k x := by
    cases j with
    | zero => simpa [eq_comm] using hu
    | succ j => simp at hu
  have : (⟨g, 0, none⟩ : Addr).add (i * 1 + 0) = ⟨g, i, none⟩ := by unfold Addr.add; split <;> simp_all
  rw [this, cell_of_blk h]
  simp [hx]

def ats : List Int := [1, 2, 4, 8, 16, 32]
theorem containsAt_lit (W : World) (g : Nat) (fr : Nat × Nat) (v : Int) (h : W.heap[g]? = some (.cells #[.int .i64 1, .int .i64 2, .int .i64 4, .int .i64 8, .int .i64 16, .int .i64 32] 25 fr)) :
    Calls Try.prog 55 #[.slice (some ⟨g, 0, none⟩) 6 6, .int .i64 v] W fun e w' => e = .returned (.bool (ats.contains v)) ∧ W = w' :=
  containsAt_any W (fun _ => True) (some ⟨g, 0, none⟩) 6 ats v (arr_lit (xs := ats) h trivial) (by simp [ats])

/-- What sets.Right answers of a list. -/
def RightOK (R : List Rg → Bool) (l : List Rg) : Prop := ∀ (ok : Nat → Prop) (W : World) (B : Option Addr) (d : Nat), Arr ok W 2 RgC B l → l.length ≤ d → d ≤ maxLen →
  Calls Try.prog 54 #[.slice B l.length d] W fun e w' => e = .returned (.bool (R l)) ∧ Below W.heap.size W w'

def opV (rs : Bool) (op : Int) (n : Nat) (r : Int) (m : Nat) (at_ : Int) (nm : ByteArray) (mn mx : Int) : Bool :=
  if op = 1 then decide (n = 0) else if op = 2 then decide (n = 0) else
  if op = 3 then decide (n = 0) && decide (0 ≤ r) && decide (r ≤ 1114111) else
  if op = 4 then decide (n = 0) && decide (0 < m) && rs else
  if op = 5 then decide (n = 0) && ats.contains at_ else
  if op = 6 then ((n : Int) == 1) && (nm.toList.isEmpty || nameB nm) else
  if op = 7 then ((n : Int) == 1) else if op = 8 then ((n : Int) == 1) else if op = 9 then ((n : Int) == 1) else
  if op = 10 then ((n : Int) == 1) && decide (0 ≤ mn) && decide (mn ≤ 1000) && (decide (mx = -1) || (decide (mn ≤ mx) && decide (mx ≤ 1000))) else
  if op = 11 then true else if op = 12 then decide (0 < n) else false
def plainV (rs : Bool) (op : Int) (n : Nat) (r : Int) (m : Nat) (at_ c : Int) (nm : ByteArray) (mn mx : Int) (lz : Bool) : Bool :=
  if ¬ bI 3 op r = r then false else if ¬ (bN op m : Int) = m then false else if ¬ bI 5 op at_ = at_ then false else if ¬ bI 6 op c = c then false else
  if ¬ (bS op nm).toList = nm.toList then false else if ¬ bI 10 op mn = mn then false else if ¬ bI 10 op mx = mx then false else if (!bL op lz == lz) = true then false else
  opV rs op n r m at_ nm mn mx
theorem plainV_fine {rs : Bool} {op : Int} {n : Nat} {r : Int} {m : Nat} {at_ c : Int} {nm : ByteArray} {mn mx : Int} {lz : Bool} (h1 : bI 3 op r = r) (h2 : (bN op m : Int) = m) (h3 : bI 5 op at_ = at_) (h4 : bI 6 op c = c)
    (h5 : (bS op nm).toList = nm.toList) (h6 : bI 10 op mn = mn) (h7 : bI 10 op mx = mx) (h8 : (!bL op lz == lz) = false) : plainV rs op n r m at_ c nm mn mx lz = opV rs op n r m at_ nm mn mx := by
  unfold plainV
  rw [if_neg (not_not_intro h1), if_neg (not_not_intro h2), if_neg (not_not_intro h3), if_neg (not_not_intro h4), if_neg (not_not_intro h5), if_neg (not_not_intro h6), if_neg (not_not_intro h7), if_neg (by rw [h8]; simp)]
theorem cast_beq (n k : Nat) : ((n : Int) == (k : Int)) = decide (n = k) := by
  rw [Bool.eq_iff_iff, beq_iff_eq, decide_eq_true_iff]; omega
theorem cast_beq0 (n : Nat) : ((n : Int) == 0) = decide (n = 0) := cast_beq n 0
theorem cast_beq1 (n : Nat) : ((n : Int) == 1) = decide (n = 1) := cast_beq n 1

set_option maxRecDepth 100000 in
set_option maxHeartbeats 4000000 in
theorem plain_v (rs : Bool) (w : World) (op r at_ c mn mx : Int) (A B : Option Addr) (n m p q : Nat) (nm : ByteArray) (lz : Bool)
    (hR : op = 4 → ∀ W, Below w.heap.size w W → Calls Try.prog 54 #[.slice B m q] W fun e w' => e = .returned (.bool rs) ∧ Below W.heap.size W w') :
    Calls Try.prog 28 #[.agg #[.int .i64 op, .slice A n p, .int .i32 r, .slice B m q, .int .i64 at_, .int .i64 c, .string nm, .int .i64 mn, .int .i64 mx, .bool lz]] w fun e w' =>
      e = .returned (.bool (plainV rs op n r m at_ c nm mn mx lz)) ∧ Below w.heap.size w w' := by
  have HR := Lib.hid hR
  clear hR
  go_enter Try.func28, Try.ntmps28
  go_wp2_with fail
  refine (bare_any _ _ _ _ _ _ _ _ _ _ _ _ _ _ _).mono ?_
  rintro e w1 ⟨rfl, hb⟩
  have hz : w.heap.size < w1.heap.size := by have := hb.size; simp at this; omega
  have hc := fun o => hb.cell (p := ⟨w.heap.size, o, none⟩) (by simp)
  have hB1 : Below w.heap.size w w1 := below_then ((Below.refl _ _).alloc (Nat.le_refl _) _) (by simp) hb
  have HB := Lib.hid hB1
  clear hb hB1
  go_wp2_with (first
    | (go_at_call 54; refine (HR.out (eq_of_beq ‹(op == 4) = true›) _ (HB.out.alloc (Nat.le_of_lt hz) _)).mono ?_; rintro e w2 ⟨rfl, hb2⟩)
    | (go_at_call 55; refine (containsAt_lit _ _ _ _ (heap_new2 _ _ _)).mono ?_; rintro e w2 ⟨rfl, rfl⟩)
    | (go_at_call 56; refine (name_any _ _).mono ?_; rintro e w2 ⟨rfl, hb2⟩))
  all_goals
    go_ret
    refine ⟨ret_bool ?_, ?_⟩
    · first
        | (rw [plainV_fine ‹bI 3 op r = r› ‹(bN op m : Int) = m› ‹bI 5 op at_ = at_› ‹bI 6 op c = c› ‹(bS op nm).toList = nm.toList› ‹bI 10 op mn = mn› ‹bI 10 op mx = mx› ‹(!bL op lz == lz) = false›]
           simp only [beq_iff_eq, beq_eq_false_iff_ne] at *
           simp only [opV, *]
           simp [cast_beq0, *] <;> first | omega | (rw [Bool.eq_iff_iff]; simp; omega))
        | simp [plainV, *]
    · repeat (first | exact HB.out | refine below_and (by assumption) ?_ | refine Below.drew ?_ | refine below_al ?_ _)

def plainB (R : List Rg → Bool) (t : Tr) : Bool := plainV (R t.set) t.op t.kids.length t.rune t.set.length t.at_ t.cap t.name t.mn t.mx t.lz
theorem plain_any (R : List Rg → Bool) (ok : Nat → Prop) (w : World) (t : Tr) (cs : List Value) (h : TrC ok w t cs) (hR : t.op = 4 → RightOK R t.set) :
    Calls Try.prog 28 #[.agg cs.toArray] w fun e w' => e = .returned (.bool (plainB R t)) ∧ Below w.heap.size w w' := by
  obtain ⟨A, c, B, d, rfl, h1, h2, h3, h4, h5, h6⟩ := trC_iff.1 h
  exact plain_v (R t.set) w t.op t.rune t.at_ t.cap t.mn t.mx A B t.kids.length t.set.length c d t.name t.lz
    (fun e W hb => hR e ok W B d (h5.move (fun b hok hlt => ⟨hb.block b hlt, hok⟩) (by omega)) h3 h4)
end Go.Proofs.Ytdnbholiijgedaa
