/-
  slices.Backward over trees and over whole numbers: what is handed on. No condition.
-/
import Derived.Test.YtdnbholiijgedaaCore
import Derived.Test.YtdnbholiijgedaaProg
import Derived.Test.YtdnbholiijgedaaEach
import Derived.Test.YtdnbholiijgedaaPlain
import Derived.RangeFuncCalls
namespace Go.Proofs.Ytdnbholiijgedaa
open Go.RowKit Go.Shelf
set_option linter.unusedVariables false
attribute [local go_sem] Oper.semAt_some

/-- What a round of the ranging code keeps: the blocks that are so, and the boxes of a type. -/
def KeepsF (T : TypeId) (F : Nat → Prop) (W W' : World) : Prop := (∀ b, F b → W'.heap[b]? = W.heap[b]?) ∧ ∀ (b : Nat) (cs : Array Value) (fr : Nat × Nat), W.heap[b]? = some (.cells cs T fr) → W'.heap[b]? = some (.cells cs T fr)
theorem KeepsF.trans {T : TypeId} {F : Nat → Prop} {A B C : World} (h : KeepsF T F A B) (k : KeepsF T F B C) : KeepsF T F A C := ⟨fun b hb => (k.1 b hb).trans (h.1 b hb), fun b cs fr hb => k.2 b cs fr (h.2 b cs fr hb)⟩
theorem KeepsF.refl (T : TypeId) (F : Nat → Prop) (W : World) : KeepsF T F W W := ⟨fun _ _ => rfl, fun _ _ _ h => h⟩
theorem KeepsF.of_below {T : TypeId} {F : Nat → Prop} {A B : World} (h : Below A.heap.size A B) (hF : ∀ b, F b → b < A.heap.size) : KeepsF T F A B := ⟨fun b hb => h.block b (hF b hb), fun b cs fr hb => (h.block b (heap_lt hb)).trans hb⟩

/-- A Kid, as it lies in a world, and its number. -/
abbrev KidAt (B0 : Nat) (w : World) (kids : List Tr) : Type := { x : Nat × List Value // ∃ h : x.1 < kids.length, TrC (fun b => b < B0) w kids[x.1] x.2 }
def kidA {B0 : Nat} {w : World} {kids : List Tr} (x : KidAt B0 w kids) : Array Value := #[.int .i64 (x.1.1 : Int), .agg x.1.2.toArray]
def BackPost (v : Value) (T : TypeId) (f : Nat) (w : World) (e : Ending) (w' : World) : Prop := e = .returned (.func (.func f) #[] #[.pointer (some ⟨w.heap.size, 0, none⟩)]) ∧ w.alloc (.cells #[v] T) = w'
theorem backT_any (w : World) (A : Option Addr) (n c : Nat) : Calls Try.prog 37 #[.slice A n c] w (BackPost (.slice A n c) 23 60 w) := by
  go_enter Try.func37, Try.ntmps37
  go_wp2
  go_ret
  exact ⟨rfl, rfl⟩
theorem backI_any (w : World) (A : Option Addr) (n c : Nat) : Calls Try.prog 38 #[.slice A n c] w (BackPost (.slice A n c) 66 61 w) := by
  go_enter Try.func38, Try.ntmps38
  go_wp2
  go_ret
  exact ⟨rfl, rfl⟩
theorem range_rev (k : Nat) : (List.range (k + 1)).reverse = k :: (List.range k).reverse := by rw [List.range_succ, List.reverse_append]; rfl
set_option maxRecDepth 100000 in
set_option maxHeartbeats 4000000 in
theorem backT_stops (n B0 Bt : Nat) (w : World) (A : Option Addr) (c : Nat) (kids : List Tr) (h6 : Arr (fun b => b < B0) w 10 (TrC (fun b => b < B0) w) A kids) (hB0 : B0 ≤ w.heap.size) (hbt : w.heap[Bt]? = some (.cells #[.slice A kids.length c] 23 (0, 0))) (hN : kids.length ≤ 1000000000000) :
    SeqStopsK Fence.wide n Try.prog 60 #[.pointer (some ⟨Bt, 0, none⟩)] (kidA (B0 := B0) (w := w) (kids := kids)) (KeepsF 23 (fun b => b < B0)) (fun ys => ys.map (fun x => x.1.1) = (List.range kids.length).reverse) (fun _ => True) kids.length w := by
  intro l J Jx W hW hJ hJx hY h0
  have hc0 : W.heap[Bt]? = some (.cells #[.slice A kids.length c] 23 (0, 0)) := (hW.block _ (heap_lt hbt)).trans hbt
  have hdd : ∀ k : Nat, (Fence.wide.depth.isSome = true → 1 ≤ k) := fun k h => by simp [Fence.wide] at h
  have HE := Lib.hid (And.intro h6 (And.intro hW hc0))
  have HY := Lib.hid hY
  have g0 : W.cell? ⟨Bt, 0, none⟩ = some (.slice A kids.length c) := by rw [cell_of_blk hc0]; rfl
  clear h6 hW hbt hc0 hY
  refine callsIn_of_wp Try.func60 rfl trivial ?_ rfl
  simp only [Try.ntmps60, List.size_toArray, List.length_cons, List.length_nil, Nat.reduceAdd, Nat.reduceSub, Array.replicate_succ, Array.replicate_zero, List.push_toArray, List.append_toArray, List.nil_append, List.cons_append]
  gi_wp2_with fail
  gi_loopw [3] (fun s3 wr => ∃ (k : Nat) (ys : List (KidAt B0 w kids)), s3 = .int .i64 ((k : Int) - 1) ∧ k ≤ kids.length ∧ Hid (ys.map (fun x => x.1.1) ++ (List.range k).reverse = (List.range kids.length).reverse) ∧ J ys wr ∧ KeepsF 23 (fun b => b < B0) W wr) (fun s3 _ => (intOf s3 + 1).toNat)
  case atStart => exact ⟨kids.length, [], by go_num, Nat.le_refl _, Lib.hid rfl, h0, KeepsF.refl _ _ _⟩
  case round =>
    obtain ⟨k, ys, rfl, hk, HS, hJi, hKr⟩ := hrel
    have hcr : wr.heap[Bt]? = _ := hKr.2 _ _ _ HE.out.2.2
    have g1 : wr.cell? ⟨Bt, 0, none⟩ = some (.slice A kids.length c) := by rw [cell_of_blk hcr]; rfl
    clear g0 hcr
    cases k with
    | zero =>
      have HJ := Lib.hid (And.intro hJi hKr)
      clear hJi hKr
      gi_wp2_with fail
      go_end0
      exact ⟨⟨_, rfl⟩, .inl ⟨ys, by have := HS.out; simpa using this, HJ.out.1⟩⟩
    | succ k =>
      have hlt : k < kids.length := by omega
      obtain ⟨ad, A1, c1, A3, c3, rfl, hTk, k0, k1, k2, k3, k4, k5, k6, k7, k8, k9⟩ := trArr_at HE.out.1 wr (fun b hb hb' => (hKr.1 b hb).trans (HE.out.2.1.block b hb')) k hlt
      have hpl : ys.length < kids.length := by
        have h9 := congrArg List.length HS.out
        simp at h9; omega
      obtain ⟨xk, hxk⟩ : ∃ xk : KidAt B0 w kids, xk.1 = (k, _) := ⟨⟨(k, _), hlt, hTk⟩, rfl⟩
      have hS2 : (ys ++ [xk]).map (fun x => x.1.1) ++ (List.range k).reverse = (List.range kids.length).reverse := by
        rw [← HS.out, range_rev, List.map_append, List.map_cons, List.map_nil, hxk, List.append_assoc]; rfl
      obtain ⟨fn, tmps, assign, body, hy1, hR⟩ := HY.out ys xk wr hJi hpl
      unfold kidA at hy1
      rw [hxk] at hy1
      dsimp only at hy1
      clear hxk
      have HS2 := Lib.hid (And.intro hS2 hKr)
      clear hS2 hJi hKr hTk hpl
      have e1 : ((k + 1 : Nat) : Int) - 1 = (k : Int) := by omega
      rw [e1]
      gi_wp2_with ((try refine ⟨hdd _, ?_⟩); refine hR.mono ?_; clear hR; rintro e W2 (⟨rfl, hJ2, hk2⟩ | ⟨rfl, hx2⟩))
      · go_roundw
        case rel => exact ⟨k, _, by go_num, by omega, Lib.hid HS2.out.1, hJ2, HS2.out.2.trans hk2⟩
        case measure => simp [intOf]
      · refine bodyPost_ret (results_none rfl _ _ _) rfl ?_
        exact ⟨⟨_, rfl⟩, .inr ⟨_, trivial, hx2⟩⟩
def backI (x : Int × Int) : Array Value := #[.int .i64 x.1, .int .i64 x.2]
set_option maxRecDepth 100000 in
set_option maxHeartbeats 4000000 in
theorem backI_stops (n R Bt : Nat) (w : World) (A : Option Addr) (c : Nat) (xs : List Int) (h6 : Arr (fun b => b = R) w 1 (IntC .i64) A xs) (hR : R < w.heap.size) (hbt : w.heap[Bt]? = some (.cells #[.slice A xs.length c] 66 (0, 0))) (hN : xs.length ≤ 1000000000000) :
    SeqStopsK Fence.wide n Try.prog 61 #[.pointer (some ⟨Bt, 0, none⟩)] backI (KeepsF 66 (fun b => b = R)) (fun ys => ys.map (fun x => x.2) = xs.reverse) (fun _ => True) xs.length w := by
  intro l J Jx W hW hJ hJx hY h0
  have hc0 : W.heap[Bt]? = some (.cells #[.slice A xs.length c] 66 (0, 0)) := (hW.block _ (heap_lt hbt)).trans hbt
  have hdd : ∀ k : Nat, (Fence.wide.depth.isSome = true → 1 ≤ k) := fun k h => by simp [Fence.wide] at h
  have HE := Lib.hid (And.intro h6 (And.intro hW hc0))
  have HY := Lib.hid hY
  have g0 : W.cell? ⟨Bt, 0, none⟩ = some (.slice A xs.length c) := by rw [cell_of_blk hc0]; rfl
  clear h6 hW hbt hc0 hY
  refine callsIn_of_wp Try.func61 rfl trivial ?_ rfl
  simp only [Try.ntmps61, List.size_toArray, List.length_cons, List.length_nil, Nat.reduceAdd, Nat.reduceSub, Array.replicate_succ, Array.replicate_zero, List.push_toArray, List.append_toArray, List.nil_append, List.cons_append]
  gi_wp2_with fail
  gi_loopw [3] (fun s3 wr => ∃ (k : Nat) (ys : List (Int × Int)), s3 = .int .i64 ((k : Int) - 1) ∧ k ≤ xs.length ∧ Hid (ys.map (fun x => x.2) ++ (xs.take k).reverse = xs.reverse) ∧ J ys wr ∧ KeepsF 66 (fun b => b = R) W wr) (fun s3 _ => (intOf s3 + 1).toNat)
  case atStart => exact ⟨xs.length, [], by go_num, Nat.le_refl _, Lib.hid (by rw [List.take_length]; rfl), h0, KeepsF.refl _ _ _⟩
  case round =>
    obtain ⟨k, ys, rfl, hk, HS, hJi, hKr⟩ := hrel
    have hcr : wr.heap[Bt]? = _ := hKr.2 _ _ _ HE.out.2.2
    have g1 : wr.cell? ⟨Bt, 0, none⟩ = some (.slice A xs.length c) := by rw [cell_of_blk hcr]; rfl
    clear g0 hcr
    cases k with
    | zero =>
      have HJ := Lib.hid (And.intro hJi hKr)
      clear hJi hKr
      gi_wp2_with fail
      go_end0
      exact ⟨⟨_, rfl⟩, .inl ⟨ys, by have := HS.out; simpa using this, HJ.out.1⟩⟩
    | succ k =>
      have hlt : k < xs.length := by omega
      have harr : Arr (fun b => b = R) wr 1 (IntC .i64) A xs := HE.out.1.move (fun b hb hb' => ⟨(hKr.1 b hb).trans (HE.out.2.1.block b hb'), hb⟩) (by omega)
      obtain ⟨ad, rfl, hc1⟩ := ints_at harr k hlt
      have hpl : ys.length < xs.length := by
        have h9 := congrArg List.length HS.out
        simp at h9; omega
      obtain ⟨xk, hxk⟩ : ∃ xk, xk = xs[k] := ⟨_, rfl⟩
      rw [← hxk] at hc1
      have hS2 : (ys ++ [((k : Int), xk)]).map (fun x => x.2) ++ (xs.take k).reverse = xs.reverse := by
        rw [← HS.out, List.take_succ_eq_append_getElem hlt, List.map_append, List.reverse_append, hxk, List.append_assoc]; rfl
      obtain ⟨fn, tmps, assign, body, hy1, hR⟩ := HY.out ys ((k : Int), xk) wr hJi hpl
      unfold backI at hy1
      dsimp only at hy1
      have HS2 := Lib.hid (And.intro hS2 hKr)
      clear hS2 hJi hKr hpl harr hxk
      have e1 : ((k + 1 : Nat) : Int) - 1 = (k : Int) := by omega
      rw [e1]
      gi_wp2_with ((try refine ⟨hdd _, ?_⟩); refine hR.mono ?_; clear hR; rintro e W2 (⟨rfl, hJ2, hk2⟩ | ⟨rfl, hx2⟩))
      · go_roundw
        case rel => exact ⟨k, _, by go_num, by omega, Lib.hid HS2.out.1, hJ2, HS2.out.2.trans hk2⟩
        case measure => simp [intOf]
      · refine bodyPost_ret (results_none rfl _ _ _) rfl ?_
        exact ⟨⟨_, rfl⟩, .inr ⟨_, trivial, hx2⟩⟩
end Go.Proofs.Ytdnbholiijgedaa
