/-
  A region without a deferral, inside a round of a range over a function: it may be walked as outside. No condition.
-/
import Derived.OrdersIn
import Derived.OwnWalkIn
import Derived.Sort.QuietIn
import Derived.RangeFuncCalls
import Derived.StillTail
import Derived.StillTactics
import Derived.Deep.RegionHeld3
namespace Go.Proofs.Ytdnbholiijgedaa
open Go
set_option linter.unusedVariables false

theorem wpOpIn_round {F : Fence} {n : Nat} {P : Program} {ops : Array Oper} {Q : Exit → Act → World → Prop} (l : Nat) (hnd : ∀ o ∈ ops, ∀ c, o.op ≠ .defer c) {i : Nat} {K : Act → World → Prop} {a : Act} {w : World} (h : wpOpIn F n P ops Q i K a w) : wpOpIn (F.inRound l) n P ops Q i K a w := by
  unfold wpOpIn at *
  split
  · rename_i ho
    simpa [ho] using h
  · rename_i o ho
    simp only [ho] at h
    have hm : o ∈ ops := Array.mem_of_getElem? ho
    split
    · rename_i hw
      simp only [hw, if_true] at h
      unfold Oper.wpIn at *
      rw [Oper.semAt_plain _ _ _ (hnd o hm)] at *
      exact h
    · rename_i hw
      simp only [hw] at h
      exact h
theorem wpAnyIn_round {F : Fence} {n : Nat} {P : Program} {md : Region.Mode} {ops : Array Oper} {Q : Exit → Act → World → Prop} (l : Nat) (hnd : ∀ o ∈ ops, ∀ c, o.op ≠ .defer c) : ∀ (fuel : Nat) (listed : Array Bool) (a : Act) (w : World), wpAnyIn F n P md ops Q fuel listed a w → wpAnyIn (F.inRound l) n P md ops Q fuel listed a w
  | 0, _, _, _, h => h
  | fuel + 1, listed, a, w, h => ⟨h.1, fun i hi => wpOpIn_mono (fun a w hh => wpAnyIn_round l hnd fuel _ a w hh) (wpOpIn_round l hnd (h.2 i hi))⟩
theorem region_quiet_round {n : Nat} {P : Program} {ops : Array Oper} {id : Nat} {Q : Exit → Act → World → Prop} {a : Act} {w : World} {C : World → Prop} (l : Nat) (hnd : ∀ o ∈ ops, ∀ c, o.op ≠ .defer c) (hm : P.follows .mixedOrders = true) (hB : Region.lexB .any ops = true) (hC : C { w with drawn := w.drawn + 1 })
    (h : wpQuietIn Fence.wide n P ops C (fun a' => ∀ w', C w' → Q .normal a' w') ops.toList a) : (Code.region id ops true).wpIn (Fence.wide.inRound l) n P Q a w := by
  simp only [Region.lexB, Bool.and_eq_true] at hB
  refine wpIn_region_any hm (wpAnyIn_round l hnd _ _ _ _ (wpAnyIn_of_quiet (Q := fun a' => ∀ w', C w' → Q .normal a' w') rfl (fun _ w' hw' h => h w' hw') _ _ _ _ hC ?_))
  have := wpAnyQIn_lex (F := Fence.wide) (n := n) (C := C) (md := .any) hB.1 ops.toList 0 (Array.replicate ops.size false) a (by simp) (by simpa using hB.2) h
  simpa using this
/-- The same for a region whose operations are written out. -/
theorem region_quiet_lit_round {n : Nat} {P : Program} {id : Nat} {Q : Exit → Act → World → Prop} {a : Act} {w : World} {os : List Oper} {l : Nat} (hnd : os.all (fun o => match o.op with | .defer _ => false | _ => true) = true) (hm : P.follows .mixedOrders = true) (hB : Region.lexB .any os.toArray = true)
    (h : wpQuietIn Fence.wide n P os.toArray (fun w' => ∃ n, w' = w.drewN n) (fun a' => ∀ w', (∃ n, w' = w.drewN n) → Q .normal a' w') os a) : (Code.region id os.toArray true).wpIn (Fence.wide.inRound l) n P Q a w :=
  region_quiet_round (C := fun w' => ∃ n, w' = w.drewN n) l (fun o ho c hc => by have := List.all_eq_true.1 hnd o (by simpa using ho); rw [hc] at this; cases this) hm hB ⟨1, rfl⟩ (by simpa using h)

/-! ### reads before one operation that writes, inside a round -/
theorem wpIn_of_still_round {P : Program} {n l : Nat} {o : Oper} {a : Act} {w : World} {K : Act → Prop} {K' : Act → World → Prop} {Q' : Exit → Act → World → Prop} (hnd : ∀ c, o.op ≠ .defer c) (h : ∀ a, K a → K' a w) (hh : o.still P a w K) : o.wpIn (Fence.wide.inRound l) n P a w K' Q' := by
  unfold Oper.still at hh
  unfold Oper.wpIn
  rw [Oper.semAt_plain _ _ _ hnd]
  refine ⟨fun _ _ => trivial, ?_⟩
  generalize (execOp a.eval o).run P w = r at *
  cases r with
  | ok x w' =>
    cases x <;> simp only [Oper.stillUpon] at hh <;> simp only [Oper.uponIn]
    case enter f args =>
      obtain ⟨rfl, v, hc, hn⟩ := hh
      exact ⟨fun e => by simp [Fence.wide] at e, CallsIn.inRound l (callsIn_wide.2 (hc.mono fun e w'' ⟨he, hw⟩ => by subst he; subst hw; exact h _ hn))⟩
    all_goals (obtain ⟨rfl, h2⟩ := hh; exact h _ h2)
  | halt x w' => simp only [Oper.stillUpon] at hh
theorem wpOpIn_of_stOp_round {P : Program} {n l : Nat} {ops : Array Oper} {w : World} (hnd : ∀ o ∈ ops, ∀ c, o.op ≠ .defer c) {i : Nat} {a : Act} {K : Act → Prop} {K' : Act → World → Prop} {Q' : Exit → Act → World → Prop} (h : ∀ a, K a → K' a w) (hh : stOp P ops w i K a) : wpOpIn (Fence.wide.inRound l) n P ops Q' i K' a w := by
  unfold stOp at hh
  unfold wpOpIn
  split
  · rename_i ho; simp only [ho] at hh; exact h _ hh
  · rename_i o ho
    simp only [ho] at hh
    split
    · rename_i hw; simp only [hw, if_true] at hh; exact wpIn_of_still_round (hnd o (Array.mem_of_getElem? ho)) h hh
    · rename_i hw; simp only [hw] at hh; exact ⟨fun _ _ => trivial, h _ hh⟩
theorem wpAnyIn_of_head_round {P : Program} {md : Region.Mode} {ops : Array Oper} {w : World} {m l : Nat} (hnd : ∀ o ∈ ops, ∀ c, o.op ≠ .defer c) {n g : Nat} {L : Array Bool → Act → Prop} {Q' : Exit → Act → World → Prop} (hL : ∀ listed a, L listed a → wpAnyIn (Fence.wide.inRound l) m P md ops Q' g listed a w) :
    ∀ (f : Nat) (listed : Array Bool) (a : Act), wpAnyL P md ops w n L f listed a → wpAnyIn (Fence.wide.inRound l) m P md ops Q' (f + g) listed a w
  | 0, listed, a, h => by rw [Nat.zero_add]; exact hL _ _ h
  | f + 1, listed, a, h => by
    rw [show f + 1 + g = (f + g) + 1 by omega]
    exact ⟨fun h0 => absurd h0 h.1, fun i hi => wpOpIn_of_stOp_round hnd (fun a' h' => wpAnyIn_of_head_round hnd hL f _ a' h') (h.2 i hi).2⟩
theorem wpAnyIn_of_seq {F : Fence} {m : Nat} {P : Program} {md : Region.Mode} {ops : Array Oper} {Q' : Exit → Act → World → Prop} : ∀ (l : List Oper) (k : Nat) (listed : Array Bool) (a : Act) (w : World), (∀ j, l[j]? = ops[k + j]?) →
    Region.seqB md ops l.length k listed = true → wpListIn F m P ops Q' l a w → wpAnyIn F m P md ops Q' l.length listed a w
  | [], _, _, _, _, _, hB, h => ⟨by simpa [Region.seqB] using hB, h⟩
  | o :: l, k, listed, a, w, hl, hB, h => by
    have h0 : ops[k]? = some o := by simpa using (hl 0).symm
    simp only [List.length_cons, Region.seqB, Bool.and_eq_true, decide_eq_true_eq] at hB
    refine ⟨fun h1 => (by rw [hB.1] at h1; cases h1), fun i hi => ?_⟩
    rw [hB.1] at hi
    have hik : i = k := by simpa using hi
    subst hik
    have hw : wpOpIn F m P ops Q' i (wpListIn F m P ops Q' l) a w := by unfold wpOpIn; simp only [h0]; exact h
    exact wpOpIn_mono (fun a' w' h' => wpAnyIn_of_seq l (i + 1) _ a' w' (fun j => by have := hl (j + 1); simpa [Nat.add_assoc, Nat.add_comm 1 j] using this) hB.2 h') hw
theorem region_still_tail_round {P : Program} {m r : Nat} {id : Nat} {Q : Exit → Act → World → Prop} {a : Act} {w : World} {l : List Oper} (n : Nat) (hnd : l.all (fun o => match o.op with | .defer _ => false | _ => true) = true) (hm : P.follows .mixedOrders = true) (hB : Region.lexTailB .any l.toArray n = true)
    (h : wpStill P l.toArray w.drew (fun a' => wpListIn (Fence.wide.inRound r) m P l.toArray Q (l.drop n) a' w.drew) (l.take n) a) : (Code.region id l.toArray true).wpIn (Fence.wide.inRound r) m P Q a w := by
  simp only [Region.lexTailB, Bool.and_eq_true, decide_eq_true_eq] at hB
  obtain ⟨⟨⟨⟨hsel, hn⟩, hs⟩, hc⟩, hlex⟩ := hB
  have hnd' : ∀ o ∈ l.toArray, ∀ c, o.op ≠ .defer c := fun o ho c hc => by have := List.all_eq_true.1 hnd o (by simpa using ho); rw [hc] at this; cases this
  have hn' : n < l.length := by simpa using hn
  have htl : (l.take n).length = n := by simp; omega
  have hdl : (l.drop n).length = l.toArray.size - n := by simp
  have inv0 : HeadInv .any l.toArray n (Array.replicate l.toArray.size false) :=
    ⟨by simp, fun j oj _ hl => (by rw [getD_replicate_false] at hl; cases hl), fun t _ ht => getD_in (by simpa using ht) (getD_replicate_false _ _)⟩
  have H := wpAnyL_lex (md := .any) (g := l.toArray.size - n) hsel hs hc hn (l.take n) 0 _ a (fun j hj => by
    have hj' : j < n := by rw [htl] at hj; exact hj
    simp [hj']) (by simpa using htl) inv0 (by rw [htl]; exact hlex) h
  refine wpIn_region_any hm ?_
  have := wpAnyIn_of_head_round (m := m) (l := r) hnd' (Q' := Q) (g := l.toArray.size - n) (fun listed a' hL => by
    have := wpAnyIn_of_seq (F := Fence.wide.inRound r) (m := m) (md := .any) (Q' := Q) (l.drop n) n listed a' w.drew (fun j => by simp [List.getElem?_drop]) (by rw [hdl]; exact hL.1) hL.2
    rwa [hdl] at this) _ _ _ H
  rw [htl, show n + (l.toArray.size - n) = l.toArray.size by omega] at this
  exact this
/-! ### a region with a standing condition, inside a round -/
theorem wpIn_of_wp_round {P : Program} {n l : Nat} {o : Oper} {a : Act} {w : World} {K : Act → World → Prop} {Q : Exit → Act → World → Prop} (hnd : ∀ c, o.op ≠ .defer c) (h : o.wp P a w K Q) : o.wpIn (Fence.wide.inRound l) n P a w K Q := by
  unfold Oper.wp at h
  unfold Oper.wpIn
  rw [Oper.semAt_plain _ _ _ hnd]
  refine ⟨fun _ _ => trivial, ?_⟩
  generalize (execOp a.eval o).run P w = r at *
  cases r with
  | ok x w' =>
    cases x <;> simp only [Oper.upon] at h <;> simp only [Oper.uponIn]
    case enter f args => exact ⟨fun e => by simp [Fence.wide] at e, CallsIn.inRound l (callsIn_wide.2 (h.mono fun e w'' hh => by cases e <;> exact hh))⟩
    case row row args => exact ⟨fun e => by simp [Fence.wide] at e, fun c cs _ => let ⟨v, w', r, s⟩ := h c cs; ⟨v, w', r, stepsIn_wide.2 s⟩⟩
    all_goals exact h
  | halt x w' => cases x <;> first | exact h | (simp only [Oper.upon] at h; exact h.elim)
theorem wpOpIn_of_wpOp_round {P : Program} {n l : Nat} {ops : Array Oper} (hnd : ∀ o ∈ ops, ∀ c, o.op ≠ .defer c) {i : Nat} {a : Act} {w : World} {K : Act → World → Prop} {Q : Exit → Act → World → Prop} (hno : ¬ LetsOut Q) (h : wpOp P ops Q i K a w) : wpOpIn (Fence.wide.inRound l) n P ops Q i K a w := by
  unfold wpOp at h
  unfold wpOpIn
  split
  · rename_i ho; simpa only [ho] using h
  · rename_i o ho
    simp only [ho] at h
    split
    · rename_i hw; simp only [hw, if_true] at h; exact wpIn_of_wp_round (hnd o (Array.mem_of_getElem? ho)) (h.resolve_right (fun hh => hno hh.2))
    · rename_i hw; rw [if_neg hw] at h; exact ⟨fun _ _ => trivial, h⟩
theorem wpAnyIn_of_wpAny_round {P : Program} {md : Region.Mode} {ops : Array Oper} {n l : Nat} {Q : Exit → Act → World → Prop} (hno : ¬ LetsOut Q) (hnd : ∀ o ∈ ops, ∀ c, o.op ≠ .defer c) : ∀ (f : Nat) (listed : Array Bool) (a : Act) (w : World), wpAny P md ops Q f listed a w → wpAnyIn (Fence.wide.inRound l) n P md ops Q f listed a w
  | 0, _, _, _, h => h
  | f + 1, _, _, _, h => ⟨h.1, fun i hi => wpOpIn_mono (fun a' w' h' => wpAnyIn_of_wpAny_round hno hnd f _ a' w' h') (wpOpIn_of_wpOp_round hnd hno (h.2 i hi))⟩
def OnlyN (Q : Exit → Act → World → Prop) (e : Exit) (a : Act) (w : World) : Prop := e = .normal ∧ Q e a w
theorem region_held_round {P : Program} {n r : Nat} {id : Nat} {Q : Exit → Act → World → Prop} {a : Act} {w : World} {os : List Oper} (S : World → Prop) (hnd : os.all (fun o => match o.op with | .defer _ => false | _ => true) = true) (hm : P.follows .mixedOrders = true)
    (h : wpAnyH P .any os.toArray (OnlyN Q) S os.length (Array.replicate os.length false) a w.drew) : (Code.region id os.toArray true).wpIn (Fence.wide.inRound r) n P Q a w :=
  wpIn_mono (wpIn_region_any hm (wpAnyIn_of_wpAny_round (Q := OnlyN Q) (fun ⟨_, _, hh⟩ => nomatch hh.1) (fun o ho c hc => by have := List.all_eq_true.1 hnd o (by simpa using ho); rw [hc] at this; cases this) _ _ _ _ (by simpa using wpAny_of_held _ _ _ _ h))) (fun _ _ _ hh => hh.2)
end Go.Proofs.Ytdnbholiijgedaa
