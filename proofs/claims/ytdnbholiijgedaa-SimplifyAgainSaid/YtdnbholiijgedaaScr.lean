/-
  Words of this seat's own: a region that draws its order, by a script: operations that yield are taken early, the others come one by one; guards too. No condition.
-/
import Derived.Test.YtdnbholiijgedaaSeq
namespace Go.Proofs.Ytdnbholiijgedaa
open Go.RowKit
set_option linter.unusedVariables false

section
variable {P : Program} {ops : Array Oper} {Q : Exit → Act → World → Prop} {md : Region.Mode} {S : World → Prop}
/-- true: taken; false: carried out; number, slot. -/
def Scr (P : Program) (ops : Array Oper) (Q : Exit → Act → World → Prop) (S : World → Prop) : List (Bool × Nat × Nat) → Act → World → Prop
  | [], a, w => Q .normal a w
  | (true, i, d) :: r, a, w => ∃ o v, ops[i]? = some o ∧ o.dst = some d ∧ YieldsIf P ops S o v a ∧ S w ∧ Scr P ops Q S r (a.put (some d) v) w
  | (false, i, _) :: r, a, w => wpOp P ops Q i (fun a' w' => S w' ∧ Scr P ops Q S r a' w') a w
def scrOK (md : Region.Mode) (ops : Array Oper) : Array Bool → List (Bool × Nat × Nat) → Bool
  | listed, [] => Region.ready md ops listed == []
  | listed, (true, i, _) :: r => Region.free md ops listed i && (Region.ready md ops listed).contains i && scrOK md ops (listed.setIfInBounds i true) r
  | listed, (false, i, _) :: r => (Region.ready md ops listed == [i]) && scrOK md ops (listed.setIfInBounds i true) r
theorem held_of_scr (hs : Region.noSelect ops = true) (hQ : ∀ c (d : Tmp) v a w, Q (.panic c) (a.put (some d) v) w → Q (.panic c) a w) : ∀ (r : List (Bool × Nat × Nat)) (listed : Array Bool) (a : Act) (w : World),
    scrOK md ops listed r = true → Scr P ops Q S r a w → wpAnyH P md ops Q S r.length listed a w
  | [], listed, a, w, hc, h => wpAnyH_done (by simpa [scrOK] using hc) h _
  | (true, i, d) :: r, listed, a, w, hc, h => by
    simp only [scrOK, Bool.and_eq_true] at hc
    obtain ⟨o, v, ho, hd, hy, hS, hr⟩ := h
    refine wpAnyH_take ho hs hc.1.1 hc.1.2 (fun c a w => by rw [hd]; exact hQ c d v a w) hy hS ?_
    rw [hd]
    exact held_of_scr hs hQ r _ _ w hc.2 hr
  | (false, i, _) :: r, listed, a, w, hc, h => by
    simp only [scrOK, Bool.and_eq_true, beq_iff_eq] at hc
    refine ⟨fun h0 => by rw [h0] at hc; exact absurd hc.1 (by simp), fun j hj => ?_⟩
    rw [hc.1] at hj
    rw [List.mem_singleton.1 hj]
    exact wpOp_mono (fun a' w' h' => ⟨h'.1, held_of_scr hs hQ r _ a' w' hc.2 h'.2⟩) h
theorem Scr.take {i d : Nat} {r : List (Bool × Nat × Nat)} {o : Oper} {v : Value} {a : Act} {w : World} (hi : ops[i]? = some o) (hd : o.dst = some d) (hy : YieldsIf P ops S o v a) (hS : S w) (h : Scr P ops Q S r (a.put (some d) v) w) : Scr P ops Q S ((true, i, d) :: r) a w :=
  ⟨o, v, hi, hd, hy, hS, h⟩
theorem Scr.run {i d : Nat} {r : List (Bool × Nat × Nat)} {o : Oper} {a : Act} {w : World} (hi : ops[i]? = some o) (hw : Region.wanted o (yielded ops a.tmps) = true) (h : ∀ K : Act → World → Prop, (∀ a' w', S w' → Scr P ops Q S r a' w' → K a' w') → Oper.wp P o a w K Q) : Scr P ops Q S ((false, i, d) :: r) a w := by
  unfold Scr wpOp
  simp only [hi]
  rw [if_pos hw]
  exact .inl (h _ fun a' w' h1 h2 => ⟨h1, h2⟩)
theorem Scr.skip {i d : Nat} {r : List (Bool × Nat × Nat)} {o : Oper} {a : Act} {w : World} (hi : ops[i]? = some o) (hd : o.dst = some d) (hw : Region.wanted o (yielded ops a.tmps) = false) (hS : S w) (h : Scr P ops Q S r (a.put (some d) undef) w) : Scr P ops Q S ((false, i, d) :: r) a w := by
  rw [← hd] at h
  unfold Scr wpOp
  simp only [hi]
  rw [if_neg (by rw [hw]; simp)]
  exact ⟨hS, h⟩
end
theorem wp_region_scr {P : Program} {ops : Array Oper} {Q : Exit → Act → World → Prop} (S : World → Prop) {id : Nat} {a : Act} {w : World} (r : List (Bool × Nat × Nat)) (hm : P.follows .mixedOrders = true) (hs : Region.noSelect ops = true)
    (hQ : ∀ c (d : Tmp) v a w, Q (.panic c) (a.put (some d) v) w → Q (.panic c) a w) (hl : r.length = ops.size)
    (hc : scrOK .any ops (Array.replicate ops.size false) r = true) (h : Scr P ops Q S r a w.drew) : (Code.region id ops true).wp P Q a w := by
  have h9 := held_of_scr (P := P) (md := .any) (S := S) hs hQ r (Array.replicate ops.size false) a w.drew hc h
  rw [hl] at h9
  exact wp_region_held hm h9
theorem yw_cell {P : Program} {ops : Array Oper} {S : World → Prop} {o : Oper} {a : Act} (ty : TypeId) (x : Operand) (ho : o.op = .load ty x) (p : Addr) (v : Value) (hx : a.eval x = .pointer (some p)) (hw : Region.wanted o (yielded ops a.tmps) = true)
    (d : TypeDesc) (hu : P.underlying ty = some d) (hd : d.isRow = false) (hc : ∀ w, S w → w.cell? p = some v) : YieldsIf P ops S o v a := by
  refine Or.inl ⟨hw, fun w hS => ?_⟩
  have h := hc w hS
  have hagg : (isAgg ty).run P w = .ok false w := by
    unfold isAgg
    rw [Sem.run_bind, run_underlying hu w]
    cases d <;> simp_all
  unfold execOp
  simp [ho, hx, Instr.loadAt, Instr.sureAddr, loadVar, hagg, h]
theorem yw_row {P : Program} {ops : Array Oper} {S : World → Prop} {o : Oper} {a : Act} (ty : TypeId) (x : Operand) (ho : o.op = .load ty x) (b : Nat) (cs : List Value) (T : TypeId) (hx : a.eval x = .pointer (some ⟨b, 0, none⟩)) (hw : Region.wanted o (yielded ops a.tmps) = true)
    (d : TypeDesc) (hu : P.underlying ty = some d) (hd : d.isRow = true) (hi : (P.info? ty).map (·.size) = some cs.length) (hc : ∀ w, S w → w.heap[b]? = some (.cells cs.toArray T (0, 0))) : YieldsIf P ops S o (.agg cs.toArray) a := by
  refine Or.inl ⟨hw, fun w hS => ?_⟩
  have h := hc w hS
  have h2 := run_loadAt_mid (P := P) w b 0 ty cs d (fun j v hv => by rw [Nat.zero_add, cell_of_blk h]; simpa using hv) hu hd hi
  unfold execOp
  simp [ho, hx, h2]
theorem yw_pure {P : Program} {ops : Array Oper} {S : World → Prop} {o : Oper} {a : Act} {v : Value} (hw : Region.wanted o (yielded ops a.tmps) = true) (h : ∀ w, (execOp a.eval o).run P w = .ok (.value v) w) : YieldsIf P ops S o v a := Or.inl ⟨hw, fun w _ => h w⟩
theorem yw_no {P : Program} {ops : Array Oper} {S : World → Prop} {o : Oper} {a : Act} (hw : Region.wanted o (yielded ops a.tmps) = false) : YieldsIf P ops S o undef a := Or.inr ⟨hw, rfl⟩
end Go.Proofs.Ytdnbholiijgedaa
