/-
  Words of this seat's own: a region that draws its order, whose loads are taken first and whose other operations wait for one another; a struct stored into a list of one's own. No condition.
-/
import Derived.Test.YtdnbholiijgedaaMem
import Derived.OrdersHeld
import Derived.Maps.AppendAt
namespace Go.Proofs.Ytdnbholiijgedaa
open Go.RowKit
set_option linter.unusedVariables false

section
variable {P : Program} {ops : Array Oper} {Q : Exit → Act → World → Prop} {md : Region.Mode} {S : World → Prop}
/-- The operations that are left, one behind the other; behind each S holds. -/
def Seq (P : Program) (ops : Array Oper) (Q : Exit → Act → World → Prop) (S : World → Prop) : List Nat → Act → World → Prop
  | [], a, w => Q .normal a w
  | i :: is, a, w => wpOp P ops Q i (fun a' w' => S w' ∧ Seq P ops Q S is a' w') a w
def chainOK (md : Region.Mode) (ops : Array Oper) : Array Bool → List Nat → Bool
  | listed, [] => Region.ready md ops listed == []
  | listed, i :: is => (Region.ready md ops listed == [i]) && chainOK md ops (listed.setIfInBounds i true) is
def takesOK (md : Region.Mode) (ops : Array Oper) : Array Bool → List Nat → List Nat → Bool
  | listed, [], is => chainOK md ops listed is
  | listed, i :: ts, is => Region.free md ops listed i && (Region.ready md ops listed).contains i && takesOK md ops (listed.setIfInBounds i true) ts is
def putAll : List (Nat × Nat × Value) → Act → Act
  | [], a => a
  | (_, d, v) :: ts, a => putAll ts (a.put (some d) v)
def YAll (P : Program) (ops : Array Oper) (S : World → Prop) : List (Nat × Nat × Value) → Act → Prop
  | [], _ => True
  | (i, d, v) :: ts, a => (∃ o, ops[i]? = some o ∧ o.dst = some d ∧ YieldsIf P ops S o v a) ∧ YAll P ops S ts (a.put (some d) v)
theorem held_of_chain : ∀ (is : List Nat) (listed : Array Bool) (a : Act) (w : World), chainOK md ops listed is = true → Seq P ops Q S is a w → wpAnyH P md ops Q S is.length listed a w
  | [], listed, a, w, hc, h => wpAnyH_done (by simpa [chainOK] using hc) h _
  | i :: is, listed, a, w, hc, h => by
    simp only [chainOK, Bool.and_eq_true, beq_iff_eq] at hc
    refine ⟨fun h0 => by rw [h0] at hc; exact absurd hc.1 (by simp), fun j hj => ?_⟩
    rw [hc.1] at hj
    rw [List.mem_singleton.1 hj]
    exact wpOp_mono (fun a' w' h' => ⟨h'.1, held_of_chain is _ a' w' hc.2 h'.2⟩) h
theorem held_of_takes (hs : Region.noSelect ops = true) (hQ : ∀ c (d : Tmp) v a w, Q (.panic c) (a.put (some d) v) w → Q (.panic c) a w) (is : List Nat) : ∀ (ts : List (Nat × Nat × Value)) (listed : Array Bool) (a : Act) (w : World),
    takesOK md ops listed (ts.map Prod.fst) is = true → YAll P ops S ts a → S w → Seq P ops Q S is (putAll ts a) w → wpAnyH P md ops Q S (is.length + ts.length) listed a w
  | [], listed, a, w, hc, _, _, h => held_of_chain is listed a w hc h
  | (i, d, v) :: ts, listed, a, w, hc, hy, hS, h => by
    simp only [List.map_cons, takesOK, Bool.and_eq_true] at hc
    obtain ⟨⟨o, ho, hd, hyo⟩, hyr⟩ := hy
    simp only [putAll] at h
    refine wpAnyH_take ho hs hc.1.1 hc.1.2 (fun c a w => by rw [hd]; exact hQ c d v a w) hyo hS ?_
    rw [hd]
    exact held_of_takes hs hQ is ts _ _ w hc.2 hyr hS h
theorem Seq.cons {i : Nat} {is : List Nat} {o : Oper} {a : Act} {w : World} (hi : ops[i]? = some o) (hg : o.guard = none) (h : ∀ K : Act → World → Prop, (∀ a' w', S w' → Seq P ops Q S is a' w' → K a' w') → Oper.wp P o a w K Q) : Seq P ops Q S (i :: is) a w := by
  unfold Seq wpOp
  simp only [hi]
  have hw : Region.wanted o (yielded ops a.tmps) = true := by simp [Region.wanted, hg]
  rw [if_pos hw]
  exact .inl (h _ fun a' w' h1 h2 => ⟨h1, h2⟩)
end
/-- The region: ts are taken first, is come one behind the other. -/
theorem wp_region_seq {P : Program} {ops : Array Oper} {Q : Exit → Act → World → Prop} (S : World → Prop) {id : Nat} {a : Act} {w : World} (hm : P.follows .mixedOrders = true) (hs : Region.noSelect ops = true)
    (hQ : ∀ c (d : Tmp) v a w, Q (.panic c) (a.put (some d) v) w → Q (.panic c) a w) (ts : List (Nat × Nat × Value)) (is : List Nat) (hl : is.length + ts.length = ops.size)
    (hc : takesOK .any ops (Array.replicate ops.size false) (ts.map Prod.fst) is = true) (hS : S w.drew) (hy : YAll P ops S ts a) (h : Seq P ops Q S is (putAll ts a) w.drew) : (Code.region id ops true).wp P Q a w := by
  have h9 := held_of_takes (P := P) (md := .any) (S := S) hs hQ is ts (Array.replicate ops.size false) a w.drew hc hy hS h
  rw [hl] at h9
  exact wp_region_held hm h9
theorem yi_cell {P : Program} {ops : Array Oper} {S : World → Prop} {o : Oper} {a : Act} (ty : TypeId) (x : Operand) (ho : o.op = .load ty x) (p : Addr) (v : Value) (hx : a.eval x = .pointer (some p)) (hg : o.guard = none)
    (d : TypeDesc) (hu : P.underlying ty = some d) (hd : d.isRow = false) (hc : ∀ w, S w → w.cell? p = some v) : YieldsIf P ops S o v a := by
  refine Or.inl ⟨by simp [Region.wanted, hg], fun w hS => ?_⟩
  have h := hc w hS
  have hagg : (isAgg ty).run P w = .ok false w := by
    unfold isAgg
    rw [Sem.run_bind, run_underlying hu w]
    cases d <;> simp_all
  unfold execOp
  simp [ho, hx, Instr.loadAt, Instr.sureAddr, loadVar, hagg, h]
theorem yi_row {P : Program} {ops : Array Oper} {S : World → Prop} {o : Oper} {a : Act} (ty : TypeId) (x : Operand) (ho : o.op = .load ty x) (b : Nat) (cs : List Value) (T : TypeId) (hx : a.eval x = .pointer (some ⟨b, 0, none⟩)) (hg : o.guard = none)
    (d : TypeDesc) (hu : P.underlying ty = some d) (hd : d.isRow = true) (hi : (P.info? ty).map (·.size) = some cs.length) (hc : ∀ w, S w → w.heap[b]? = some (.cells cs.toArray T (0, 0))) : YieldsIf P ops S o (.agg cs.toArray) a := by
  refine Or.inl ⟨by simp [Region.wanted, hg], fun w hS => ?_⟩
  have h := hc w hS
  have h2 := run_loadAt_mid (P := P) w b 0 ty cs d (fun j v hv => by rw [Nat.zero_add, cell_of_blk h]; simpa using hv) hu hd hi
  unfold execOp
  simp [ho, hx, h2]

theorem yi_rowA {P : Program} {ops : Array Oper} {S : World → Prop} {o : Oper} {a : Act} (ty : TypeId) (x : Operand) (ho : o.op = .load ty x) (ad : Addr) (cs : List Value) (hx : a.eval x = .pointer (some ad)) (hg : o.guard = none)
    (d : TypeDesc) (hu : P.underlying ty = some d) (hd : d.isRow = true) (hi : (P.info? ty).map (·.size) = some cs.length) (hc : ∀ w, S w → ∀ r u, cs[r]? = some u → w.cell? (ad.add r) = some u) : YieldsIf P ops S o (.agg cs.toArray) a := by
  refine Or.inl ⟨by simp [Region.wanted, hg], fun w hS => ?_⟩
  have hl := run_loadCells_list (P := P) w ad cs (hc w hS)
  cases hq : P.info? ty with
  | none => simp [hq] at hi
  | some i =>
    have hs : i.size = cs.length := by simpa [hq] using hi
    have hagg : (isAgg ty).run P w = .ok true w := by
      unfold isAgg
      rw [Sem.run_bind, run_underlying hu w]
      cases d <;> simp_all
    unfold execOp
    simp [ho, hx, Instr.loadAt, Instr.sureAddr, loadVar, hagg, sizeOf, typeInfo, hq, hs, hl]
theorem yi_pure {P : Program} {ops : Array Oper} {S : World → Prop} {o : Oper} {a : Act} {v : Value} (hg : o.guard = none) (h : ∀ w, (execOp a.eval o).run P w = .ok (.value v) w) : YieldsIf P ops S o v a := Or.inl ⟨by simp [Region.wanted, hg], fun w _ => h w⟩

/-- A struct is stored into a list of one's own. -/
theorem run_storeO {P : Program} (ty : TypeId) (base : Nat) (e : TypeId) (sz : Nat) (ad : Addr) (n cap : Nat) (css : List (List Value)) (w : World) (hown : Owns w base e sz (.slice (some ad) n cap) css) (i : Nat) (hi : i < css.length) (c : List Value)
    (hc : c.length = sz) (hsi : (P.info? ty).map (·.size) = some sz) (h1 : ∀ u ∈ c, u.oneCell' = true) :
    ∃ w', (storeVar ty (ad.add (i * sz)) (.agg c.toArray)).run P w = .ok () w' ∧ Owns w' base e sz (.slice (some ad) n cap) (css.set i c) ∧ w.grownBy w' (some ad.block) ∧ w'.heap.size = w.heap.size := by
  rcases hown.1.2 with ⟨h0, _⟩ | ⟨g, cap', cur, hv, hb, hg, hn, hm, hcs, ht⟩
  · cases h0
  simp only [Value.slice.injEq, Option.some.injEq] at hv
  obtain ⟨rfl, rfl, rfl⟩ := hv
  have hle : (i + 1) * sz ≤ cap * sz := Nat.mul_le_mul_right _ (by omega)
  have hle' : i * sz + sz = (i + 1) * sz := by rw [Nat.add_mul]; omega
  have hst := run_storeCells_at P g (i * sz) e c 0 cur w hg (by simp only [Nat.add_zero]; omega) h1
  have hadd : (⟨g, 0, none⟩ : Addr).add (i * sz) = ⟨g, i * sz, none⟩ := Addr.add_mid g 0 (i * sz) |>.trans (by rw [Nat.zero_add])
  simp only [Nat.add_zero] at hst
  obtain ⟨N, hN⟩ : ∃ N : List Value, N = cur.toList.take (i * sz) ++ c ++ cur.toList.drop (i * sz + c.length) := ⟨_, rfl⟩
  rw [← hN] at hst
  refine ⟨w.setRow g N.toArray, ?_, ⟨⟨?_, .inr ⟨g, cap, N.toArray, by rw [List.length_set], hb, setRow_heap w g cur N.toArray e _ hg, by rw [List.length_set]; exact hn, hm, ?_, ?_⟩⟩, ?_⟩, ⟨rfl, rfl, rfl, by simp [World.setRow], fun k hk hne => setRow_other w g k N.toArray (fun e => hne (by rw [e]))⟩, by simp [World.setRow]⟩
  · cases hq : P.info? ty with
    | none => simp [hq] at hsi
    | some i9 =>
      have hs : c.length = i9.size := by simp [hq] at hsi; omega
      rw [hadd]
      simp [storeVar, sizeOf, typeInfo, hq, Value.cells, hs, hst]
  · rw [List.length_set]
    have hfl : ∀ (l : List (List Value)), (∀ x ∈ l, x.length = sz) → l.flatten.length = l.length * sz := by
      intro l
      induction l with
      | nil => intro _; simp
      | cons x l ih => intro h; rw [List.flatten_cons, List.length_append, ih (fun y hy => h y (by simp [hy])), h x (by simp), List.length_cons, Nat.add_mul]; omega
    have := hfl (css.set i c) (fun x hx => by
      rcases List.mem_or_eq_of_mem_set hx with h | h
      · exact hown.2 x h
      · rw [h]; exact hc)
    rwa [List.length_set] at this
  · rw [hN]
    have hl : (cur.toList.take (i * sz)).length = i * sz := by rw [List.length_take, Array.length_toList]; omega
    simp only [List.size_toArray, List.length_append, List.length_drop, Array.length_toList, hl, hc]
    omega
  · rw [List.length_set, hN]
    have hcl : cur.toList = css.flatten ++ cur.toList.drop (css.length * sz) := by rw [← ht, List.take_append_drop]
    have hpre : ∀ (l : List (List Value)) (i : Nat), (∀ x ∈ l, x.length = sz) → i < l.length → (l.set i c).flatten = l.flatten.take (i * sz) ++ c ++ l.flatten.drop (i * sz + c.length) := by
      intro l
      induction l with
      | nil => intro i _ h; simp at h
      | cons x l ih =>
        intro i h hi
        have hx := h x (by simp)
        cases i with
        | zero => simp only [List.set_cons_zero, List.flatten_cons, Nat.zero_mul, List.take_zero, List.nil_append, Nat.zero_add]; rw [hc, List.drop_append, List.drop_eq_nil_of_le (by omega), hx]; simp
        | succ i =>
          rw [List.set_cons_succ, List.flatten_cons, List.flatten_cons, ih i (fun y hy => h y (by simp [hy])) (by simpa using hi), List.take_append, List.take_of_length_le (show x.length ≤ (i + 1) * sz by rw [hx, Nat.add_mul]; omega), hx, show (i + 1) * sz - sz = i * sz by rw [Nat.add_mul]; omega,
            List.drop_append, List.drop_eq_nil_of_le (show x.length ≤ (i + 1) * sz + c.length by rw [hx, Nat.add_mul]; omega), hx, show (i + 1) * sz + c.length - sz = i * sz + c.length by rw [Nat.add_mul]; omega]
          simp [List.append_assoc]
    rw [hpre css i hown.2 hi]
    have hfl := hown.1.1
    have h8 : i * sz + c.length ≤ css.flatten.length := by rw [hc, hfl, hle']; exact Nat.mul_le_mul_right _ (by omega)
    have h9 : cur.toList.take (i * sz) = css.flatten.take (i * sz) := by rw [hcl, List.take_append, show i * sz - css.flatten.length = 0 by omega]; simp
    have h10 : cur.toList.drop (i * sz + c.length) = css.flatten.drop (i * sz + c.length) ++ cur.toList.drop (css.length * sz) := by
      conv => lhs; rw [hcl]
      rw [List.drop_append, show i * sz + c.length - css.flatten.length = 0 by omega, List.drop_zero]
    have h11 : (css.flatten.take (i * sz) ++ c ++ css.flatten.drop (i * sz + c.length)).length = css.length * sz := by
      rw [List.length_append, List.length_append, List.length_take, List.length_drop, ← hfl]; omega
    rw [List.toList_toArray, h9, h10, ← List.append_assoc]
    exact List.take_left' h11
  · intro x hx
    rcases List.mem_or_eq_of_mem_set hx with h | h
    · exact hown.2 x h
    · rw [h]; exact hc
theorem wpList_storeO {P : Program} {ops : Array Oper} {rest : List Oper} {o : Oper} {a : Act} {Q : Exit → Act → World → Prop} {w : World} (hgd : o.guard = none) (ty : TypeId) (x y : Operand) (ho : o.op = .store ty x y)
    (base : Nat) (e : TypeId) (sz : Nat) (ad : Addr) (n cap : Nat) (css : List (List Value)) (hown : Owns w base e sz (.slice (some ad) n cap) css) (i : Nat) (hi : i < css.length) (c : List Value) (hc : c.length = sz) (hx : a.eval x = .pointer (some (ad.add (i * sz)))) (hy : a.eval y = .agg c.toArray)
    (hsi : (P.info? ty).map (·.size) = some sz) (h1 : ∀ u ∈ c, u.oneCell' = true)
    (h : ∀ w', Owns w' base e sz (.slice (some ad) n cap) (css.set i c) → w.grownBy w' (some ad.block) → w'.heap.size = w.heap.size → wpList P ops Q rest (a.put o.dst undef) w') : wpList P ops Q (o :: rest) a w := by
  refine wpList_plain hgd fun K hK => ?_
  obtain ⟨w', hr, k1, k2, k3⟩ := run_storeO (P := P) ty base e sz ad n cap css w hown i hi c hc hsi h1
  unfold Oper.wp execOp
  simp only [ho, hx, hy, Instr.storeAt, Instr.sureAddr, Sem.run_bind, Sem.run_pure, Result.andThen_ok, hr]
  exact hK _ _ (h w' k1 k2 k3)
/-- An append of one element, at the operation. -/
theorem wp_app1 {P : Program} {o : Oper} {a : Act} {Q : Exit → Act → World → Prop} {K : Act → World → Prop} {w : World} (s x : Operand) (t : TypeId)
    (ho : o.op = .call { callee := .builtin .append, args := #[s, x], argTypes := #[t, t] }) (base : Nat) (e : TypeId) (z : Value) (sz bytes : Nat) (ht : P.underlying t = some (.slice e)) (hinfo : (P.info? e).map (fun i => (i.zero, i.size, i.bytes)) = some (some z, sz, bytes))
    (hzs : z.cells.size = sz) (hsz : 0 < sz) (v : Value) (css : List (List Value)) (hs : a.eval s = v) (hown : Owns w base e sz v css)
    (g : Nat) (c : List Value) (hx : a.eval x = .slice (some ⟨g, 0, none⟩) 1 1) (hc : c.length = sz) (hg : w.heap[g]? = some (.cells c.toArray e (0, 0))) (h1 : ∀ u ∈ c, u.oneCell' = true)
    (hmax : css.length + 1 ≤ maxLen) (hbytes : (css.length + 1) * bytes ≤ 140737488355328) (hbase : base ≤ w.heap.size)
    (h : ∀ v' w', Owns w' base e sz v' (css ++ [c]) → w.grownBy w' v.ownBlock → (v'.ownBlock = v.ownBlock ∨ v'.ownBlock = some w.heap.size) → K (a.put o.dst v') w') : o.wp P a w K Q := by
  obtain ⟨i0, hi, hz0, hz1, hz2⟩ := info_parts hinfo
  obtain ⟨v1, w1, hr, hown1, hg1, _, hat⟩ := run_append_own_at (P := P) w base t o.type e i0 z sz bytes ht hi hz0 hz1 hz2 hzs hsz v css.length css.flatten hown.1 ⟨g, 0, none⟩ 1 1 c (by rw [hc]; simp)
    (fun j u hj => by
      rw [Addr.add_mid, Nat.zero_add, cell_of_blk hg]; simpa using hj) h1 hmax hbytes hbase
  unfold Oper.wp execOp
  simp only [ho, resolve, invoke, builtin, Sem.run_bind, Sem.run_pure, Result.andThen_ok, List.map_toArray, List.map_cons, List.map_nil, hs, hx]
  rw [hr]
  exact h v1 w1 ⟨by rw [List.length_append, List.flatten_append]; simpa using hown1, fun c' hc' => (List.mem_append.1 hc').elim (hown.2 c') (fun e => by rw [List.mem_singleton.1 e]; exact hc)⟩ hg1 hat
end Go.Proofs.Ytdnbholiijgedaa
