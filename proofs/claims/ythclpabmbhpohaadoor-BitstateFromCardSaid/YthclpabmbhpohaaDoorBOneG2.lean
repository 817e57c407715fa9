/-
  The machine with bits in memory. No condition.
  Programs that need no choice, in plain words: all ways from an instruction, depth first; two tellings of it agree. No condition.
  progs.right: may an instruction be? What sets.Right answers is a premise. No other condition.
  progs.Check: is it a program? What sets.Right answers is a premise. No other condition.
  The order of a list's edges: slices.SortFunc by the shelf's contract, its comparison by a walk. No condition.
-/
import Derived.Test.YthclpabmbhpohaaDoorBOneG1
import Derived.Test.YthclpabmbhpohaaDoorProg
import Derived.Shelf.SlSortCmp.WholeK
import Derived.Lib.Hide
import Derived.Lib.OwnBridge
import Derived.Lib.AppendIntMem
import Derived.Shelf.SlSortCmp.NoneTotal
set_option linter.unusedVariables false
set_option linter.unusedSimpArgs false
namespace Go.Proofs.YthclpabmbhpohaaDoor
open Go.RowKit
set_option linter.unusedVariables false
/-- Something to do, in memory. -/
def jobC : Job (Int × Int) → List Value
  | .go q => [.int .i64 q.1, .int .i64 q.2, .int .i64 0]
  | .back i v => [.int .i64 (-1), .int .i64 v, .int .i64 i]
def BestO (W : World) (fv sv : Value) : Option (List Int) → Prop
  | none => sv = .slice none 0 0
  | some l => 2 ≤ l.length ∧ Owns W 0 3 1 sv (l.map i64C) ∧ sv.ownBlock ≠ fv.ownBlock
structure BmAt (W : World) (G : Nat) (bv jv fv sv : Value) (ws : List Nat) (js : List (Job (Int × Int))) (fit : List Int) (best : Option (List Int)) (st : Int) : Prop where
  blk : W.heap[G]? = some (.cells #[bv, jv, fv, sv, .int .i64 st] 70 (0, 0))
  bits : Owns W 0 74 1 bv (ws.map u64C)
  jobs : Owns W 0 105 3 jv (js.map jobC)
  fit : Owns W 0 3 1 fv (fit.map i64C)
  best : BestO W fv sv best
/-- What is not of D stays. -/
structure TouchD (D : Nat → Prop) (W W' : World) : Prop where
  os : W'.os = W.os
  tape : W'.tape = W.tape
  output : W'.output = W.output
  size : W.heap.size ≤ W'.heap.size
  block : ∀ k, ¬ D k → W'.heap[k]? = W.heap[k]?
def OwnD (D : Nat → Prop) (v : Value) : Prop := ∀ k, v.ownBlock = some k → D k
theorem OwnD.nil (D : Nat → Prop) : OwnD D (.slice none 0 0) := fun k h => by simp [Value.ownBlock] at h
section
variable {D : Nat → Prop} {A B C : World}
theorem TouchD.refl (D : Nat → Prop) (W : World) : TouchD D W W := ⟨rfl, rfl, rfl, Nat.le_refl _, fun _ _ => rfl⟩
theorem TouchD.trans (h : TouchD D A B) (k : TouchD D B C) : TouchD D A C := ⟨k.os.trans h.os, k.tape.trans h.tape, k.output.trans h.output, Nat.le_trans h.size k.size, fun x hx => (k.block x hx).trans (h.block x hx)⟩
theorem TouchD.of_grown {r : Option Nat} (h : A.grownBy B r) (hD : ∀ k, A.heap.size ≤ k → D k) (hr : ∀ k, r = some k → D k) : TouchD D A B :=
  ⟨h.os, h.tape, h.output, h.size, fun k hk => by
    rcases Nat.lt_or_ge k A.heap.size with h9 | h9
    · exact h.block k h9 (fun e => hk (hr k e.symm))
    · exact absurd (hD k h9) hk⟩
theorem TouchD.of_below (h : Below A.heap.size A B) (hD : ∀ k, A.heap.size ≤ k → D k) : TouchD D A B := TouchD.of_grown (r := none) ⟨h.os, h.tape, h.output, h.size, fun k hk _ => h.block k hk⟩ hD (fun k e => by cases e)
theorem TouchD.set {b j : Nat} (W : World) (v : Value) (h : D b) : TouchD D W (W.setCell ⟨b, j, none⟩ v) :=
  ⟨rfl, rfl, rfl, by simp [World.setCell], fun k hk => set_ne0 W v (by rintro rfl; exact hk h)⟩
theorem TouchD.below {n : Nat} (h : TouchD D A B) (hD : ∀ k, D k → n ≤ k) : Below n A B := ⟨h.os, h.tape, h.output, h.size, fun k hk => h.block k (fun hd => by have := hD k hd; omega)⟩
theorem TouchD.weak {D' : Nat → Prop} (h : TouchD D A B) (hD : ∀ k, D k → D' k) : TouchD D' A B := ⟨h.os, h.tape, h.output, h.size, fun k hk => h.block k (fun hd => hk (hD k hd))⟩
end
theorem PgC.touch {D : Nat → Prop} {W W' : World} {p : Pg} {cs : List Value} (h : PgC (fun k => ¬ D k) W p cs) (ht : TouchD D W W') : PgC (fun k => ¬ D k) W' p cs := h.move fun b hb _ => ⟨ht.block b hb, hb⟩
section
variable {W W' : World} {G : Nat} {bv jv fv sv : Value} {ws : List Nat} {js : List (Job (Int × Int))} {fit : List Int} {best : Option (List Int)} {st : Int}
theorem BmAt.ty (h : BmAt W G bv jv fv sv ws js fit best st) : TyB 70 W G := ⟨_, _, h.blk⟩
/-- Only G and new blocks turn. -/
theorem BmAt.others (h : BmAt W G bv jv fv sv ws js fit best st) (hg : W.grownBy W' (some G)) : Owns W' 0 74 1 bv (ws.map u64C) ∧ Owns W' 0 105 3 jv (js.map jobC) ∧ Owns W' 0 3 1 fv (fit.map i64C) ∧ BestO W' fv sv best := by
  have hn : ∀ {e : TypeId} {sz : Nat} {v : Value} {css : List (List Value)}, Owns W 0 e sz v css → 70 ≠ e → Owns W' 0 e sz v css := fun ho hne => ho.kept hg (.inr (fun e => h.ty.ne_own ho hne e.symm))
  refine ⟨hn h.bits (by decide), hn h.jobs (by decide), hn h.fit (by decide), ?_⟩
  have hb := h.best
  cases best with
  | none => exact hb
  | some l => exact ⟨hb.1, hn hb.2.1 (by decide), hb.2.2⟩
theorem BmAt.below (h : BmAt W G bv jv fv sv ws js fit best st) (hb : Below W.heap.size W W') : BmAt W' G bv jv fv sv ws js fit best st := by
  obtain ⟨h1, h2, h3, h4⟩ := h.others (W' := W') ⟨hb.os, hb.tape, hb.output, hb.size, fun k hk _ => hb.block k hk⟩
  exact ⟨(hb.block _ (heap_lt h.blk)).trans h.blk, h1, h2, h3, h4⟩
theorem BmAt.setSteps (h : BmAt W G bv jv fv sv ws js fit best st) (n : Int) : BmAt (W.setCell ⟨G, 4, none⟩ (.int .i64 n)) G bv jv fv sv ws js fit best n := by
  obtain ⟨h1, h2, h3, h4⟩ := h.others (grown_set0 W G 4 (.int .i64 n))
  exact ⟨by rw [heap_set0 h.blk 4]; simp, h1, h2, h3, h4⟩
theorem BmAt.setBest0 (h : BmAt W G bv jv fv sv ws js fit best st) : BmAt (W.setCell ⟨G, 3, none⟩ (.slice none 0 0)) G bv jv fv (.slice none 0 0) ws js fit none st := by
  obtain ⟨h1, h2, h3, h4⟩ := h.others (grown_set0 W G 3 (.slice none 0 0))
  exact ⟨by rw [heap_set0 h.blk 3]; simp, h1, h2, h3, rfl⟩
theorem BmAt.setJobs (h : BmAt W G bv jv fv sv ws js fit best st) {jv' : Value} {js' : List (Job (Int × Int))} (hj : Owns W 0 105 3 jv' (js'.map jobC)) : BmAt (W.setCell ⟨G, 1, none⟩ jv') G bv jv' fv sv ws js' fit best st := by
  obtain ⟨h1, h2, h3, h4⟩ := h.others (grown_set0 W G 1 jv')
  exact ⟨by rw [heap_set0 h.blk 1]; simp, h1, hj.kept (grown_set0 W G 1 jv') (.inr (fun e => h.ty.ne_own hj (by decide) e.symm)), h3, h4⟩
theorem BmAt.setBits (h : BmAt W G bv jv fv sv ws js fit best st) {bv' : Value} {ws' : List Nat} (hj : Owns W 0 74 1 bv' (ws'.map u64C)) : BmAt (W.setCell ⟨G, 0, none⟩ bv') G bv' jv fv sv ws' js fit best st := by
  obtain ⟨h1, h2, h3, h4⟩ := h.others (grown_set0 W G 0 bv')
  exact ⟨by rw [heap_set0 h.blk 0]; simp, hj.kept (grown_set0 W G 0 bv') (.inr (fun e => h.ty.ne_own hj (by decide) e.symm)), h2, h3, h4⟩
theorem BmAt.setFit (h : BmAt W G bv jv fv sv ws js fit best st) {fv' : Value} {fit' : List Int} (hj : Owns W 0 3 1 fv' (fit'.map i64C)) (hn : best = none) : BmAt (W.setCell ⟨G, 2, none⟩ fv') G bv jv fv' sv ws js fit' best st := by
  obtain ⟨h1, h2, h3, h4⟩ := h.others (grown_set0 W G 2 fv')
  subst hn
  exact ⟨by rw [heap_set0 h.blk 2]; simp, h1, h2, hj.kept (grown_set0 W G 2 fv') (.inr (fun e => h.ty.ne_own hj (by decide) e.symm)), h4⟩
theorem BmAt.setBest (h : BmAt W G bv jv fv sv ws js fit best st) {sv' : Value} {l : List Int} (hl : 2 ≤ l.length) (hj : Owns W 0 3 1 sv' (l.map i64C)) (hn : sv'.ownBlock ≠ fv.ownBlock) : BmAt (W.setCell ⟨G, 3, none⟩ sv') G bv jv fv sv' ws js fit (some l) st := by
  obtain ⟨h1, h2, h3, h4⟩ := h.others (grown_set0 W G 3 sv')
  exact ⟨by rw [heap_set0 h.blk 3]; simp, h1, h2, h3, hl, hj.kept (grown_set0 W G 3 sv') (.inr (fun e => h.ty.ne_own hj (by decide) e.symm)), hn⟩
theorem ownB_ne {W : World} {e e' : TypeId} {sz sz' : Nat} {v v' : Value} {css css' : List (List Value)} (h : Owns W 0 e sz v css) (h' : Owns W 0 e' sz' v' css') (hne : e ≠ e') : v.ownBlock = none ∨ v.ownBlock ≠ v'.ownBlock := by
  cases hv : v.ownBlock with
  | none => exact .inl rfl
  | some k =>
    refine .inr fun e9 => ?_
    exact TyB.ne_own (T := e) (w := W) (own_ty h hv) h' hne e9
/-- A row of another type turns. -/
theorem BmAt.row (h : BmAt W G bv jv fv sv ws js fit best st) {e : TypeId} {sz : Nat} {v : Value} {css : List (List Value)} (ho : Owns W 0 e sz v css) (hg : W.grownBy W' v.ownBlock) :
    (70 ≠ e → W'.heap[G]? = W.heap[G]?) ∧ (74 ≠ e → Owns W' 0 74 1 bv (ws.map u64C)) ∧ (105 ≠ e → Owns W' 0 105 3 jv (js.map jobC)) ∧ (3 ≠ e → Owns W' 0 3 1 fv (fit.map i64C) ∧ BestO W' fv sv best) := by
  refine ⟨fun hne => hg.block _ (heap_lt h.blk) (h.ty.ne_own ho hne), fun hne => h.bits.kept hg (ownB_ne h.bits ho hne), fun hne => h.jobs.kept hg (ownB_ne h.jobs ho hne), fun hne => ⟨h.fit.kept hg (ownB_ne h.fit ho hne), ?_⟩⟩
  have hb := h.best
  cases best with
  | none => exact hb
  | some l => exact ⟨hb.1, hb.2.1.kept hg (ownB_ne hb.2.1 ho hne), hb.2.2⟩
theorem BmAt.putBit (h : BmAt W G bv jv fv sv ws js fit best st) {g c : Nat} (hv : bv = .slice (some ⟨g, 0, none⟩) ws.length c) (j x : Nat) : BmAt (W.setCell ⟨g, j, none⟩ (.int .u64 x)) G bv jv fv sv (ws.set j x) js fit best st := by
  subst hv
  obtain ⟨h1, _, h3, h4⟩ := h.row (W' := W.setCell ⟨g, j, none⟩ (.int .u64 x)) h.bits (grown_set0 W g j _)
  exact ⟨(h1 (by decide)).trans h.blk, owns_word h.bits j x, h3 (by decide), (h4 (by decide)).1, (h4 (by decide)).2⟩
theorem BmAt.putFit (h : BmAt W G bv jv fv sv ws js fit best st) {g c : Nat} (hv : fv = .slice (some ⟨g, 0, none⟩) fit.length c) (j : Nat) (x : Int) : BmAt (W.setCell ⟨g, j, none⟩ (.int .i64 x)) G bv jv fv sv ws js (fit.set j x) best st := by
  subst hv
  obtain ⟨h1, h2, h3, _⟩ := h.row (W' := W.setCell ⟨g, j, none⟩ (.int .i64 x)) h.fit (grown_set0 W g j _)
  refine ⟨(h1 (by decide)).trans h.blk, h2 (by decide), h3 (by decide), owns_put h.fit j x, ?_⟩
  have hb := h.best
  cases best with
  | none => exact hb
  | some l => exact ⟨hb.1, hb.2.1.kept (grown_set0 W g j _) (.inr hb.2.2), hb.2.2⟩
theorem BmAt.putBest {l : List Int} (h : BmAt W G bv jv fv sv ws js fit (some l) st) {g c : Nat} (hv : sv = .slice (some ⟨g, 0, none⟩) l.length c) (j : Nat) (x : Int) : BmAt (W.setCell ⟨g, j, none⟩ (.int .i64 x)) G bv jv fv sv ws js fit (some (l.set j x)) st := by
  subst hv
  have hb := h.best
  obtain ⟨h1, h2, h3, _⟩ := h.row (W' := W.setCell ⟨g, j, none⟩ (.int .i64 x)) hb.2.1 (grown_set0 W g j _)
  refine ⟨(h1 (by decide)).trans h.blk, h2 (by decide), h3 (by decide), h.fit.kept (grown_set0 W g j _) ?_, by rw [List.length_set]; exact hb.1, owns_put hb.2.1 j x, hb.2.2⟩
  exact .inr fun e => hb.2.2 e.symm
theorem BmAt.growJobs (h : BmAt W G bv jv fv sv ws js fit best st) {jv' : Value} {js' : List (Job (Int × Int))} (hg : W.grownBy W' jv.ownBlock) (hj : Owns W' 0 105 3 jv' (js'.map jobC)) : BmAt (W'.setCell ⟨G, 1, none⟩ jv') G bv jv' fv sv ws js' fit best st := by
  obtain ⟨h1, h2, _, h4⟩ := h.row h.jobs hg
  have hW : W'.heap[G]? = _ := (h1 (by decide)).trans h.blk
  have hty : TyB 70 W' G := ⟨_, _, hW⟩
  have hn : ∀ {e : TypeId} {sz : Nat} {v : Value} {css : List (List Value)}, Owns W' 0 e sz v css → 70 ≠ e → Owns (W'.setCell ⟨G, 1, none⟩ jv') 0 e sz v css := fun ho hne => ho.kept (grown_set0 W' G 1 jv') (.inr (fun e => hty.ne_own ho hne e.symm))
  refine ⟨by rw [heap_set0 hW 1]; simp, hn (h2 (by decide)) (by decide), hn hj (by decide), hn (h4 (by decide)).1 (by decide), ?_⟩
  have hb := (h4 (by decide)).2
  cases best with
  | none => exact hb
  | some l => exact ⟨hb.1, hn hb.2.1 (by decide), hb.2.2⟩
end
/-- The bits of the words are what was come to. -/
structure BitsOK (L M : Nat) (ws : List Nat) (seen : Int × Int → Bool) : Prop where
  big : ∀ x ∈ ws, x < 18446744073709551616
  len : L * M / 64 + 1 = ws.length
  bit : ∀ i j : Nat, i < L → j < M → (ws.getD ((j * L + i) / 64) 0).testBit ((j * L + i) % 64) = seen ((i : Int), (j : Int))
theorem place_lt2 {L M i j : Nat} (hi : i < L) (hj : j < M) : j * L + i < L * M := by
  have h1 : (j + 1) * L ≤ M * L := Nat.mul_le_mul_right L (by omega)
  rw [Nat.add_mul, Nat.mul_comm M L] at h1
  omega
theorem place_eq2 {L i j i' j' : Nat} (hi : i < L) (hi' : i' < L) (h : j * L + i = j' * L + i') : i = i' ∧ j = j' := by
  have h1 : (j * L + i) / L = j := by rw [Nat.mul_comm, Nat.mul_add_div (by omega), Nat.div_eq_of_lt hi]; rfl
  have h2 : (j' * L + i') / L = j' := by rw [Nat.mul_comm, Nat.mul_add_div (by omega), Nat.div_eq_of_lt hi']; rfl
  have h3 : (j * L + i) % L = i := by rw [Nat.mul_comm, Nat.mul_add_mod, Nat.mod_eq_of_lt hi]
  have h4 : (j' * L + i') % L = i' := by rw [Nat.mul_comm, Nat.mul_add_mod, Nat.mod_eq_of_lt hi']
  rw [h] at h1 h3
  omega
theorem BitsOK.lt {L M : Nat} {ws : List Nat} {seen : Int × Int → Bool} (h : BitsOK L M ws seen) {i j : Nat} (hi : i < L) (hj : j < M) : (j * L + i) / 64 < ws.length := by
  have h1 := place_lt2 hi hj
  have h2 := h.len
  have := Nat.div_le_div_right (c := 64) (Nat.le_of_lt h1)
  omega
theorem BitsOK.mark {L M : Nat} {ws : List Nat} {S : Wk (Int × Int)} (h : BitsOK L M ws S.seen) {i j : Nat} (hi : i < L) (hj : j < M) :
    BitsOK L M (ws.set ((j * L + i) / 64) (ws.getD ((j * L + i) / 64) 0 ||| 2 ^ ((j * L + i) % 64))) (markW ((i : Int), (j : Int)) S).seen := by
  have hlt := h.lt hi hj
  refine ⟨fun x hx => ?_, by rw [List.length_set]; exact h.len, fun a b ha hb => ?_⟩
  · rcases List.mem_or_eq_of_mem_set hx with hx | rfl
    · exact h.big x hx
    · refine up_lt _ _ ?_ (Nat.mod_lt _ (by omega))
      rw [List.getD_eq_getElem?_getD, List.getElem?_eq_getElem hlt]
      exact h.big _ (List.getElem_mem hlt)
  · rw [mark_seen, ← h.bit a b ha hb]
    by_cases hw : (j * L + i) / 64 = (b * L + a) / 64
    · rw [List.getD_eq_getElem?_getD, ← hw, List.getElem?_set_self hlt, Option.getD_some, up_bit]
      by_cases hm : (j * L + i) % 64 = (b * L + a) % 64
      · have he : j * L + i = b * L + a := by omega
        obtain ⟨rfl, rfl⟩ := place_eq2 hi ha he
        simp
      · have hne : ¬ (((a : Int), (b : Int)) = ((i : Int), (j : Int))) := by
          intro e
          simp only [Prod.mk.injEq] at e
          have h1 : a = i := by omega
          have h2 : b = j := by omega
          subst h1; subst h2; exact hm rfl
        rw [decide_eq_false hm, decide_eq_false hne, Bool.or_false, Bool.false_or]
    · have hne : ¬ (((a : Int), (b : Int)) = ((i : Int), (j : Int))) := by
        intro e
        simp only [Prod.mk.injEq] at e
        have h1 : a = i := by omega
        have h2 : b = j := by omega
        subst h1; subst h2; exact hw rfl
      rw [List.getD_eq_getElem?_getD, List.getElem?_set_ne hw, ← List.getD_eq_getElem?_getD, decide_eq_false hne, Bool.false_or]
theorem bits_zero (L M : Nat) : BitsOK L M (List.replicate (L * M / 64 + 1) 0) (fun _ => false) := by
  refine ⟨fun x hx => by rw [List.eq_of_mem_replicate hx]; omega, by simp, fun i j hi hj => ?_⟩
  have h1 := place_lt2 hi hj
  have := Nat.div_le_div_right (c := 64) (Nat.le_of_lt h1)
  rw [List.getD_eq_getElem?_getD, List.getElem?_replicate, if_pos (by omega)]
  simp
end Go.Proofs.YthclpabmbhpohaaDoor
namespace Go.Proofs.YthclpabmbhpohaaDoor
set_option linter.unusedVariables false
def Pg.get (p : Pg) (pc : Int) : In := (p.ins[pc.toNat]?).getD ⟨6, 0, 0, [], 0⟩
def Pc (p : Pg) (pc : Int) : Prop := 0 ≤ pc ∧ pc < p.ins.length
/-- All that instructions lead to are instructions. -/
def Leads (p : Pg) : Prop := ∀ pc, Pc p pc → (((p.get pc).op = 2 ∨ (p.get pc).op = 3 ∨ (p.get pc).op = 4 ∨ (p.get pc).op = 5) → Pc p (p.get pc).out) ∧ ((p.get pc).op = 3 → Pc p (p.get pc).arg)
def leftN (N : Nat) (seen : List Int) : Nat := ((List.range N).filter fun (i : Nat) => !seen.contains (i : Int)).length
theorem filter_len_le {α : Type} (f g : α → Bool) (h : ∀ x, f x = true → g x = true) : ∀ l : List α, (l.filter f).length ≤ (l.filter g).length
  | [] => Nat.le_refl _
  | x :: l => by
    have := filter_len_le f g h l
    rw [List.filter_cons, List.filter_cons]
    by_cases hx : f x = true
    · rw [if_pos hx, if_pos (h x hx)]; simpa using this
    · rw [if_neg hx]; split <;> simp <;> omega
theorem filter_len_lt {α : Type} (f g : α → Bool) (h : ∀ x, f x = true → g x = true) (y : α) (h1 : f y = false) (h2 : g y = true) : ∀ l : List α, y ∈ l → (l.filter f).length + 1 ≤ (l.filter g).length
  | [], hy => by simp at hy
  | x :: l, hy => by
    have h3 := filter_len_le f g h l
    rw [List.filter_cons, List.filter_cons]
    rcases List.mem_cons.1 hy with rfl | hy
    · rw [if_neg (by rw [h1]; simp), if_pos h2]; simp; omega
    · have h4 := filter_len_lt f g h y h1 h2 l hy
      by_cases hx : f x = true
      · rw [if_pos hx, if_pos (h x hx)]; simp; omega
      · rw [if_neg hx]; split <;> simp <;> omega
theorem leftN_sub {N : Nat} {a b : List Int} (h : ∀ x ∈ a, x ∈ b) : leftN N b ≤ leftN N a := by
  refine filter_len_le _ _ (fun i hi => ?_) _
  simp only [Bool.not_eq_true', List.contains_eq_mem, decide_eq_false_iff_not] at hi ⊢
  exact fun hm => hi (h _ hm)
theorem leftN_cons {p : Pg} {pc : Int} {seen : List Int} (hp : Pc p pc) (hs : seen.contains pc = false) : leftN p.ins.length (pc :: seen) + 1 ≤ leftN p.ins.length seen := by
  obtain ⟨h0, h1⟩ := hp
  refine filter_len_lt _ _ (fun i hi => ?_) pc.toNat ?_ ?_ _ (List.mem_range.2 (by omega))
  · simp only [Bool.not_eq_true', List.contains_eq_mem, decide_eq_false_iff_not, List.mem_cons, not_or] at hi ⊢
    exact hi.2
  · simp [show ((pc.toNat : Nat) : Int) = pc by omega]
  · rw [show ((pc.toNat : Nat) : Int) = pc by omega, hs]; rfl
theorem leftN_nil (N : Nat) : leftN N [] = N := by unfold leftN; rw [List.filter_eq_self.2 (fun i _ => by simp), List.length_range]
theorem leftN_le (N : Nat) (s : List Int) : leftN N s ≤ N := by have := leftN_sub (N := N) (a := []) (b := s) (fun x h => by simp at h); rwa [leftN_nil] at this
/-- Which were come to; those that read; what they read; how many match. -/
structure Ow where
  seen : List Int
  l : List Int
  all : List Rg
  mt : Int
section
variable (me : List Rg → List Rg → Bool) (un : List Rg → List Rg → List Rg) (p : Pg)
def onW (pc : Int) (s : Ow) : Bool × Ow :=
  if s.seen.contains pc = true then (false, s) else
  if (p.get pc).op = 1 then (decide (s.mt + 1 < 2), ⟨pc :: s.seen, s.l, s.all, s.mt + 1⟩) else
  if (p.get pc).op = 2 then (if me s.all (p.get pc).set = true then (false, ⟨pc :: s.seen, s.l, s.all, s.mt⟩) else (decide (s.mt < 2), ⟨pc :: s.seen, s.l ++ [pc], un s.all (p.get pc).set, s.mt⟩)) else
  (decide (s.mt < 2), ⟨pc :: s.seen, s.l, s.all, s.mt⟩)
def waysW : Nat → Int → Ow → Bool × Ow
  | 0, _, s => (false, s)
  | n + 1, pc, s =>
    if (onW me un p pc s).1 = false then (false, (onW me un p pc s).2) else
    if (p.get pc).op = 3 then (if (waysW n (p.get pc).out (onW me un p pc s).2).1 = false then (false, (waysW n (p.get pc).out (onW me un p pc s).2).2) else waysW n (p.get pc).arg (waysW n (p.get pc).out (onW me un p pc s).2).2) else
    if (p.get pc).op = 4 ∨ (p.get pc).op = 5 then waysW n (p.get pc).out (onW me un p pc s).2 else
    (true, (onW me un p pc s).2)
variable {me un p}
theorem waysW_new {n : Nat} {pc : Int} {s : Ow} {x : In} {r : Bool × Ow} (hr : onW me un p pc s = r) (hx : p.get pc = x) : waysW me un p (n + 1) pc s =
    if r.1 = false then (false, r.2) else
    if x.op = 3 then (if (waysW me un p n x.out r.2).1 = false then (false, (waysW me un p n x.out r.2).2) else waysW me un p n x.arg (waysW me un p n x.out r.2).2) else
    if x.op = 4 ∨ x.op = 5 then waysW me un p n x.out r.2 else (true, r.2) := by
  subst hr hx; rw [waysW]
theorem onW_left {pc : Int} {s : Ow} (hp : Pc p pc) (h : (onW me un p pc s).1 = true) : leftN p.ins.length (onW me un p pc s).2.seen + 1 ≤ leftN p.ins.length s.seen := by
  by_cases c0 : s.seen.contains pc = true
  · unfold onW at h; rw [if_pos c0] at h; cases h
  have hl := leftN_cons hp (show s.seen.contains pc = false by simpa using c0)
  unfold onW
  rw [if_neg c0]
  repeat' split
  all_goals exact hl
variable (me un p)
def simpleW (pc : Int) : List Int × Bool := ((waysW me un p (p.ins.length + 1) pc ⟨[], [], [], 0⟩).2.l, (waysW me un p (p.ins.length + 1) pc ⟨[], [], [], 0⟩).1)
end
structure Rw where
  seen : List Int
  l : List Int
  mt : Int
  tw : Bool
def comeR (p : Pg) (bg : Bool) : Nat → Int → Rw → Rw
  | 0, _, s => s
  | n + 1, pc, s =>
    if s.seen.contains pc = true then ⟨s.seen, s.l, s.mt, true⟩ else
    if (p.get pc).op = 1 then ⟨pc :: s.seen, s.l, s.mt + 1, s.tw⟩ else
    if (p.get pc).op = 2 then ⟨pc :: s.seen, s.l ++ [pc], s.mt, s.tw⟩ else
    if (p.get pc).op = 3 then comeR p bg n (p.get pc).arg (comeR p bg n (p.get pc).out ⟨pc :: s.seen, s.l, s.mt, s.tw⟩) else
    if (p.get pc).op = 4 ∨ ((p.get pc).op = 5 ∧ (bg = true ∨ (p.get pc).at_ ≠ 1)) then comeR p bg n (p.get pc).out ⟨pc :: s.seen, s.l, s.mt, s.tw⟩ else
    ⟨pc :: s.seen, s.l, s.mt, s.tw⟩
theorem comeR_new {p : Pg} {bg : Bool} {n : Nat} {pc : Int} {s : Rw} {x : In} (hs : s.seen.contains pc = false) (hx : p.get pc = x) : comeR p bg (n + 1) pc s =
    if x.op = 1 then ⟨pc :: s.seen, s.l, s.mt + 1, s.tw⟩ else
    if x.op = 2 then ⟨pc :: s.seen, s.l ++ [pc], s.mt, s.tw⟩ else
    if x.op = 3 then comeR p bg n x.arg (comeR p bg n x.out ⟨pc :: s.seen, s.l, s.mt, s.tw⟩) else
    if x.op = 4 ∨ (x.op = 5 ∧ (bg = true ∨ x.at_ ≠ 1)) then comeR p bg n x.out ⟨pc :: s.seen, s.l, s.mt, s.tw⟩ else
    ⟨pc :: s.seen, s.l, s.mt, s.tw⟩ := by
  subst hx
  rw [comeR, if_neg (by rw [hs]; simp)]
def fromR (p : Pg) (bg : Bool) (pc : Int) : Rw := comeR p bg (p.ins.length + 1) pc ⟨[], [], 0, false⟩
/-- What holds and is kept by a step holds behind all. -/
theorem comeR_keep (p : Pg) (bg : Bool) (hl : Leads p) (P : Rw → Prop) (h1 : ∀ s, P s → P ⟨s.seen, s.l, s.mt, true⟩) (h2 : ∀ s pc, P s → Pc p pc → P ⟨pc :: s.seen, s.l, s.mt + 1, s.tw⟩)
    (h3 : ∀ s pc, P s → Pc p pc → (p.get pc).op = 2 → P ⟨pc :: s.seen, s.l ++ [pc], s.mt, s.tw⟩) (h4 : ∀ s pc, P s → Pc p pc → P ⟨pc :: s.seen, s.l, s.mt, s.tw⟩) : ∀ (n : Nat) (pc : Int) (s : Rw), Pc p pc → P s → P (comeR p bg n pc s)
  | 0, _, s, _, h => h
  | n + 1, pc, s, hp, h => by
    have ih := comeR_keep p bg hl P h1 h2 h3 h4 n
    have hx := hl pc hp
    rw [comeR]
    by_cases c0 : s.seen.contains pc = true
    · rw [if_pos c0]; exact h1 s h
    rw [if_neg c0]
    by_cases c1 : (p.get pc).op = 1
    · rw [if_pos c1]; exact h2 s pc h hp
    rw [if_neg c1]
    by_cases c2 : (p.get pc).op = 2
    · rw [if_pos c2]; exact h3 s pc h hp c2
    rw [if_neg c2]
    by_cases c3 : (p.get pc).op = 3
    · rw [if_pos c3]; exact ih _ _ (hx.2 c3) (ih _ _ (hx.1 (by omega)) (h4 s pc h hp))
    rw [if_neg c3]
    by_cases c4 : (p.get pc).op = 4 ∨ ((p.get pc).op = 5 ∧ (bg = true ∨ (p.get pc).at_ ≠ 1))
    · rw [if_pos c4]; exact ih _ _ (hx.1 (by omega)) (h4 s pc h hp)
    rw [if_neg c4]; exact h4 s pc h hp
theorem comeR_seen (p : Pg) (bg : Bool) (hl : Leads p) (n : Nat) (pc : Int) (s : Rw) (hp : Pc p pc) : ∀ x ∈ s.seen, x ∈ (comeR p bg n pc s).seen :=
  comeR_keep p bg hl (fun t => ∀ x ∈ s.seen, x ∈ t.seen) (fun t h => h) (fun t q h _ x hx => List.mem_cons_of_mem _ (h x hx)) (fun t q h _ _ x hx => List.mem_cons_of_mem _ (h x hx)) (fun t q h _ x hx => List.mem_cons_of_mem _ (h x hx)) n pc s hp (fun x h => h)
theorem comeR_mt (p : Pg) (bg : Bool) (hl : Leads p) (n : Nat) (pc : Int) (s : Rw) (hp : Pc p pc) (h : 0 ≤ s.mt) : 0 ≤ (comeR p bg n pc s).mt :=
  comeR_keep p bg hl (fun t => 0 ≤ t.mt) (fun t h => h) (fun t q h _ => by show 0 ≤ t.mt + 1; omega) (fun t q h _ _ => h) (fun t q h _ => h) n pc s hp h
section
variable (me : List Rg → List Rg → Bool) (un : List Rg → List Rg → List Rg) (p : Pg)
theorem waysW_seen (hl : Leads p) : ∀ (n : Nat) (pc : Int) (s : Ow), Pc p pc → ∀ x ∈ s.seen, x ∈ (waysW me un p n pc s).2.seen
  | 0, _, s, _, x, h => h
  | n + 1, pc, s, hp, x, h => by
    have ih := waysW_seen hl n
    have hx := hl pc hp
    have h1 : x ∈ (onW me un p pc s).2.seen := by
      unfold onW
      repeat' split
      all_goals first | exact h | exact List.mem_cons_of_mem _ h
    rw [waysW]
    by_cases c0 : (onW me un p pc s).1 = false
    · rw [if_pos c0]; exact h1
    rw [if_neg c0]
    by_cases c3 : (p.get pc).op = 3
    · rw [if_pos c3]
      have h2 := ih _ _ (hx.1 (by omega)) x h1
      split
      · exact h2
      · exact ih _ _ (hx.2 c3) x h2
    rw [if_neg c3]
    by_cases c4 : (p.get pc).op = 4 ∨ (p.get pc).op = 5
    · rw [if_pos c4]; exact ih _ _ (hx.1 (by omega)) x h1
    rw [if_neg c4]; exact h1
/-- What both tell so far. -/
structure Sim (has : List Rg → Int → Bool) (s : Ow) (t : Rw) : Prop where
  seen : t.seen = s.seen
  l : t.l = s.l
  mt : t.mt = s.mt
  tw : t.tw = false
  few : s.mt < 2
  apart : s.l.Pairwise fun a b => me (p.get b).set (p.get a).set = false
  all : ∀ c, has s.all c = true ↔ ∃ a ∈ s.l, has (p.get a).set c = true
variable {me un p} {me' : List Rg → List Rg → Bool} {has : List Rg → Int → Bool}
end
def putOuts (p : Pg) (l : List Int) (td : List Int) : List Int := l.foldl (fun td pc => if td.contains (p.get pc).out = true then td else td ++ [(p.get pc).out]) td
def admG (p : Pg) (ask : Int → List Int × Bool) : Nat → Nat → List Int → Bool
  | 0, _, _ => true
  | n + 1, i, td => match td[i]? with
    | none => true
    | some pc => if (ask pc).2 = false then false else admG p ask n (i + 1) (putOuts p (ask pc).1 td)
theorem putOuts_mem (p : Pg) (Q : Int → Prop) : ∀ (l td : List Int), (∀ x ∈ td, Q x) → (∀ x ∈ l, Q (p.get x).out) → ∀ x ∈ putOuts p l td, Q x
  | [], td, h, _ => h
  | y :: l, td, h, h2 => by
    show ∀ x ∈ putOuts p l (if td.contains (p.get y).out = true then td else td ++ [(p.get y).out]), Q x
    refine putOuts_mem p Q l _ ?_ (fun x hx => h2 x (by simp [hx]))
    split
    · exact h
    · intro x hx
      rcases List.mem_append.1 hx with hx | hx
      · exact h x hx
      · rw [List.mem_singleton.1 hx]; exact h2 y (by simp)
/-- Does one come to nothing but at the beginning? -/
def anchR (p : Pg) : Bool := decide ((fromR p false p.start).mt ≤ 0) && decide ((fromR p false p.start).l = [])
def admW (me : List Rg → List Rg → Bool) (un : List Rg → List Rg → List Rg) (p : Pg) : Bool := anchR p && admG p (simpleW me un p) (p.ins.length + 1) 0 [p.start]
end Go.Proofs.YthclpabmbhpohaaDoor
namespace Go.Proofs.YthclpabmbhpohaaDoor
open Go.RowKit
set_option linter.unusedVariables false
set_option maxRecDepth 100000 in
set_option maxHeartbeats 8000000 in
theorem right_pg1 (R : List Rg → Bool) (ok : Nat → Prop) (w : World) (p : Pg) (x : In) (ps xs : List Value) (hp : PgC ok w p ps) (hx : InO ok w x xs) (hR : x.op = 2 → RightOK R x.set) (hpl : p.ins.length ≤ 140737488351232) (ho : x.op = 1) :
    Calls Tryd.prog 54 #[.agg ps.toArray, .agg xs.toArray] w fun e w' => e = .returned (.bool (rightI R p.ins.length p.caps x)) ∧ Below w.heap.size w w' := by
  obtain ⟨A, c, rfl, p1, p2, _⟩ := hp
  obtain ⟨B, d, rfl, x1, x2, x3⟩ := hx
  have hRr : True := trivial
  clear hR x3
  have HO := Lib.hid ho
  have o1 : (x.op == 1) = true := (by rw [ho]; rfl)
  have o6 : (x.op == 6) = false := (by rw [ho]; rfl)
  have o2 : (x.op == 2) = false := (by rw [ho]; rfl)
  have o3 : (x.op == 3) = false := (by rw [ho]; rfl)
  have o4 : (x.op == 4) = false := (by rw [ho]; rfl)
  have o5 : (x.op == 5) = false := (by rw [ho]; rfl)
  clear ho
  have hb3 : (((w.alloc (.cells #[.slice A p.ins.length c, .int .i64 p.start, .int .i64 p.caps] 28)).alloc (.cells #[.int .i64 x.op, .int .i64 x.out, .int .i64 x.arg, .slice B x.set.length d, .int .i64 x.at_] 64)).alloc (.cells #[.int .i64 0, .int .i64 x.out, .int .i64 x.arg, .slice B x.set.length d, .int .i64 x.at_] 64)).heap[w.heap.size]? = some (.cells #[.slice A p.ins.length c, .int .i64 p.start, .int .i64 p.caps] 28 (0, 0)) := (Below.heap_alloc _ _ _ (by simp; omega)).trans ((Below.heap_alloc _ _ _ (by simp)).trans (heap_new1 _ _))
  have hbx : (((w.alloc (.cells #[.slice A p.ins.length c, .int .i64 p.start, .int .i64 p.caps] 28)).alloc (.cells #[.int .i64 x.op, .int .i64 x.out, .int .i64 x.arg, .slice B x.set.length d, .int .i64 x.at_] 64)).alloc (.cells #[.int .i64 0, .int .i64 x.out, .int .i64 x.arg, .slice B x.set.length d, .int .i64 x.at_] 64)).heap[w.heap.size + 1]? = some (.cells #[.int .i64 x.op, .int .i64 x.out, .int .i64 x.arg, .slice B x.set.length d, .int .i64 x.at_] 64 (0, 0)) := (Below.heap_alloc _ _ _ (by simp)).trans (heap_new2 _ _ _)
  have hb2 : (((w.alloc (.cells #[.slice A p.ins.length c, .int .i64 p.start, .int .i64 p.caps] 28)).alloc (.cells #[.int .i64 x.op, .int .i64 x.out, .int .i64 x.arg, .slice B x.set.length d, .int .i64 x.at_] 64)).alloc (.cells #[.int .i64 0, .int .i64 x.out, .int .i64 x.arg, .slice B x.set.length d, .int .i64 x.at_] 64)).heap[w.heap.size + 1 + 1]? = some (.cells #[.int .i64 0, .int .i64 x.out, .int .i64 x.arg, .slice B x.set.length d, .int .i64 x.at_] 64 (0, 0)) := heap_new3 _ _ _ _
  have hb4 : ∀ o, ((((w.alloc (.cells #[.slice A p.ins.length c, .int .i64 p.start, .int .i64 p.caps] 28)).alloc (.cells #[.int .i64 x.op, .int .i64 x.out, .int .i64 x.arg, .slice B x.set.length d, .int .i64 x.at_] 64)).alloc (.cells #[.int .i64 0, .int .i64 x.out, .int .i64 x.arg, .slice B x.set.length d, .int .i64 x.at_] 64)).alloc o).heap[w.heap.size]? = some (.cells #[.slice A p.ins.length c, .int .i64 p.start, .int .i64 p.caps] 28 (0, 0)) := fun o => (Below.heap_alloc _ _ _ (by simp; omega)).trans hb3
  have yb : Below w.heap.size w (((w.alloc (.cells #[.slice A p.ins.length c, .int .i64 p.start, .int .i64 p.caps] 28)).alloc (.cells #[.int .i64 x.op, .int .i64 x.out, .int .i64 x.arg, .slice B x.set.length d, .int .i64 x.at_] 64)).alloc (.cells #[.int .i64 0, .int .i64 x.out, .int .i64 x.arg, .slice B x.set.length d, .int .i64 x.at_] 64)) := below_al (below_al (below_al (Below.refl _ _) _) _) _
  have HH := Lib.hid (And.intro hb3 (And.intro hbx hb2))
  cases c1 : (x.out == 0) with
  | false =>
    go_enter Tryd.func54, Tryd.ntmps54
    go_wp2_with (first
          | (go_at_call 72; refine (here_any _ w.heap.size A p.ins.length c p.start p.caps _ (by first | exact hb3 | exact hb4 _) hpl).mono ?_; rintro e w' ⟨rfl, rfl⟩)
          | (go_at_call 74; refine (containsAtB _ _ _ _ (by first | exact heap_new4 _ _ _ _ _ | exact heap_new1 _ _)).mono ?_; rintro e w' ⟨rfl, rfl⟩)
          | (go_at_call 73; refine (hRr _ yb).mono ?_; clear hRr; rintro e w4 ⟨rfl, hb4⟩; have z := (hb4.block _ (heap_lt hb2)).trans hb2; obtain ⟨z0, z1, z2, z3, z4⟩ := cells5 z; have zx := (hb4.block _ (heap_lt hbx)).trans hbx; obtain ⟨v0, v1, v2, v3, v4⟩ := cells5 zx; have fz := frozenOf z; have ny := heap_lt z; have YB := Lib.hid (below_and hb4 yb); clear z zx hb4))
    go_ret
    exact ⟨ret_bool (by unfold rightI; simp [HO.out, c1]), by first | exact (((YB.out.setCell (by simp) _).setCell (by simp) _)) | exact YB.out | (repeat (first | exact Below.refl _ _ | apply below_al))⟩
  | true =>
    cases c2 : (x.arg == 0) with
    | false =>
      go_enter Tryd.func54, Tryd.ntmps54
      go_wp2_with (first
            | (go_at_call 72; refine (here_any _ w.heap.size A p.ins.length c p.start p.caps _ (by first | exact hb3 | exact hb4 _) hpl).mono ?_; rintro e w' ⟨rfl, rfl⟩)
            | (go_at_call 74; refine (containsAtB _ _ _ _ (by first | exact heap_new4 _ _ _ _ _ | exact heap_new1 _ _)).mono ?_; rintro e w' ⟨rfl, rfl⟩)
            | (go_at_call 73; refine (hRr _ yb).mono ?_; clear hRr; rintro e w4 ⟨rfl, hb4⟩; have z := (hb4.block _ (heap_lt hb2)).trans hb2; obtain ⟨z0, z1, z2, z3, z4⟩ := cells5 z; have zx := (hb4.block _ (heap_lt hbx)).trans hbx; obtain ⟨v0, v1, v2, v3, v4⟩ := cells5 zx; have fz := frozenOf z; have ny := heap_lt z; have YB := Lib.hid (below_and hb4 yb); clear z zx hb4))
      go_ret
      exact ⟨ret_bool (by unfold rightI; simp [HO.out, c1, c2]), by first | exact (((YB.out.setCell (by simp) _).setCell (by simp) _)) | exact YB.out | (repeat (first | exact Below.refl _ _ | apply below_al))⟩
    | true =>
      cases c3 : (x.at_ == 0) with
      | false =>
        go_enter Tryd.func54, Tryd.ntmps54
        go_wp2_with (first
              | (go_at_call 72; refine (here_any _ w.heap.size A p.ins.length c p.start p.caps _ (by first | exact hb3 | exact hb4 _) hpl).mono ?_; rintro e w' ⟨rfl, rfl⟩)
              | (go_at_call 74; refine (containsAtB _ _ _ _ (by first | exact heap_new4 _ _ _ _ _ | exact heap_new1 _ _)).mono ?_; rintro e w' ⟨rfl, rfl⟩)
              | (go_at_call 73; refine (hRr _ yb).mono ?_; clear hRr; rintro e w4 ⟨rfl, hb4⟩; have z := (hb4.block _ (heap_lt hb2)).trans hb2; obtain ⟨z0, z1, z2, z3, z4⟩ := cells5 z; have zx := (hb4.block _ (heap_lt hbx)).trans hbx; obtain ⟨v0, v1, v2, v3, v4⟩ := cells5 zx; have fz := frozenOf z; have ny := heap_lt z; have YB := Lib.hid (below_and hb4 yb); clear z zx hb4))
        go_ret
        exact ⟨ret_bool (by unfold rightI; simp [HO.out, c1, c2, c3]), by first | exact (((YB.out.setCell (by simp) _).setCell (by simp) _)) | exact YB.out | (repeat (first | exact Below.refl _ _ | apply below_al))⟩
      | true =>
        cases c4 : ((x.set.length : Int) == 0) with
        | false =>
          go_enter Tryd.func54, Tryd.ntmps54
          go_wp2_with (first
                | (go_at_call 72; refine (here_any _ w.heap.size A p.ins.length c p.start p.caps _ (by first | exact hb3 | exact hb4 _) hpl).mono ?_; rintro e w' ⟨rfl, rfl⟩)
                | (go_at_call 74; refine (containsAtB _ _ _ _ (by first | exact heap_new4 _ _ _ _ _ | exact heap_new1 _ _)).mono ?_; rintro e w' ⟨rfl, rfl⟩)
                | (go_at_call 73; refine (hRr _ yb).mono ?_; clear hRr; rintro e w4 ⟨rfl, hb4⟩; have z := (hb4.block _ (heap_lt hb2)).trans hb2; obtain ⟨z0, z1, z2, z3, z4⟩ := cells5 z; have zx := (hb4.block _ (heap_lt hbx)).trans hbx; obtain ⟨v0, v1, v2, v3, v4⟩ := cells5 zx; have fz := frozenOf z; have ny := heap_lt z; have YB := Lib.hid (below_and hb4 yb); clear z zx hb4))
          go_ret
          exact ⟨ret_bool (by unfold rightI; simp [HO.out, c1, c2, c3, c4]), by first | exact (((YB.out.setCell (by simp) _).setCell (by simp) _)) | exact YB.out | (repeat (first | exact Below.refl _ _ | apply below_al))⟩
        | true =>
          go_enter Tryd.func54, Tryd.ntmps54
          go_wp2_with (first
                | (go_at_call 72; refine (here_any _ w.heap.size A p.ins.length c p.start p.caps _ (by first | exact hb3 | exact hb4 _) hpl).mono ?_; rintro e w' ⟨rfl, rfl⟩)
                | (go_at_call 74; refine (containsAtB _ _ _ _ (by first | exact heap_new4 _ _ _ _ _ | exact heap_new1 _ _)).mono ?_; rintro e w' ⟨rfl, rfl⟩)
                | (go_at_call 73; refine (hRr _ yb).mono ?_; clear hRr; rintro e w4 ⟨rfl, hb4⟩; have z := (hb4.block _ (heap_lt hb2)).trans hb2; obtain ⟨z0, z1, z2, z3, z4⟩ := cells5 z; have zx := (hb4.block _ (heap_lt hbx)).trans hbx; obtain ⟨v0, v1, v2, v3, v4⟩ := cells5 zx; have fz := frozenOf z; have ny := heap_lt z; have YB := Lib.hid (below_and hb4 yb); clear z zx hb4))
          go_ret
          exact ⟨ret_bool (by unfold rightI; simp [HO.out, c1, c2, c3, c4]), by first | exact (((YB.out.setCell (by simp) _).setCell (by simp) _)) | exact YB.out | (repeat (first | exact Below.refl _ _ | apply below_al))⟩
set_option maxRecDepth 100000 in
set_option maxHeartbeats 8000000 in
theorem right_pg6 (R : List Rg → Bool) (ok : Nat → Prop) (w : World) (p : Pg) (x : In) (ps xs : List Value) (hp : PgC ok w p ps) (hx : InO ok w x xs) (hR : x.op = 2 → RightOK R x.set) (hpl : p.ins.length ≤ 140737488351232) (ho : x.op = 6) :
    Calls Tryd.prog 54 #[.agg ps.toArray, .agg xs.toArray] w fun e w' => e = .returned (.bool (rightI R p.ins.length p.caps x)) ∧ Below w.heap.size w w' := by
  obtain ⟨A, c, rfl, p1, p2, _⟩ := hp
  obtain ⟨B, d, rfl, x1, x2, x3⟩ := hx
  have hRr : True := trivial
  clear hR x3
  have HO := Lib.hid ho
  have o1 : (x.op == 1) = false := (by rw [ho]; rfl)
  have o6 : (x.op == 6) = true := (by rw [ho]; rfl)
  have o2 : (x.op == 2) = false := (by rw [ho]; rfl)
  have o3 : (x.op == 3) = false := (by rw [ho]; rfl)
  have o4 : (x.op == 4) = false := (by rw [ho]; rfl)
  have o5 : (x.op == 5) = false := (by rw [ho]; rfl)
  clear ho
  have hb3 : (((w.alloc (.cells #[.slice A p.ins.length c, .int .i64 p.start, .int .i64 p.caps] 28)).alloc (.cells #[.int .i64 x.op, .int .i64 x.out, .int .i64 x.arg, .slice B x.set.length d, .int .i64 x.at_] 64)).alloc (.cells #[.int .i64 0, .int .i64 x.out, .int .i64 x.arg, .slice B x.set.length d, .int .i64 x.at_] 64)).heap[w.heap.size]? = some (.cells #[.slice A p.ins.length c, .int .i64 p.start, .int .i64 p.caps] 28 (0, 0)) := (Below.heap_alloc _ _ _ (by simp; omega)).trans ((Below.heap_alloc _ _ _ (by simp)).trans (heap_new1 _ _))
  have hbx : (((w.alloc (.cells #[.slice A p.ins.length c, .int .i64 p.start, .int .i64 p.caps] 28)).alloc (.cells #[.int .i64 x.op, .int .i64 x.out, .int .i64 x.arg, .slice B x.set.length d, .int .i64 x.at_] 64)).alloc (.cells #[.int .i64 0, .int .i64 x.out, .int .i64 x.arg, .slice B x.set.length d, .int .i64 x.at_] 64)).heap[w.heap.size + 1]? = some (.cells #[.int .i64 x.op, .int .i64 x.out, .int .i64 x.arg, .slice B x.set.length d, .int .i64 x.at_] 64 (0, 0)) := (Below.heap_alloc _ _ _ (by simp)).trans (heap_new2 _ _ _)
  have hb2 : (((w.alloc (.cells #[.slice A p.ins.length c, .int .i64 p.start, .int .i64 p.caps] 28)).alloc (.cells #[.int .i64 x.op, .int .i64 x.out, .int .i64 x.arg, .slice B x.set.length d, .int .i64 x.at_] 64)).alloc (.cells #[.int .i64 0, .int .i64 x.out, .int .i64 x.arg, .slice B x.set.length d, .int .i64 x.at_] 64)).heap[w.heap.size + 1 + 1]? = some (.cells #[.int .i64 0, .int .i64 x.out, .int .i64 x.arg, .slice B x.set.length d, .int .i64 x.at_] 64 (0, 0)) := heap_new3 _ _ _ _
  have hb4 : ∀ o, ((((w.alloc (.cells #[.slice A p.ins.length c, .int .i64 p.start, .int .i64 p.caps] 28)).alloc (.cells #[.int .i64 x.op, .int .i64 x.out, .int .i64 x.arg, .slice B x.set.length d, .int .i64 x.at_] 64)).alloc (.cells #[.int .i64 0, .int .i64 x.out, .int .i64 x.arg, .slice B x.set.length d, .int .i64 x.at_] 64)).alloc o).heap[w.heap.size]? = some (.cells #[.slice A p.ins.length c, .int .i64 p.start, .int .i64 p.caps] 28 (0, 0)) := fun o => (Below.heap_alloc _ _ _ (by simp; omega)).trans hb3
  have yb : Below w.heap.size w (((w.alloc (.cells #[.slice A p.ins.length c, .int .i64 p.start, .int .i64 p.caps] 28)).alloc (.cells #[.int .i64 x.op, .int .i64 x.out, .int .i64 x.arg, .slice B x.set.length d, .int .i64 x.at_] 64)).alloc (.cells #[.int .i64 0, .int .i64 x.out, .int .i64 x.arg, .slice B x.set.length d, .int .i64 x.at_] 64)) := below_al (below_al (below_al (Below.refl _ _) _) _) _
  have HH := Lib.hid (And.intro hb3 (And.intro hbx hb2))
  cases c1 : (x.out == 0) with
  | false =>
    go_enter Tryd.func54, Tryd.ntmps54
    go_wp2_with (first
          | (go_at_call 72; refine (here_any _ w.heap.size A p.ins.length c p.start p.caps _ (by first | exact hb3 | exact hb4 _) hpl).mono ?_; rintro e w' ⟨rfl, rfl⟩)
          | (go_at_call 74; refine (containsAtB _ _ _ _ (by first | exact heap_new4 _ _ _ _ _ | exact heap_new1 _ _)).mono ?_; rintro e w' ⟨rfl, rfl⟩)
          | (go_at_call 73; refine (hRr _ yb).mono ?_; clear hRr; rintro e w4 ⟨rfl, hb4⟩; have z := (hb4.block _ (heap_lt hb2)).trans hb2; obtain ⟨z0, z1, z2, z3, z4⟩ := cells5 z; have zx := (hb4.block _ (heap_lt hbx)).trans hbx; obtain ⟨v0, v1, v2, v3, v4⟩ := cells5 zx; have fz := frozenOf z; have ny := heap_lt z; have YB := Lib.hid (below_and hb4 yb); clear z zx hb4))
    go_ret
    exact ⟨ret_bool (by unfold rightI; simp [HO.out, c1]), by first | exact (((YB.out.setCell (by simp) _).setCell (by simp) _)) | exact YB.out | (repeat (first | exact Below.refl _ _ | apply below_al))⟩
  | true =>
    cases c2 : (x.arg == 0) with
    | false =>
      go_enter Tryd.func54, Tryd.ntmps54
      go_wp2_with (first
            | (go_at_call 72; refine (here_any _ w.heap.size A p.ins.length c p.start p.caps _ (by first | exact hb3 | exact hb4 _) hpl).mono ?_; rintro e w' ⟨rfl, rfl⟩)
            | (go_at_call 74; refine (containsAtB _ _ _ _ (by first | exact heap_new4 _ _ _ _ _ | exact heap_new1 _ _)).mono ?_; rintro e w' ⟨rfl, rfl⟩)
            | (go_at_call 73; refine (hRr _ yb).mono ?_; clear hRr; rintro e w4 ⟨rfl, hb4⟩; have z := (hb4.block _ (heap_lt hb2)).trans hb2; obtain ⟨z0, z1, z2, z3, z4⟩ := cells5 z; have zx := (hb4.block _ (heap_lt hbx)).trans hbx; obtain ⟨v0, v1, v2, v3, v4⟩ := cells5 zx; have fz := frozenOf z; have ny := heap_lt z; have YB := Lib.hid (below_and hb4 yb); clear z zx hb4))
      go_ret
      exact ⟨ret_bool (by unfold rightI; simp [HO.out, c1, c2]), by first | exact (((YB.out.setCell (by simp) _).setCell (by simp) _)) | exact YB.out | (repeat (first | exact Below.refl _ _ | apply below_al))⟩
    | true =>
      cases c3 : (x.at_ == 0) with
      | false =>
        go_enter Tryd.func54, Tryd.ntmps54
        go_wp2_with (first
              | (go_at_call 72; refine (here_any _ w.heap.size A p.ins.length c p.start p.caps _ (by first | exact hb3 | exact hb4 _) hpl).mono ?_; rintro e w' ⟨rfl, rfl⟩)
              | (go_at_call 74; refine (containsAtB _ _ _ _ (by first | exact heap_new4 _ _ _ _ _ | exact heap_new1 _ _)).mono ?_; rintro e w' ⟨rfl, rfl⟩)
              | (go_at_call 73; refine (hRr _ yb).mono ?_; clear hRr; rintro e w4 ⟨rfl, hb4⟩; have z := (hb4.block _ (heap_lt hb2)).trans hb2; obtain ⟨z0, z1, z2, z3, z4⟩ := cells5 z; have zx := (hb4.block _ (heap_lt hbx)).trans hbx; obtain ⟨v0, v1, v2, v3, v4⟩ := cells5 zx; have fz := frozenOf z; have ny := heap_lt z; have YB := Lib.hid (below_and hb4 yb); clear z zx hb4))
        go_ret
        exact ⟨ret_bool (by unfold rightI; simp [HO.out, c1, c2, c3]), by first | exact (((YB.out.setCell (by simp) _).setCell (by simp) _)) | exact YB.out | (repeat (first | exact Below.refl _ _ | apply below_al))⟩
      | true =>
        cases c4 : ((x.set.length : Int) == 0) with
        | false =>
          go_enter Tryd.func54, Tryd.ntmps54
          go_wp2_with (first
                | (go_at_call 72; refine (here_any _ w.heap.size A p.ins.length c p.start p.caps _ (by first | exact hb3 | exact hb4 _) hpl).mono ?_; rintro e w' ⟨rfl, rfl⟩)
                | (go_at_call 74; refine (containsAtB _ _ _ _ (by first | exact heap_new4 _ _ _ _ _ | exact heap_new1 _ _)).mono ?_; rintro e w' ⟨rfl, rfl⟩)
                | (go_at_call 73; refine (hRr _ yb).mono ?_; clear hRr; rintro e w4 ⟨rfl, hb4⟩; have z := (hb4.block _ (heap_lt hb2)).trans hb2; obtain ⟨z0, z1, z2, z3, z4⟩ := cells5 z; have zx := (hb4.block _ (heap_lt hbx)).trans hbx; obtain ⟨v0, v1, v2, v3, v4⟩ := cells5 zx; have fz := frozenOf z; have ny := heap_lt z; have YB := Lib.hid (below_and hb4 yb); clear z zx hb4))
          go_ret
          exact ⟨ret_bool (by unfold rightI; simp [HO.out, c1, c2, c3, c4]), by first | exact (((YB.out.setCell (by simp) _).setCell (by simp) _)) | exact YB.out | (repeat (first | exact Below.refl _ _ | apply below_al))⟩
        | true =>
          go_enter Tryd.func54, Tryd.ntmps54
          go_wp2_with (first
                | (go_at_call 72; refine (here_any _ w.heap.size A p.ins.length c p.start p.caps _ (by first | exact hb3 | exact hb4 _) hpl).mono ?_; rintro e w' ⟨rfl, rfl⟩)
                | (go_at_call 74; refine (containsAtB _ _ _ _ (by first | exact heap_new4 _ _ _ _ _ | exact heap_new1 _ _)).mono ?_; rintro e w' ⟨rfl, rfl⟩)
                | (go_at_call 73; refine (hRr _ yb).mono ?_; clear hRr; rintro e w4 ⟨rfl, hb4⟩; have z := (hb4.block _ (heap_lt hb2)).trans hb2; obtain ⟨z0, z1, z2, z3, z4⟩ := cells5 z; have zx := (hb4.block _ (heap_lt hbx)).trans hbx; obtain ⟨v0, v1, v2, v3, v4⟩ := cells5 zx; have fz := frozenOf z; have ny := heap_lt z; have YB := Lib.hid (below_and hb4 yb); clear z zx hb4))
          go_ret
          exact ⟨ret_bool (by unfold rightI; simp [HO.out, c1, c2, c3, c4]), by first | exact (((YB.out.setCell (by simp) _).setCell (by simp) _)) | exact YB.out | (repeat (first | exact Below.refl _ _ | apply below_al))⟩
set_option maxRecDepth 100000 in
set_option maxHeartbeats 8000000 in
theorem right_pg2 (R : List Rg → Bool) (ok : Nat → Prop) (w : World) (p : Pg) (x : In) (ps xs : List Value) (hp : PgC ok w p ps) (hx : InO ok w x xs) (hR : x.op = 2 → RightOK R x.set) (hpl : p.ins.length ≤ 140737488351232) (ho : x.op = 2) :
    Calls Tryd.prog 54 #[.agg ps.toArray, .agg xs.toArray] w fun e w' => e = .returned (.bool (rightI R p.ins.length p.caps x)) ∧ Below w.heap.size w w' := by
  obtain ⟨A, c, rfl, p1, p2, _⟩ := hp
  obtain ⟨B, d, rfl, x1, x2, x3⟩ := hx
  have hRr := fun (W : World) (hW : Below w.heap.size w W) => hR ho ok W B d (x3.move (fun b hb hlt => ⟨hW.block b hlt, hb⟩) (by omega)) x1 x2
  clear hR x3
  have HO := Lib.hid ho
  have o1 : (x.op == 1) = false := (by rw [ho]; rfl)
  have o6 : (x.op == 6) = false := (by rw [ho]; rfl)
  have o2 : (x.op == 2) = true := (by rw [ho]; rfl)
  have o3 : (x.op == 3) = false := (by rw [ho]; rfl)
  have o4 : (x.op == 4) = false := (by rw [ho]; rfl)
  have o5 : (x.op == 5) = false := (by rw [ho]; rfl)
  clear ho
  have hb3 : (((w.alloc (.cells #[.slice A p.ins.length c, .int .i64 p.start, .int .i64 p.caps] 28)).alloc (.cells #[.int .i64 x.op, .int .i64 x.out, .int .i64 x.arg, .slice B x.set.length d, .int .i64 x.at_] 64)).alloc (.cells #[.int .i64 0, .int .i64 x.out, .int .i64 x.arg, .slice B x.set.length d, .int .i64 x.at_] 64)).heap[w.heap.size]? = some (.cells #[.slice A p.ins.length c, .int .i64 p.start, .int .i64 p.caps] 28 (0, 0)) := (Below.heap_alloc _ _ _ (by simp; omega)).trans ((Below.heap_alloc _ _ _ (by simp)).trans (heap_new1 _ _))
  have hbx : (((w.alloc (.cells #[.slice A p.ins.length c, .int .i64 p.start, .int .i64 p.caps] 28)).alloc (.cells #[.int .i64 x.op, .int .i64 x.out, .int .i64 x.arg, .slice B x.set.length d, .int .i64 x.at_] 64)).alloc (.cells #[.int .i64 0, .int .i64 x.out, .int .i64 x.arg, .slice B x.set.length d, .int .i64 x.at_] 64)).heap[w.heap.size + 1]? = some (.cells #[.int .i64 x.op, .int .i64 x.out, .int .i64 x.arg, .slice B x.set.length d, .int .i64 x.at_] 64 (0, 0)) := (Below.heap_alloc _ _ _ (by simp)).trans (heap_new2 _ _ _)
  have hb2 : (((w.alloc (.cells #[.slice A p.ins.length c, .int .i64 p.start, .int .i64 p.caps] 28)).alloc (.cells #[.int .i64 x.op, .int .i64 x.out, .int .i64 x.arg, .slice B x.set.length d, .int .i64 x.at_] 64)).alloc (.cells #[.int .i64 0, .int .i64 x.out, .int .i64 x.arg, .slice B x.set.length d, .int .i64 x.at_] 64)).heap[w.heap.size + 1 + 1]? = some (.cells #[.int .i64 0, .int .i64 x.out, .int .i64 x.arg, .slice B x.set.length d, .int .i64 x.at_] 64 (0, 0)) := heap_new3 _ _ _ _
  have hb4 : ∀ o, ((((w.alloc (.cells #[.slice A p.ins.length c, .int .i64 p.start, .int .i64 p.caps] 28)).alloc (.cells #[.int .i64 x.op, .int .i64 x.out, .int .i64 x.arg, .slice B x.set.length d, .int .i64 x.at_] 64)).alloc (.cells #[.int .i64 0, .int .i64 x.out, .int .i64 x.arg, .slice B x.set.length d, .int .i64 x.at_] 64)).alloc o).heap[w.heap.size]? = some (.cells #[.slice A p.ins.length c, .int .i64 p.start, .int .i64 p.caps] 28 (0, 0)) := fun o => (Below.heap_alloc _ _ _ (by simp; omega)).trans hb3
  have yb : Below w.heap.size w (((w.alloc (.cells #[.slice A p.ins.length c, .int .i64 p.start, .int .i64 p.caps] 28)).alloc (.cells #[.int .i64 x.op, .int .i64 x.out, .int .i64 x.arg, .slice B x.set.length d, .int .i64 x.at_] 64)).alloc (.cells #[.int .i64 0, .int .i64 x.out, .int .i64 x.arg, .slice B x.set.length d, .int .i64 x.at_] 64)) := below_al (below_al (below_al (Below.refl _ _) _) _) _
  have HH := Lib.hid (And.intro hb3 (And.intro hbx hb2))
  cases c1 : hereB p.ins.length x.out with
  | false =>
    go_enter Tryd.func54, Tryd.ntmps54
    go_wp2_with (first
          | (go_at_call 72; refine (here_any _ w.heap.size A p.ins.length c p.start p.caps _ (by first | exact hb3 | exact hb4 _) hpl).mono ?_; rintro e w' ⟨rfl, rfl⟩)
          | (go_at_call 74; refine (containsAtB _ _ _ _ (by first | exact heap_new4 _ _ _ _ _ | exact heap_new1 _ _)).mono ?_; rintro e w' ⟨rfl, rfl⟩)
          | (go_at_call 73; refine (hRr _ yb).mono ?_; clear hRr; rintro e w4 ⟨rfl, hb4⟩; have z := (hb4.block _ (heap_lt hb2)).trans hb2; obtain ⟨z0, z1, z2, z3, z4⟩ := cells5 z; have zx := (hb4.block _ (heap_lt hbx)).trans hbx; obtain ⟨v0, v1, v2, v3, v4⟩ := cells5 zx; have fz := frozenOf z; have ny := heap_lt z; have YB := Lib.hid (below_and hb4 yb); clear z zx hb4))
    go_ret
    exact ⟨ret_bool (by unfold rightI; simp [HO.out, c1]), by first | exact (((YB.out.setCell (by simp) _).setCell (by simp) _)) | exact YB.out | (repeat (first | exact Below.refl _ _ | apply below_al))⟩
  | true =>
    cases c2 : ((x.set.length : Int) == 0) with
    | true =>
      go_enter Tryd.func54, Tryd.ntmps54
      go_wp2_with (first
            | (go_at_call 72; refine (here_any _ w.heap.size A p.ins.length c p.start p.caps _ (by first | exact hb3 | exact hb4 _) hpl).mono ?_; rintro e w' ⟨rfl, rfl⟩)
            | (go_at_call 74; refine (containsAtB _ _ _ _ (by first | exact heap_new4 _ _ _ _ _ | exact heap_new1 _ _)).mono ?_; rintro e w' ⟨rfl, rfl⟩)
            | (go_at_call 73; refine (hRr _ yb).mono ?_; clear hRr; rintro e w4 ⟨rfl, hb4⟩; have z := (hb4.block _ (heap_lt hb2)).trans hb2; obtain ⟨z0, z1, z2, z3, z4⟩ := cells5 z; have zx := (hb4.block _ (heap_lt hbx)).trans hbx; obtain ⟨v0, v1, v2, v3, v4⟩ := cells5 zx; have fz := frozenOf z; have ny := heap_lt z; have YB := Lib.hid (below_and hb4 yb); clear z zx hb4))
      go_ret
      exact ⟨ret_bool (by unfold rightI; simp [HO.out, c1, c2]), by first | exact (((YB.out.setCell (by simp) _).setCell (by simp) _)) | exact YB.out | (repeat (first | exact Below.refl _ _ | apply below_al))⟩
    | false =>
      cases c3 : R x.set with
      | false =>
        go_enter Tryd.func54, Tryd.ntmps54
        go_wp2_with (first | (go_at_call 72; refine (here_any _ w.heap.size A p.ins.length c p.start p.caps _ (by first | exact hb3 | exact hb4 _) hpl).mono ?_; rintro e w' ⟨rfl, rfl⟩))
        refine (hRr _ yb).mono ?_
        clear hRr
        rintro e w4 ⟨rfl, hb5⟩
        dsimp only
        have z := (hb5.block _ (heap_lt hb2)).trans hb2
        obtain ⟨z0, z1, z2, z3, z4⟩ := cells5 z
        have zx := (hb5.block _ (heap_lt hbx)).trans hbx
        obtain ⟨v0, v1, v2, v3, v4⟩ := cells5 zx
        have fz := frozenOf z
        have ny := heap_lt z
        have YB := Lib.hid (below_and hb5 yb)
        clear z zx hb5 hb3 hbx hb2 hb4 yb
        go_wp2_with fail
        go_ret
        exact ⟨ret_bool (by unfold rightI; simp [HO.out, c1, c2, c3]), by first | exact YB.out | exact (((YB.out.setCell (by simp; omega) _).setCell (by simp; omega) _))⟩
      | true =>
        cases c4 : (x.arg == 0) with
        | false =>
          go_enter Tryd.func54, Tryd.ntmps54
          go_wp2_with (first | (go_at_call 72; refine (here_any _ w.heap.size A p.ins.length c p.start p.caps _ (by first | exact hb3 | exact hb4 _) hpl).mono ?_; rintro e w' ⟨rfl, rfl⟩))
          refine (hRr _ yb).mono ?_
          clear hRr
          rintro e w4 ⟨rfl, hb5⟩
          dsimp only
          have z := (hb5.block _ (heap_lt hb2)).trans hb2
          obtain ⟨z0, z1, z2, z3, z4⟩ := cells5 z
          have zx := (hb5.block _ (heap_lt hbx)).trans hbx
          obtain ⟨v0, v1, v2, v3, v4⟩ := cells5 zx
          have fz := frozenOf z
          have ny := heap_lt z
          have YB := Lib.hid (below_and hb5 yb)
          clear z zx hb5 hb3 hbx hb2 hb4 yb
          go_wp2_with fail
          go_ret
          exact ⟨ret_bool (by unfold rightI; simp [HO.out, c1, c2, c3, c4]), by first | exact YB.out | exact (((YB.out.setCell (by simp; omega) _).setCell (by simp; omega) _))⟩
        | true =>
          cases c5 : (x.at_ == 0) with
          | false =>
            go_enter Tryd.func54, Tryd.ntmps54
            go_wp2_with (first | (go_at_call 72; refine (here_any _ w.heap.size A p.ins.length c p.start p.caps _ (by first | exact hb3 | exact hb4 _) hpl).mono ?_; rintro e w' ⟨rfl, rfl⟩))
            refine (hRr _ yb).mono ?_
            clear hRr
            rintro e w4 ⟨rfl, hb5⟩
            dsimp only
            have z := (hb5.block _ (heap_lt hb2)).trans hb2
            obtain ⟨z0, z1, z2, z3, z4⟩ := cells5 z
            have zx := (hb5.block _ (heap_lt hbx)).trans hbx
            obtain ⟨v0, v1, v2, v3, v4⟩ := cells5 zx
            have fz := frozenOf z
            have ny := heap_lt z
            have YB := Lib.hid (below_and hb5 yb)
            clear z zx hb5 hb3 hbx hb2 hb4 yb
            go_wp2_with fail
            go_ret
            exact ⟨ret_bool (by unfold rightI; simp [HO.out, c1, c2, c3, c4, c5]), by first | exact YB.out | exact (((YB.out.setCell (by simp; omega) _).setCell (by simp; omega) _))⟩
          | true =>
            go_enter Tryd.func54, Tryd.ntmps54
            go_wp2_with (first | (go_at_call 72; refine (here_any _ w.heap.size A p.ins.length c p.start p.caps _ (by first | exact hb3 | exact hb4 _) hpl).mono ?_; rintro e w' ⟨rfl, rfl⟩))
            refine (hRr _ yb).mono ?_
            clear hRr
            rintro e w4 ⟨rfl, hb5⟩
            dsimp only
            have z := (hb5.block _ (heap_lt hb2)).trans hb2
            obtain ⟨z0, z1, z2, z3, z4⟩ := cells5 z
            have zx := (hb5.block _ (heap_lt hbx)).trans hbx
            obtain ⟨v0, v1, v2, v3, v4⟩ := cells5 zx
            have fz := frozenOf z
            have ny := heap_lt z
            have YB := Lib.hid (below_and hb5 yb)
            clear z zx hb5 hb3 hbx hb2 hb4 yb
            go_wp2_with fail
            go_ret
            exact ⟨ret_bool (by unfold rightI; simp [HO.out, c1, c2, c3, c4, c5]), by first | exact YB.out | exact (((YB.out.setCell (by simp; omega) _).setCell (by simp; omega) _))⟩
set_option maxRecDepth 100000 in
set_option maxHeartbeats 8000000 in
theorem right_pg3 (R : List Rg → Bool) (ok : Nat → Prop) (w : World) (p : Pg) (x : In) (ps xs : List Value) (hp : PgC ok w p ps) (hx : InO ok w x xs) (hR : x.op = 2 → RightOK R x.set) (hpl : p.ins.length ≤ 140737488351232) (ho : x.op = 3) :
    Calls Tryd.prog 54 #[.agg ps.toArray, .agg xs.toArray] w fun e w' => e = .returned (.bool (rightI R p.ins.length p.caps x)) ∧ Below w.heap.size w w' := by
  obtain ⟨A, c, rfl, p1, p2, _⟩ := hp
  obtain ⟨B, d, rfl, x1, x2, x3⟩ := hx
  have hRr : True := trivial
  clear hR x3
  have HO := Lib.hid ho
  have o1 : (x.op == 1) = false := (by rw [ho]; rfl)
  have o6 : (x.op == 6) = false := (by rw [ho]; rfl)
  have o2 : (x.op == 2) = false := (by rw [ho]; rfl)
  have o3 : (x.op == 3) = true := (by rw [ho]; rfl)
  have o4 : (x.op == 4) = false := (by rw [ho]; rfl)
  have o5 : (x.op == 5) = false := (by rw [ho]; rfl)
  clear ho
  have hb3 : (((w.alloc (.cells #[.slice A p.ins.length c, .int .i64 p.start, .int .i64 p.caps] 28)).alloc (.cells #[.int .i64 x.op, .int .i64 x.out, .int .i64 x.arg, .slice B x.set.length d, .int .i64 x.at_] 64)).alloc (.cells #[.int .i64 0, .int .i64 x.out, .int .i64 x.arg, .slice B x.set.length d, .int .i64 x.at_] 64)).heap[w.heap.size]? = some (.cells #[.slice A p.ins.length c, .int .i64 p.start, .int .i64 p.caps] 28 (0, 0)) := (Below.heap_alloc _ _ _ (by simp; omega)).trans ((Below.heap_alloc _ _ _ (by simp)).trans (heap_new1 _ _))
  have hbx : (((w.alloc (.cells #[.slice A p.ins.length c, .int .i64 p.start, .int .i64 p.caps] 28)).alloc (.cells #[.int .i64 x.op, .int .i64 x.out, .int .i64 x.arg, .slice B x.set.length d, .int .i64 x.at_] 64)).alloc (.cells #[.int .i64 0, .int .i64 x.out, .int .i64 x.arg, .slice B x.set.length d, .int .i64 x.at_] 64)).heap[w.heap.size + 1]? = some (.cells #[.int .i64 x.op, .int .i64 x.out, .int .i64 x.arg, .slice B x.set.length d, .int .i64 x.at_] 64 (0, 0)) := (Below.heap_alloc _ _ _ (by simp)).trans (heap_new2 _ _ _)
  have hb2 : (((w.alloc (.cells #[.slice A p.ins.length c, .int .i64 p.start, .int .i64 p.caps] 28)).alloc (.cells #[.int .i64 x.op, .int .i64 x.out, .int .i64 x.arg, .slice B x.set.length d, .int .i64 x.at_] 64)).alloc (.cells #[.int .i64 0, .int .i64 x.out, .int .i64 x.arg, .slice B x.set.length d, .int .i64 x.at_] 64)).heap[w.heap.size + 1 + 1]? = some (.cells #[.int .i64 0, .int .i64 x.out, .int .i64 x.arg, .slice B x.set.length d, .int .i64 x.at_] 64 (0, 0)) := heap_new3 _ _ _ _
  have hb4 : ∀ o, ((((w.alloc (.cells #[.slice A p.ins.length c, .int .i64 p.start, .int .i64 p.caps] 28)).alloc (.cells #[.int .i64 x.op, .int .i64 x.out, .int .i64 x.arg, .slice B x.set.length d, .int .i64 x.at_] 64)).alloc (.cells #[.int .i64 0, .int .i64 x.out, .int .i64 x.arg, .slice B x.set.length d, .int .i64 x.at_] 64)).alloc o).heap[w.heap.size]? = some (.cells #[.slice A p.ins.length c, .int .i64 p.start, .int .i64 p.caps] 28 (0, 0)) := fun o => (Below.heap_alloc _ _ _ (by simp; omega)).trans hb3
  have yb : Below w.heap.size w (((w.alloc (.cells #[.slice A p.ins.length c, .int .i64 p.start, .int .i64 p.caps] 28)).alloc (.cells #[.int .i64 x.op, .int .i64 x.out, .int .i64 x.arg, .slice B x.set.length d, .int .i64 x.at_] 64)).alloc (.cells #[.int .i64 0, .int .i64 x.out, .int .i64 x.arg, .slice B x.set.length d, .int .i64 x.at_] 64)) := below_al (below_al (below_al (Below.refl _ _) _) _) _
  have HH := Lib.hid (And.intro hb3 (And.intro hbx hb2))
  cases c1 : hereB p.ins.length x.out with
  | false =>
    go_enter Tryd.func54, Tryd.ntmps54
    go_wp2_with (first
          | (go_at_call 72; refine (here_any _ w.heap.size A p.ins.length c p.start p.caps _ (by first | exact hb3 | exact hb4 _) hpl).mono ?_; rintro e w' ⟨rfl, rfl⟩)
          | (go_at_call 74; refine (containsAtB _ _ _ _ (by first | exact heap_new4 _ _ _ _ _ | exact heap_new1 _ _)).mono ?_; rintro e w' ⟨rfl, rfl⟩)
          | (go_at_call 73; refine (hRr _ yb).mono ?_; clear hRr; rintro e w4 ⟨rfl, hb4⟩; have z := (hb4.block _ (heap_lt hb2)).trans hb2; obtain ⟨z0, z1, z2, z3, z4⟩ := cells5 z; have zx := (hb4.block _ (heap_lt hbx)).trans hbx; obtain ⟨v0, v1, v2, v3, v4⟩ := cells5 zx; have fz := frozenOf z; have ny := heap_lt z; have YB := Lib.hid (below_and hb4 yb); clear z zx hb4))
    go_ret
    exact ⟨ret_bool (by unfold rightI; simp [HO.out, c1]), by first | exact (((YB.out.setCell (by simp) _).setCell (by simp) _)) | exact YB.out | (repeat (first | exact Below.refl _ _ | apply below_al))⟩
  | true =>
    cases c2 : hereB p.ins.length x.arg with
    | false =>
      go_enter Tryd.func54, Tryd.ntmps54
      go_wp2_with (first
            | (go_at_call 72; refine (here_any _ w.heap.size A p.ins.length c p.start p.caps _ (by first | exact hb3 | exact hb4 _) hpl).mono ?_; rintro e w' ⟨rfl, rfl⟩)
            | (go_at_call 74; refine (containsAtB _ _ _ _ (by first | exact heap_new4 _ _ _ _ _ | exact heap_new1 _ _)).mono ?_; rintro e w' ⟨rfl, rfl⟩)
            | (go_at_call 73; refine (hRr _ yb).mono ?_; clear hRr; rintro e w4 ⟨rfl, hb4⟩; have z := (hb4.block _ (heap_lt hb2)).trans hb2; obtain ⟨z0, z1, z2, z3, z4⟩ := cells5 z; have zx := (hb4.block _ (heap_lt hbx)).trans hbx; obtain ⟨v0, v1, v2, v3, v4⟩ := cells5 zx; have fz := frozenOf z; have ny := heap_lt z; have YB := Lib.hid (below_and hb4 yb); clear z zx hb4))
      go_ret
      exact ⟨ret_bool (by unfold rightI; simp [HO.out, c1, c2]), by first | exact (((YB.out.setCell (by simp) _).setCell (by simp) _)) | exact YB.out | (repeat (first | exact Below.refl _ _ | apply below_al))⟩
    | true =>
      cases c3 : (x.at_ == 0) with
      | false =>
        go_enter Tryd.func54, Tryd.ntmps54
        go_wp2_with (first
              | (go_at_call 72; refine (here_any _ w.heap.size A p.ins.length c p.start p.caps _ (by first | exact hb3 | exact hb4 _) hpl).mono ?_; rintro e w' ⟨rfl, rfl⟩)
              | (go_at_call 74; refine (containsAtB _ _ _ _ (by first | exact heap_new4 _ _ _ _ _ | exact heap_new1 _ _)).mono ?_; rintro e w' ⟨rfl, rfl⟩)
              | (go_at_call 73; refine (hRr _ yb).mono ?_; clear hRr; rintro e w4 ⟨rfl, hb4⟩; have z := (hb4.block _ (heap_lt hb2)).trans hb2; obtain ⟨z0, z1, z2, z3, z4⟩ := cells5 z; have zx := (hb4.block _ (heap_lt hbx)).trans hbx; obtain ⟨v0, v1, v2, v3, v4⟩ := cells5 zx; have fz := frozenOf z; have ny := heap_lt z; have YB := Lib.hid (below_and hb4 yb); clear z zx hb4))
        go_ret
        exact ⟨ret_bool (by unfold rightI; simp [HO.out, c1, c2, c3]), by first | exact (((YB.out.setCell (by simp) _).setCell (by simp) _)) | exact YB.out | (repeat (first | exact Below.refl _ _ | apply below_al))⟩
      | true =>
        cases c4 : ((x.set.length : Int) == 0) with
        | false =>
          go_enter Tryd.func54, Tryd.ntmps54
          go_wp2_with (first
                | (go_at_call 72; refine (here_any _ w.heap.size A p.ins.length c p.start p.caps _ (by first | exact hb3 | exact hb4 _) hpl).mono ?_; rintro e w' ⟨rfl, rfl⟩)
                | (go_at_call 74; refine (containsAtB _ _ _ _ (by first | exact heap_new4 _ _ _ _ _ | exact heap_new1 _ _)).mono ?_; rintro e w' ⟨rfl, rfl⟩)
                | (go_at_call 73; refine (hRr _ yb).mono ?_; clear hRr; rintro e w4 ⟨rfl, hb4⟩; have z := (hb4.block _ (heap_lt hb2)).trans hb2; obtain ⟨z0, z1, z2, z3, z4⟩ := cells5 z; have zx := (hb4.block _ (heap_lt hbx)).trans hbx; obtain ⟨v0, v1, v2, v3, v4⟩ := cells5 zx; have fz := frozenOf z; have ny := heap_lt z; have YB := Lib.hid (below_and hb4 yb); clear z zx hb4))
          go_ret
          exact ⟨ret_bool (by unfold rightI; simp [HO.out, c1, c2, c3, c4]), by first | exact (((YB.out.setCell (by simp) _).setCell (by simp) _)) | exact YB.out | (repeat (first | exact Below.refl _ _ | apply below_al))⟩
        | true =>
          go_enter Tryd.func54, Tryd.ntmps54
          go_wp2_with (first
                | (go_at_call 72; refine (here_any _ w.heap.size A p.ins.length c p.start p.caps _ (by first | exact hb3 | exact hb4 _) hpl).mono ?_; rintro e w' ⟨rfl, rfl⟩)
                | (go_at_call 74; refine (containsAtB _ _ _ _ (by first | exact heap_new4 _ _ _ _ _ | exact heap_new1 _ _)).mono ?_; rintro e w' ⟨rfl, rfl⟩)
                | (go_at_call 73; refine (hRr _ yb).mono ?_; clear hRr; rintro e w4 ⟨rfl, hb4⟩; have z := (hb4.block _ (heap_lt hb2)).trans hb2; obtain ⟨z0, z1, z2, z3, z4⟩ := cells5 z; have zx := (hb4.block _ (heap_lt hbx)).trans hbx; obtain ⟨v0, v1, v2, v3, v4⟩ := cells5 zx; have fz := frozenOf z; have ny := heap_lt z; have YB := Lib.hid (below_and hb4 yb); clear z zx hb4))
          go_ret
          exact ⟨ret_bool (by unfold rightI; simp [HO.out, c1, c2, c3, c4]), by first | exact (((YB.out.setCell (by simp) _).setCell (by simp) _)) | exact YB.out | (repeat (first | exact Below.refl _ _ | apply below_al))⟩
set_option maxRecDepth 100000 in
set_option maxHeartbeats 8000000 in
theorem right_pg4 (R : List Rg → Bool) (ok : Nat → Prop) (w : World) (p : Pg) (x : In) (ps xs : List Value) (hp : PgC ok w p ps) (hx : InO ok w x xs) (hR : x.op = 2 → RightOK R x.set) (hpl : p.ins.length ≤ 140737488351232) (ho : x.op = 4) :
    Calls Tryd.prog 54 #[.agg ps.toArray, .agg xs.toArray] w fun e w' => e = .returned (.bool (rightI R p.ins.length p.caps x)) ∧ Below w.heap.size w w' := by
  obtain ⟨A, c, rfl, p1, p2, _⟩ := hp
  obtain ⟨B, d, rfl, x1, x2, x3⟩ := hx
  have hRr : True := trivial
  clear hR x3
  have HO := Lib.hid ho
  have o1 : (x.op == 1) = false := (by rw [ho]; rfl)
  have o6 : (x.op == 6) = false := (by rw [ho]; rfl)
  have o2 : (x.op == 2) = false := (by rw [ho]; rfl)
  have o3 : (x.op == 3) = false := (by rw [ho]; rfl)
  have o4 : (x.op == 4) = true := (by rw [ho]; rfl)
  have o5 : (x.op == 5) = false := (by rw [ho]; rfl)
  clear ho
  have hb3 : (((w.alloc (.cells #[.slice A p.ins.length c, .int .i64 p.start, .int .i64 p.caps] 28)).alloc (.cells #[.int .i64 x.op, .int .i64 x.out, .int .i64 x.arg, .slice B x.set.length d, .int .i64 x.at_] 64)).alloc (.cells #[.int .i64 0, .int .i64 x.out, .int .i64 x.arg, .slice B x.set.length d, .int .i64 x.at_] 64)).heap[w.heap.size]? = some (.cells #[.slice A p.ins.length c, .int .i64 p.start, .int .i64 p.caps] 28 (0, 0)) := (Below.heap_alloc _ _ _ (by simp; omega)).trans ((Below.heap_alloc _ _ _ (by simp)).trans (heap_new1 _ _))
  have hbx : (((w.alloc (.cells #[.slice A p.ins.length c, .int .i64 p.start, .int .i64 p.caps] 28)).alloc (.cells #[.int .i64 x.op, .int .i64 x.out, .int .i64 x.arg, .slice B x.set.length d, .int .i64 x.at_] 64)).alloc (.cells #[.int .i64 0, .int .i64 x.out, .int .i64 x.arg, .slice B x.set.length d, .int .i64 x.at_] 64)).heap[w.heap.size + 1]? = some (.cells #[.int .i64 x.op, .int .i64 x.out, .int .i64 x.arg, .slice B x.set.length d, .int .i64 x.at_] 64 (0, 0)) := (Below.heap_alloc _ _ _ (by simp)).trans (heap_new2 _ _ _)
  have hb2 : (((w.alloc (.cells #[.slice A p.ins.length c, .int .i64 p.start, .int .i64 p.caps] 28)).alloc (.cells #[.int .i64 x.op, .int .i64 x.out, .int .i64 x.arg, .slice B x.set.length d, .int .i64 x.at_] 64)).alloc (.cells #[.int .i64 0, .int .i64 x.out, .int .i64 x.arg, .slice B x.set.length d, .int .i64 x.at_] 64)).heap[w.heap.size + 1 + 1]? = some (.cells #[.int .i64 0, .int .i64 x.out, .int .i64 x.arg, .slice B x.set.length d, .int .i64 x.at_] 64 (0, 0)) := heap_new3 _ _ _ _
  have hb4 : ∀ o, ((((w.alloc (.cells #[.slice A p.ins.length c, .int .i64 p.start, .int .i64 p.caps] 28)).alloc (.cells #[.int .i64 x.op, .int .i64 x.out, .int .i64 x.arg, .slice B x.set.length d, .int .i64 x.at_] 64)).alloc (.cells #[.int .i64 0, .int .i64 x.out, .int .i64 x.arg, .slice B x.set.length d, .int .i64 x.at_] 64)).alloc o).heap[w.heap.size]? = some (.cells #[.slice A p.ins.length c, .int .i64 p.start, .int .i64 p.caps] 28 (0, 0)) := fun o => (Below.heap_alloc _ _ _ (by simp; omega)).trans hb3
  have yb : Below w.heap.size w (((w.alloc (.cells #[.slice A p.ins.length c, .int .i64 p.start, .int .i64 p.caps] 28)).alloc (.cells #[.int .i64 x.op, .int .i64 x.out, .int .i64 x.arg, .slice B x.set.length d, .int .i64 x.at_] 64)).alloc (.cells #[.int .i64 0, .int .i64 x.out, .int .i64 x.arg, .slice B x.set.length d, .int .i64 x.at_] 64)) := below_al (below_al (below_al (Below.refl _ _) _) _) _
  have HH := Lib.hid (And.intro hb3 (And.intro hbx hb2))
  cases c1 : hereB p.ins.length x.out with
  | false =>
    go_enter Tryd.func54, Tryd.ntmps54
    go_wp2_with (first
          | (go_at_call 72; refine (here_any _ w.heap.size A p.ins.length c p.start p.caps _ (by first | exact hb3 | exact hb4 _) hpl).mono ?_; rintro e w' ⟨rfl, rfl⟩)
          | (go_at_call 74; refine (containsAtB _ _ _ _ (by first | exact heap_new4 _ _ _ _ _ | exact heap_new1 _ _)).mono ?_; rintro e w' ⟨rfl, rfl⟩)
          | (go_at_call 73; refine (hRr _ yb).mono ?_; clear hRr; rintro e w4 ⟨rfl, hb4⟩; have z := (hb4.block _ (heap_lt hb2)).trans hb2; obtain ⟨z0, z1, z2, z3, z4⟩ := cells5 z; have zx := (hb4.block _ (heap_lt hbx)).trans hbx; obtain ⟨v0, v1, v2, v3, v4⟩ := cells5 zx; have fz := frozenOf z; have ny := heap_lt z; have YB := Lib.hid (below_and hb4 yb); clear z zx hb4))
    go_ret
    exact ⟨ret_bool (by unfold rightI; simp [HO.out, c1]), by first | exact (((YB.out.setCell (by simp) _).setCell (by simp) _)) | exact YB.out | (repeat (first | exact Below.refl _ _ | apply below_al))⟩
  | true =>
    cases c2 : decide (x.arg < 2) with
    | true =>
      go_enter Tryd.func54, Tryd.ntmps54
      go_wp2_with (first
            | (go_at_call 72; refine (here_any _ w.heap.size A p.ins.length c p.start p.caps _ (by first | exact hb3 | exact hb4 _) hpl).mono ?_; rintro e w' ⟨rfl, rfl⟩)
            | (go_at_call 74; refine (containsAtB _ _ _ _ (by first | exact heap_new4 _ _ _ _ _ | exact heap_new1 _ _)).mono ?_; rintro e w' ⟨rfl, rfl⟩)
            | (go_at_call 73; refine (hRr _ yb).mono ?_; clear hRr; rintro e w4 ⟨rfl, hb4⟩; have z := (hb4.block _ (heap_lt hb2)).trans hb2; obtain ⟨z0, z1, z2, z3, z4⟩ := cells5 z; have zx := (hb4.block _ (heap_lt hbx)).trans hbx; obtain ⟨v0, v1, v2, v3, v4⟩ := cells5 zx; have fz := frozenOf z; have ny := heap_lt z; have YB := Lib.hid (below_and hb4 yb); clear z zx hb4))
      go_ret
      exact ⟨ret_bool (by unfold rightI; simp [HO.out, c1, c2]), by first | exact (((YB.out.setCell (by simp) _).setCell (by simp) _)) | exact YB.out | (repeat (first | exact Below.refl _ _ | apply below_al))⟩
    | false =>
      cases c3 : decide (p.caps ≤ x.arg) with
      | true =>
        go_enter Tryd.func54, Tryd.ntmps54
        go_wp2_with (first
              | (go_at_call 72; refine (here_any _ w.heap.size A p.ins.length c p.start p.caps _ (by first | exact hb3 | exact hb4 _) hpl).mono ?_; rintro e w' ⟨rfl, rfl⟩)
              | (go_at_call 74; refine (containsAtB _ _ _ _ (by first | exact heap_new4 _ _ _ _ _ | exact heap_new1 _ _)).mono ?_; rintro e w' ⟨rfl, rfl⟩)
              | (go_at_call 73; refine (hRr _ yb).mono ?_; clear hRr; rintro e w4 ⟨rfl, hb4⟩; have z := (hb4.block _ (heap_lt hb2)).trans hb2; obtain ⟨z0, z1, z2, z3, z4⟩ := cells5 z; have zx := (hb4.block _ (heap_lt hbx)).trans hbx; obtain ⟨v0, v1, v2, v3, v4⟩ := cells5 zx; have fz := frozenOf z; have ny := heap_lt z; have YB := Lib.hid (below_and hb4 yb); clear z zx hb4))
        go_ret
        exact ⟨ret_bool (by unfold rightI; simp [HO.out, c1, c2, c3]), by first | exact (((YB.out.setCell (by simp) _).setCell (by simp) _)) | exact YB.out | (repeat (first | exact Below.refl _ _ | apply below_al))⟩
      | false =>
        cases c4 : (x.at_ == 0) with
        | false =>
          go_enter Tryd.func54, Tryd.ntmps54
          go_wp2_with (first
                | (go_at_call 72; refine (here_any _ w.heap.size A p.ins.length c p.start p.caps _ (by first | exact hb3 | exact hb4 _) hpl).mono ?_; rintro e w' ⟨rfl, rfl⟩)
                | (go_at_call 74; refine (containsAtB _ _ _ _ (by first | exact heap_new4 _ _ _ _ _ | exact heap_new1 _ _)).mono ?_; rintro e w' ⟨rfl, rfl⟩)
                | (go_at_call 73; refine (hRr _ yb).mono ?_; clear hRr; rintro e w4 ⟨rfl, hb4⟩; have z := (hb4.block _ (heap_lt hb2)).trans hb2; obtain ⟨z0, z1, z2, z3, z4⟩ := cells5 z; have zx := (hb4.block _ (heap_lt hbx)).trans hbx; obtain ⟨v0, v1, v2, v3, v4⟩ := cells5 zx; have fz := frozenOf z; have ny := heap_lt z; have YB := Lib.hid (below_and hb4 yb); clear z zx hb4))
          go_ret
          exact ⟨ret_bool (by unfold rightI; simp [HO.out, c1, c2, c3, c4]), by first | exact (((YB.out.setCell (by simp) _).setCell (by simp) _)) | exact YB.out | (repeat (first | exact Below.refl _ _ | apply below_al))⟩
        | true =>
          cases c5 : ((x.set.length : Int) == 0) with
          | false =>
            go_enter Tryd.func54, Tryd.ntmps54
            go_wp2_with (first
                  | (go_at_call 72; refine (here_any _ w.heap.size A p.ins.length c p.start p.caps _ (by first | exact hb3 | exact hb4 _) hpl).mono ?_; rintro e w' ⟨rfl, rfl⟩)
                  | (go_at_call 74; refine (containsAtB _ _ _ _ (by first | exact heap_new4 _ _ _ _ _ | exact heap_new1 _ _)).mono ?_; rintro e w' ⟨rfl, rfl⟩)
                  | (go_at_call 73; refine (hRr _ yb).mono ?_; clear hRr; rintro e w4 ⟨rfl, hb4⟩; have z := (hb4.block _ (heap_lt hb2)).trans hb2; obtain ⟨z0, z1, z2, z3, z4⟩ := cells5 z; have zx := (hb4.block _ (heap_lt hbx)).trans hbx; obtain ⟨v0, v1, v2, v3, v4⟩ := cells5 zx; have fz := frozenOf z; have ny := heap_lt z; have YB := Lib.hid (below_and hb4 yb); clear z zx hb4))
            go_ret
            exact ⟨ret_bool (by unfold rightI; simp [HO.out, c1, c2, c3, c4, c5]), by first | exact (((YB.out.setCell (by simp) _).setCell (by simp) _)) | exact YB.out | (repeat (first | exact Below.refl _ _ | apply below_al))⟩
          | true =>
            go_enter Tryd.func54, Tryd.ntmps54
            go_wp2_with (first
                  | (go_at_call 72; refine (here_any _ w.heap.size A p.ins.length c p.start p.caps _ (by first | exact hb3 | exact hb4 _) hpl).mono ?_; rintro e w' ⟨rfl, rfl⟩)
                  | (go_at_call 74; refine (containsAtB _ _ _ _ (by first | exact heap_new4 _ _ _ _ _ | exact heap_new1 _ _)).mono ?_; rintro e w' ⟨rfl, rfl⟩)
                  | (go_at_call 73; refine (hRr _ yb).mono ?_; clear hRr; rintro e w4 ⟨rfl, hb4⟩; have z := (hb4.block _ (heap_lt hb2)).trans hb2; obtain ⟨z0, z1, z2, z3, z4⟩ := cells5 z; have zx := (hb4.block _ (heap_lt hbx)).trans hbx; obtain ⟨v0, v1, v2, v3, v4⟩ := cells5 zx; have fz := frozenOf z; have ny := heap_lt z; have YB := Lib.hid (below_and hb4 yb); clear z zx hb4))
            go_ret
            exact ⟨ret_bool (by unfold rightI; simp [HO.out, c1, c2, c3, c4, c5]), by first | exact (((YB.out.setCell (by simp) _).setCell (by simp) _)) | exact YB.out | (repeat (first | exact Below.refl _ _ | apply below_al))⟩
set_option maxRecDepth 100000 in
set_option maxHeartbeats 8000000 in
theorem right_pg5 (R : List Rg → Bool) (ok : Nat → Prop) (w : World) (p : Pg) (x : In) (ps xs : List Value) (hp : PgC ok w p ps) (hx : InO ok w x xs) (hR : x.op = 2 → RightOK R x.set) (hpl : p.ins.length ≤ 140737488351232) (ho : x.op = 5) :
    Calls Tryd.prog 54 #[.agg ps.toArray, .agg xs.toArray] w fun e w' => e = .returned (.bool (rightI R p.ins.length p.caps x)) ∧ Below w.heap.size w w' := by
  obtain ⟨A, c, rfl, p1, p2, _⟩ := hp
  obtain ⟨B, d, rfl, x1, x2, x3⟩ := hx
  have hRr : True := trivial
  clear hR x3
  have HO := Lib.hid ho
  have o1 : (x.op == 1) = false := (by rw [ho]; rfl)
  have o6 : (x.op == 6) = false := (by rw [ho]; rfl)
  have o2 : (x.op == 2) = false := (by rw [ho]; rfl)
  have o3 : (x.op == 3) = false := (by rw [ho]; rfl)
  have o4 : (x.op == 4) = false := (by rw [ho]; rfl)
  have o5 : (x.op == 5) = true := (by rw [ho]; rfl)
  clear ho
  have hb3 : (((w.alloc (.cells #[.slice A p.ins.length c, .int .i64 p.start, .int .i64 p.caps] 28)).alloc (.cells #[.int .i64 x.op, .int .i64 x.out, .int .i64 x.arg, .slice B x.set.length d, .int .i64 x.at_] 64)).alloc (.cells #[.int .i64 0, .int .i64 x.out, .int .i64 x.arg, .slice B x.set.length d, .int .i64 x.at_] 64)).heap[w.heap.size]? = some (.cells #[.slice A p.ins.length c, .int .i64 p.start, .int .i64 p.caps] 28 (0, 0)) := (Below.heap_alloc _ _ _ (by simp; omega)).trans ((Below.heap_alloc _ _ _ (by simp)).trans (heap_new1 _ _))
  have hbx : (((w.alloc (.cells #[.slice A p.ins.length c, .int .i64 p.start, .int .i64 p.caps] 28)).alloc (.cells #[.int .i64 x.op, .int .i64 x.out, .int .i64 x.arg, .slice B x.set.length d, .int .i64 x.at_] 64)).alloc (.cells #[.int .i64 0, .int .i64 x.out, .int .i64 x.arg, .slice B x.set.length d, .int .i64 x.at_] 64)).heap[w.heap.size + 1]? = some (.cells #[.int .i64 x.op, .int .i64 x.out, .int .i64 x.arg, .slice B x.set.length d, .int .i64 x.at_] 64 (0, 0)) := (Below.heap_alloc _ _ _ (by simp)).trans (heap_new2 _ _ _)
  have hb2 : (((w.alloc (.cells #[.slice A p.ins.length c, .int .i64 p.start, .int .i64 p.caps] 28)).alloc (.cells #[.int .i64 x.op, .int .i64 x.out, .int .i64 x.arg, .slice B x.set.length d, .int .i64 x.at_] 64)).alloc (.cells #[.int .i64 0, .int .i64 x.out, .int .i64 x.arg, .slice B x.set.length d, .int .i64 x.at_] 64)).heap[w.heap.size + 1 + 1]? = some (.cells #[.int .i64 0, .int .i64 x.out, .int .i64 x.arg, .slice B x.set.length d, .int .i64 x.at_] 64 (0, 0)) := heap_new3 _ _ _ _
  have hb4 : ∀ o, ((((w.alloc (.cells #[.slice A p.ins.length c, .int .i64 p.start, .int .i64 p.caps] 28)).alloc (.cells #[.int .i64 x.op, .int .i64 x.out, .int .i64 x.arg, .slice B x.set.length d, .int .i64 x.at_] 64)).alloc (.cells #[.int .i64 0, .int .i64 x.out, .int .i64 x.arg, .slice B x.set.length d, .int .i64 x.at_] 64)).alloc o).heap[w.heap.size]? = some (.cells #[.slice A p.ins.length c, .int .i64 p.start, .int .i64 p.caps] 28 (0, 0)) := fun o => (Below.heap_alloc _ _ _ (by simp; omega)).trans hb3
  have yb : Below w.heap.size w (((w.alloc (.cells #[.slice A p.ins.length c, .int .i64 p.start, .int .i64 p.caps] 28)).alloc (.cells #[.int .i64 x.op, .int .i64 x.out, .int .i64 x.arg, .slice B x.set.length d, .int .i64 x.at_] 64)).alloc (.cells #[.int .i64 0, .int .i64 x.out, .int .i64 x.arg, .slice B x.set.length d, .int .i64 x.at_] 64)) := below_al (below_al (below_al (Below.refl _ _) _) _) _
  have HH := Lib.hid (And.intro hb3 (And.intro hbx hb2))
  cases c1 : hereB p.ins.length x.out with
  | false =>
    go_enter Tryd.func54, Tryd.ntmps54
    go_wp2_with (first
          | (go_at_call 72; refine (here_any _ w.heap.size A p.ins.length c p.start p.caps _ (by first | exact hb3 | exact hb4 _) hpl).mono ?_; rintro e w' ⟨rfl, rfl⟩)
          | (go_at_call 74; refine (containsAtB _ _ _ _ (by first | exact heap_new4 _ _ _ _ _ | exact heap_new1 _ _)).mono ?_; rintro e w' ⟨rfl, rfl⟩)
          | (go_at_call 73; refine (hRr _ yb).mono ?_; clear hRr; rintro e w4 ⟨rfl, hb4⟩; have z := (hb4.block _ (heap_lt hb2)).trans hb2; obtain ⟨z0, z1, z2, z3, z4⟩ := cells5 z; have zx := (hb4.block _ (heap_lt hbx)).trans hbx; obtain ⟨v0, v1, v2, v3, v4⟩ := cells5 zx; have fz := frozenOf z; have ny := heap_lt z; have YB := Lib.hid (below_and hb4 yb); clear z zx hb4))
    go_ret
    exact ⟨ret_bool (by unfold rightI; simp [HO.out, c1]), by first | exact (((YB.out.setCell (by simp) _).setCell (by simp) _)) | exact YB.out | (repeat (first | exact Below.refl _ _ | apply below_al))⟩
  | true =>
    cases c2 : atsB x.at_ with
    | false =>
      go_enter Tryd.func54, Tryd.ntmps54
      go_wp2_with (first
            | (go_at_call 72; refine (here_any _ w.heap.size A p.ins.length c p.start p.caps _ (by first | exact hb3 | exact hb4 _) hpl).mono ?_; rintro e w' ⟨rfl, rfl⟩)
            | (go_at_call 74; refine (containsAtB _ _ _ _ (by first | exact heap_new4 _ _ _ _ _ | exact heap_new1 _ _)).mono ?_; rintro e w' ⟨rfl, rfl⟩)
            | (go_at_call 73; refine (hRr _ yb).mono ?_; clear hRr; rintro e w4 ⟨rfl, hb4⟩; have z := (hb4.block _ (heap_lt hb2)).trans hb2; obtain ⟨z0, z1, z2, z3, z4⟩ := cells5 z; have zx := (hb4.block _ (heap_lt hbx)).trans hbx; obtain ⟨v0, v1, v2, v3, v4⟩ := cells5 zx; have fz := frozenOf z; have ny := heap_lt z; have YB := Lib.hid (below_and hb4 yb); clear z zx hb4))
      go_ret
      exact ⟨ret_bool (by unfold rightI; simp [HO.out, c1, c2]), by first | exact (((YB.out.setCell (by simp) _).setCell (by simp) _)) | exact YB.out | (repeat (first | exact Below.refl _ _ | apply below_al))⟩
    | true =>
      cases c3 : (x.arg == 0) with
      | false =>
        go_enter Tryd.func54, Tryd.ntmps54
        go_wp2_with (first
              | (go_at_call 72; refine (here_any _ w.heap.size A p.ins.length c p.start p.caps _ (by first | exact hb3 | exact hb4 _) hpl).mono ?_; rintro e w' ⟨rfl, rfl⟩)
              | (go_at_call 74; refine (containsAtB _ _ _ _ (by first | exact heap_new4 _ _ _ _ _ | exact heap_new1 _ _)).mono ?_; rintro e w' ⟨rfl, rfl⟩)
              | (go_at_call 73; refine (hRr _ yb).mono ?_; clear hRr; rintro e w4 ⟨rfl, hb4⟩; have z := (hb4.block _ (heap_lt hb2)).trans hb2; obtain ⟨z0, z1, z2, z3, z4⟩ := cells5 z; have zx := (hb4.block _ (heap_lt hbx)).trans hbx; obtain ⟨v0, v1, v2, v3, v4⟩ := cells5 zx; have fz := frozenOf z; have ny := heap_lt z; have YB := Lib.hid (below_and hb4 yb); clear z zx hb4))
        go_ret
        exact ⟨ret_bool (by unfold rightI; simp [HO.out, c1, c2, c3]), by first | exact (((YB.out.setCell (by simp) _).setCell (by simp) _)) | exact YB.out | (repeat (first | exact Below.refl _ _ | apply below_al))⟩
      | true =>
        cases c4 : ((x.set.length : Int) == 0) with
        | false =>
          go_enter Tryd.func54, Tryd.ntmps54
          go_wp2_with (first
                | (go_at_call 72; refine (here_any _ w.heap.size A p.ins.length c p.start p.caps _ (by first | exact hb3 | exact hb4 _) hpl).mono ?_; rintro e w' ⟨rfl, rfl⟩)
                | (go_at_call 74; refine (containsAtB _ _ _ _ (by first | exact heap_new4 _ _ _ _ _ | exact heap_new1 _ _)).mono ?_; rintro e w' ⟨rfl, rfl⟩)
                | (go_at_call 73; refine (hRr _ yb).mono ?_; clear hRr; rintro e w4 ⟨rfl, hb4⟩; have z := (hb4.block _ (heap_lt hb2)).trans hb2; obtain ⟨z0, z1, z2, z3, z4⟩ := cells5 z; have zx := (hb4.block _ (heap_lt hbx)).trans hbx; obtain ⟨v0, v1, v2, v3, v4⟩ := cells5 zx; have fz := frozenOf z; have ny := heap_lt z; have YB := Lib.hid (below_and hb4 yb); clear z zx hb4))
          go_ret
          exact ⟨ret_bool (by unfold rightI; simp [HO.out, c1, c2, c3, c4]), by first | exact (((YB.out.setCell (by simp) _).setCell (by simp) _)) | exact YB.out | (repeat (first | exact Below.refl _ _ | apply below_al))⟩
        | true =>
          go_enter Tryd.func54, Tryd.ntmps54
          go_wp2_with (first
                | (go_at_call 72; refine (here_any _ w.heap.size A p.ins.length c p.start p.caps _ (by first | exact hb3 | exact hb4 _) hpl).mono ?_; rintro e w' ⟨rfl, rfl⟩)
                | (go_at_call 74; refine (containsAtB _ _ _ _ (by first | exact heap_new4 _ _ _ _ _ | exact heap_new1 _ _)).mono ?_; rintro e w' ⟨rfl, rfl⟩)
                | (go_at_call 73; refine (hRr _ yb).mono ?_; clear hRr; rintro e w4 ⟨rfl, hb4⟩; have z := (hb4.block _ (heap_lt hb2)).trans hb2; obtain ⟨z0, z1, z2, z3, z4⟩ := cells5 z; have zx := (hb4.block _ (heap_lt hbx)).trans hbx; obtain ⟨v0, v1, v2, v3, v4⟩ := cells5 zx; have fz := frozenOf z; have ny := heap_lt z; have YB := Lib.hid (below_and hb4 yb); clear z zx hb4))
          go_ret
          exact ⟨ret_bool (by unfold rightI; simp [HO.out, c1, c2, c3, c4]), by first | exact (((YB.out.setCell (by simp) _).setCell (by simp) _)) | exact YB.out | (repeat (first | exact Below.refl _ _ | apply below_al))⟩
set_option maxRecDepth 100000 in
set_option maxHeartbeats 8000000 in
theorem right_pg0 (R : List Rg → Bool) (ok : Nat → Prop) (w : World) (p : Pg) (x : In) (ps xs : List Value) (hp : PgC ok w p ps) (hx : InO ok w x xs) (hR : x.op = 2 → RightOK R x.set) (hpl : p.ins.length ≤ 140737488351232) (ho : x.op ≠ 1 ∧ x.op ≠ 2 ∧ x.op ≠ 3 ∧ x.op ≠ 4 ∧ x.op ≠ 5 ∧ x.op ≠ 6) :
    Calls Tryd.prog 54 #[.agg ps.toArray, .agg xs.toArray] w fun e w' => e = .returned (.bool (rightI R p.ins.length p.caps x)) ∧ Below w.heap.size w w' := by
  obtain ⟨A, c, rfl, p1, p2, _⟩ := hp
  obtain ⟨B, d, rfl, x1, x2, x3⟩ := hx
  have hRr : True := trivial
  clear hR x3
  have HO := Lib.hid ho
  have o1 : (x.op == 1) = false := (by simp; omega)
  have o6 : (x.op == 6) = false := (by simp; omega)
  have o2 : (x.op == 2) = false := (by simp; omega)
  have o3 : (x.op == 3) = false := (by simp; omega)
  have o4 : (x.op == 4) = false := (by simp; omega)
  have o5 : (x.op == 5) = false := (by simp; omega)
  clear ho
  have hb3 : (((w.alloc (.cells #[.slice A p.ins.length c, .int .i64 p.start, .int .i64 p.caps] 28)).alloc (.cells #[.int .i64 x.op, .int .i64 x.out, .int .i64 x.arg, .slice B x.set.length d, .int .i64 x.at_] 64)).alloc (.cells #[.int .i64 0, .int .i64 x.out, .int .i64 x.arg, .slice B x.set.length d, .int .i64 x.at_] 64)).heap[w.heap.size]? = some (.cells #[.slice A p.ins.length c, .int .i64 p.start, .int .i64 p.caps] 28 (0, 0)) := (Below.heap_alloc _ _ _ (by simp; omega)).trans ((Below.heap_alloc _ _ _ (by simp)).trans (heap_new1 _ _))
  have hbx : (((w.alloc (.cells #[.slice A p.ins.length c, .int .i64 p.start, .int .i64 p.caps] 28)).alloc (.cells #[.int .i64 x.op, .int .i64 x.out, .int .i64 x.arg, .slice B x.set.length d, .int .i64 x.at_] 64)).alloc (.cells #[.int .i64 0, .int .i64 x.out, .int .i64 x.arg, .slice B x.set.length d, .int .i64 x.at_] 64)).heap[w.heap.size + 1]? = some (.cells #[.int .i64 x.op, .int .i64 x.out, .int .i64 x.arg, .slice B x.set.length d, .int .i64 x.at_] 64 (0, 0)) := (Below.heap_alloc _ _ _ (by simp)).trans (heap_new2 _ _ _)
  have hb2 : (((w.alloc (.cells #[.slice A p.ins.length c, .int .i64 p.start, .int .i64 p.caps] 28)).alloc (.cells #[.int .i64 x.op, .int .i64 x.out, .int .i64 x.arg, .slice B x.set.length d, .int .i64 x.at_] 64)).alloc (.cells #[.int .i64 0, .int .i64 x.out, .int .i64 x.arg, .slice B x.set.length d, .int .i64 x.at_] 64)).heap[w.heap.size + 1 + 1]? = some (.cells #[.int .i64 0, .int .i64 x.out, .int .i64 x.arg, .slice B x.set.length d, .int .i64 x.at_] 64 (0, 0)) := heap_new3 _ _ _ _
  have hb4 : ∀ o, ((((w.alloc (.cells #[.slice A p.ins.length c, .int .i64 p.start, .int .i64 p.caps] 28)).alloc (.cells #[.int .i64 x.op, .int .i64 x.out, .int .i64 x.arg, .slice B x.set.length d, .int .i64 x.at_] 64)).alloc (.cells #[.int .i64 0, .int .i64 x.out, .int .i64 x.arg, .slice B x.set.length d, .int .i64 x.at_] 64)).alloc o).heap[w.heap.size]? = some (.cells #[.slice A p.ins.length c, .int .i64 p.start, .int .i64 p.caps] 28 (0, 0)) := fun o => (Below.heap_alloc _ _ _ (by simp; omega)).trans hb3
  have yb : Below w.heap.size w (((w.alloc (.cells #[.slice A p.ins.length c, .int .i64 p.start, .int .i64 p.caps] 28)).alloc (.cells #[.int .i64 x.op, .int .i64 x.out, .int .i64 x.arg, .slice B x.set.length d, .int .i64 x.at_] 64)).alloc (.cells #[.int .i64 0, .int .i64 x.out, .int .i64 x.arg, .slice B x.set.length d, .int .i64 x.at_] 64)) := below_al (below_al (below_al (Below.refl _ _) _) _) _
  have HH := Lib.hid (And.intro hb3 (And.intro hbx hb2))
  go_enter Tryd.func54, Tryd.ntmps54
  go_wp2_with (first
        | (go_at_call 72; refine (here_any _ w.heap.size A p.ins.length c p.start p.caps _ (by first | exact hb3 | exact hb4 _) hpl).mono ?_; rintro e w' ⟨rfl, rfl⟩)
        | (go_at_call 74; refine (containsAtB _ _ _ _ (by first | exact heap_new4 _ _ _ _ _ | exact heap_new1 _ _)).mono ?_; rintro e w' ⟨rfl, rfl⟩)
        | (go_at_call 73; refine (hRr _ yb).mono ?_; clear hRr; rintro e w4 ⟨rfl, hb4⟩; have z := (hb4.block _ (heap_lt hb2)).trans hb2; obtain ⟨z0, z1, z2, z3, z4⟩ := cells5 z; have zx := (hb4.block _ (heap_lt hbx)).trans hbx; obtain ⟨v0, v1, v2, v3, v4⟩ := cells5 zx; have fz := frozenOf z; have ny := heap_lt z; have YB := Lib.hid (below_and hb4 yb); clear z zx hb4))
  go_ret
  exact ⟨ret_bool (by unfold rightI; simp [HO.out, ]), by first | exact (((YB.out.setCell (by simp) _).setCell (by simp) _)) | exact YB.out | (repeat (first | exact Below.refl _ _ | apply below_al))⟩
theorem right_pg (R : List Rg → Bool) (ok : Nat → Prop) (w : World) (p : Pg) (x : In) (ps xs : List Value) (hp : PgC ok w p ps) (hx : InO ok w x xs) (hR : x.op = 2 → RightOK R x.set) (hpl : p.ins.length ≤ 140737488351232) :
    Calls Tryd.prog 54 #[.agg ps.toArray, .agg xs.toArray] w fun e w' => e = .returned (.bool (rightI R p.ins.length p.caps x)) ∧ Below w.heap.size w w' := by
  by_cases h1 : x.op = 1
  · exact right_pg1 R ok w p x ps xs hp hx hR hpl h1
  by_cases h2 : x.op = 2
  · exact right_pg2 R ok w p x ps xs hp hx hR hpl h2
  by_cases h3 : x.op = 3
  · exact right_pg3 R ok w p x ps xs hp hx hR hpl h3
  by_cases h4 : x.op = 4
  · exact right_pg4 R ok w p x ps xs hp hx hR hpl h4
  by_cases h5 : x.op = 5
  · exact right_pg5 R ok w p x ps xs hp hx hR hpl h5
  by_cases h6 : x.op = 6
  · exact right_pg6 R ok w p x ps xs hp hx hR hpl h6
  exact right_pg0 R ok w p x ps xs hp hx hR hpl ⟨h1, h2, h3, h4, h5, h6⟩
end Go.Proofs.YthclpabmbhpohaaDoor
namespace Go.Proofs.YthclpabmbhpohaaDoor
open Go.RowKit
set_option linter.unusedVariables false
set_option maxRecDepth 100000 in
set_option maxHeartbeats 1000000 in
theorem check1_any (R : List Rg → Bool) (ok : Nat → Prop) (w : World) (b0 : Nat) (p : Pg) (ps xs : List Value) (x : In) (hb : w.heap[b0]? = some (.cells ps.toArray 28 (0, 0))) (hp : PgC ok w p ps) (hx : InO ok w x xs) (hR : x.op = 2 → RightOK R x.set) (hpl : p.ins.length ≤ 140737488351232) :
    Calls Tryd.prog 53 #[.agg xs.toArray, .pointer (some ⟨b0, 0, none⟩)] w fun e w' => e = .returned (.bool (!rightI R p.ins.length p.caps x)) ∧ Below w.heap.size w w' := by
  have hr := fun (W : World) (hW : Below w.heap.size w W) => right_pg R ok W p x ps xs (hp.below hW) (hx.below hW) hR hpl
  have hp0 := hp
  have hx0 := hx
  obtain ⟨A, c, rfl, p1, p2, _⟩ := hp
  obtain ⟨B, d, rfl, x1, x2, x3⟩ := hx
  obtain ⟨g0, g1, g2⟩ := cells3 hb
  have hn := heap_lt hb
  clear hb hp0 hx0 x3
  generalize rightI R p.ins.length p.caps x = r at *
  go_enter Tryd.func53, Tryd.ntmps53
  go_wp2_with fail
  refine (hr _ (below_al (Below.refl _ _) _)).mono ?_
  clear hr g0 g1 g2
  rintro e w1 ⟨rfl, hb1⟩
  dsimp only
  have HB := Lib.hid (below_and hb1 (below_al (Below.refl _ _) _))
  clear hb1
  go_wp2_with fail
  go_ret
  exact ⟨rfl, HB.out⟩
set_option maxRecDepth 100000 in
set_option maxHeartbeats 1000000 in
theorem index_check (R : List Rg → Bool) (ok : Nat → Prop) (w : World) (b0 : Nat) (p : Pg) (ps : List Value) (A : Option Addr) (c : Nat) (hb : w.heap[b0]? = some (.cells ps.toArray 28 (0, 0))) (hp : PgC ok w p ps) (h6 : Arr ok w 5 (InO ok w) A p.ins) (hN : p.ins.length ≤ 140737488351232)
    (hR : ∀ x ∈ p.ins, x.op = 2 → RightOK R x.set) :
    Calls Tryd.prog 71 #[.slice A p.ins.length c, .func (.func 53) #[] #[.pointer (some ⟨b0, 0, none⟩)]] w fun e w' => (∃ r : Int, e = .returned (.int .i64 r) ∧ decide (0 ≤ r) = p.ins.any (fun x => !rightI R p.ins.length p.caps x)) ∧ Below w.heap.size w w' := by
  have HE := Lib.hid (And.intro h6 (And.intro hp (And.intro hb hR)))
  clear h6 hp hb hR
  go_enter Tryd.func71, Tryd.ntmps71
  go_wp2_with fail
  go_loopw [8] (fun s8 wr => ∃ j : Nat, s8 = .int .i64 j ∧ j ≤ p.ins.length ∧ Hid ((p.ins.take j).any (fun x => !rightI R p.ins.length p.caps x) = false) ∧ Below w.heap.size w wr) (fun s8 _ => p.ins.length - (intOf s8).toNat)
  case atStart => exact ⟨0, rfl, Nat.zero_le _, Lib.hid (by simp), by repeat (first | exact Below.refl _ _ | apply below_al)⟩
  case round =>
    obtain ⟨j, rfl, hj, HJ, hB⟩ := hrel
    by_cases hlt : j < p.ins.length
    · obtain ⟨ad, B3, d3, rfl, _, _, hIk, k0, k1, k2, k3, k4⟩ := inArr_at HE.out.1 wr (fun b _ hb' => hB.block b hb') j hlt
      have hcall := check1_any R ok wr b0 p ps _ p.ins[j] ((hB.block _ (heap_lt HE.out.2.2.1)).trans HE.out.2.2.1) (HE.out.2.1.below hB) (hIk.below hB) (HE.out.2.2.2 _ (List.getElem_mem hlt)) hN
      have hnx : (p.ins.take (j + 1)).any (fun x => !rightI R p.ins.length p.caps x) = !rightI R p.ins.length p.caps p.ins[j] := by
        rw [List.take_succ_eq_append_getElem hlt, List.any_append, HJ.out]; simp
      have hmem := List.getElem_mem hlt
      generalize p.ins[j] = x at *
      cases hq : rightI R p.ins.length p.caps x with
      | false =>
        rw [hq] at hcall
        have HQ := Lib.hid (And.intro hq (And.intro hB hmem))
        clear hq hB hnx hIk
        go_wp2_with (go_at_call 53; refine hcall.mono ?_; clear hcall; rintro e w1 ⟨rfl, hb1⟩)
        go_ret
        refine ⟨⟨j, rfl, ?_⟩, below_and hb1 HQ.out.2.1⟩
        rw [List.any_eq_true.2 ⟨x, HQ.out.2.2, by rw [HQ.out.1]; rfl⟩]
        simp
      | true =>
        rw [hq] at hcall hnx
        have HQ := Lib.hid (And.intro hnx hB)
        clear hq hB hnx hIk
        go_wp2_with (go_at_call 53; refine hcall.mono ?_; clear hcall; rintro e w1 ⟨rfl, hb1⟩)
        go_roundw
        case rel => exact ⟨j + 1, by go_num, by omega, Lib.hid HQ.out.1, below_and hb1 HQ.out.2⟩
        case measure => simp [intOf]; omega
    · obtain rfl : j = p.ins.length := by omega
      go_wp2_with fail
      go_ret
      refine ⟨⟨-1, rfl, ?_⟩, hB⟩
      have := HJ.out
      rw [List.take_length] at this
      rw [this]; rfl
set_option maxRecDepth 100000 in
set_option maxHeartbeats 1000000 in
theorem contains_check (R : List Rg → Bool) (ok : Nat → Prop) (w : World) (b0 : Nat) (p : Pg) (ps : List Value) (A : Option Addr) (c : Nat) (hb : w.heap[b0]? = some (.cells ps.toArray 28 (0, 0))) (hp : PgC ok w p ps) (h6 : Arr ok w 5 (InO ok w) A p.ins) (hN : p.ins.length ≤ 140737488351232)
    (hR : ∀ x ∈ p.ins, x.op = 2 → RightOK R x.set) :
    Calls Tryd.prog 52 #[.slice A p.ins.length c, .func (.func 53) #[] #[.pointer (some ⟨b0, 0, none⟩)]] w fun e w' => e = .returned (.bool (p.ins.any (fun x => !rightI R p.ins.length p.caps x))) ∧ Below w.heap.size w w' := by
  have hi := index_check R ok w b0 p ps A c hb hp h6 hN hR
  clear h6 hp hb hR
  generalize p.ins.any (fun x => !rightI R p.ins.length p.caps x) = rr at *
  go_enter Tryd.func52, Tryd.ntmps52
  go_wp2_with (go_at_call 71; refine hi.mono ?_; clear hi; rintro e w1 ⟨⟨r, rfl, hr⟩, hb1⟩)
  go_ret
  exact ⟨by rw [← hr]; rfl, hb1⟩
/-- What Check answers: 0 or 121. -/
def checkS (R : List Rg → Bool) (p : Pg) : Int :=
  if (p.ins.length = 0 ∨ 10000 < p.ins.length) ∨ (p.start < 0 ∨ (p.ins.length : Int) ≤ p.start) ∨ (p.caps < 2 ∨ 4002 < p.caps ∨ p.caps % 2 = 1) then 121
  else if p.ins.any (fun x => !rightI R p.ins.length p.caps x) = true then 121 else 0
set_option maxRecDepth 100000 in
set_option maxHeartbeats 4000000 in
theorem check_any (R : List Rg → Bool) (ok : Nat → Prop) (w : World) (p : Pg) (ps : List Value) (hp : PgC ok w p ps) (hN : p.ins.length ≤ 140737488351232) (hR : ∀ x ∈ p.ins, x.op = 2 → RightOK R x.set) :
    Calls Tryd.prog 32 #[.agg ps.toArray] w fun e w' => e = .returned (.int .i64 (checkS R p)) ∧ Below w.heap.size w w' := by
  have hp0 := hp
  obtain ⟨A, c, rfl, p1, p2, h6⟩ := hp
  have hcf := fun (W : World) (hW : Below w.heap.size w W) hb => contains_check R ok W w.heap.size p _ A c hb (hp0.below hW) (h6.move (fun b hb hlt => ⟨hW.block b hlt, hb⟩) (by omega) |>.weak (fun x _ cs hx => hx.below hW)) hN hR
  have HS := Lib.hid (show checkS R p = (if (p.ins.length = 0 ∨ 10000 < p.ins.length) ∨ (p.start < 0 ∨ (p.ins.length : Int) ≤ p.start) ∨ (p.caps < 2 ∨ 4002 < p.caps ∨ p.caps % 2 = 1) then 121
    else if p.ins.any (fun x => !rightI R p.ins.length p.caps x) = true then 121 else 0) from rfl)
  generalize checkS R p = res at *
  generalize p.ins.any (fun x => !rightI R p.ins.length p.caps x) = bad at *
  have yb : Below w.heap.size w (w.alloc (.cells #[.slice A p.ins.length c, .int .i64 p.start, .int .i64 p.caps] 28)) := below_al (Below.refl _ _) _
  have y0 := heap_new1 w (.cells #[.slice A p.ins.length c, .int .i64 p.start, .int .i64 p.caps] 28)
  have hc := hcf _ yb y0
  clear hp0 h6 hR hcf
  have YB := Lib.hid yb
  clear yb y0
  go_enter Tryd.func32, Tryd.ntmps32
  go_wp2_with (go_at_call 52; refine hc.mono ?_; clear hc; rintro e w1 ⟨rfl, hb1⟩; have HB := Lib.hid (below_and hb1 YB.out); clear hb1)
  all_goals
    go_ret
    refine ⟨ret_int ?_, by first | exact HB.out | exact YB.out | exact below_al (Below.refl _ _) _⟩
    have h9 := HS.out
    first
    | (rw [h9, if_pos (by omega)])
    | (cases bad <;> simp_all <;> omega)
end Go.Proofs.YthclpabmbhpohaaDoor
namespace Go.Proofs.YthclpabmbhpohaaDoor
open Go.RowKit Go.Shelf Go.Lib Go.Sort
set_option linter.unusedVariables false
def layEdgeSortNums : Go.Shelf.Ren := ⟨fun | 6 => 89 | 15 => 95 | 14 => 94 | 28 => 105 | 29 => 106 | 20 => 97 | 21 => 98 | 22 => 99 | 23 => 100 | 24 => 101 | 25 => 102 | 26 => 103 | 27 => 104 | 46 => 107 | 47 => 108 | 48 => 109 | 49 => 110 | 50 => 111 | 57 => 112 | n => n, fun | 22 => 131 | 24 => 151 | 25 => 154 | 3 => 3 | 39 => 121 | 0 => 0 | 53 => 134 | 55 => 74 | 4 => 4 | 46 => 160 | 45 => 159 | 50 => 164 | 5 => 5 | 9 => 9 | 66 => 168 | 70 => 172 | 76 => 174 | 77 => 175 | n => n, fun n => n⟩
theorem layEdgeSort : Go.Proofs.SlLaysF0.n6 Tryd.prog layEdgeSortNums := {
  mixed := by kernel_rfl
  f6 := ⟨Tryd.f89.name, by decide, Tryd.func89.trans (congrArg some (by kernel_rfl))⟩
  f14 := ⟨Tryd.f94.name, by decide, Tryd.func94.trans (congrArg some (by kernel_rfl))⟩
  f15 := Tryd.func95.trans (congrArg some (by kernel_rfl))
  f20 := ⟨Tryd.f97.name, by decide, Tryd.func97.trans (congrArg some (by kernel_rfl))⟩
  f21 := ⟨Tryd.f98.name, by decide, Tryd.func98.trans (congrArg some (by kernel_rfl))⟩
  f22 := ⟨Tryd.f99.name, by decide, Tryd.func99.trans (congrArg some (by kernel_rfl))⟩
  f23 := ⟨Tryd.f100.name, by decide, Tryd.func100.trans (congrArg some (by kernel_rfl))⟩
  f24 := ⟨Tryd.f101.name, by decide, Tryd.func101.trans (congrArg some (by kernel_rfl))⟩
  f25 := ⟨Tryd.f102.name, by decide, Tryd.func102.trans (congrArg some (by kernel_rfl))⟩
  f26 := ⟨Tryd.f103.name, by decide, Tryd.func103.trans (congrArg some (by kernel_rfl))⟩
  f27 := ⟨Tryd.f104.name, by decide, Tryd.func104.trans (congrArg some (by kernel_rfl))⟩
  f28 := Tryd.func105.trans (congrArg some (by kernel_rfl))
  f29 := Tryd.func106.trans (congrArg some (by kernel_rfl))
  f46 := ⟨Tryd.f107.name, by decide, Tryd.func107.trans (congrArg some (by kernel_rfl))⟩
  f47 := Tryd.func108.trans (congrArg some (by kernel_rfl))
  f48 := Tryd.func109.trans (congrArg some (by kernel_rfl))
  f49 := ⟨Tryd.f110.name, by decide, Tryd.func110.trans (congrArg some (by kernel_rfl))⟩
  f50 := ⟨Tryd.f111.name, by decide, Tryd.func111.trans (congrArg some (by kernel_rfl))⟩
  f57 := ⟨Tryd.f112.name, by decide, Tryd.func112.trans (congrArg some (by kernel_rfl))⟩
  t0 := Tryd.underlying0
  a0 := Tryd.isAgg0
  z0 := Tryd.sizeOf0
  v0 := Tryd.zeroValue0
  t3 := Tryd.underlying3
  a3 := Tryd.isAgg3
  z3 := Tryd.sizeOf3
  v3 := Tryd.zeroValue3
  t4 := Tryd.underlying4
  a4 := Tryd.isAgg4
  z4 := Tryd.sizeOf4
  v4 := Tryd.zeroValue4
  t5 := Tryd.underlying5
  a5 := Tryd.isAgg5
  z5 := Tryd.sizeOf5
  v5 := Tryd.zeroValue5
  t9 := Tryd.underlying9
  a9 := Tryd.isAgg9
  z9 := Tryd.sizeOf9
  v9 := Tryd.zeroValue9
  t22 := Tryd.underlying131
  a22 := Tryd.isAgg131
  z22 := Tryd.sizeOf131
  v22 := Tryd.zeroValue131
  t25 := Tryd.underlying154
  a25 := Tryd.isAgg154
  z25 := Tryd.sizeOf154
  v25 := Tryd.zeroValue154
  t39 := Tryd.underlying121
  a39 := Tryd.isAgg121
  z39 := Tryd.sizeOf121
  v39 := Tryd.zeroValue121
  t45 := Tryd.underlying159
  a45 := Tryd.isAgg159
  z45 := Tryd.sizeOf159
  v45 := Tryd.zeroValue159
  t46 := Tryd.underlying160
  a46 := Tryd.isAgg160
  z46 := Tryd.sizeOf160
  v46 := Tryd.zeroValue160
  t50 := Tryd.underlying164
  a50 := Tryd.isAgg164
  z50 := Tryd.sizeOf164
  v50 := Tryd.zeroValue164
  t53 := Tryd.underlying134
  a53 := Tryd.isAgg134
  z53 := Tryd.sizeOf134
  v53 := Tryd.zeroValue134
  t55 := Tryd.underlying74
  a55 := Tryd.isAgg74
  z55 := Tryd.sizeOf74
  v55 := Tryd.zeroValue74
  t66 := Tryd.underlying168
  a66 := Tryd.isAgg168
  z66 := Tryd.sizeOf168
  v66 := Tryd.zeroValue168
  t70 := Tryd.underlying172
  a70 := Tryd.isAgg172
  z70 := Tryd.sizeOf172
  v70 := Tryd.zeroValue172
  t76 := Tryd.underlying174
  a76 := Tryd.isAgg174
  z76 := Tryd.sizeOf174
  v76 := Tryd.zeroValue174
  t77 := Tryd.underlying175
  a77 := Tryd.isAgg175
  z77 := Tryd.sizeOf175
  v77 := Tryd.zeroValue175 }
/-- An edge: where; how many more. -/
def edgeC (x : Int × Int) : List Value := [.int .i32 x.1, .int .i64 x.2]
def cmpE (x y : Int × Int) : Int := if x.1 < y.1 then -1 else if x.1 = y.1 then 0 else 1
theorem ltE (x y : Int × Int) : ltOf cmpE x y = decide (x.1 < y.1) := by
  unfold ltOf cmpE
  by_cases h1 : x.1 < y.1
  · simp [h1]
  · by_cases h2 : x.1 = y.1 <;> simp [h1, h2]
theorem swoE : SWO (ltOf cmpE) where
  irrefl x := by rw [ltE]; simp
  trans x y z h1 h2 := by rw [ltE] at *; simp at *; omega
  ntrans x y z h1 h2 := by rw [ltE] at *; simp at *; omega
set_option maxHeartbeats 400000 in
theorem isNaN_any (a : Int) (W : World) : Calls Tryd.prog 96 #[.int .i32 a] W fun e w' => e = .returned (.bool false) ∧ W = w' := by
  have h : (a != a) = false := by simp
  go_enter Tryd.func96, Tryd.ntmps96
  go_wp2
  go_ret
  exact ⟨by simp, rfl⟩
set_option maxHeartbeats 400000 in
theorem compare_any (a b : Int) (W : World) : Calls Tryd.prog 91 #[.int .i32 a, .int .i32 b] W fun e w' => e = .returned (.int .i64 (cmpE (a, 0) (b, 0))) ∧ W = w' := by
  have hn := fun x W => isNaN_any x W
  by_cases h1 : a < b
  · have hr : cmpE (a, 0) (b, 0) = -1 := by simp [cmpE, h1]
    rw [hr]
    clear hr
    go_enter Tryd.func91, Tryd.ntmps91
    go_wp2_with (go_at_call 96; refine (hn _ _).mono ?_; rintro e w2 ⟨rfl, rfl⟩)
    go_ret
    exact ⟨rfl, rfl⟩
  · by_cases h2 : b < a
    · have hr : cmpE (a, 0) (b, 0) = 1 := by simp [cmpE, h1]; omega
      rw [hr]
      clear hr
      go_enter Tryd.func91, Tryd.ntmps91
      go_wp2_with (go_at_call 96; refine (hn _ _).mono ?_; rintro e w2 ⟨rfl, rfl⟩)
      go_ret
      exact ⟨rfl, rfl⟩
    · have hr : cmpE (a, 0) (b, 0) = 0 := by simp [cmpE, h1]; omega
      rw [hr]
      clear hr
      go_enter Tryd.func91, Tryd.ntmps91
      go_wp2_with (go_at_call 96; refine (hn _ _).mono ?_; rintro e w2 ⟨rfl, rfl⟩)
      go_ret
      exact ⟨rfl, rfl⟩
set_option maxHeartbeats 1000000 in
theorem closureE (x y : Int × Int) (W : World) : Calls Tryd.prog 90 #[.agg #[.int .i32 x.1, .int .i64 x.2], .agg #[.int .i32 y.1, .int .i64 y.2]] W fun e w' => e = .returned (.int .i64 (cmpE x y)) ∧ ∃ q os', w' = grow (W.drewN q) os' := by
  have hcon := fun W' => compare_any x.1 y.1 W'
  have hr : cmpE (x.1, 0) (y.1, 0) = cmpE x y := rfl
  rw [hr] at hcon
  generalize cmpE x y = r at hcon ⊢
  go_enter Tryd.func90, Tryd.ntmps90
  go_wp2_with (go_at_call 91; refine (hcon _).mono ?_; rintro e w' ⟨rfl, rfl⟩)
  go_ret
  exact ⟨rfl, 0, _, by rw [alloc_eq_grow, alloc_eq_grow, grow_grow]; rfl⟩
/-- A list of edges of one's own. -/
def OwnE (w : World) (base : Nat) (v : Value) (es : List (Int × Int)) : Prop := Owns w base 151 2 v (es.map edgeC)
def SortPost (base : Nat) (v : Value) (es : List (Int × Int)) (w : World) (e : Ending) (w' : World) : Prop := e = .returned (.tuple #[]) ∧ ∃ es' : List (Int × Int), es'.Perm es ∧ es'.Pairwise (fun x y => x.1 ≤ y.1) ∧ OwnE w' base v es' ∧ Below base w w'
theorem flat_eq (es : List (Int × Int)) : flatK edgeC 2 es.toArray = ((es.map edgeC).flatten).toArray := by
  have hl : ((es.map edgeC).flatten).length = es.length * 2 := by
    induction es with
    | nil => rfl
    | cons x es ih => rw [List.map_cons, List.flatten_cons, List.length_append, ih]; simp [edgeC]; omega
  apply ext_get!
  · simp [hl]
  · intro t ht
    rw [size_flatK] at ht
    have ht' : t < es.length * 2 := by simpa using ht
    rw [get_flatK _ _ _ _ ht]
    have hq : t / 2 < es.length := by omega
    have h1 : (es.map edgeC)[t / 2]? = some (edgeC es[t / 2]) := by rw [List.getElem?_map, List.getElem?_eq_getElem hq]; rfl
    have h2 : (edgeC es[t / 2])[t % 2]? = some ((edgeC es[t / 2])[t % 2]!) := by
      have hlt : t % 2 < (edgeC es[t / 2]).length := by simp [edgeC]; omega
      rw [List.getElem?_eq_getElem hlt, getElem!_pos (edgeC es[t / 2]) (t % 2) hlt]
    have h3 := flatten_at (sz := 2) (fun c hc => by obtain ⟨x, _, rfl⟩ := List.mem_map.1 hc; rfl) h1 h2
    rw [show t / 2 * 2 + t % 2 = t by omega] at h3
    rw [getElem!_pos es.toArray (t / 2) (by simpa using hq)]
    have h4 : ((es.map edgeC).flatten.toArray)[t]! = (edgeC es[t / 2])[t % 2]! := by
      have hlt : t < ((es.map edgeC).flatten).length := by omega
      rw [getElem!_pos ((es.map edgeC).flatten.toArray) t (by simpa using hlt)]
      rw [List.getElem?_eq_getElem hlt] at h3
      simpa using h3
    rw [h4]
    simp
/-- A row of one's own that is written anew, draws and new blocks behind it. -/
theorem own_put {w : World} {base : Nat} {e : TypeId} {sz g n cap q : Nat} {css css' : List (List Value)} (h : Owns w base e sz (.slice (some ⟨g, 0, none⟩) n cap) css) (hl : css'.length = css.length) (hc : ∀ c ∈ css', c.length = sz) (os : Array Obj) :
    Owns (grow (putRow id (Sort.ahead w q) g 0 css'.flatten.toArray) os) base e sz (.slice (some ⟨g, 0, none⟩) n cap) css' := by
  have hlen : ∀ {l : List (List Value)}, (∀ c ∈ l, c.length = sz) → l.flatten.length = l.length * sz := by
    intro l hl
    induction l with
    | nil => simp
    | cons x l ih => rw [List.flatten_cons, List.length_append, ih (fun c hc => hl c (by simp [hc])), hl x (by simp), List.length_cons, Nat.add_mul]; omega
  have h1 := hlen hc
  refine ⟨⟨h1, ?_⟩, hc⟩
  rcases h.1.2 with ⟨e0, _⟩ | ⟨g', cap', cur, e0, hb, hg, hn, hm, hs, ht⟩
  · cases e0
  · injection e0 with e1 e2 e3
    injection e1 with e1
    injection e1 with e1
    subst e1; subst e2; subst e3
    refine .inr ⟨g, cap, putCells id 0 css'.flatten.toArray cur, by rw [hl], hb, ?_, by omega, hm, by simpa [putCells] using hs, ?_⟩
    · have hlt := heap_lt hg
      show ((putRow id (Sort.ahead w q) g 0 css'.flatten.toArray).heap ++ os)[g]? = _
      rw [Array.getElem?_append_left (by simpa [putRow, mapBlock, Sort.ahead] using hlt)]
      simp [putRow, mapBlock, Sort.ahead, Array.getElem?_modify, hg, onCells]
    · apply List.ext_getElem?
      intro j
      rw [List.getElem?_take]
      by_cases hj : j < css'.length * sz
      · have hjc : j < cur.size := by
          have : css'.length * sz ≤ cap * sz := Nat.mul_le_mul_right _ (by omega)
          omega
        rw [if_pos hj, Array.getElem?_toList]
        simp only [putCells, Array.getElem?_mapIdx, Array.getElem?_eq_getElem hjc, Option.map_some]
        rw [if_pos (by simp only [List.size_toArray]; omega), List.getElem?_eq_getElem (by omega)]
        simp [getElem!_pos, h1, hj]
      · rw [if_neg hj, List.getElem?_eq_none (by omega)]
theorem addr_at (g j : Nat) : (⟨g, 0, none⟩ : Addr).add j = ⟨g, 0 + j, none⟩ := by unfold Addr.add; split <;> simp_all
theorem sort_own (w : World) (base : Nat) (v : Value) (es : List (Int × Int)) (ho : OwnE w base v es) (hN : es.length < 4611686018427387904) : Calls Tryd.prog 89 #[v, .func (.func 90) #[] #[]] w (SortPost base v es w) := by
  have eg : ∀ args w, (callFunc 90 args).run Tryd.prog w = .ok (.enter 90 args) w := enters_of Tryd.func90 (by kernel_rfl) rfl
  obtain ⟨A, cap, rfl, h1, h2⟩ := Owns.shape ho
  rw [List.length_map] at ho h1 ⊢
  by_cases hz : es = []
  · subst hz
    refine (AnyF.slices_SortFunc_none layEdgeSort A cap (.func (.func 90) #[] #[]) w).mono ?_
    rintro e w' ⟨rfl, rfl⟩
    exact ⟨rfl, [], List.Perm.refl _, List.Pairwise.nil, ho, Below.refl _ _⟩
  · have hpos : 0 < es.length := List.length_pos_iff.2 hz
    obtain ⟨g, rfl⟩ : ∃ g, A = some ⟨g, 0, none⟩ := by
      rcases ho.1.2 with ⟨e0, h0⟩ | ⟨g', cap', cur, e0, _⟩
      · injection e0 with e1 e2 e3
        omega
      · injection e0 with e1 e2 e3
        exact ⟨g', e1⟩
    have hlt := ho.lt g rfl
    have hH : HoldsK edgeC 2 w g 0 es.toArray := by
      unfold HoldsK
      rw [flat_eq]
      intro j hj
      have hj' : j < (es.map edgeC).flatten.length := by simpa using hj
      rcases ho.1.2 with ⟨e0, h0⟩ | ⟨g', cap', cur, e0, _, hg, hn, _, hs, ht⟩
      · cases e0
      · injection e0 with e1 e2 e3
        injection e1 with e1
        injection e1 with e1
        subst e1
        have hu := ho.1.cells rfl j _ (List.getElem?_eq_getElem hj')
        have hadd : (⟨g, 0, none⟩ : Addr).add j = ⟨g, 0 + j, none⟩ := addr_at g j
        rw [hadd] at hu
        refine ⟨?_, by simp [World.frozen?, hg]⟩
        rw [hu, getElem!_pos ((es.map edgeC).flatten.toArray) j hj]
        simp
    have hcon := AnyQ.slices_SortFunc layEdgeSort 2 Tryd.isAgg151 Tryd.sizeOf151 edgeC (fun _ => rfl) (fun x v hv => by simp [edgeC] at hv; rcases hv with rfl | rfl <;> rfl) cmpE swoE 90 #[] g 0 cap es.toArray w eg (fun _ _ _ _ x y => closureE x y _) hH hlt.2 (by simpa using hN)
    change Calls Tryd.prog 89 _ _ _ at hcon
    simp only [List.size_toArray] at hcon
    refine hcon.mono ?_
    rintro e w' ⟨rfl, d', n, os, hp, hs, rfl⟩
    have hsz : d'.size = es.length := by simpa using hp.1
    have hex : ∀ (d : Array (Int × Int)) (k : Nat), d.size = k → (d.extract 0 k).toList = d.toList := fun d k hk => by subst hk; simp
    have hperm : d'.toList.Perm es := by
      have h3 := hp.2.2
      rw [hex d' _ hsz, hex es.toArray _ (by simp)] at h3
      simpa using h3
    refine ⟨rfl, d'.toList, hperm, ?_, ?_, ?_⟩
    · rw [List.pairwise_iff_getElem]
      intro i j hi hj hij
      have h4 := hs i j (Nat.zero_le _) hij (by simp at hj; omega)
      rw [ltE] at h4
      simp at hi hj
      rw [getElem!_pos d' i hi, getElem!_pos d' j hj] at h4
      simpa using h4
    · unfold OwnE sortWorldK putRowK
      rw [show d' = d'.toList.toArray by simp, flat_eq]
      have h5 := own_put (q := n) ho (css' := d'.toList.map edgeC) (by simp [hsz]) (fun c hc => by obtain ⟨x, _, rfl⟩ := List.mem_map.1 hc; rfl) os
      simpa using h5
    · unfold sortWorldK putRowK
      have h6 := Lib.below_putRow (enc := (id : Value → Value)) (q := n) (g := g) (d := flatK edgeC 2 d') (Below.refl base w) hlt.1
      exact h6.trans (below_grow base _ (by simp [putRow, mapBlock, Sort.ahead]; omega) 0 os)
end Go.Proofs.YthclpabmbhpohaaDoor
