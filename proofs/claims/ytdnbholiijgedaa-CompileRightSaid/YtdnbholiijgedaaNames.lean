/-
  Words of this seat's own: a set of names in a map from strings to bools; trees.Right in plain words. No condition.
-/
import Derived.Test.YtdnbholiijgedaaShaped
import Derived.Test.YtdnbholiijgedaaDepth
import Derived.Maps.OwnIn
import Derived.Maps.Views
import Derived.StringKeys
namespace Go.Proofs.Ytdnbholiijgedaa
open Go.RowKit Go.Shelf Go.Maps
set_option linter.unusedVariables false

/-- Is a name among some? -/
def hasName (names : List ByteArray) (s : ByteArray) : Bool := names.any (fun n => n.data.toList == s.data.toList)
theorem hasName_cons (names : List ByteArray) (n s : ByteArray) : hasName (n :: names) s = (n.data.toList == s.data.toList || hasName names s) := by unfold hasName; rw [List.any_cons]
/-- In block b lies a map of at most n entries that is true at the names, else false. -/
def NamesAt (W : World) (b n : Nat) (names : List ByteArray) : Prop :=
  ∃ D : DataW Unit, W.ownsMap Try.prog 9 (plainElem Try.prog 4) b n D ∧ ∀ s : ByteArray, D.atKey (.string s.data.toList) (.lit (.bool false)) = .lit (.bool (hasName names s))
theorem NamesAt.made (w : World) : NamesAt (w.alloc (.map #[] 0)) w.heap.size 0 [] := ⟨_, World.ownsMap_made w _ _ _, fun s => by simp [DataW.atKey, hasName]⟩
theorem NamesAt.kept {W W' : World} {b n : Nat} {names : List ByteArray} {row : Option Nat} (h : NamesAt W b n names) (hg : W.grownBy W' row) (hne : some b ≠ row) : NamesAt W' b n names := by
  obtain ⟨D, h1, h2⟩ := h
  exact ⟨D, h1.kept hg hne, h2⟩
theorem NamesAt.lt {W : World} {b n : Nat} {names : List ByteArray} (h : NamesAt W b n names) : b < W.heap.size := by
  obtain ⟨D, h1, h2⟩ := h
  exact h1.lt
theorem NamesAt.blk {W W' : World} {b n : Nat} {names : List ByteArray} (h : NamesAt W b n names) (hb : W'.heap[b]? = W.heap[b]?) : NamesAt W' b n names := by
  obtain ⟨D, ⟨es, clock, h1, h3⟩, h2⟩ := h
  exact ⟨D, ⟨es, clock, hb.trans h1, h3⟩, h2⟩
theorem names_key {s : ByteArray} (hs : s.size ≤ maxLen) : keyOf Try.prog 9 (.string s) = some (.string s.data.toList) := Go.WideMaps.keyOf_string_mk Try.underlying9 hs
theorem names_look {W : World} {b n : Nat} {names : List ByteArray} (h : NamesAt W b n names) (s : ByteArray) (hs : s.size ≤ maxLen) : (Instr.lookup 50 (.map (some b)) (.string s) false).run Try.prog W = .ok (.bool (hasName names s)) W := by
  obtain ⟨D, h1, h2⟩ := h
  obtain ⟨v, ps, hr, hv⟩ := h1.lookup (string_keyed Try.underlying9) Try.underlying50 (z := .bool false) (by kernel_rfl) (zd := .lit (.bool false)) (zp := []) (plainElem_bool Try.underlying4 false) (names_key hs)
  rw [h2 s] at hv
  rw [hr]
  have hu : Try.prog.underlying 4 = some .bool := Try.underlying4
  unfold plainElem at hv
  simp only [hu] at hv
  cases v <;> simp at hv
  rename_i bb
  rw [hv.1]
theorem names_put {D : DataW Unit} (hD : IsMap D) {names : List ByteArray} {n : ByteArray} (h : ∀ s : ByteArray, D.atKey (.string s.data.toList) (.lit (.bool false)) = .lit (.bool (hasName names s))) :
    ∀ s : ByteArray, (D.put (.string n.data.toList) (.lit (.bool true))).atKey (.string s.data.toList) (.lit (.bool false)) = .lit (.bool (hasName (n :: names) s)) := fun s => by
  rw [hasName_cons]
  by_cases e : n.data.toList = s.data.toList
  · rw [e, atKey_put_same hD (by simp [WideAt.IsKeyLit])]; simp
  · rw [atKey_put_other (fun h => e (by injection h with h; exact h.symm)), h s, beq_eq_false_iff_ne.2 e, Bool.false_or]
section
variable {F : Fence} {nF : Nat} {ops : Array Oper} {rest : List Oper} {o : Oper} {a : Act} {Q : Exit → Act → World → Prop} {w : World}
theorem wpListIn_names (hg : o.guard = none) (m x v : Operand) (hop : o.op = Op.mapUpdate 50 m x v) (b n : Nat) (names : List ByteArray) (hm : a.eval m = .map (some b)) (h : NamesAt w b n names) (hn : n < maxLen) (s : ByteArray) (hs : s.size ≤ maxLen) (hx : a.eval x = .string s) (hv : a.eval v = .bool true)
    (hK : ∀ w', NamesAt w' b (n + 1) (s :: names) → w.grownBy w' (some b) → wpListIn F nF Try.prog ops Q rest (a.put o.dst undef) w') : wpListIn F nF Try.prog ops Q (o :: rest) a w := by
  obtain ⟨D, h1, h2⟩ := h
  exact wpListIn_mapUpdate_own w hg m x v 50 hop 9 4 (string_keyed Try.underlying9) Try.underlying50 _ b n D hm h1 hn _ _ _ hx hv (names_key hs) _ [] (plainElem_bool Try.underlying4 true) (fun w' k1 k2 => hK w' ⟨_, k1, names_put h1.isMap h2⟩ k2)
end

/-! ### trees.Right in plain words -/
def rightStep (R : List Rg → Bool) (s : Nat × List ByteArray) (p : Tr) : Option (Nat × List ByteArray) :=
  if plainB R p = false then none
  else if p.op = 6 then (if p.cap ≠ (s.1 : Int) + 1 ∨ (p.name.data.toList ≠ [] ∧ hasName s.2 p.name = true) then none else some (s.1 + 1, p.name :: s.2))
  else some s
def rightFold (R : List Rg → Bool) : List Tr → Nat × List ByteArray → Option (Nat × List ByteArray)
  | [], s => some s
  | p :: ps, s => match rightStep R s p with | none => none | some s' => rightFold R ps s'
theorem rightFold_snoc (R : List Rg → Bool) (p : Tr) : ∀ (l : List Tr) (s : Nat × List ByteArray), rightFold R (l ++ [p]) s = (rightFold R l s).bind (fun s' => rightStep R s' p)
  | [], s => by simp only [List.nil_append, rightFold, Option.bind_some]; cases rightStep R s p <;> rfl
  | q :: l, s => by
    simp only [List.cons_append, rightFold]
    cases rightStep R s q with
    | none => rfl
    | some s' => exact rightFold_snoc R p l s'
theorem rightFold_none (R : List Rg → Bool) : ∀ (l l' : List Tr) (s : Nat × List ByteArray), rightFold R l s = none → rightFold R (l ++ l') s = none
  | [], l', s, h => by simp [rightFold] at h
  | q :: l, l', s, h => by
    simp only [List.cons_append, rightFold] at h ⊢
    cases hq : rightStep R s q with
    | none => rfl
    | some s' => rw [hq] at h; exact rightFold_none R l l' s' h
theorem rightFold_le (R : List Rg → Bool) : ∀ (l : List Tr) (s s' : Nat × List ByteArray), rightFold R l s = some s' → s'.1 ≤ s.1 + l.length
  | [], s, s', h => by simp [rightFold] at h; subst h; simp
  | q :: l, s, s', h => by
    simp only [rightFold] at h
    cases hq : rightStep R s q with
    | none => rw [hq] at h; cases h
    | some s1 =>
      rw [hq] at h
      have h1 := rightFold_le R l s1 s' h
      have h2 : s1.1 ≤ s.1 + 1 := by
        unfold rightStep at hq
        split at hq
        · cases hq
        · split at hq
          · split at hq
            · cases hq
            · cases hq; exact Nat.le_refl _
          · cases hq; exact Nat.le_succ _
      rw [List.length_cons]; omega
def rightTB (R : List Rg → Bool) (t : Tr) : Bool := decide (dS t ≤ 50) && decide (wS t ≤ 4000) && (rightFold R (parts t) (0, [])).isSome
end Go.Proofs.Ytdnbholiijgedaa
