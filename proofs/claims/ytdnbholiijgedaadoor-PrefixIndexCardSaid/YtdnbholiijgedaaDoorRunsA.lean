/-
  PrefixRuns: the plain laws of its trees. No condition.
-/
import Derived.Test.YtdnbholiijgedaaDoorHead

namespace Go.Proofs.YtdnbholiijgedaaDoor
open Go.RowKit Go.Shelf
set_option linter.unusedVariables false

theorem infoTree : (Tryd.prog.info? 27).map (fun i => (i.zero, i.size, i.bytes)) = some (some (.agg #[.int .i64 0, .slice none 0 0, .int .i32 0, .slice none 0 0, .int .i64 0, .int .i64 0, .string ⟨#[]⟩, .int .i64 0, .int .i64 0, .bool false]), 10, 120) := by kernel_rfl
def runeT (x : Int) : Tr := ⟨3, [], x, [], 0, 0, ⟨#[]⟩, 0, 0, false⟩
def runeTC (x : Int) : List Value := [.int .i64 3, .slice none 0 0, .int .i32 x, .slice none 0 0, .int .i64 0, .int .i64 0, .string ⟨#[]⟩, .int .i64 0, .int .i64 0, .bool false]
theorem runeTrC (ok : Nat → Prop) (w : World) (x : Int) : TrC ok w (runeT x) (runeTC x) := trC_iff.2 ⟨none, 0, none, 0, rfl, Nat.le_refl _, Nat.zero_le _, Nat.le_refl _, Nat.zero_le _, Arr.nil, Arr.nil⟩
/-- A part with no fields but its Op, its Kids and its number. -/
def nodeT (op cap : Int) (kids : List Tr) : Tr := ⟨op, kids, 0, [], 0, cap, ⟨#[]⟩, 0, 0, false⟩
def nodeTC (op cap : Int) (A : Option Addr) (n c : Nat) : List Value := [.int .i64 op, .slice A n c, .int .i32 0, .slice none 0 0, .int .i64 0, .int .i64 cap, .string ⟨#[]⟩, .int .i64 0, .int .i64 0, .bool false]
theorem nodeTrC {ok : Nat → Prop} {w : World} {op cap : Int} {kids : List Tr} {A : Option Addr} {c : Nat} (h : Arr ok w 10 (TrC ok w) A kids) (h1 : kids.length ≤ c) (h2 : c ≤ maxLen) : TrC ok w (nodeT op cap kids) (nodeTC op cap A kids.length c) :=
  trC_iff.2 ⟨A, c, none, 0, rfl, h1, h2, Nat.le_refl _, Nat.zero_le _, Arr.nil, h⟩
/-- A block of parts. -/
theorem arrBlk {ok : Nat → Prop} {w : World} {b : Nat} {arr : Array Value} {ty : TypeId} {fr : Nat × Nat} (hb : w.heap[b]? = some (.cells arr ty fr)) (hok : ok b) (css : List (List Value)) (ts : List Tr) (ha : arr.toList = css.flatten) (hl : ts.length = css.length)
    (h : ∀ (i : Nat) (x : Tr) (c : List Value), ts[i]? = some x → css[i]? = some c → TrC ok w x c) : Arr ok w 10 (TrC ok w) (some ⟨b, 0, none⟩) ts := by
  intro i x hi
  have hil : i < css.length := by rw [← hl]; exact (List.getElem?_eq_some_iff.1 hi).1
  obtain ⟨c, hc⟩ : ∃ c, css[i]? = some c := ⟨_, List.getElem?_eq_getElem hil⟩
  have hT := h i x c hi hc
  refine ⟨_, c, rfl, hok, hT, hT.len, fun j u hu => ?_⟩
  have hlen : ∀ c ∈ css, c.length = 10 := fun c hc => by
    obtain ⟨i, hi, rfl⟩ := List.mem_iff_getElem.1 hc
    exact (h i _ _ (List.getElem?_eq_getElem (by omega)) (List.getElem?_eq_getElem hi)).len
  have hf := flatten_at hlen hc hu
  rw [← ha, Array.getElem?_toList] at hf
  rw [show (⟨b, 0, none⟩ : Addr).add (i * 10 + j) = ⟨b, i * 10 + j, none⟩ by unfold Addr.add; split <;> simp_all, cell_of_blk hb]
  exact hf
theorem ownsKids {ok : Nat → Prop} {w : World} {base : Nat} {A : Option Addr} {n c : Nat} {xs : List Int} (h : Owns w base 27 10 (.slice A n c) (xs.map runeTC)) (hok : ∀ a, A = some a → ok a.block) : Arr ok w 10 (TrC ok w) A (xs.map runeT) :=
  Owns.arr h (by simp) (fun i x c hx hc => by
    rw [List.getElem?_map] at hx hc
    cases hi : xs[i]? with
    | none => rw [hi] at hx; cases hx
    | some y => rw [hi] at hx hc; cases hx; cases hc; exact runeTrC _ _ _) hok

/-! ### the law -/
theorem noSet {p : Tr} (h : goodP (fun _ => false) p = true) : p.op ≠ 4 := by
  intro h4
  simp only [goodP, plainB, plainV, opV, Bool.and_eq_true] at h
  have h1 := h.1
  repeat' split at h1
  all_goals first | (cases h1; done) | (simp_all; done) | omega
theorem runesPfx : ∀ xs : List Int, pfxL (xs.map runeT) = (xs, true)
  | [] => rfl
  | x :: xs => by
    have h1 : pfx (runeT x) = ([x], true) := by rw [pfx_eq]; simp [runeT]
    rw [List.map_cons, pfxL, h1, runesPfx xs]; rfl
theorem runesGood (xs : List Int) (h : ∀ x ∈ xs, 0 ≤ x ∧ x ≤ 1114111) : ∀ p ∈ partsL (xs.map runeT), goodP (fun _ => false) p = true := by
  intro p hp
  rw [partsL_flat] at hp
  obtain ⟨t, ht, hp⟩ := List.mem_flatMap.1 hp
  obtain ⟨x, hx, rfl⟩ := List.mem_map.1 ht
  rw [parts_eq] at hp
  simp [runeT, partsL] at hp
  subst hp
  have := h x hx
  simp [goodP, plainB, plainV, opV, bI, bN, bS, bL, this.1, this.2]
theorem runesCount (xs : List Int) : (partsL (xs.map runeT)).length = xs.length := by
  induction xs with
  | nil => rfl
  | cons x xs ih => rw [List.map_cons, partsL, List.length_append, ih, parts_eq]; simp [runeT, partsL]; omega
theorem nodeGood {op cap : Int} {kids : List Tr} (h1 : op = 11 ∨ (op = 6 ∧ kids.length = 1 ∧ cap = 1) ∨ (op = 7 ∧ kids.length = 1)) (h2 : cap = 0 ∨ op = 6) (h : ∀ p ∈ partsL kids, goodP (fun _ => false) p = true) : ∀ p ∈ parts (nodeT op cap kids), goodP (fun _ => false) p = true := by
  intro p hp
  rw [parts_eq] at hp
  rcases List.mem_cons.1 hp with rfl | hp
  · rcases h1 with rfl | ⟨rfl, hk, rfl⟩ | ⟨rfl, hk⟩
    · have hc : cap = 0 := h2.elim id (fun h => by omega)
      subst hc
      simp [goodP, plainB, plainV, opV, nodeT, bI, bN, bS, bL]
    · simp [goodP, plainB, plainV, opV, nodeT, bI, bN, bS, bL, hk]
    · have hc : cap = 0 := h2.elim id (fun h => by omega)
      subst hc
      simp [goodP, plainB, plainV, opV, nodeT, bI, bN, bS, bL, hk]
  · exact h p hp
theorem nodeCount (op cap : Int) (kids : List Tr) : (parts (nodeT op cap kids)).length = (partsL kids).length + 1 := by rw [parts_eq, List.length_cons]; rfl
theorem pcall {W : World} (T : Tr) (cs : List Value) (hT : TrC (fun _ => True) W T cs) (hg : ∀ p ∈ parts T, goodP (fun _ => false) p = true) (hN : (parts T).length ≤ 1000000000) :
    Calls Tryd.prog 9 #[.agg cs.toArray] W (RunesPost W.heap.size W [] (pfx T)) :=
  prefix_yes (fun _ => false) W (fun _ => True) T cs hT (fun p hp h4 => absurd h4 (noSet (hg p hp))) (List.all_eq_true.2 hg) hN
def groupT (group : Bool) (xs : List Int) : Tr := if group then nodeT 6 1 [nodeT 11 0 (xs.map runeT)] else nodeT 11 0 (xs.map runeT)
def againT (group : Bool) (xs : List Int) : Tr := nodeT 11 0 [groupT group xs, nodeT 7 0 [runeT 120], runeT 121]
theorem catPfx (kids : List Tr) : pfx (nodeT 11 0 kids) = pfxL kids := by rw [pfx_eq]; simp [nodeT]
theorem groupPfx (group : Bool) (xs : List Int) : pfx (groupT group xs) = (xs, true) := by
  cases group
  · show pfx (nodeT 11 0 (xs.map runeT)) = _
    rw [catPfx, runesPfx]
  · show pfx (nodeT 6 1 [nodeT 11 0 (xs.map runeT)]) = _
    rw [pfx_eq]
    simp only [nodeT]
    have := catPfx (xs.map runeT)
    rw [runesPfx] at this
    simpa [pfxH, nodeT] using this
theorem againPfx (group : Bool) (xs : List Int) : pfx (againT group xs) = (xs, false) := by
  have h7 : pfx (nodeT 7 0 [runeT 120]) = ([], false) := by rw [pfx_eq]; simp [nodeT]
  unfold againT
  rw [catPfx, pfxL, groupPfx, pfxL, h7]
  simp
theorem groupGood (group : Bool) (xs : List Int) (h : ∀ x ∈ xs, 0 ≤ x ∧ x ≤ 1114111) : ∀ p ∈ parts (groupT group xs), goodP (fun _ => false) p = true := by
  have h1 := nodeGood (op := 11) (cap := 0) (.inl rfl) (.inl rfl) (runesGood xs h)
  cases group
  · exact h1
  · exact nodeGood (.inr (.inl ⟨rfl, rfl, rfl⟩)) (.inr rfl) (by rw [partsL_flat]; simpa using h1)
theorem againGood (group : Bool) (xs : List Int) (h : ∀ x ∈ xs, 0 ≤ x ∧ x ≤ 1114111) : ∀ p ∈ parts (againT group xs), goodP (fun _ => false) p = true := by
  have h1 := groupGood group xs h
  have h2 := runesGood [120] (by simp)
  have h3 := runesGood [121] (by simp)
  have h4 := nodeGood (op := 7) (cap := 0) (kids := [runeT 120]) (.inr (.inr ⟨rfl, rfl⟩)) (.inl rfl) h2
  refine nodeGood (.inl rfl) (.inl rfl) fun p hp => ?_
  rw [partsL_flat] at hp h3
  simp only [List.flatMap_cons, List.flatMap_nil, List.append_nil, List.mem_append, List.map_cons, List.map_nil] at hp h3
  rcases hp with hp | hp | hp
  · exact h1 p hp
  · exact h4 p hp
  · exact h3 p hp
theorem groupCount (group : Bool) (xs : List Int) : (parts (groupT group xs)).length ≤ xs.length + 2 := by
  have h1 := nodeCount 11 0 (xs.map runeT)
  rw [runesCount] at h1
  cases group
  · show (parts (nodeT 11 0 (xs.map runeT))).length ≤ _
    omega
  · show (parts (nodeT 6 1 [nodeT 11 0 (xs.map runeT)])).length ≤ _
    rw [nodeCount, partsL_flat]
    simp only [List.flatMap_cons, List.flatMap_nil, List.append_nil]
    omega
theorem againCount (group : Bool) (xs : List Int) : (parts (againT group xs)).length ≤ xs.length + 10 := by
  have h1 := groupCount group xs
  have h2 := runesCount [120]
  have h3 := runesCount [121]
  have h4 := nodeCount 7 0 [runeT 120]
  unfold againT
  rw [nodeCount, partsL_flat]
  rw [partsL_flat] at h3
  simp only [List.flatMap_cons, List.flatMap_nil, List.append_nil, List.length_append, List.map_cons, List.map_nil, List.length_cons, List.length_nil] at h2 h3 h4 ⊢
  omega
def HeadedPost (w : World) (e : Ending) (w' : World) : Prop := e = .returned (.bool true) ∧ Below w.heap.size w w'

end Go.Proofs.YtdnbholiijgedaaDoor
