/-
  The document's Right and Name, as printed, come to what the program's own come to. Plain laws.
  The document's fields, kids, Shaped and Prefix, as printed, come to what the program's own come to. Plain laws.
-/
import Derived.Test.YtdnbholiijgedaaDoorNormLaw
import Derived.Test.YtdnbholiijgedaaDoorPPrefixx5
import Derived.Test.YtdnbholiijgedaaDoorRunes
namespace Go.Proofs.YtdnbholiijgedaaDoor
open Go.RowKit Go.Proofs.YtdnbholiijgedaaDoor.PPrefix
set_option linter.unusedVariables false

/-! ### with enough rounds -/
def Evn {α : Type} (g : Nat → Option α) (v : α) : Prop := ∃ K, ∀ k, K ≤ k → g k = some v
theorem Evn.step {α : Type} {g : Nat → Option α} {v : α} (h : Evn (fun k => g (k + 1)) v) : Evn g v := by
  obtain ⟨K, h⟩ := h
  exact ⟨K + 1, fun k hk => by obtain ⟨m, rfl⟩ : ∃ m, k = m + 1 := ⟨k - 1, by omega⟩; exact h m (by omega)⟩
theorem Evn.const {α : Type} (v : α) : Evn (fun _ => some v) v := ⟨0, fun _ _ => rfl⟩
theorem Evn.bind {α β : Type} {g : Nat → Option α} {f : Nat → α → Option β} {u : α} {v : β} (h : Evn g u) (h2 : Evn (fun k => f k u) v) : Evn (fun k => (g k).bind (f k)) v := by
  obtain ⟨K, h⟩ := h
  obtain ⟨L, h2⟩ := h2
  exact ⟨K + L, fun k hk => by show (g k).bind (f k) = some v; rw [h k (by omega)]; exact h2 k (by omega)⟩
theorem Evn.yes {α : Type} {c : Prop} [Decidable c] {g f : Nat → Option α} {v : α} (hc : c) (h : Evn g v) : Evn (fun k => if c then g k else f k) v := by simpa only [if_pos hc] using h
theorem Evn.no {α : Type} {c : Prop} [Decidable c] {g f : Nat → Option α} {v : α} (hc : ¬ c) (h : Evn f v) : Evn (fun k => if c then g k else f k) v := by simpa only [if_neg hc] using h
theorem Evn.ite {α : Type} {c : Prop} [Decidable c] {g f : Nat → Option α} {v : α} (h1 : c → Evn g v) (h2 : ¬ c → Evn f v) : Evn (fun k => if c then g k else f k) v := by
  by_cases hc : c
  · exact Evn.yes hc (h1 hc)
  · exact Evn.no hc (h2 hc)
theorem Evn.of_eq {α : Type} {g g' : Nat → Option α} {v : α} (h : Evn g v) (e : ∀ k, g' k = g k) : Evn g' v := by
  obtain ⟨K, h⟩ := h
  exact ⟨K, fun k hk => (e k).trans (h k hk)⟩
theorem Evn.to {α : Type} {g : Nat → Option α} {v v' : α} (h : Evn g v) (e : v = v') : Evn g v' := e ▸ h
theorem Evn.at_ {α : Type} {g : Nat → Option α} {v : α} (h : Evn g v) : ∃ k, g k = some v := by obtain ⟨K, h⟩ := h; exact ⟨K, h K (Nat.le_refl _)⟩

/-! ### Right -/
def toR (r : Rg) : S84 := ⟨r.lo, r.hi⟩
theorem rd_toR (l : List Rg) (i : Nat) (h : i < l.length) : rd_T84 (l.map toR) (i : Int) = toR l[i] := by
  unfold rd_T84
  rw [Int.toNat_natCast, List.getD_eq_getElem?_getD, List.getElem?_map, List.getElem?_eq_getElem h]; rfl
theorem wrap64_nat (i : Nat) (h : i < 9223372036854775807) : wrap64 ((i : Int) + 1) = ((i + 1 : Nat) : Int) := by unfold wrap64; omega
theorem wrap64_pre (i : Nat) (h : i ≤ 9223372036854775807) (h0 : 0 < i) : wrap64 ((i : Int) - 1) = ((i - 1 : Nat) : Int) := by unfold wrap64; omega
/-- The i-th range stands as it must. -/
def GoodAt (l : List Rg) (i : Nat) : Prop := ∀ x, l[i]? = some x → RgOK x ∧ ∀ j y, i = j + 1 → l[j]? = some y → y.hi + 2 ≤ x.lo
theorem setOK_at (l : List Rg) : SetOK l ↔ ∀ i, i < l.length → GoodAt l i := by
  constructor
  · rintro ⟨h1, h2⟩ i hi x hx
    refine ⟨h1 x (List.mem_of_getElem? hx), fun j y hj hy => ?_⟩
    obtain ⟨hi', rfl⟩ := List.getElem?_eq_some_iff.1 hx
    obtain ⟨hj', rfl⟩ := List.getElem?_eq_some_iff.1 hy
    exact List.pairwise_iff_getElem.1 h2 j i hj' hi' (by omega)
  · intro h
    have h1 : ∀ x ∈ l, RgOK x := fun x hx => by
      obtain ⟨i, hi, rfl⟩ := List.mem_iff_getElem.1 hx
      exact (h i hi _ (List.getElem?_eq_getElem hi)).1
    refine ⟨h1, List.pairwise_iff_getElem.2 ?_⟩
    have key : ∀ (d i : Nat) (hi : i < l.length) (hj : i + d + 1 < l.length), l[i].hi + 2 ≤ l[i + d + 1].lo := by
      intro d
      induction d with
      | zero => intro i hi hj; exact (h (i + 1) hj _ (List.getElem?_eq_getElem hj)).2 i _ rfl (List.getElem?_eq_getElem hi)
      | succ d ih =>
        intro i hi hj
        have h2 := ih i hi (by omega)
        have h3 := (h (i + d + 1 + 1) (by omega) _ (List.getElem?_eq_getElem (by omega))).2 (i + d + 1) _ rfl (List.getElem?_eq_getElem (by omega))
        have h4 := (h1 l[i + d + 1] (List.getElem_mem _)).2.1
        simp only [show i + (d + 1) + 1 = i + d + 1 + 1 by omega]
        omega
    intro i j hi hj hij
    have := key (j - i - 1) i hi (by omega)
    simp only [show i + (j - i - 1) + 1 = j by omega] at this
    exact this
theorem right_loop (l : List Rg) (hw : ∀ r ∈ l, (Lit.int .i32 r.lo).wf = true ∧ (Lit.int .i32 r.hi).wf = true) (hN : l.length ≤ 140737488351232) : ∀ (d i : Nat), i + d = l.length → (∀ j, j < i → GoodAt l j) →
    Evn (fun k => martelloref02_Right.l0 k (l.map toR) (i : Int)) (rightR l) := by
  intro d
  induction d with
  | zero =>
    intro i hi hg
    refine Evn.step ?_
    simp only [martelloref02_Right.l0]
    refine Evn.no (by simp; omega) ?_
    refine (Evn.const true).to ?_
    rw [eq_comm, right_iff, setOK_at]
    exact fun j hj => hg j (by omega)
  | succ d ih =>
    intro i hi hg
    have hlt : i < l.length := by omega
    have hno : ¬ GoodAt l i → false = rightR l := fun h => by
      rw [eq_comm, Bool.eq_false_iff]
      intro e
      exact h ((setOK_at l).1 ((right_iff l).1 e) i hlt)
    have hyes : GoodAt l i → Evn (fun k => martelloref02_Right.l0 k (l.map toR) (wrap64 ((i : Int) + 1))) (rightR l) := fun h => by
      rw [wrap64_nat i (by omega)]
      exact ih (i + 1) (by omega) (fun j hj => by
        rcases Nat.lt_or_ge j i with h1 | h1
        · exact hg j h1
        · obtain rfl : j = i := by omega
          exact h)
    have hx := List.getElem?_eq_getElem hlt
    have hrd := rd_toR l i hlt
    refine Evn.step ?_
    simp only [martelloref02_Right.l0]
    rw [hrd]
    refine Evn.yes (by simp; omega) (Evn.yes (by omega) ?_)
    by_cases hok : RgOK l[i]
    · obtain ⟨k0, k1, k2⟩ := hok
      refine Evn.no (show ¬ l[i].lo < 0 by omega) (Evn.no (show ¬ l[i].hi > 1114111 by omega) ?_)
      refine Evn.step ?_
      simp only [martelloref02_Right.j1]
      refine Evn.no (by rw [decide_eq_true_iff]; exact (show ¬ l[i].lo > l[i].hi by omega)) ?_
      cases i with
      | zero =>
        refine Evn.no (by simp) ?_
        exact hyes (fun x hx' => by rw [hx] at hx'; cases hx'; exact ⟨⟨k0, k1, k2⟩, fun j y hj => by omega⟩)
      | succ m =>
        have hm : m < l.length := by omega
        have hgm := (hg m (by omega) _ (List.getElem?_eq_getElem hm)).1
        have hrm := rd_toR l m hm
        have e1 : wrap64 (((m + 1 : Nat) : Int) - 1) = (m : Int) := by rw [wrap64_pre _ (by omega) (by omega)]; simp
        rw [e1, hrd, hrm]
        refine Evn.yes (by omega) (Evn.yes (by omega) (Evn.yes (by simp; omega) (Evn.yes (by omega) (Evn.yes (by simp; omega) ?_))))
        obtain ⟨g0, g1, g2⟩ := hgm
        by_cases hc : l[m + 1].lo ≤ l[m].hi
        · refine Evn.yes hc ?_
          exact (Evn.const false).to (hno (fun h => by have := (h _ hx).2 m _ rfl (List.getElem?_eq_getElem hm); omega))
        · refine Evn.no hc ?_
          have e2 : wrap32 (l[m + 1].lo - l[m].hi) = l[m + 1].lo - l[m].hi := IntWalk.wrap32_in _ ⟨by omega, by omega⟩
          by_cases hc2 : wrap32 (l[m + 1].lo - l[m].hi) < 2
          · refine Evn.yes hc2 ?_
            exact (Evn.const false).to (hno (fun h => by have := (h _ hx).2 m _ rfl (List.getElem?_eq_getElem hm); omega))
          · refine Evn.no hc2 ?_
            exact hyes (fun x hx' => by
              rw [hx] at hx'; cases hx'
              refine ⟨⟨k0, k1, k2⟩, fun j y hj hy => ?_⟩
              obtain rfl : j = m := by omega
              rw [List.getElem?_eq_getElem hm] at hy; cases hy; omega)
    · have hbad : ¬ GoodAt l i := fun h => hok (h _ hx).1
      have hj1 : Evn (fun k => martelloref02_Right.j1 k (l.map toR) (i : Int) true) (rightR l) := by
        refine Evn.step ?_
        simp only [martelloref02_Right.j1, if_true]
        exact (Evn.const false).to (hno hbad)
      refine Evn.ite (fun _ => hj1) (fun k0 => Evn.ite (fun _ => hj1) (fun k2 => ?_))
      have hd : decide ((toR l[i]).f0 > (toR l[i]).f1) = true := decide_eq_true (by
        have h1 : ¬ l[i].lo < 0 := k0
        have h2 : ¬ l[i].hi > 1114111 := k2
        show l[i].lo > l[i].hi
        unfold RgOK at hok; omega)
      rw [hd]; exact hj1
theorem right_ev (l : List Rg) (hw : ∀ r ∈ l, (Lit.int .i32 r.lo).wf = true ∧ (Lit.int .i32 r.hi).wf = true) (hN : l.length ≤ 140737488351232) : Evn (fun k => martelloref02_Right.f k (l.map toR)) (rightR l) := by
  unfold martelloref02_Right.f
  exact right_loop l hw hN l.length 0 (by omega) (fun j hj => by omega)

/-! ### Name -/
theorem bt_nth (s : ByteArray) (i : Nat) (h : i < s.size) : Go.Proofs.YtdnbholiijgedaaDoorW.PrintWords.bt s (i : Int) = nth s i := by
  unfold Go.Proofs.YtdnbholiijgedaaDoorW.PrintWords.bt nth
  rw [dif_pos (by simpa using h), List.getD_eq_getElem?_getD, List.getElem?_eq_getElem (by simpa using h)]
  rfl
def letB (s : ByteArray) (i : Nat) : Prop := chB (nth s i) = true ∧ (i = 0 → ¬ (48 ≤ nth s 0 ∧ nth s 0 ≤ 57))
theorem nameB_iff (s : ByteArray) (h0 : 0 < s.size) (h1 : s.size ≤ 32) : nameB s = true ↔ ∀ i, i < s.size → letB s i := by
  unfold nameB letB
  simp only [decide_eq_true h0, decide_eq_true h1, Bool.true_and, Bool.and_eq_true, Bool.not_eq_true', Bool.and_eq_false_iff, decide_eq_false_iff_not, List.all_eq_true, List.mem_range]
  constructor
  · rintro ⟨h2, h3⟩ i hi
    exact ⟨h3 i hi, fun _ h => by rcases h2 with h2 | h2 <;> omega⟩
  · intro h
    refine ⟨?_, fun i hi => (h i hi).1⟩
    have := (h 0 h0).2 rfl
    rcases Int.lt_or_le (nth s 0) 48 with h4 | h4
    · exact .inl (by omega)
    · exact .inr (fun h5 => this ⟨h4, h5⟩)
theorem chB_iff (c : Int) : chB c = true ↔ (97 ≤ c ∧ c ≤ 122) ∨ (65 ≤ c ∧ c ≤ 90) ∨ (48 ≤ c ∧ c ≤ 57) ∨ c = 95 := by
  unfold chB
  simp only [Bool.or_eq_true, Bool.and_eq_true, decide_eq_true_eq, beq_iff_eq]
  constructor
  · rintro (((h | h) | h) | h) <;> simp [h]
  · rintro (h | h | h | h) <;> simp [h]
theorem name_loop_ev (s : ByteArray) (h0 : 0 < s.size) (h1 : s.size ≤ 32) : ∀ (d i : Nat), i + d = s.size → (∀ j, j < i → letB s j) → Evn (fun k => martelloref05_Name.l0 k s (i : Int)) (nameB s) := by
  intro d
  induction d with
  | zero =>
    intro i hi hg
    refine Evn.step ?_
    simp only [martelloref05_Name.l0]
    refine Evn.no (by omega) ?_
    exact (Evn.const true).to ((nameB_iff s h0 h1).2 (fun j hj => hg j (by omega))).symm
  | succ d ih =>
    intro i hi hg
    have hlt : i < s.size := by omega
    have hno : ¬ letB s i → Evn (fun _ => some false) (nameB s) := fun h => (Evn.const false).to (by
      rw [eq_comm, Bool.eq_false_iff]
      exact fun e => h ((nameB_iff s h0 h1).1 e i hlt))
    have hyes : letB s i → Evn (fun k => martelloref05_Name.l0 k s (wrap64 ((i : Int) + 1))) (nameB s) := fun h => by
      rw [wrap64_nat i (by omega)]
      exact ih (i + 1) (by omega) (fun j hj => by
        rcases Nat.lt_or_ge j i with h1 | h1
        · exact hg j h1
        · obtain rfl : j = i := by omega
          exact h)
    have hb := bt_nth s i hlt
    have hch := chB_iff (nth s i)
    have hl : letB s i ↔ (chB (nth s i) = true ∧ (i = 0 → ¬ (48 ≤ nth s i ∧ nth s i ≤ 57))) := by
      unfold letB
      constructor
      · rintro ⟨a, b⟩; exact ⟨a, fun h => by subst h; exact b rfl⟩
      · rintro ⟨a, b⟩; exact ⟨a, fun h => by subst h; exact b rfl⟩
    rw [hch] at hl
    refine Evn.step ?_
    simp only [martelloref05_Name.l0]
    rw [hb]
    refine Evn.yes (by omega) (Evn.yes (by omega) ?_)
    generalize nth s i = c at hl
    clear hb hch hg ih
    (repeat' refine Evn.ite (fun _ => ?_) (fun _ => ?_)) <;> first
      | exact hyes (hl.2 (by omega))
      | exact hno (fun h => by have := hl.1 h; omega)
theorem name_ev (s : ByteArray) : Evn (fun k => martelloref05_Name.f k s) (nameB s) := by
  unfold martelloref05_Name.f
  have hj : nameB s = false → Evn (fun k => martelloref05_Name.j0 k s true) (nameB s) := fun h => by
    refine Evn.step ?_
    simp only [martelloref05_Name.j0, if_true]
    exact (Evn.const false).to h.symm
  by_cases h0 : (s.size : Int) < 1
  · simp only [if_pos h0]
    refine hj ?_
    unfold nameB
    rw [decide_eq_false (by omega)]; rfl
  · simp only [if_neg h0]
    by_cases h1 : (s.size : Int) > 32
    · rw [decide_eq_true h1]
      refine hj ?_
      unfold nameB
      rw [decide_eq_false (p := s.size ≤ 32) (by omega)]; simp
    · rw [decide_eq_false h1]
      refine Evn.step ?_
      simp only [martelloref05_Name.j0, Bool.false_eq_true, if_false]
      exact name_loop_ev s (by omega) (by omega) s.size 0 (by omega) (fun j hj => by omega)
end Go.Proofs.YtdnbholiijgedaaDoor
namespace Go.Proofs.YtdnbholiijgedaaDoor
open Go.RowKit Go.Proofs.YtdnbholiijgedaaDoor.PPrefix
set_option linter.unusedVariables false
set_option linter.unusedSimpArgs false

mutual
def toS : Tr → S27
  | ⟨op, kids, rune, set, at_, cap, name, mn, mx, lz⟩ => ⟨op, toSL kids, rune, set.map toR, at_, cap, name, mn, mx, lz⟩
def toSL : List Tr → List S27
  | [] => []
  | x :: xs => toS x :: toSL xs
end
theorem toSL_map : ∀ l : List Tr, toSL l = l.map toS
  | [] => by rw [toSL]; rfl
  | x :: xs => by rw [toSL, toSL_map xs]; rfl
theorem toS_eq (t : Tr) : toS t = ⟨t.op, t.kids.map toS, t.rune, t.set.map toR, t.at_, t.cap, t.name, t.mn, t.mx, t.lz⟩ := by cases t; rw [toS, toSL_map]
theorem rd_toS (l : List Tr) (i : Nat) (h : i < l.length) : rd_T27 (l.map toS) (i : Int) = toS l[i] := by
  unfold rd_T27
  rw [Int.toNat_natCast, List.getD_eq_getElem?_getD, List.getElem?_map, List.getElem?_eq_getElem h]; rfl

/-! ### fields -/
def tailB (rs nb : Bool) (op rune : Int) (m : Nat) (at_ : Int) (nm : ByteArray) (mn mx : Int) : Bool :=
  if op = 3 then decide (0 ≤ rune) && decide (rune ≤ 1114111) else if op = 4 then rs && decide (0 < m) else if op = 5 then ats.contains at_ else
  if op = 6 then nm.toList.isEmpty || nb else if op = 10 then decide (0 ≤ mn) && decide (mn ≤ 1000) && (decide (mx = -1) || (decide (mn ≤ mx) && decide (mx ≤ 1000))) else true
def f2B (rs nb : Bool) (op rune : Int) (m : Nat) (at_ : Int) (nm : ByteArray) (mn mx : Int) (lz : Bool) : Bool := if lz = true ∧ (op < 7 ∨ 10 < op) then false else tailB rs nb op rune m at_ nm mn mx
def f1B (rs nb : Bool) (op rune : Int) (m : Nat) (at_ cap : Int) (nm : ByteArray) (mn mx : Int) (lz : Bool) : Bool :=
  if (op ≠ 6 ∧ (cap ≠ 0 ∨ nm.toList ≠ [])) ∨ (op ≠ 10 ∧ (mn ≠ 0 ∨ mx ≠ 0)) then false else f2B rs nb op rune m at_ nm mn mx lz
def f0B (rs nb : Bool) (op rune : Int) (m : Nat) (at_ cap : Int) (nm : ByteArray) (mn mx : Int) (lz : Bool) : Bool :=
  if (op ≠ 3 ∧ rune ≠ 0) ∨ (op ≠ 4 ∧ 0 < m) ∨ (op ≠ 5 ∧ at_ ≠ 0) then false else f1B rs nb op rune m at_ cap nm mn mx lz
section
variable (op rune at_ cap mn mx : Int) (ks : List S27) (set : List Rg) (nm : ByteArray) (lz : Bool)
theorem j3_ev (hR : Evn (fun k => martelloref02_Right.f k (set.map toR)) (rightR set)) (b : Bool) :
    Evn (fun k => martelloref05_fields.j3 k b op ks rune (set.map toR) at_ cap nm mn mx lz) (if b = true then false else tailB (rightR set) (nameB nm) op rune set.length at_ nm mn mx) := by
  refine Evn.step ?_
  simp only [martelloref05_fields.j3]
  refine Evn.ite (fun h => by rw [if_pos h]; exact Evn.const _) (fun h => ?_)
  rw [if_neg h]
  unfold tailB
  refine Evn.ite (fun h3 => ?_) (fun h3 => ?_)
  · rw [if_pos h3]
    exact Evn.ite (fun h => (Evn.const _).to (by simp [h])) (fun h => (Evn.const _).to (by simp; omega))
  rw [if_neg h3]
  refine Evn.ite (fun h4 => ?_) (fun h4 => ?_)
  · rw [if_pos h4]
    refine Evn.bind (f := fun k t => if t = true then some (decide (((set.map toR).length : Int) > 0)) else some false) hR ?_
    exact Evn.ite (fun h => (Evn.const _).to (by simp [h])) (fun h => (Evn.const _).to (by simp [h]))
  rw [if_neg h4]
  refine Evn.ite (fun h5 => ?_) (fun h5 => ?_)
  · rw [if_pos h5]
    unfold ats
    refine Evn.ite (fun h => (Evn.const _).to (by simp [h])) (fun h => ?_)
    refine Evn.ite (fun h => (Evn.const _).to (by simp [h])) (fun h => ?_)
    refine Evn.ite (fun h => (Evn.const _).to (by simp [h])) (fun h => ?_)
    refine Evn.ite (fun h => (Evn.const _).to (by simp [h])) (fun h => ?_)
    refine Evn.ite (fun h => (Evn.const _).to (by simp [h])) (fun h => ?_)
    exact (Evn.const _).to (by simp [*]; rw [Bool.eq_iff_iff]; simp [*])
  rw [if_neg h5]
  refine Evn.ite (fun h6 => ?_) (fun h6 => ?_)
  · rw [if_pos h6]
    refine Evn.bind (f := fun k t => if nm.toList = ([] : List UInt8) then some true else some t) (name_ev nm) ?_
    exact Evn.ite (fun h => (Evn.const _).to (by simp [h])) (fun h => (Evn.const _).to (by simp [h]))
  rw [if_neg h6]
  refine Evn.ite (fun h7 => ?_) (fun h7 => ?_)
  · rw [if_pos h7]
    refine Evn.ite (fun h => (Evn.const _).to (by simp; omega)) (fun h => ?_)
    refine Evn.ite (fun h => (Evn.const _).to (by simp; omega)) (fun h => ?_)
    refine Evn.ite (fun h => (Evn.const _).to (by simp; omega)) (fun h => ?_)
    refine Evn.ite (fun h => (Evn.const _).to (by rw [Bool.eq_iff_iff]; simp; omega)) (fun h => (Evn.const _).to (by rw [eq_comm, Bool.eq_false_iff]; simp; omega))
  rw [if_neg h7]
  exact Evn.const _
theorem j2_ev (hR : Evn (fun k => martelloref02_Right.f k (set.map toR)) (rightR set)) (b : Bool) :
    Evn (fun k => martelloref05_fields.j2 k b op ks rune (set.map toR) at_ cap nm mn mx lz) (if b = true then false else f2B (rightR set) (nameB nm) op rune set.length at_ nm mn mx lz) := by
  have h3 := fun b => j3_ev op rune at_ cap mn mx ks set nm lz hR b
  refine Evn.step ?_
  simp only [martelloref05_fields.j2]
  refine Evn.ite (fun h => by rw [if_pos h]; exact Evn.const _) (fun h => ?_)
  rw [if_neg h]
  unfold f2B
  refine Evn.ite (fun hl => ?_) (fun hl => (h3 _).to (by simp [hl]))
  refine Evn.ite (fun h7 => (h3 _).to (by simp [hl, h7])) (fun h7 => (h3 _).to (by simp [hl, h7]))
theorem j1_ev (hR : Evn (fun k => martelloref02_Right.f k (set.map toR)) (rightR set)) (b : Bool) :
    Evn (fun k => martelloref05_fields.j1 k b op ks rune (set.map toR) at_ cap nm mn mx lz) (if b = true then false else f1B (rightR set) (nameB nm) op rune set.length at_ cap nm mn mx lz) := by
  have h2 := fun b => j2_ev op rune at_ cap mn mx ks set nm lz hR b
  refine Evn.step ?_
  simp only [martelloref05_fields.j1]
  refine Evn.ite (fun h => by rw [if_pos h]; exact Evn.const _) (fun h => ?_)
  rw [if_neg h]
  unfold f1B
  refine Evn.ite (fun h6 => ?_) (fun h6 => ?_)
  · refine Evn.ite (fun h10 => (h2 _).to (by simp [h6] at h10)) (fun h10 => ?_)
    exact Evn.ite (fun h => (h2 _).to (by by_cases hx : mx = 0 <;> simp [h6, h, hx])) (fun h => (h2 _).to (by simp [h6, h]))
  · refine Evn.ite (fun hc => ?_) (fun hc => (h2 _).to (by simp [h6, hc]))
    refine Evn.ite (fun hn => ?_) (fun hn => (h2 _).to (by simp [h6, hn]))
    refine Evn.ite (fun h10 => (h2 _).to (by simp [h10, hc, hn])) (fun h10 => ?_)
    exact Evn.ite (fun h => (h2 _).to (by by_cases hx : mx = 0 <;> simp [h6, h10, hc, hn, h, hx])) (fun h => (h2 _).to (by simp [h6, h10, h]))
theorem j0_ev (hR : Evn (fun k => martelloref02_Right.f k (set.map toR)) (rightR set)) (b : Bool) :
    Evn (fun k => martelloref05_fields.j0 k b op ks rune (set.map toR) at_ cap nm mn mx lz) (if b = true then false else f0B (rightR set) (nameB nm) op rune set.length at_ cap nm mn mx lz) := by
  have h1 := fun b => j1_ev op rune at_ cap mn mx ks set nm lz hR b
  have hp : ((set.map toR).length : Int) > 0 ↔ 0 < set.length := by simp
  refine Evn.step ?_
  simp only [martelloref05_fields.j0]
  refine Evn.ite (fun h => by rw [if_pos h]; exact Evn.const _) (fun h => ?_)
  rw [if_neg h]
  unfold f0B
  refine Evn.ite (fun h3 => ?_) (fun h3 => ?_)
  · refine Evn.ite (fun h4 => by omega) (fun h4 => ?_)
    refine Evn.ite (fun hs => (h1 _).to (by simp [h4, hp.1 hs])) (fun hs => ?_)
    refine Evn.ite (fun h5 => by omega) (fun h5 => ?_)
    have hs' : set.length = 0 := by have := mt hp.2 hs; omega
    exact (h1 _).to (by by_cases ha : at_ = 0 <;> simp [h3, hs', ha])
  · refine Evn.ite (fun hr => ?_) (fun hr => (h1 _).to (by simp [h3, hr]))
    refine Evn.ite (fun h4 => ?_) (fun h4 => ?_)
    · refine Evn.ite (fun h5 => by omega) (fun h5 => ?_)
      exact (h1 _).to (by by_cases ha : at_ = 0 <;> simp [h4, hr, ha])
    · refine Evn.ite (fun hs => (h1 _).to (by simp [h4, hp.1 hs])) (fun hs => ?_)
      have hs' : set.length = 0 := by have := mt hp.2 hs; omega
      refine Evn.ite (fun h5 => (h1 _).to (by simp [h5, hs', hr])) (fun h5 => ?_)
      exact (h1 _).to (by by_cases ha : at_ = 0 <;> simp [h5, hs', hr, ha])
theorem fields_ev (hR : Evn (fun k => martelloref02_Right.f k (set.map toR)) (rightR set)) :
    Evn (fun k => martelloref05_fields.f k op ks rune (set.map toR) at_ cap nm mn mx lz) (if op < 1 ∨ 12 < op then false else f0B (rightR set) (nameB nm) op rune set.length at_ cap nm mn mx lz) := by
  have h0 := fun b => j0_ev op rune at_ cap mn mx ks set nm lz hR b
  unfold martelloref05_fields.f
  refine Evn.ite (fun h => (h0 _).to (by simp [h])) (fun h => (h0 _).to (by simp [h]))
def kidsB (op : Int) (n : Nat) : Bool := if op = 6 ∨ op = 7 ∨ op = 8 ∨ op = 9 ∨ op = 10 then decide (n = 1) else if op = 11 then true else if op = 12 then decide (1 ≤ n) else decide (n = 0)
theorem kids_ev : Evn (fun k => martelloref05_kids.f k op ks rune (set.map toR) at_ cap nm mn mx lz) (kidsB op ks.length) := by
  have hj : ∀ b : Bool, b = decide (op = 6 ∨ op = 7 ∨ op = 8 ∨ op = 9 ∨ op = 10) → Evn (fun k => martelloref05_kids.j0 k op b op ks rune (set.map toR) at_ cap nm mn mx lz) (kidsB op ks.length) := by
    intro b hb
    refine Evn.step ?_
    simp only [martelloref05_kids.j0]
    unfold kidsB
    refine Evn.ite (fun h => ?_) (fun h => ?_)
    · rw [hb, decide_eq_true_iff] at h
      rw [if_pos h]
      exact (Evn.const _).to (cast_beq1 _)
    · rw [hb, decide_eq_true_iff] at h
      rw [if_neg h]
      refine Evn.ite (fun h1 => by rw [if_pos h1]; exact Evn.const _) (fun h1 => ?_)
      rw [if_neg h1]
      refine Evn.ite (fun h2 => by rw [if_pos h2]; exact (Evn.const _).to (by rw [Bool.eq_iff_iff]; simp; omega)) (fun h2 => ?_)
      rw [if_neg h2]
      exact (Evn.const _).to (cast_beq0 _)
  unfold martelloref05_kids.f
  refine Evn.ite (fun h => hj _ (by simp [h])) (fun h => ?_)
  refine Evn.ite (fun h => hj _ (by simp [h])) (fun h => ?_)
  refine Evn.ite (fun h => hj _ (by simp [h])) (fun h => ?_)
  refine Evn.ite (fun h => hj _ (by simp [h])) (fun h => ?_)
  exact hj _ (by rw [Bool.eq_iff_iff]; simp [*])
end
theorem good_eq (t : Tr) : ((if t.op < 1 ∨ 12 < t.op then false else f0B (rightR t.set) (nameB t.name) t.op t.rune t.set.length t.at_ t.cap t.name t.mn t.mx t.lz) && kidsB t.op t.kids.length && !(t.op == 6 && decide (t.cap < 1))) = goodP rightR t := by
  unfold goodP plainB
  generalize rightR t.set = rs
  generalize hnb : nameB t.name = nb
  generalize t.op = op
  generalize t.kids.length = n
  generalize t.rune = r
  generalize t.set.length = m
  generalize t.at_ = a
  generalize t.cap = c
  generalize t.mn = mn
  generalize t.mx = mx
  generalize t.lz = lz
  generalize t.name = nm at *
  have e0 : ∀ x : Int, decide (0 = x) = decide (x = 0) := fun x => by simp only [eq_comm]
  have em : decide ((0 : Int) = (m : Int)) = !decide (0 < m) := by rw [Bool.eq_iff_iff]; simp; omega
  by_cases hop : 1 ≤ op ∧ op ≤ 12
  · rw [if_neg (by omega)]
    have h12 : op = 1 ∨ op = 2 ∨ op = 3 ∨ op = 4 ∨ op = 5 ∨ op = 6 ∨ op = 7 ∨ op = 8 ∨ op = 9 ∨ op = 10 ∨ op = 11 ∨ op = 12 := by omega
    rcases h12 with rfl | rfl | rfl | rfl | rfl | rfl | rfl | rfl | rfl | rfl | rfl | rfl
    all_goals
      simp [f0B, f1B, f2B, tailB, kidsB, plainV, opV, bI, bN, bS, bL, hnb, cast_beq1, e0, em]
      rw [Bool.eq_iff_iff]
      simp only [Bool.and_eq_true, Bool.or_eq_true, decide_eq_true_eq, Bool.not_eq_true', decide_eq_false_iff_not]
      constructor <;> (intro h; simp_all; try omega)
  · rw [if_pos (by omega)]
    simp only [Bool.false_and]
    have ho : opV rs op n r m a nm mn mx = false := by
      unfold opV
      repeat (rw [if_neg (by omega)])
    unfold plainV
    rw [ho]
    symm
    simp only [Bool.and_eq_false_iff]
    left
    (repeat' split) <;> rfl

/-! ### Shaped -/
/-- What the plain laws ask of a part. -/
def PartW (p : Tr) : Prop := (∀ r ∈ p.set, (Lit.int .i32 r.lo).wf = true ∧ (Lit.int .i32 r.hi).wf = true) ∧ p.set.length ≤ 140737488351232 ∧ p.kids.length ≤ 140737488351232
/-- A printed function of a tree, at a tree. -/
def shF (k : Nat) (t : Tr) : Option Bool := martelloref05_Shaped.f k t.op (t.kids.map toS) t.rune (t.set.map toR) t.at_ t.cap t.name t.mn t.mx t.lz
theorem shaped_step (t : Tr) : shapedB rightR t = (goodP rightR t && t.kids.all (shapedB rightR)) := by
  unfold shapedB
  rw [parts_eq, partsL_flat, List.all_cons, List.all_flatMap]
theorem shaped_ev : ∀ (n : Nat) (t : Tr), (parts t).length ≤ n → (∀ p ∈ parts t, PartW p) → Evn (fun k => shF k t) (shapedB rightR t) := by
  intro n
  induction n with
  | zero => intro t hn; rw [parts_eq] at hn; simp at hn
  | succ n ih =>
    intro t hn hw
    obtain ⟨w1, w2, w3⟩ := hw t (mem_parts_self t)
    have hf := fields_ev t.op t.rune t.at_ t.cap t.mn t.mx (t.kids.map toS) t.set t.name t.lz (right_ev t.set w1 w2)
    have hk := kids_ev t.op t.rune t.at_ t.cap t.mn t.mx (t.kids.map toS) t.set t.name t.lz
    rw [List.length_map] at hk
    have hge := good_eq t
    rw [shaped_step, ← hge]
    generalize (if t.op < 1 ∨ 12 < t.op then false else f0B (rightR t.set) (nameB t.name) t.op t.rune t.set.length t.at_ t.cap t.name t.mn t.mx t.lz) = F at *
    generalize kidsB t.op t.kids.length = K at *
    have hl : ∀ (d i : Nat), i + d = t.kids.length → (∀ x ∈ t.kids.take i, shapedB rightR x = true) → Evn (fun k => martelloref05_Shaped.l0 k (i : Int) t.op (t.kids.map toS) t.rune (t.set.map toR) t.at_ t.cap t.name t.mn t.mx t.lz) (t.kids.all (shapedB rightR)) := by
      intro d
      induction d with
      | zero =>
        intro i hi hg
        refine Evn.step ?_
        simp only [martelloref05_Shaped.l0]
        refine Evn.no (by simp; omega) ((Evn.const true).to ?_)
        rw [List.take_of_length_le (by omega)] at hg
        exact (List.all_eq_true.2 hg).symm
      | succ d ihd =>
        intro i hi hg
        have hlt : i < t.kids.length := by omega
        have hkk := parts_kid hlt
        have hi1 := ih t.kids[i] (by omega) (fun p hp => hw p (mem_parts_kid hlt hp))
        have hrd := rd_toS t.kids i hlt
        refine Evn.step ?_
        simp only [martelloref05_Shaped.l0]
        rw [hrd, toS_eq]
        refine Evn.yes (by simp; omega) (Evn.yes (by omega) ?_)
        refine Evn.bind (g := fun k => shF k t.kids[i]) (f := fun k v => if v = true then martelloref05_Shaped.l0 k (wrap64 ((i : Int) + 1)) t.op (t.kids.map toS) t.rune (t.set.map toR) t.at_ t.cap t.name t.mn t.mx t.lz else some false) hi1 ?_
        refine Evn.ite (fun h => ?_) (fun h => (Evn.const false).to ?_)
        · rw [wrap64_nat i (by omega)]
          refine ihd (i + 1) (by omega) (fun x hx => ?_)
          rw [List.take_succ_eq_append_getElem hlt] at hx
          rcases List.mem_append.1 hx with hx | hx
          · exact hg x hx
          · rw [List.mem_singleton.1 hx]; exact h
        · rw [eq_comm, Bool.eq_false_iff]
          exact fun e => h (List.all_eq_true.1 e _ (List.getElem_mem hlt))
    have hj : ∀ b : Bool, Evn (fun k => martelloref05_Shaped.j0 k b t.op (t.kids.map toS) t.rune (t.set.map toR) t.at_ t.cap t.name t.mn t.mx t.lz) (if b = true then false else t.kids.all (shapedB rightR)) := by
      intro b
      refine Evn.step ?_
      simp only [martelloref05_Shaped.j0]
      refine Evn.ite (fun h => by rw [if_pos h]; exact Evn.const _) (fun h => by rw [if_neg h]; exact hl _ 0 (Nat.zero_add _) (by simp))
    unfold shF
    refine Evn.step ?_
    simp only [martelloref05_Shaped.f]
    refine Evn.bind (f := fun k t114 => (martelloref05_kids.f k t.op (t.kids.map toS) t.rune (t.set.map toR) t.at_ t.cap t.name t.mn t.mx t.lz).bind fun t115 => (if t114 = true then (if t115 = true then (if t.op = 6 then (martelloref05_Shaped.j0 k (decide (t.cap < 1)) t.op (t.kids.map toS) t.rune (t.set.map toR) t.at_ t.cap t.name t.mn t.mx t.lz) else (martelloref05_Shaped.j0 k false t.op (t.kids.map toS) t.rune (t.set.map toR) t.at_ t.cap t.name t.mn t.mx t.lz)) else (martelloref05_Shaped.j0 k true t.op (t.kids.map toS) t.rune (t.set.map toR) t.at_ t.cap t.name t.mn t.mx t.lz)) else (martelloref05_Shaped.j0 k true t.op (t.kids.map toS) t.rune (t.set.map toR) t.at_ t.cap t.name t.mn t.mx t.lz))) hf ?_
    refine Evn.bind (f := fun k t115 => (if F = true then (if t115 = true then (if t.op = 6 then (martelloref05_Shaped.j0 k (decide (t.cap < 1)) t.op (t.kids.map toS) t.rune (t.set.map toR) t.at_ t.cap t.name t.mn t.mx t.lz) else (martelloref05_Shaped.j0 k false t.op (t.kids.map toS) t.rune (t.set.map toR) t.at_ t.cap t.name t.mn t.mx t.lz)) else (martelloref05_Shaped.j0 k true t.op (t.kids.map toS) t.rune (t.set.map toR) t.at_ t.cap t.name t.mn t.mx t.lz)) else (martelloref05_Shaped.j0 k true t.op (t.kids.map toS) t.rune (t.set.map toR) t.at_ t.cap t.name t.mn t.mx t.lz))) hk ?_
    refine Evn.ite (fun hF => ?_) (fun hF => (hj _).to (by simp [hF]))
    refine Evn.ite (fun hK => ?_) (fun hK => (hj _).to (by simp [hK]))
    refine Evn.ite (fun h6 => (hj _).to ?_) (fun h6 => (hj _).to ?_)
    · rw [hF, hK, h6]; by_cases hc : t.cap < 1 <;> simp [hc]
    · rw [hF, hK]; simp [h6]

/-! ### prefix -/
theorem flat_ge : ∀ l : List Tr, l.length ≤ (l.flatMap parts).length
  | [] => by simp
  | x :: l => by
    rw [List.flatMap_cons, List.length_append, List.length_cons, parts_eq, List.length_cons]
    have := flat_ge l
    omega
theorem kids_le (t : Tr) : t.kids.length ≤ (parts t).length := by
  rw [parts_eq, partsL_flat, List.length_cons]
  have := flat_ge t.kids
  omega
def pxF (k : Nat) (t : Tr) : Option (List Int × Bool) := martelloref14_prefix.f k t.op (t.kids.map toS) t.rune (t.set.map toR) t.at_ t.cap t.name t.mn t.mx t.lz
theorem prefix_ev : ∀ (n : Nat) (t : Tr), (parts t).length ≤ n → (parts t).length ≤ 1000000000 → (∀ p ∈ parts t, okK p) → Evn (fun k => pxF k t) (pfx t) := by
  intro n
  induction n with
  | zero => intro t hn; rw [parts_eq] at hn; simp at hn
  | succ n ih =>
    intro t hn hN hok
    have hokt := hok t (mem_parts_self t)
    have hkid : ∀ (i : Nat) (h : i < t.kids.length), Evn (fun k => pxF k t.kids[i]) (pfx t.kids[i]) := fun i h => by
      have hkk := parts_kid h
      exact ih t.kids[i] (by omega) (by omega) (fun p hp => hok p (mem_parts_kid h hp))
    have hone : ∀ (g : List Int × Bool → List Int × Bool), t.kids.length = 1 → Evn (fun k => if 0 < ((t.kids.map toS).length : Int) then ((martelloref14_prefix.f k ((rd_T27 (t.kids.map toS) 0).f0) ((rd_T27 (t.kids.map toS) 0).f1) ((rd_T27 (t.kids.map toS) 0).f2) ((rd_T27 (t.kids.map toS) 0).f3) ((rd_T27 (t.kids.map toS) 0).f4) ((rd_T27 (t.kids.map toS) 0).f5) ((rd_T27 (t.kids.map toS) 0).f6) ((rd_T27 (t.kids.map toS) 0).f7) ((rd_T27 (t.kids.map toS) 0).f8) ((rd_T27 (t.kids.map toS) 0).f9)).bind fun b => some (g b)) else none) (g (pfxH t.kids)) := by
      intro g h1
      have h0 : 0 < t.kids.length := by omega
      have hrd := rd_toS t.kids 0 h0
      refine Evn.yes (by simp; omega) ?_
      rw [show (0 : Int) = ((0 : Nat) : Int) from rfl, hrd, toS_eq, pfxH_eq h0]
      exact Evn.bind (g := fun k => pxF k t.kids[0]) (f := fun k b => some (g b)) (hkid 0 h0) (Evn.const _)
    have hl : ∀ (d i : Nat) (ys : List Int), i + d = t.kids.length → pfxL (t.kids.take i) = (ys, true) → Evn (fun k => martelloref14_prefix.l0 k ys (i : Int) t.op (t.kids.map toS) t.rune (t.set.map toR) t.at_ t.cap t.name t.mn t.mx t.lz) (pfxL t.kids) := by
      intro d
      induction d with
      | zero =>
        intro i ys hi hg
        refine Evn.step ?_
        simp only [martelloref14_prefix.l0]
        refine Evn.no (by simp; omega) ((Evn.const _).to ?_)
        rw [List.take_of_length_le (by omega)] at hg
        exact hg.symm
      | succ d ihd =>
        intro i ys hi hg
        have hlt : i < t.kids.length := by omega
        have hkk := parts_kid hlt
        have hyl := pfxL_len (t.kids.take i)
        rw [hg, partsL_flat] at hyl
        simp only at hyl
        have hpl := pfx_len t.kids[i]
        have hrd := rd_toS t.kids i hlt
        have h7 := pfxL_take hlt hg
        refine Evn.step ?_
        simp only [martelloref14_prefix.l0]
        rw [hrd, toS_eq]
        refine Evn.yes (by simp; omega) (Evn.yes (by omega) ?_)
        refine Evn.bind (g := fun k => pxF k t.kids[i]) (f := fun k b => if ys.length + b.1.length < 35184372088832 then ((some (ys ++ b.1 : List Int)).bind fun y => (if b.2 = true then martelloref14_prefix.l0 k y (wrap64 ((i : Int) + 1)) t.op (t.kids.map toS) t.rune (t.set.map toR) t.at_ t.cap t.name t.mn t.mx t.lz else some (y, false))) else none) (hkid i hlt) ?_
        refine Evn.yes (by omega) ?_
        simp only [Option.bind_some]
        refine Evn.ite (fun h => ?_) (fun h => (Evn.const _).to ?_)
        · rw [wrap64_nat i (by have := kids_le t; omega)]
          exact ihd (i + 1) _ (by omega) (by rw [h7, h])
        · rw [pfxL_stop hlt hg (by simpa using h)]
    unfold pxF
    refine Evn.step ?_
    simp only [martelloref14_prefix.f]
    rw [pfx_eq]
    refine Evn.ite (fun h => by rw [if_pos h]; exact Evn.const _) (fun h2 => ?_)
    rw [if_neg h2]
    refine Evn.ite (fun h => by rw [if_pos h]; exact Evn.const _) (fun h3 => ?_)
    rw [if_neg h3]
    refine Evn.ite (fun h => ?_) (fun h6 => ?_)
    · rw [if_pos (.inl h)]
      exact hone (fun b => (b.1, b.2)) (hokt (.inl h))
    refine Evn.ite (fun h12 => ?_) (fun h12 => ?_)
    · refine Evn.ite (fun h => ?_) (fun h => ?_)
      · have h1 : t.kids.length = 1 := by simp at h; omega
        rw [if_pos (.inr ⟨h12, h1⟩)]
        exact hone (fun b => (b.1, b.2)) h1
      · have h1 : ¬ t.kids.length = 1 := by simp at h; omega
        rw [if_neg (by omega), if_neg (by omega), if_neg (by omega)]
        exact Evn.const _
    rw [if_neg (by omega)]
    refine Evn.ite (fun h => ?_) (fun h8 => ?_)
    · rw [if_pos (.inl h)]
      exact hone (fun b => (b.1, false)) (hokt (.inr (.inl h)))
    refine Evn.ite (fun h10 => ?_) (fun h10 => ?_)
    · refine Evn.ite (fun h => ?_) (fun h => ?_)
      · rw [if_pos (.inr ⟨h10, h⟩)]
        exact hone (fun b => (b.1, false)) (hokt (.inr (.inr h10)))
      · rw [if_neg (by omega), if_neg (by omega)]
        exact Evn.const _
    rw [if_neg (by omega)]
    refine Evn.ite (fun h => ?_) (fun h11 => ?_)
    · rw [if_pos h]
      exact hl _ 0 [] (Nat.zero_add _) rfl
    · rw [if_neg h11]
      exact Evn.const _
/-- The document's Prefix. -/
def prefixOf (t : Tr) : List Int × Bool := if shapedB rightR t = true then pfx t else ([], false)
theorem refPrefix_ev (t : Tr) (hN : (parts t).length ≤ 1000000000) (hw : ∀ p ∈ parts t, PartW p) : ∃ k, martelloref14_Prefix.f k t.op (t.kids.map toS) t.rune (t.set.map toR) t.at_ t.cap t.name t.mn t.mx t.lz = some ((prefixOf t).1, (prefixOf t).2) := by
  have h := shaped_ev _ t (Nat.le_refl _) hw
  refine Evn.at_ (g := fun k => martelloref14_Prefix.f k t.op (t.kids.map toS) t.rune (t.set.map toR) t.at_ t.cap t.name t.mn t.mx t.lz) ?_
  simp only [martelloref14_Prefix.f]
  refine Evn.bind (g := fun k => shF k t) (f := fun k b => if b = true then ((martelloref14_prefix.f k t.op (t.kids.map toS) t.rune (t.set.map toR) t.at_ t.cap t.name t.mn t.mx t.lz).bind fun b => some (b.1, b.2)) else some (([] : List Int), false)) h ?_
  unfold prefixOf
  refine Evn.ite (fun hs => ?_) (fun hs => by rw [if_neg hs]; exact Evn.const _)
  rw [if_pos hs]
  exact Evn.bind (g := fun k => pxF k t) (f := fun k b => some (b.1, b.2)) (prefix_ev _ t (Nat.le_refl _) hN (okK_of hs)) (Evn.const _)
end Go.Proofs.YtdnbholiijgedaaDoor
