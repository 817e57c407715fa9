/-
  compile in plain words: what is appended. No condition.
-/
import Derived.Test.YtdnbholiijgedaaCompS
import Derived.Test.YtdnbholiijgedaaWeight
namespace Go.Proofs.Ytdnbholiijgedaa
set_option linter.unusedVariables false

/-- Too many; or at most n more, each as Q says. -/
def Ext (Q : In → Prop) (n : Nat) (s s' : St) : Prop := s'.2 = true ∨ (s.2 = false ∧ s'.2 = false ∧ ∃ l, s'.1 = s.1 ++ l ∧ l.length ≤ n ∧ ∀ x ∈ l, Q x)
theorem Ext.refl (Q : In → Prop) (s : St) : Ext Q 0 s s := by
  cases h : s.2 with
  | true => exact .inl h
  | false => exact .inr ⟨h, h, [], by simp, Nat.le_refl _, fun x hx => by simp at hx⟩
theorem Ext.mono {Q : In → Prop} {n m : Nat} {s s' : St} (h : Ext Q n s s') (hn : n ≤ m) : Ext Q m s s' := by
  rcases h with h | ⟨a, b, l, h1, h2, h3⟩
  · exact .inl h
  · exact .inr ⟨a, b, l, h1, by omega, h3⟩
theorem Ext.trans {Q : In → Prop} {n m : Nat} {s s1 s2 : St} (h : Ext Q n s s1) (k : Ext Q m s1 s2) : Ext Q (n + m) s s2 := by
  rcases k with k | ⟨a, b, l, h1, h2, h3⟩
  · exact .inl k
  rcases h with h | ⟨a', b', l', h1', h2', h3'⟩
  · rw [h] at a; cases a
  · exact .inr ⟨a', b, l' ++ l, by rw [h1, h1', List.append_assoc], by rw [List.length_append]; omega, fun x hx => (List.mem_append.1 hx).elim (h3' x) (h3 x)⟩
theorem ext_emit {Q : In → Prop} (x : In) (s : St) (hQ : Q x) : Ext Q 1 s (emitS x s).2 := by
  unfold emitS
  cases h : s.2 with
  | true => rw [if_pos rfl]; exact .inl h
  | false =>
    rw [if_neg (by simp)]
    split
    · exact .inl rfl
    · exact .inr ⟨h, rfl, [x], rfl, Nat.le_refl _, fun y hy => by rw [List.mem_singleton.1 hy]; exact hQ⟩
/-- A place kept, then some code, then an instruction put there. -/
theorem ext_loop {Q : In → Prop} {n : Nat} (x y : In) (s : St) {s2 : St} (hx : Q x) (hy : Q y) (h : Ext Q n (emitS x s).2 s2) : Ext Q (n + 1) s (setI s2 (emitS x s).1 y) := by
  unfold setI
  rcases h with h | ⟨a, b, l, h1, h2, h3⟩
  · rw [if_pos h]; exact .inl h
  rw [if_neg (by rw [b]; simp)]
  unfold emitS at a h1 ⊢
  cases h0 : s.2 with
  | true => rw [h0, if_pos rfl] at a; rw [h0] at a; cases a
  | false =>
    rw [h0, if_neg (by simp)] at a h1
    rw [if_neg (by simp)]
    split at a
    · cases a
    · rename_i hl
      rw [if_neg hl] at h1 ⊢
      simp only at h1
      refine .inr ⟨h0, b, y :: l, ?_, by simp; omega, fun z hz => (List.mem_cons.1 hz).elim (fun e => by rw [e]; exact hy) (h3 z)⟩
      show (s2.1.set (s.1.length : Int).toNat y) = _
      rw [h1, Int.toNat_natCast, List.append_assoc, List.set_append_right _ _ (Nat.le_refl _), Nat.sub_self]
      rfl
theorem ext_forks {Q : In → Prop} (hQ : ∀ x : In, x.op ≠ 4 → Q x) : ∀ (l : List Int) (to : Int) (s : St), Ext Q l.length s (forksS l to s).2
  | [], to, s => by rw [forksS]; exact Ext.refl _ _
  | i :: l, to, s => by rw [forksS]; exact (ext_forks hQ l to s).trans (ext_emit _ _ (hQ _ (by simp [forkI])))
mutual
def nX : Tr → Nat
  | ⟨op, kids, rune, set, at_, cap, name, mn, mx, lz⟩ => if op = 6 then nL kids + 2 else if op = 12 then nL kids + kids.length else if op = 7 ∨ op = 8 ∨ op = 9 ∨ op = 11 then nL kids + 1 else 1
def nL : List Tr → Nat
  | [] => 0
  | k :: ks => nX k + nL ks
end
theorem nX_eq (t : Tr) : nX t = if t.op = 6 then nL t.kids + 2 else if t.op = 12 then nL t.kids + t.kids.length else if t.op = 7 ∨ t.op = 8 ∨ t.op = 9 ∨ t.op = 11 then nL t.kids + 1 else 1 := by cases t; rw [nX]
theorem codeA_dl (g to : Int) (l : List Tr) (s : St) : (codeA g l to s).1.dropLast.length ≤ l.length := by
  rw [List.length_dropLast, codeA_len]; omega
mutual
theorem ext_S (Q : In → Prop) (hQ : ∀ x : In, x.op ≠ 4 → Q x) (g : Int) : ∀ (t : Tr) (to : Int) (s : St), (∀ p ∈ parts t, p.op = 6 → p.cap ≤ g → ∀ o : Int, Q ⟨4, o, 2 * p.cap + 1, [], 0⟩ ∧ Q ⟨4, o, 2 * p.cap, [], 0⟩) → Ext Q (nX t) s (codeS g t to s).2
  | ⟨op, kids, rune, set, at_, cap, name, mn, mx, lz⟩, to, s, hp => by
    have hk : ∀ k ∈ kids, ∀ p ∈ parts k, p.op = 6 → p.cap ≤ g → ∀ o : Int, Q ⟨4, o, 2 * p.cap + 1, [], 0⟩ ∧ Q ⟨4, o, 2 * p.cap, [], 0⟩ := fun k hk p hpp => hp p (by rw [parts_eq, partsL_flat]; exact List.mem_cons_of_mem _ (List.mem_flatMap.2 ⟨k, hk, hpp⟩))
    have hself := hp _ (mem_parts_self _)
    rw [nX, codeS]
    by_cases hs : s.2 = true
    · rw [if_pos hs]; exact .inl hs
    rw [if_neg hs]
    have h1 : ∀ x : In, x.op ≠ 4 → ∀ n, 1 ≤ n → Ext Q n s (emitS x s).2 := fun x hx n hn => (ext_emit x s (hQ x hx)).mono hn
    by_cases o1 : op = 1
    · rw [if_pos o1]; exact h1 _ (by simp) _ (by subst o1; simp)
    rw [if_neg o1]
    by_cases o3 : op = 3
    · rw [if_pos o3]; exact h1 _ (by simp) _ (by subst o3; simp)
    rw [if_neg o3]
    by_cases o4 : op = 4
    · rw [if_pos o4]; exact h1 _ (by simp) _ (by subst o4; simp)
    rw [if_neg o4]
    by_cases o5 : op = 5
    · rw [if_pos o5]; exact h1 _ (by simp) _ (by subst o5; simp)
    rw [if_neg o5]
    by_cases o6 : op = 6
    · rw [if_pos o6, if_pos o6]
      by_cases hg : g < cap
      · rw [if_pos hg]; exact (ext_H Q hQ g kids to s hk).mono (by omega)
      rw [if_neg hg]
      have hq := hself o6 (by show cap ≤ g; omega)
      exact (((ext_emit _ s (hq to).1).trans (ext_H Q hQ g kids _ _ hk)).trans (ext_emit _ _ (hq _).2)).mono (by omega)
    rw [if_neg o6, if_neg o6]
    by_cases o11 : op = 11
    · rw [if_pos o11, if_neg (by omega), if_pos (by omega)]
      exact (ext_R Q hQ g kids to s hk).mono (by omega)
    rw [if_neg o11]
    by_cases o12 : op = 12
    · rw [if_pos o12, if_pos o12]
      exact ((ext_A Q hQ g kids to s hk).trans (ext_forks hQ _ _ _)).mono (by have := codeA_dl g to kids s; omega)
    rw [if_neg o12, if_neg o12]
    by_cases o9 : op = 9
    · rw [if_pos o9, if_pos (by omega)]
      exact ((ext_H Q hQ g kids to s hk).trans (ext_emit _ _ (hQ _ (by simp [forkI]))))
    rw [if_neg o9]
    by_cases o7 : op = 7 ∨ op = 8
    · rw [if_pos o7, if_pos (by omega)]
      exact ext_loop _ _ s (hQ _ (by simp)) (hQ _ (by simp [forkI])) (ext_H Q hQ g kids _ _ hk)
    rw [if_neg o7]
    exact (Ext.refl Q s).mono (by omega)
theorem ext_H (Q : In → Prop) (hQ : ∀ x : In, x.op ≠ 4 → Q x) (g : Int) : ∀ (l : List Tr) (to : Int) (s : St), (∀ k ∈ l, ∀ p ∈ parts k, p.op = 6 → p.cap ≤ g → ∀ o : Int, Q ⟨4, o, 2 * p.cap + 1, [], 0⟩ ∧ Q ⟨4, o, 2 * p.cap, [], 0⟩) → Ext Q (nL l) s (codeH g l to s).2
  | [], to, s, hp => by rw [codeH, nL]; exact Ext.refl _ _
  | k :: ks, to, s, hp => by rw [codeH, nL]; exact (ext_S Q hQ g k to s (hp k (by simp))).mono (by omega)
theorem ext_R (Q : In → Prop) (hQ : ∀ x : In, x.op ≠ 4 → Q x) (g : Int) : ∀ (l : List Tr) (to : Int) (s : St), (∀ k ∈ l, ∀ p ∈ parts k, p.op = 6 → p.cap ≤ g → ∀ o : Int, Q ⟨4, o, 2 * p.cap + 1, [], 0⟩ ∧ Q ⟨4, o, 2 * p.cap, [], 0⟩) → Ext Q (nL l) s (codeR g l to s).2
  | [], to, s, hp => by rw [codeR, nL]; exact Ext.refl _ _
  | k :: ks, to, s, hp => by
    rw [codeR, nL]
    exact ((ext_R Q hQ g ks to s (fun k hk => hp k (by simp [hk]))).trans (ext_S Q hQ g k _ _ (hp k (by simp)))).mono (by omega)
theorem ext_A (Q : In → Prop) (hQ : ∀ x : In, x.op ≠ 4 → Q x) (g : Int) : ∀ (l : List Tr) (to : Int) (s : St), (∀ k ∈ l, ∀ p ∈ parts k, p.op = 6 → p.cap ≤ g → ∀ o : Int, Q ⟨4, o, 2 * p.cap + 1, [], 0⟩ ∧ Q ⟨4, o, 2 * p.cap, [], 0⟩) → Ext Q (nL l) s (codeA g l to s).2
  | [], to, s, hp => by rw [codeA, nL]; exact Ext.refl _ _
  | k :: ks, to, s, hp => by
    rw [codeA, nL]
    exact (ext_S Q hQ g k to s (hp k (by simp))).trans (ext_A Q hQ g ks to _ (fun k hk => hp k (by simp [hk])))
end
mutual
theorem n_le : ∀ t : Tr, wS t ≤ 4000 → (nX t : Int) ≤ wS t
  | ⟨op, kids, rune, set, at_, cap, name, mn, mx, lz⟩, h => by
    have hn := wL_nn kids 0 (by omega)
    rw [wS] at h ⊢
    rw [nX]
    unfold opW at h ⊢
    by_cases o6 : op = 6
    · simp only [if_pos o6] at h ⊢
      have := nL_le kids 0 (by omega) (by omega)
      omega
    simp only [if_neg o6] at h ⊢
    by_cases o12 : op = 12
    · simp only [if_pos o12] at h ⊢
      have := nL_le kids 0 (by omega) (by omega)
      omega
    simp only [if_neg o12] at h ⊢
    by_cases o10 : op = 10
    · rw [if_neg (by omega)]
      simp only [if_pos o10] at h ⊢
      have := Int.mul_nonneg hn.1 (show 0 ≤ min (max (max mn mx) 1) (4001 : Int) by omega)
      omega
    simp only [if_neg o10] at h ⊢
    by_cases o7 : op = 7 ∨ op = 8 ∨ op = 9 ∨ op = 11
    · simp only [if_pos o7] at h ⊢
      have := nL_le kids 0 (by omega) (by omega)
      omega
    · simp only [if_neg o7] at h ⊢
      omega
theorem nL_le : ∀ (l : List Tr) (a : Int), 0 ≤ a ∧ a ≤ 4001 → wL l a ≤ 4000 → a + (nL l : Int) ≤ wL l a
  | [], a, h0, h => by rw [wL, nL]; omega
  | k :: ks, a, h0, h => by
    rw [wL] at h ⊢
    rw [nL]
    have hk := wS_nn k
    have h1 := nL_le ks (min (a + wS k) 4001) (by omega) h
    have h2 := n_le k (by omega)
    omega
end
end Go.Proofs.Ytdnbholiijgedaa
