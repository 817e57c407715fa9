/-
  compile's plain law: a program that is told is right; a tree that was made plain has one. No program here but its words.
  compile's plain law, second part: a tree that was made plain has a program. No program here but its words.
-/
import Derived.Test.YtdnbholiijgedaaCompLaw
import Derived.Test.YtdnbholiijgedaaCompile
import Derived.Test.YtdnbholiijgedaaSimpLaw3
import Derived.Test.YtdnbholiijgedaaNormLaw
import Derived.Test.YtdnbholiijgedaaCheck
namespace Go.Proofs.Ytdnbholiijgedaa
open Go.RowKit
set_option linter.unusedVariables false

def Here (L : Nat) (i : Int) : Prop := 0 ≤ i ∧ i < L
/-- An instruction that may be, in a program of L, of g groups. -/
def InW (L : Nat) (g : Int) (x : In) : Prop :=
  (x.op = 1 ∨ x.op = 6) ∧ x.out = 0 ∧ x.arg = 0 ∧ x.at_ = 0 ∧ x.set = [] ∨
  x.op = 2 ∧ Here L x.out ∧ x.set ≠ [] ∧ rightR x.set = true ∧ x.arg = 0 ∧ x.at_ = 0 ∨
  x.op = 3 ∧ Here L x.out ∧ Here L x.arg ∧ x.at_ = 0 ∧ x.set = [] ∨
  x.op = 4 ∧ Here L x.out ∧ 2 ≤ x.arg ∧ x.arg < 2 * g + 2 ∧ x.at_ = 0 ∧ x.set = [] ∨
  x.op = 5 ∧ Here L x.out ∧ ats.contains x.at_ = true ∧ x.arg = 0 ∧ x.set = []
theorem Here.mono {L M : Nat} {i : Int} (h : Here L i) (hm : L ≤ M) : Here M i := ⟨h.1, by have := h.2; omega⟩
theorem InW.mono {L M : Nat} {g : Int} {x : In} (h : InW L g x) (hm : L ≤ M) : InW M g x := by
  rcases h with h | ⟨h0, h1, h⟩ | ⟨h0, h1, h2, h⟩ | ⟨h0, h1, h⟩ | ⟨h0, h1, h⟩
  · exact .inl h
  · exact .inr (.inl ⟨h0, h1.mono hm, h⟩)
  · exact .inr (.inr (.inl ⟨h0, h1.mono hm, h2.mono hm, h⟩))
  · exact .inr (.inr (.inr (.inl ⟨h0, h1.mono hm, h⟩)))
  · exact .inr (.inr (.inr (.inr ⟨h0, h1.mono hm, h⟩)))
theorem InW.right {L : Nat} {g : Int} {x : In} (h : InW L g x) : rightI rightR L (2 * g + 2) x = true := by
  unfold rightI hereB atsB
  rcases h with ⟨h0, h1, h2, h3, h4⟩ | ⟨h0, h1, h2, h3, h4, h5⟩ | ⟨h0, h1, h2, h3, h4⟩ | ⟨h0, h1, h2, h3, h4, h5⟩ | ⟨h0, h1, h2, h3, h4⟩
  · rw [if_pos h0, h1, h2, h3, h4]; rfl
  · rw [if_neg (by omega), if_pos h0, h3, h4, h5, decide_eq_true h1.1, decide_eq_true h1.2]
    simp [h2]
  · rw [if_neg (by omega), if_neg (by omega), if_pos h0, h3, h4, decide_eq_true h1.1, decide_eq_true h1.2, decide_eq_true h2.1, decide_eq_true h2.2]; rfl
  · rw [if_neg (by omega), if_neg (by omega), if_neg (by omega), if_pos h0, h4, h5, decide_eq_true h1.1, decide_eq_true h1.2, decide_eq_false (by omega), decide_eq_false (by omega)]; rfl
  · rw [if_neg (by omega), if_neg (by omega), if_neg (by omega), if_neg (by omega), if_pos h0, h2, h3, h4, decide_eq_true h1.1, decide_eq_true h1.2]; rfl
def StW (g : Int) (s : St) : Prop := s.2 = false → 0 < s.1.length ∧ ∀ x ∈ s.1, InW s.1.length g x
def ToW (s : St) (i : Int) : Prop := s.2 = false → Here s.1.length i
def GrowW (s s' : St) : Prop := s'.2 = false → s.2 = false ∧ s.1.length ≤ s'.1.length
theorem GrowW.refl (s : St) : GrowW s s := fun h => ⟨h, Nat.le_refl _⟩
theorem GrowW.trans {a b c : St} (h : GrowW a b) (k : GrowW b c) : GrowW a c := fun hc => ⟨(h (k hc).1).1, Nat.le_trans (h (k hc).1).2 (k hc).2⟩
theorem ToW.grow {s s' : St} {i : Int} (h : ToW s i) (k : GrowW s s') : ToW s' i := fun hs => (h (k hs).1).mono (k hs).2
structure OutW (g : Int) (s : St) (r : Int × St) : Prop where
  st : StW g r.2
  to : ToW r.2 r.1
  grow : GrowW s r.2
theorem OutW.of_grow {g : Int} {s s1 : St} {r : Int × St} (h : OutW g s1 r) (k : GrowW s s1) : OutW g s r := ⟨h.st, h.to, k.trans h.grow⟩
theorem emit_w {g : Int} {s : St} {x : In} (hs : StW g s) (hx : s.2 = false → InW (s.1.length + 1) g x) : OutW g s (emitS x s) := by
  unfold emitS
  cases h : s.2 with
  | true => rw [if_pos rfl]; exact ⟨fun e => (by rw [h] at e; cases e), fun e => (by rw [h] at e; cases e), fun e => (by rw [h] at e; cases e)⟩
  | false =>
    rw [if_neg (by simp)]
    split
    · exact ⟨fun e => (by cases e), fun e => (by cases e), fun e => (by cases e)⟩
    · refine ⟨fun _ => ⟨by simp, fun y hy => ?_⟩, fun _ => ⟨by show (0 : Int) ≤ (s.1.length : Int); omega, by show ((s.1.length : Nat) : Int) < ((s.1 ++ [x]).length : Nat); rw [List.length_append, List.length_singleton]; omega⟩, fun _ => ⟨h, by simp⟩⟩
      have hl : (s.1 ++ [x]).length = s.1.length + 1 := by simp
      show InW (s.1 ++ [x]).length g y
      rw [hl]
      rcases List.mem_append.1 hy with hy | hy
      · exact ((hs h).2 y hy).mono (by omega)
      · rw [List.mem_singleton.1 hy]; exact hx h
theorem fork_w {L : Nat} {g a b : Int} {lz : Bool} (ha : Here L a) (hb : Here L b) : InW L g (forkI a b lz) := by
  refine .inr (.inr (.inl ⟨rfl, ?_, ?_, rfl, rfl⟩))
  · show Here L (if lz = true then b else a); split <;> assumption
  · show Here L (if lz = true then a else b); split <;> assumption
theorem forks_w {g : Int} : ∀ (l : List Int) (to : Int) (s : St), StW g s → ToW s to → (s.2 = false → ∀ i ∈ l, Here s.1.length i) → OutW g s (forksS l to s)
  | [], to, s, hs, ht, hl => by rw [forksS]; exact ⟨hs, ht, GrowW.refl s⟩
  | i :: l, to, s, hs, ht, hl => by
    rw [forksS]
    have h := forks_w l to s hs ht (fun e j hj => hl e j (by simp [hj]))
    refine (emit_w h.st (fun e => fork_w (((hl (h.grow e).1 i (by simp)).mono (h.grow e).2).mono (Nat.le_succ _)) ((h.to e).mono (Nat.le_succ _)))).of_grow h.grow
theorem set_w {g : Int} {s s2 : St} {x : In} {i : Int} (h2 : StW g s2) (hx : s2.2 = false → InW s2.1.length g x) : StW g (setI s2 i x) ∧ GrowW s2 (setI s2 i x) ∧ (setI s2 i x).1.length = s2.1.length ∧ (setI s2 i x).2 = s2.2 := by
  unfold setI
  cases h : s2.2 with
  | true => rw [if_pos rfl]; exact ⟨h2, GrowW.refl _, rfl, h⟩
  | false =>
    rw [if_neg (by simp)]
    refine ⟨fun _ => ⟨by simpa using (h2 h).1, fun y hy => ?_⟩, fun _ => ⟨h, by simp⟩, by simp, rfl⟩
    show InW (s2.1.set i.toNat x).length g y
    rw [List.length_set]
    rcases List.mem_or_eq_of_mem_set hy with hy | hy
    · exact (h2 h).2 y hy
    · rw [hy]; exact hx h
/-- What a tree's code wants of its parts. -/
structure CodP (p : Tr) : Prop where
  pl : PlainF rightR p
  cap : p.op = 6 → 1 ≤ p.cap
theorem rune_right {r : Int} (h0 : 0 ≤ r) (h1 : r ≤ 1114111) : rightR [⟨r, r⟩] = true :=
  (right_iff _).2 ⟨fun x hx => by rw [List.mem_singleton.1 hx]; exact ⟨h0, Int.le_refl _, h1⟩, List.pairwise_singleton _ _⟩
mutual
theorem code_w (g : Int) : ∀ (t : Tr) (to : Int) (s : St), (∀ p ∈ parts t, CodP p) → StW g s → ToW s to → OutW g s (codeS g t to s)
  | ⟨op, kids, rune, set, at_, cap, name, mn, mx, lz⟩, to, s, hp, hs, ht => by
    have hk : ∀ k ∈ kids, ∀ p ∈ parts k, CodP p := fun k hk p hpp => hp p (by rw [parts_eq, partsL_flat]; exact List.mem_cons_of_mem _ (List.mem_flatMap.2 ⟨k, hk, hpp⟩))
    obtain ⟨hpl, hcap⟩ := hp _ (mem_parts_self _)
    have hv := hpl.val
    obtain ⟨o1', o2', o3', o4', o5', o6'⟩ := hpl.ops
    dsimp only at hcap hv o1' o2' o3' o4' o5' o6'
    rw [codeS]
    by_cases hs2 : s.2 = true
    · rw [if_pos hs2]; exact ⟨hs, fun e => (by rw [hs2] at e; cases e), GrowW.refl _⟩
    rw [if_neg hs2]
    by_cases o1 : op = 1
    · rw [if_pos o1]; exact emit_w hs (fun _ => .inl ⟨.inr rfl, rfl, rfl, rfl, rfl⟩)
    rw [if_neg o1]
    by_cases o3 : op = 3
    · rw [if_pos o3]
      unfold opV at hv
      rw [if_neg (by omega), if_neg (by omega), if_pos o3] at hv
      simp at hv
      exact emit_w hs (fun e => .inr (.inl ⟨rfl, (ht e).mono (Nat.le_succ _), by simp, rune_right hv.1.2 hv.2, rfl, rfl⟩))
    rw [if_neg o3]
    by_cases o4 : op = 4
    · rw [if_pos o4]
      unfold opV at hv
      rw [if_neg (by omega), if_neg (by omega), if_neg (by omega), if_pos o4] at hv
      simp at hv
      exact emit_w hs (fun e => .inr (.inl ⟨rfl, (ht e).mono (Nat.le_succ _), List.length_pos_iff.1 hv.1.2, hv.2, rfl, rfl⟩))
    rw [if_neg o4]
    by_cases o5 : op = 5
    · rw [if_pos o5]
      unfold opV at hv
      rw [if_neg (by omega), if_neg (by omega), if_neg (by omega), if_neg (by omega), if_pos o5, Bool.and_eq_true] at hv
      exact emit_w hs (fun e => .inr (.inr (.inr (.inr ⟨rfl, (ht e).mono (Nat.le_succ _), hv.2, rfl, rfl⟩))))
    rw [if_neg o5]
    by_cases o6 : op = 6
    · rw [if_pos o6]
      have hc := hcap o6
      by_cases hg : g < cap
      · rw [if_pos hg]; exact codeH_w g kids to s hk (o4' (by omega) (by omega)) hs ht
      rw [if_neg hg]
      have e1 := emit_w (g := g) (s := s) (x := ⟨4, to, 2 * cap + 1, [], 0⟩) hs (fun e => .inr (.inr (.inr (.inl ⟨rfl, (ht e).mono (Nat.le_succ _), by show 2 ≤ 2 * cap + 1; omega, by show 2 * cap + 1 < 2 * g + 2; omega, rfl, rfl⟩))))
      have e2 := codeH_w g kids (emitS ⟨4, to, 2 * cap + 1, [], 0⟩ s).1 (emitS ⟨4, to, 2 * cap + 1, [], 0⟩ s).2 hk (o4' (by omega) (by omega)) e1.st e1.to
      exact ((emit_w e2.st (fun e => .inr (.inr (.inr (.inl ⟨rfl, (e2.to e).mono (Nat.le_succ _), by show 2 ≤ 2 * cap; omega, by show 2 * cap < 2 * g + 2; omega, rfl, rfl⟩))))).of_grow e2.grow).of_grow e1.grow
    rw [if_neg o6]
    by_cases o11 : op = 11
    · rw [if_pos o11]; exact codeR_w g kids to s hk hs ht
    rw [if_neg o11]
    by_cases o12 : op = 12
    · rw [if_pos o12]
      obtain ⟨a1, a2, a3⟩ := codeA_w g kids to s hk hs ht
      have hne : (codeA g kids to s).1 ≠ [] := by
        intro e
        have h1 := codeA_len (g := g) (to := to) kids s
        rw [e] at h1
        have := o5' o12
        simp at h1; omega
      refine (forks_w _ _ _ a1 (fun e => ?_) (fun e i hi => a3 e i (List.dropLast_subset _ hi))).of_grow a2
      refine a3 e _ ?_
      rw [List.getLastD_eq_getLast?, List.getLast?_eq_some_getLast hne]
      exact List.getLast_mem hne
    rw [if_neg o12]
    by_cases o9 : op = 9
    · rw [if_pos o9]
      have e2 := codeH_w g kids to s hk (o4' (by omega) (by omega)) hs ht
      exact (emit_w e2.st (fun e => fork_w ((e2.to e).mono (Nat.le_succ _)) (((ht (e2.grow e).1).mono (e2.grow e).2).mono (Nat.le_succ _)))).of_grow e2.grow
    rw [if_neg o9]
    by_cases o7 : op = 7 ∨ op = 8
    · rw [if_pos o7]
      have e1 := emit_w (g := g) (s := s) (x := ⟨3, 0, 0, [], 0⟩) hs (fun e => .inr (.inr (.inl ⟨rfl, ⟨Int.le_refl _, by show (0 : Int) < _; omega⟩, ⟨Int.le_refl _, by show (0 : Int) < _; omega⟩, rfl, rfl⟩)))
      have e2 := codeH_w g kids (emitS ⟨3, 0, 0, [], 0⟩ s).1 (emitS ⟨3, 0, 0, [], 0⟩ s).2 hk (o4' (by omega) (by omega)) e1.st e1.to
      obtain ⟨s1, s2, s3, s4⟩ := set_w (s := s) (i := (emitS ⟨3, 0, 0, [], 0⟩ s).1) e2.st (fun e => fork_w (lz := lz) (e2.to e) ((ht (e1.grow (e2.grow e).1).1).mono (Nat.le_trans (e1.grow (e2.grow e).1).2 (e2.grow e).2)))
      refine ⟨s1, fun e => ?_, (e1.grow.trans e2.grow).trans s2⟩
      show Here (setI _ _ _).1.length _
      rw [s3]
      have e' : (codeH g kids (emitS ⟨3, 0, 0, [], 0⟩ s).1 (emitS ⟨3, 0, 0, [], 0⟩ s).2).2.2 = false := by rw [← s4]; exact e
      split
      · exact (e1.to (e2.grow e').1).mono (e2.grow e').2
      · exact e2.to e'
    rw [if_neg o7]
    exact ⟨hs, ht, GrowW.refl s⟩
theorem codeH_w (g : Int) : ∀ (l : List Tr) (to : Int) (s : St), (∀ k ∈ l, ∀ p ∈ parts k, CodP p) → l.length = 1 → StW g s → ToW s to → OutW g s (codeH g l to s)
  | [], to, s, hp, hl, hs, ht => by simp at hl
  | k :: ks, to, s, hp, hl, hs, ht => by rw [codeH]; exact code_w g k to s (hp k (by simp)) hs ht
theorem codeR_w (g : Int) : ∀ (l : List Tr) (to : Int) (s : St), (∀ k ∈ l, ∀ p ∈ parts k, CodP p) → StW g s → ToW s to → OutW g s (codeR g l to s)
  | [], to, s, hp, hs, ht => by rw [codeR]; exact ⟨hs, ht, GrowW.refl s⟩
  | k :: ks, to, s, hp, hs, ht => by
    rw [codeR]
    have e1 := codeR_w g ks to s (fun k hk => hp k (by simp [hk])) hs ht
    exact (code_w g k _ _ (hp k (by simp)) e1.st e1.to).of_grow e1.grow
theorem codeA_w (g : Int) : ∀ (l : List Tr) (to : Int) (s : St), (∀ k ∈ l, ∀ p ∈ parts k, CodP p) → StW g s → ToW s to → StW g (codeA g l to s).2 ∧ GrowW s (codeA g l to s).2 ∧ ((codeA g l to s).2.2 = false → ∀ i ∈ (codeA g l to s).1, Here (codeA g l to s).2.1.length i)
  | [], to, s, hp, hs, ht => by rw [codeA]; exact ⟨hs, GrowW.refl s, fun _ i hi => by simp at hi⟩
  | k :: ks, to, s, hp, hs, ht => by
    rw [codeA]
    have e1 := code_w g k to s (hp k (by simp)) hs ht
    obtain ⟨a1, a2, a3⟩ := codeA_w g ks to (codeS g k to s).2 (fun k hk => hp k (by simp [hk])) e1.st (ht.grow e1.grow)
    refine ⟨a1, e1.grow.trans a2, fun e i hi => ?_⟩
    rcases List.mem_cons.1 hi with rfl | hi
    · exact (e1.to (a2 e).1).mono (a2 e).2
    · exact a3 e i hi
end
theorem start_w (g : Int) : StW g ([⟨1, 0, 0, [], 0⟩], false) ∧ ToW ([⟨1, 0, 0, [], 0⟩], false) 0 :=
  ⟨fun _ => ⟨by simp, fun x hx => by rw [List.mem_singleton.1 hx]; exact .inl ⟨.inl rfl, rfl, rfl, rfl, rfl⟩⟩, fun _ => ⟨Int.le_refl _, by show (0 : Int) < 1; omega⟩⟩
end Go.Proofs.Ytdnbholiijgedaa
namespace Go.Proofs.Ytdnbholiijgedaa
open Go.RowKit
set_option linter.unusedVariables false

mutual
/-- How many instructions a tree has at most. -/
def cI : Tr → Nat
  | ⟨op, kids, rune, set, at_, cap, name, mn, mx, lz⟩ => if op = 6 then cL kids + 2 else if op = 12 then cL kids + kids.length else if op = 7 ∨ op = 8 ∨ op = 9 then cL kids + 1 else if op = 11 then cL kids else if op = 2 then 0 else 1
def cL : List Tr → Nat
  | [] => 0
  | k :: ks => cI k + cL ks
end
theorem cI_eq (t : Tr) : cI t = if t.op = 6 then cL t.kids + 2 else if t.op = 12 then cL t.kids + t.kids.length else if t.op = 7 ∨ t.op = 8 ∨ t.op = 9 then cL t.kids + 1 else if t.op = 11 then cL t.kids else if t.op = 2 then 0 else 1 := by cases t; rw [cI]
theorem cL_app : ∀ a b : List Tr, cL (a ++ b) = cL a + cL b
  | [], b => by rw [List.nil_append, cL]; omega
  | k :: a, b => by rw [List.cons_append, cL, cL, cL_app a b]; omega
theorem cL_one (x : Tr) : cL [x] = cI x := by rw [cL, cL]; rfl
theorem cL_rep (x : Tr) : ∀ n, cL (List.replicate n x) = n * cI x
  | 0 => by rw [List.replicate_zero, cL]; omega
  | n + 1 => by rw [List.replicate_succ, cL, cL_rep x n, Nat.succ_mul]; omega
/-- It fits: nothing is too many, so many more at most. -/
def Fit (n : Nat) (s s' : St) : Prop := s.2 = false → s.1.length + n ≤ 10000 → s'.2 = false ∧ s'.1.length ≤ s.1.length + n
theorem Fit.refl (s : St) : Fit 0 s s := fun h _ => ⟨h, Nat.le_refl _⟩
theorem Fit.mono {n m : Nat} {s s' : St} (h : Fit n s s') (hm : n ≤ m) : Fit m s s' := fun h1 h2 => by
  obtain ⟨h3, h4⟩ := h h1 (by omega)
  exact ⟨h3, by omega⟩
theorem Fit.trans {n m : Nat} {a b c : St} (h : Fit n a b) (k : Fit m b c) : Fit (n + m) a c := fun h1 h2 => by
  obtain ⟨h3, h4⟩ := h h1 (by omega)
  obtain ⟨h5, h6⟩ := k h3 (by omega)
  exact ⟨h5, by omega⟩
theorem emit_fit (x : In) (s : St) : Fit 1 s (emitS x s).2 := fun h1 h2 => by
  unfold emitS
  rw [if_neg (by rw [h1]; simp), if_neg (by omega)]
  exact ⟨rfl, by simp⟩
theorem forks_fit : ∀ (l : List Int) (to : Int) (s : St), Fit l.length s (forksS l to s).2
  | [], to, s => by rw [forksS]; exact Fit.refl s
  | i :: l, to, s => by rw [forksS]; exact (forks_fit l to s).trans (emit_fit _ _)
theorem set_fit (s : St) (i : Int) (x : In) : Fit 0 s (setI s i x) := fun h1 h2 => by
  unfold setI
  rw [if_neg (by rw [h1]; simp)]
  exact ⟨h1, by simp⟩
mutual
theorem code_fit (g : Int) : ∀ (t : Tr) (to : Int) (s : St), Fit (cI t) s (codeS g t to s).2
  | ⟨op, kids, rune, set, at_, cap, name, mn, mx, lz⟩, to, s => by
    rw [codeS]
    generalize hci : cI ⟨op, kids, rune, set, at_, cap, name, mn, mx, lz⟩ = N
    rw [cI] at hci
    by_cases hs : s.2 = true
    · intro h; rw [h] at hs; cases hs
    rw [if_neg hs]
    by_cases o1 : op = 1
    · rw [if_neg (by omega), if_neg (by omega), if_neg (by omega), if_neg (by omega), if_neg (by omega)] at hci; rw [if_pos o1, ← hci]; exact emit_fit _ _
    rw [if_neg o1]
    by_cases o3 : op = 3
    · rw [if_neg (by omega), if_neg (by omega), if_neg (by omega), if_neg (by omega), if_neg (by omega)] at hci; rw [if_pos o3, ← hci]; exact emit_fit _ _
    rw [if_neg o3]
    by_cases o4 : op = 4
    · rw [if_neg (by omega), if_neg (by omega), if_neg (by omega), if_neg (by omega), if_neg (by omega)] at hci; rw [if_pos o4, ← hci]; exact emit_fit _ _
    rw [if_neg o4]
    by_cases o5 : op = 5
    · rw [if_neg (by omega), if_neg (by omega), if_neg (by omega), if_neg (by omega), if_neg (by omega)] at hci; rw [if_pos o5, ← hci]; exact emit_fit _ _
    rw [if_neg o5]
    by_cases o6 : op = 6
    · rw [if_pos o6] at hci
      rw [if_pos o6, ← hci]
      by_cases hg : g < cap
      · rw [if_pos hg]; exact (codeH_fit g kids to s).mono (by omega)
      · rw [if_neg hg]; exact (((emit_fit _ s).trans (codeH_fit g kids _ _)).trans (emit_fit _ _)).mono (by omega)
    rw [if_neg o6] at hci ⊢
    by_cases o11 : op = 11
    · rw [if_neg (by omega), if_neg (by omega), if_pos o11] at hci
      rw [if_pos o11, ← hci]; exact codeR_fit g kids to s
    rw [if_neg o11]
    by_cases o12 : op = 12
    · rw [if_pos o12] at hci
      rw [if_pos o12, ← hci]
      exact ((codeA_fit g kids to s).trans (forks_fit _ _ _)).mono (by have := codeA_dl g to kids s; omega)
    rw [if_neg o12] at hci ⊢
    by_cases o9 : op = 9
    · rw [if_pos (by omega)] at hci
      rw [if_pos o9, ← hci]
      exact (codeH_fit g kids to s).trans (emit_fit _ _)
    rw [if_neg o9]
    by_cases o7 : op = 7 ∨ op = 8
    · rw [if_pos (by omega)] at hci
      rw [if_pos o7, ← hci]
      exact (((emit_fit _ s).trans (codeH_fit g kids _ _)).trans (set_fit _ _ _)).mono (by omega)
    rw [if_neg o7]
    exact (Fit.refl s).mono (by omega)
theorem codeH_fit (g : Int) : ∀ (l : List Tr) (to : Int) (s : St), Fit (cL l) s (codeH g l to s).2
  | [], to, s => by rw [codeH, cL]; exact Fit.refl s
  | k :: ks, to, s => by rw [codeH, cL]; exact (code_fit g k to s).mono (by omega)
theorem codeR_fit (g : Int) : ∀ (l : List Tr) (to : Int) (s : St), Fit (cL l) s (codeR g l to s).2
  | [], to, s => by rw [codeR, cL]; exact Fit.refl s
  | k :: ks, to, s => by rw [codeR, cL]; exact ((codeR_fit g ks to s).trans (code_fit g k _ _)).mono (by omega)
theorem codeA_fit (g : Int) : ∀ (l : List Tr) (to : Int) (s : St), Fit (cL l) s (codeA g l to s).2
  | [], to, s => by rw [codeA, cL]; exact Fit.refl s
  | k :: ks, to, s => by rw [codeA, cL]; exact (code_fit g k to s).trans (codeA_fit g ks to _)
end
/-! ### what a tree made plain weighs so -/
theorem cL_filter (p : Tr → Bool) : ∀ l : List Tr, cL (l.filter p) ≤ cL l
  | [] => Nat.le_refl _
  | k :: l => by
    rw [List.filter_cons, cL]
    have h := cL_filter p l
    split
    · rw [cL]; omega
    · omega
theorem cL_flat : ∀ l : List Tr, cL (flatK l) ≤ cL l
  | [] => Nat.le_refl _
  | k :: l => by
    have h := cL_flat l
    unfold flatK at h ⊢
    rw [List.flatMap_cons, cL_app, cL]
    have h2 : cL (if k.op = 11 then k.kids else [k]) ≤ cI k := by
      split
      · rename_i e; rw [cI_eq, if_neg (by omega), if_neg (by omega), if_neg (by omega), if_pos e]; exact Nat.le_refl _
      · rw [cL_one]; exact Nat.le_refl _
    omega
theorem cL_mem : ∀ (l : List Tr) (k : Tr), k ∈ l → cI k ≤ cL l
  | [], k, h => by simp at h
  | x :: l, k, h => by
    rw [cL]
    rcases List.mem_cons.1 h with rfl | h
    · omega
    · have := cL_mem l k h; omega
theorem cI_opT1 (l : List Tr) (lz : Bool) : cI (opT 1 l lz) = 1 := by rw [cI_eq]; rfl
theorem cI_opT2 (l : List Tr) (lz : Bool) : cI (opT 2 l lz) = 0 := by rw [cI_eq]; rfl
theorem cI_opT11 (l : List Tr) (lz : Bool) : cI (opT 11 l lz) = cL l := by rw [cI_eq]; rfl
theorem cI_opT789 (op : Int) (l : List Tr) (lz : Bool) (h : op = 7 ∨ op = 8 ∨ op = 9) : cI (opT op l lz) = cL l + 1 := by
  have e : (opT op l lz).op = op := rfl
  rw [cI_eq, e, if_neg (by omega), if_neg (by omega), if_pos h]; rfl
theorem joined_cI (l : List Tr) : cI (joinedS l) ≤ cL l := by
  unfold joinedS
  have h1 := cL_filter (fun t => !(t.op == 2)) (flatK l)
  have h2 := cL_flat l
  simp only
  split
  · rename_i hn
    rw [cI_opT1]
    obtain ⟨k, hk, he⟩ := List.any_eq_true.1 hn
    have h3 := cL_mem _ k hk
    have h4 : cI k = 1 := by
      have e : k.op = 1 := by simpa using he
      rw [cI_eq, if_neg (by omega), if_neg (by omega), if_neg (by omega), if_neg (by omega), if_neg (by omega)]
    omega
  · split
    · rw [cI_opT2]; omega
    · rename_i x hx; rw [hx, cL_one] at h1; omega
    · rename_i x y r hx; rw [hx] at h1; rw [cI_opT11]; omega
theorem star_cI (x : Tr) (lz : Bool) : cI (starS x lz) ≤ 1 + cI x := by
  unfold starS
  split
  · rw [cI_opT789 _ _ _ (by omega), cL_one]; omega
  · rw [cI_opT2]; omega
theorem plus_cI (x : Tr) (lz : Bool) : cI (plusS x lz) ≤ 1 + cI x := by
  unfold plusS
  split
  · rw [cI_opT789 _ _ _ (by omega), cL_one]; omega
  · omega
theorem quest_cI (x : Tr) (lz : Bool) : cI (questS x lz) ≤ 1 + cI x := by
  unfold questS
  split
  · rw [cI_opT2]; omega
  · rw [cI_opT789 _ _ _ (by omega), cL_one]; omega
theorem rest_cI (x : Tr) (lz : Bool) : ∀ n, cI (restS x lz n) ≤ n * (cI x + 1)
  | 0 => by rw [restS, cI_opT2]; omega
  | n + 1 => by
    have h1 := quest_cI (joinedS [x, restS x lz n]) lz
    have h2 := joined_cI [x, restS x lz n]
    have h3 := rest_cI x lz n
    rw [cL, cL_one] at h2
    rw [restS, Nat.succ_mul]
    omega
theorem cL_map {l : List Tr} (h : ∀ k ∈ l, (cI (simpleS k) : Int) ≤ wS k) : (cL (l.map simpleS) : Int) ≤ wSum l := by
  induction l with
  | nil => simp [cL, wSum]
  | cons k l ih =>
    rw [List.map_cons, cL, wSum]
    have h1 := h k (by simp)
    have h2 := ih (fun x hx => h x (by simp [hx]))
    omega
theorem simple_cI (R : List Rg → Bool) : ∀ (n : Nat) (t : Tr), szT t ≤ n → (∀ p ∈ parts t, PlainF R p) → wS t ≤ 4000 → (cI (simpleS t) : Int) ≤ wS t := by
  intro n
  induction n with
  | zero => intro t h; rw [szT_eq] at h; omega
  | succ n ih =>
    intro t hn hp hw
    have hpt := hp t (mem_parts_self t)
    obtain ⟨o1, o2, o3, o4, o5, o6⟩ := hpt.ops
    obtain ⟨w1, w2, w3, w4, w5, w6⟩ := wS_kids hw (fun h => List.eq_nil_of_length_eq_zero (o3 h)) o2 o5
    have hk : ∀ k ∈ t.kids, (cI (simpleS k) : Int) ≤ wS k := fun k hk => by
      obtain ⟨i, hi, rfl⟩ := List.getElem_of_mem hk
      refine ih _ (by have := parts_kid hi; unfold szT at hn ⊢; omega) (fun p hp' => hp p (mem_parts_kid hi hp')) ?_
      have := wS_mem t.kids _ hk
      omega
    have hs := cL_map hk
    rw [simpleS_eq]
    have hln : (t.kids.map simpleS).length = t.kids.length := List.length_map _
    generalize t.kids.map simpleS = l at *
    have hh : 6 ≤ t.op → t.op ≤ 10 → cI (hdT l) = cL l := fun a b => by
      have h1 := o4 a b
      rw [← hln] at h1
      match l, h1 with
      | [x], _ => rw [cL_one]; rfl
    unfold simpleN
    by_cases a11 : t.op = 11
    · rw [if_pos a11]; have := joined_cI l; have := w5 (by omega); omega
    rw [if_neg a11]
    by_cases a12 : t.op = 12
    · rw [if_pos a12]
      have h1 := cL_filter (fun k => !(k.op == 1)) l
      have h2 := w3 a12
      have h3 := o5 a12
      have h4 : (l.filter (fun k => !(k.op == 1))).length ≤ l.length := List.length_filter_le _ _
      unfold altS
      split
      · rw [cI_opT1]; omega
      · rename_i x hx; rw [hx, cL_one] at h1; omega
      · rename_i x y r hx
        rw [hx] at h1 h4
        rw [cI_eq, if_neg (by show ¬ t.op = 6; omega), if_pos (show t.op = 12 from a12)]
        show ((cL (x :: y :: r) + (x :: y :: r).length : Nat) : Int) ≤ _
        omega
    rw [if_neg a12]
    by_cases a6 : t.op = 6
    · rw [if_pos a6]
      have h1 := hh (by omega) (by omega)
      have h2 := w2 a6
      split
      · rw [h1]; omega
      · rw [cI_eq, if_pos (show t.op = 6 from a6)]
        show ((cL l + 2 : Nat) : Int) ≤ _
        omega
    rw [if_neg a6]
    by_cases a7 : t.op = 7
    · rw [if_pos a7]; have := hh (by omega) (by omega); have := w5 (by omega); have := star_cI (hdT l) t.lz; omega
    rw [if_neg a7]
    by_cases a8 : t.op = 8
    · rw [if_pos a8]; have := hh (by omega) (by omega); have := w5 (by omega); have := plus_cI (hdT l) t.lz; omega
    rw [if_neg a8]
    by_cases a9 : t.op = 9
    · rw [if_pos a9]; have := hh (by omega) (by omega); have := w5 (by omega); have := quest_cI (hdT l) t.lz; omega
    rw [if_neg a9]
    by_cases a10 : t.op = 10
    · rw [if_pos a10]
      have h1 := hh (by omega) (by omega)
      have h2 := w4 a10
      obtain ⟨r1, r2, r3⟩ := o6 a10
      have hnn := wSum_nn t.kids
      rw [← h1] at hs
      generalize hdT l = x at *
      generalize wSum t.kids = W at *
      have mulN : ∀ (m : Nat) (k : Int), (m : Int) ≤ k → ((m * cI x : Nat) : Int) ≤ W * k := fun m k hmk => by
        have e1 : ((m * cI x : Nat) : Int) ≤ (m : Int) * W := by rw [Int.natCast_mul]; exact Int.mul_le_mul_of_nonneg_left hs (by omega)
        have e2 : (m : Int) * W ≤ k * W := Int.mul_le_mul_of_nonneg_right hmk (by omega)
        rw [Int.mul_comm W k]; omega
      split
      · rw [cI_opT2]; have : 0 ≤ W * max (max t.mn t.mx) 1 := Int.mul_nonneg hnn (by omega); omega
      split
      · rename_i hx0 hxp
        have hj := joined_cI (List.replicate t.mn.toNat x ++ [restS x t.lz (t.mx - t.mn).toNat])
        have hr := rest_cI x t.lz (t.mx - t.mn).toNat
        rw [cL_app, cL_rep, cL_one] at hj
        have hmax : max (max t.mn t.mx) 1 = t.mx := by omega
        rw [hmax] at h2
        have hm := mulN (t.mn.toNat + (t.mx - t.mn).toNat) t.mx (by omega)
        rw [Nat.add_mul] at hm
        rw [Nat.mul_add] at hr
        omega
      split
      · have hst := star_cI x t.lz
        have hm := mulN 1 (max (max t.mn t.mx) 1) (by omega)
        omega
      · have hj := joined_cI (List.replicate (t.mn - 1).toNat x ++ [plusS x t.lz])
        have hr := plus_cI x t.lz
        rw [cL_app, cL_rep, cL_one] at hj
        have hmax : max (max t.mn t.mx) 1 = t.mn := by omega
        rw [hmax] at h2
        have hm := mulN ((t.mn - 1).toNat + 1) t.mn (by omega)
        rw [Nat.add_mul] at hm
        omega
    rw [if_neg a10, cI_eq]
    show (((if t.op = 6 then _ else if t.op = 12 then _ else if t.op = 7 ∨ t.op = 8 ∨ t.op = 9 then _ else if t.op = 11 then _ else if t.op = 2 then 0 else 1 : Nat)) : Int) ≤ _
    rw [if_neg a6, if_neg a12, if_neg (by omega), if_neg a11]
    split <;> omega
/-! ### compile's answer -/
theorem comp_parts {t : Tr} {g : Int} (h : compB t g = true) : (∀ p ∈ parts t, CodP p) ∧ 0 ≤ g ∧ g ≤ 2000 := by
  unfold compB at h
  simp only [Bool.and_eq_true, decide_eq_true_eq] at h
  refine ⟨fun p hp => ?_, h.1.2, h.2⟩
  have h1 := List.all_eq_true.1 h.1.1.1 p hp
  unfold goodP at h1
  rw [Bool.and_eq_true] at h1
  refine ⟨plainF_iff.1 h1.1, fun e => ?_⟩
  have h2 := h1.2
  simp [e] at h2
  exact h2
theorem comp_check {t : Tr} {g : Int} (h : (compR t g).2.2.2 = 0) : checkS rightR ⟨(compR t g).1, (compR t g).2.1, (compR t g).2.2.1⟩ = 0 := by
  unfold compR at h ⊢
  by_cases hb : compB t g = true
  · rw [if_pos hb] at h ⊢
    obtain ⟨hp, hg0, hg1⟩ := comp_parts hb
    by_cases ho : (compS t g).2.2 = true
    · rw [if_pos ho] at h; exact absurd h (by decide)
    · rw [if_neg ho]
      have ho' : (compS t g).2.2 = false := by simpa using ho
      have hw := code_w g t 0 ([⟨1, 0, 0, [], 0⟩], false) hp (start_w g).1 (start_w g).2
      have hs : StW g (compS t g).2 := hw.st
      have ht : ToW (compS t g).2 (compS t g).1 := hw.to
      have hlen : (compS t g).2.1.length ≤ 10000 := codeS_len g t 0 _ (by simp)
      generalize compS t g = C at *
      obtain ⟨i, l, b⟩ := C
      dsimp only at *
      subst ho'
      obtain ⟨h1, h2⟩ := hs rfl
      obtain ⟨h3, h4⟩ := ht rfl
      dsimp only at h1 h2 h3 h4
      unfold checkS
      dsimp only
      rw [if_neg (by omega), if_neg]
      rw [List.any_eq_true]
      rintro ⟨x, hx, he⟩
      rw [(h2 x hx).right] at he
      cases he
  · rw [if_neg hb] at h; exact absurd h (by decide)
theorem comp_none' {t : Tr} {g : Int} (h : (compR t g).2.2.2 ≠ 0) : (compR t g).1 = [] := by
  unfold compR at h ⊢
  split
  · rename_i hb
    rw [if_pos hb] at h
    split
    · rfl
    · rename_i ho; rw [if_neg ho] at h; exact absurd rfl h
  · rfl
theorem comp_simple {t : Tr} {g : Int} (hs : GoodT (simpleS t)) (hr : rightTB rightR t = true) (h0 : 0 ≤ g) (h1 : g ≤ 2000) : (compR (simpleS t) g).2.2.2 = 0 := by
  have hB : compB (simpleS t) g = true := by
    unfold compB
    have hsh : shapedB rightR (simpleS t) = true := by
      unfold shapedB
      rw [List.all_eq_true]
      intro p hp
      have hN := hs p hp
      unfold goodP
      rw [plainF_iff.2 hN.pl]
      have hc := hN.cap
      simp
      omega
    have hcn : countedB (simpleS t) = false := by
      unfold countedB
      rw [Bool.eq_false_iff]
      intro e
      obtain ⟨p, hp, he⟩ := List.any_eq_true.1 e
      exact (hs p hp).no10 (by simpa using he)
    rw [hsh, hcn, decide_eq_true h0, decide_eq_true h1]; rfl
  have hc := simple_cI rightR _ t (Nat.le_refl _) (fun p hp => ((right_facts hr).2 p hp).1) (right_facts hr).1
  have hw := (right_facts hr).1
  have hf := code_fit g (simpleS t) 0 ([⟨1, 0, 0, [], 0⟩], false) rfl (by simp; omega)
  unfold compR
  rw [if_pos hB, if_neg]
  rw [show (compS (simpleS t) g).2.2 = false from hf.1]
  simp
end Go.Proofs.Ytdnbholiijgedaa
