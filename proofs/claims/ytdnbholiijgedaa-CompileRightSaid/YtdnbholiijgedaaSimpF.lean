/-
  simplify.simple in plain words. No condition.
-/
import Derived.Test.YtdnbholiijgedaaSimpE
import Derived.Test.YtdnbholiijgedaaSeq
namespace Go.Proofs.Ytdnbholiijgedaa
open Go.RowKit
set_option linter.unusedVariables false

def hdT (l : List Tr) : Tr := l.headD (opT 0 [] false)
def altS (t : Tr) (l : List Tr) : Tr := match l with
  | [] => opT 1 [] false
  | [x] => x
  | x :: y :: r => { t with kids := x :: y :: r }
def simpleN (t : Tr) (l : List Tr) : Tr :=
  if t.op = 11 then joinedS l
  else if t.op = 12 then altS t (l.filter (fun k => !(k.op == 1)))
  else if t.op = 6 then (if (hdT l).op = 1 then hdT l else { t with kids := l })
  else if t.op = 7 then starS (hdT l) t.lz
  else if t.op = 8 then plusS (hdT l) t.lz
  else if t.op = 9 then questS (hdT l) t.lz
  else if t.op = 10 then
    (if t.mx = 0 then opT 2 [] false
     else if 0 < t.mx then joinedS (List.replicate t.mn.toNat (hdT l) ++ [restS (hdT l) t.lz (t.mx - t.mn).toNat])
     else if t.mn = 0 then starS (hdT l) t.lz
     else joinedS (List.replicate (t.mn - 1).toNat (hdT l) ++ [plusS (hdT l) t.lz]))
  else { t with kids := l }
mutual
def simpleS : Tr → Tr
  | ⟨op, kids, rune, set, at_, cap, name, mn, mx, lz⟩ => simpleN ⟨op, kids, rune, set, at_, cap, name, mn, mx, lz⟩ (simpleL kids)
def simpleL : List Tr → List Tr
  | [] => []
  | k :: ks => simpleS k :: simpleL ks
end
theorem simpleL_map : ∀ l : List Tr, simpleL l = l.map simpleS
  | [] => by rw [simpleL]; rfl
  | k :: ks => by rw [simpleL, simpleL_map ks]; rfl
theorem simpleS_eq (t : Tr) : simpleS t = simpleN t (t.kids.map simpleS) := by cases t; rw [simpleS, simpleL_map]
structure SimOne (t : Tr) (l : List Tr) : Prop where
  one : 6 ≤ t.op → t.op ≤ 10 → t.kids.length = 1
  rep : t.op = 10 → 0 ≤ t.mn ∧ t.mn ≤ 1000 ∧ (t.mx = -1 ∨ t.mn ≤ t.mx ∧ t.mx ≤ 1000)
  kids : t.kids.length ≤ 1000000
  set : t.set.length ≤ 1000000000
  flat : (flatK l).length ≤ 100000000
  part : ∀ x ∈ l, ∀ p ∈ parts x, p.kids.length ≤ 100000
def SimOK (t : Tr) : Prop := ∀ p ∈ parts t, SimOne p (p.kids.map simpleS)
/-- What is known as simple's list is filled: the tree, the result's variable, the list. -/
structure SimSt (ok : Nat → Prop) (w : World) (ct : List Value) (A : Option Addr) (n c : Nat) (ts : List Tr) (wr : World) : Prop where
  bel : Below w.heap.size w wr
  tre : wr.heap[w.heap.size]? = some (.cells ct.toArray 27 (0, 0))
  res : wr.heap[w.heap.size + 1]? = some (.cells #[.int .i64 0, .slice none 0 0, .int .i32 0, .slice none 0 0, .int .i64 0, .int .i64 0, .string ⟨#[]⟩, .int .i64 0, .int .i64 0, .bool false] 27 (0, 0))
  own : ∃ css, Owns wr (w.heap.size + 2) 27 10 (.slice A n c) css ∧ TsC (fun b => (ok b ∧ b < w.heap.size ∨ w.heap.size + 2 ≤ b) ∧ ∀ ad, A = some ad → b ≠ ad.block) wr ts css
def SimRel (ok : Nat → Prop) (w : World) (ct : List Value) (A : Option Addr) (n c : Nat) (ks : List Tr) (s : Value) (wr : World) : Prop :=
  ∃ j : Nat, s = .int .i64 j ∧ j ≤ ks.length ∧ SimSt ok w ct A n c ((ks.take j).map simpleS ++ ks.drop j) wr
theorem simCur {ks : List Tr} {j : Nat} (h : j < ks.length) : ((ks.take j).map simpleS ++ ks.drop j)[j]? = some ks[j] := by
  rw [List.getElem?_append_right (by simp; omega)]
  simp [show j - min j ks.length = 0 by omega]
theorem simNext {ks : List Tr} {j : Nat} (h : j < ks.length) : ((ks.take j).map simpleS ++ ks.drop j).set j (simpleS ks[j]) = (ks.take (j + 1)).map simpleS ++ ks.drop (j + 1) := by
  rw [List.set_append_right _ _ (by simp; omega)]
  rw [List.take_succ_eq_append_getElem h, List.map_append, List.append_assoc]
  congr 1
  rw [show j - (List.map simpleS (ks.take j)).length = 0 by simp; omega, List.drop_eq_getElem_cons h, List.set_cons_zero]
  rfl
theorem TsC.set {ok : Nat → Prop} {w : World} {ts : List Tr} {css : List (List Value)} (h : TsC ok w ts css) {j : Nat} {t : Tr} {c : List Value} (ht : TrC ok w t c) : TsC ok w (ts.set j t) (css.set j c) := by
  refine ⟨by rw [List.length_set, List.length_set, h.1], fun i p c' hp hc => ?_⟩
  by_cases e : j = i
  · subst e
    have h1 : j < ts.length := by have := (List.getElem?_eq_some_iff.1 hp).1; simpa using this
    rw [List.getElem?_set_self h1] at hp
    rw [List.getElem?_set_self (by rw [h.1]; exact h1)] at hc
    cases hp; cases hc
    exact ht
  · rw [List.getElem?_set_ne e] at hp hc
    exact h.2 i p c' hp hc
theorem flatK_rep {x y : Tr} (hx : x.kids.length ≤ 100000) (hy : y.kids.length ≤ 100000) {m : Nat} (hm : m ≤ 1000) : (flatK (List.replicate m x ++ [y])).length ≤ 200000000 := by
  have h1 : ∀ z : Tr, z.kids.length ≤ 100000 → (if z.op = 11 then z.kids else [z]).length ≤ 100000 := fun z hz => by split <;> simp_all
  have h2 : ∀ m, (flatK (List.replicate m x)).length ≤ m * 100000 := by
    intro m
    induction m with
    | zero => simp [flatK]
    | succ m ih =>
      unfold flatK at ih ⊢
      rw [List.replicate_succ, List.flatMap_cons, List.length_append]
      have := h1 x hx
      omega
  have h3 := h2 m
  have h4 := h1 y hy
  unfold flatK at h3 ⊢
  rw [List.flatMap_append, List.length_append]
  simp only [List.flatMap_cons, List.flatMap_nil, List.append_nil]
  omega
theorem TsC.rep {ok : Nat → Prop} {w : World} {x : Tr} {c : List Value} (h : TrC ok w x c) (m : Nat) : TsC ok w (List.replicate m x) (List.replicate m c) := by
  refine ⟨by simp, fun i p c' hp hc => ?_⟩
  have hp' := List.mem_replicate.1 (List.mem_of_getElem? hp)
  have hc' := List.mem_replicate.1 (List.mem_of_getElem? hc)
  rw [hp'.2, hc'.2]; exact h
theorem restS_kids (x : Tr) (lz : Bool) (n : Nat) : (restS x lz n).kids.length ≤ 1 := by
  cases n with
  | zero => exact Nat.zero_le _
  | succ n =>
    rw [restS]; unfold questS; split
    · exact Nat.zero_le _
    · exact Nat.le_refl _
theorem plusS_kids {x : Tr} (lz : Bool) (h : x.kids.length ≤ 100000) : (plusS x lz).kids.length ≤ 100000 := by
  unfold plusS; split
  · exact (show (1 : Nat) ≤ 100000 by omega)
  · exact h
end Go.Proofs.Ytdnbholiijgedaa
