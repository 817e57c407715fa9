/-
  simplify.simple: the plain law, second part: sizes. No program here but its words.
-/
import Derived.Test.YtdnbholiijgedaaSimpLaw
namespace Go.Proofs.Ytdnbholiijgedaa
open Go.RowKit
set_option linter.unusedVariables false

def szT (t : Tr) : Nat := (parts t).length
def szL (l : List Tr) : Nat := (l.flatMap parts).length
theorem szT_eq (t : Tr) : szT t = 1 + szL t.kids := by unfold szT szL; rw [parts_eq, partsL_flat, List.length_cons]; omega
theorem szL_cons (k : Tr) (l : List Tr) : szL (k :: l) = szT k + szL l := by unfold szL szT; rw [List.flatMap_cons, List.length_append]
theorem szL_nil : szL [] = 0 := rfl
theorem szL_app (a b : List Tr) : szL (a ++ b) = szL a + szL b := by unfold szL; rw [List.flatMap_append, List.length_append]
theorem szL_rep (x : Tr) (n : Nat) : szL (List.replicate n x) = n * szT x := by
  induction n with
  | zero => simp [szL]
  | succ n ih => rw [List.replicate_succ, szL_cons, ih, Nat.succ_mul]; omega
theorem szL_filter (p : Tr → Bool) : ∀ l : List Tr, szL (l.filter p) ≤ szL l
  | [] => Nat.le_refl _
  | k :: l => by
    rw [List.filter_cons, szL_cons]
    have h := szL_filter p l
    split
    · rw [szL_cons]; omega
    · omega
theorem szL_flat : ∀ l : List Tr, szL (flatK l) ≤ szL l
  | [] => Nat.le_refl _
  | k :: l => by
    have h := szL_flat l
    unfold flatK at h ⊢
    rw [List.flatMap_cons, szL_app, szL_cons]
    have h2 : szL (if k.op = 11 then k.kids else [k]) ≤ szT k := by
      split
      · rw [szT_eq]; omega
      · rw [szL_cons, szL_nil]; omega
    omega
theorem len_szL : ∀ l : List Tr, l.length ≤ szL l
  | [] => Nat.le_refl _
  | k :: l => by
    rw [List.length_cons, szL_cons, szT_eq]
    have := len_szL l
    omega
theorem kids_szT (t : Tr) : t.kids.length ≤ szT t := by rw [szT_eq]; have := len_szL t.kids; omega
theorem parts_both : ∀ (n : Nat) (t : Tr), szT t ≤ n → ∀ p ∈ parts t, szT p ≤ szT t ∧ ∀ q ∈ parts p, q ∈ parts t := by
  intro n
  induction n with
  | zero => intro t h; rw [szT_eq] at h; omega
  | succ n ih =>
    intro t hn p hpp
    rw [parts_eq] at hpp
    rcases List.mem_cons.1 hpp with rfl | hpp
    · exact ⟨Nat.le_refl _, fun q hq => hq⟩
    · rw [partsL_flat] at hpp
      obtain ⟨k, hk, hpk⟩ := List.mem_flatMap.1 hpp
      obtain ⟨i, hi, rfl⟩ := List.getElem_of_mem hk
      have hk9 := parts_kid hi
      obtain ⟨h1, h2⟩ := ih _ (by unfold szT at hn ⊢; omega) p hpk
      exact ⟨by unfold szT at *; omega, fun q hq => mem_parts_kid hi (h2 q hq)⟩
theorem parts_trans {t p q : Tr} (hp : p ∈ parts t) (hq : q ∈ parts p) : q ∈ parts t := (parts_both _ t (Nat.le_refl _) p hp).2 q hq
theorem sz_part {t p : Tr} (hp : p ∈ parts t) : szT p ≤ szT t := (parts_both _ t (Nat.le_refl _) p hp).1
theorem opT_sz (op : Int) (l : List Tr) (lz : Bool) : szT (opT op l lz) = 1 + szL l := szT_eq _
theorem joined_sz (l : List Tr) : szT (joinedS l) ≤ 1 + szL l := by
  unfold joinedS
  have h1 := szL_filter (fun t => !(t.op == 2)) (flatK l)
  have h2 := szL_flat l
  simp only
  split
  · rw [opT_sz, szL_nil]; omega
  · split
    · rw [opT_sz, szL_nil]; omega
    · rename_i x hx
      rw [hx, szL_cons, szL_nil] at h1; omega
    · rename_i x y r hx
      rw [hx] at h1
      rw [opT_sz]; omega
theorem star_sz (x : Tr) (lz : Bool) : szT (starS x lz) ≤ 1 + szT x := by
  unfold starS
  split
  · rw [opT_sz, szL_cons, szL_nil]; omega
  · rw [opT_sz, szL_nil]; omega
theorem plus_sz (x : Tr) (lz : Bool) : szT (plusS x lz) ≤ 1 + szT x := by
  unfold plusS
  split
  · rw [opT_sz, szL_cons, szL_nil]; omega
  · omega
theorem quest_sz (x : Tr) (lz : Bool) : szT (questS x lz) ≤ 1 + szT x := by
  unfold questS
  split
  · rw [opT_sz, szL_nil]; omega
  · rw [opT_sz, szL_cons, szL_nil]; omega
theorem rest_sz (x : Tr) (lz : Bool) : ∀ n, szT (restS x lz n) ≤ 1 + n * (szT x + 2)
  | 0 => by rw [restS, opT_sz, szL_nil]; omega
  | n + 1 => by
    have h1 := quest_sz (joinedS [x, restS x lz n]) lz
    have h2 := joined_sz [x, restS x lz n]
    have h3 := rest_sz x lz n
    rw [szL_cons, szL_cons, szL_nil] at h2
    rw [restS, Nat.succ_mul]
    omega
/-- The sum of the weights, uncapped where nothing is capped. -/
def wSum : List Tr → Int
  | [] => 0
  | k :: l => wS k + wSum l
theorem wSum_nn : ∀ l : List Tr, 0 ≤ wSum l
  | [] => Int.le_refl _
  | k :: l => by rw [wSum]; have := (wS_nn k).1; have := wSum_nn l; omega
theorem wL_sum : ∀ (l : List Tr) (a : Int), 0 ≤ a → wL l a ≤ 4000 → wL l a = a + wSum l
  | [], a, _, _ => by rw [wL, wSum]; omega
  | k :: l, a, h0, h => by
    rw [wL] at h ⊢
    have h1 := (wS_nn k).1
    by_cases hc : a + wS k ≤ 4000
    · rw [Int.min_eq_left (by omega)] at h ⊢
      rw [wL_sum l _ (by omega) h, wSum]; omega
    · have hmono : ∀ (l : List Tr) (a : Int), 4001 ≤ a → 4001 ≤ wL l a := by
        intro l
        induction l with
        | nil => intro a ha; rw [wL]; exact ha
        | cons k l ih => intro a ha; rw [wL]; exact ih _ (by have := (wS_nn k).1; omega)
      have := hmono l (min (a + wS k) 4001) (by omega)
      omega
theorem wS_mem : ∀ (l : List Tr) (k : Tr), k ∈ l → wS k ≤ wSum l
  | [], k, h => by simp at h
  | x :: l, k, h => by
    rw [wSum]
    have h1 := (wS_nn x).1
    have h2 := wSum_nn l
    rcases List.mem_cons.1 h with rfl | h
    · omega
    · have := wS_mem l k h; omega
/-- What a weight that is not too great tells of the Kids' weights. -/
theorem wS_kids {t : Tr} (h : wS t ≤ 4000) (h6 : t.op ≤ 5 → t.kids = []) (h12 : t.op ≤ 12) (ha : t.op = 12 → 0 < t.kids.length) :
    wSum t.kids ≤ 4000 ∧ (t.op = 6 → wS t = wSum t.kids + 2) ∧ (t.op = 12 → wS t = wSum t.kids + t.kids.length) ∧ (t.op = 10 → wS t = wSum t.kids * max (max t.mn t.mx) 1 + max (max t.mn t.mx) 1 + 1) ∧ (t.op = 7 ∨ t.op = 8 ∨ t.op = 9 ∨ t.op = 11 → wS t = wSum t.kids + 1) ∧ 1 ≤ wS t := by
  rw [wS_eq] at h ⊢
  have hn := wSum_nn t.kids
  have hL : opW t.op (wL t.kids 0) t.kids.length t.mn t.mx ≤ 4000 := by omega
  rw [Int.min_eq_left (by omega)]
  by_cases h5 : t.op ≤ 5
  · rw [h6 h5] at hn ⊢
    have e : opW t.op (wL [] 0) ([] : List Tr).length t.mn t.mx = 1 := by unfold opW; rw [if_neg (by omega), if_neg (by omega), if_neg (by omega), if_neg (by omega)]
    rw [e]
    refine ⟨by rw [wSum]; omega, ?_, ?_, ?_, ?_, ?_⟩ <;> intros <;> omega
  have hw0 := wL_nn t.kids 0 (by omega)
  have hw : wL t.kids 0 ≤ 4000 := by
    unfold opW at hL
    by_cases e6 : t.op = 6
    · rw [if_pos e6] at hL; omega
    rw [if_neg e6] at hL
    by_cases e12 : t.op = 12
    · rw [if_pos e12] at hL; omega
    rw [if_neg e12] at hL
    by_cases e10 : t.op = 10
    · rw [if_pos e10] at hL
      have hk : 1 ≤ min (max (max t.mn t.mx) 1) 4001 := by omega
      have hm : wL t.kids 0 * 1 ≤ wL t.kids 0 * min (max (max t.mn t.mx) 1) 4001 := Int.mul_le_mul_of_nonneg_left hk hw0.1
      omega
    rw [if_neg e10, if_pos (by omega)] at hL
    omega
  have hs := wL_sum t.kids 0 (by omega) hw
  rw [Int.zero_add] at hs
  rw [hs] at hL ⊢
  refine ⟨by omega, fun e => ?_, fun e => ?_, fun e => ?_, fun e => ?_, ?_⟩
  · unfold opW; rw [if_pos e]
  · unfold opW at hL ⊢; rw [if_neg (by omega), if_pos e] at hL ⊢; omega
  · unfold opW at hL ⊢
    rw [if_neg (by omega), if_neg (by omega), if_pos e] at hL ⊢
    have hk : max (max t.mn t.mx) 1 ≤ 4000 := by
      have : 0 ≤ wSum t.kids * min (max (max t.mn t.mx) 1) 4001 := Int.mul_nonneg hn (by omega)
      omega
    rw [Int.min_eq_left (by omega)]
  · unfold opW; rw [if_neg (by omega), if_neg (by omega), if_neg (by omega), if_pos (by omega)]
  · unfold opW
    split
    · omega
    split
    · rename_i e; have := ha e; omega
    split
    · have : 0 ≤ wSum t.kids * min (max (max t.mn t.mx) 1) 4001 := Int.mul_nonneg hn (by omega)
      omega
    split <;> omega
theorem szL_map {l : List Tr} (h : ∀ k ∈ l, (szT (simpleS k) : Int) ≤ 3 * wS k) : (szL (l.map simpleS) : Int) ≤ 3 * wSum l := by
  induction l with
  | nil => simp [szL, wSum]
  | cons k l ih =>
    rw [List.map_cons, szL_cons, wSum]
    have h1 := h k (by simp)
    have h2 := ih (fun x hx => h x (by simp [hx]))
    omega
theorem simple_sz (R : List Rg → Bool) : ∀ (n : Nat) (t : Tr), szT t ≤ n → (∀ p ∈ parts t, PlainF R p) → wS t ≤ 4000 → (szT (simpleS t) : Int) ≤ 3 * wS t := by
  intro n
  induction n with
  | zero => intro t h; rw [szT_eq] at h; omega
  | succ n ih =>
    intro t hn hp hw
    have hpt := hp t (mem_parts_self t)
    obtain ⟨o1, o2, o3, o4, o5, o6⟩ := hpt.ops
    obtain ⟨w1, w2, w3, w4, w5, w6⟩ := wS_kids hw (fun h => List.eq_nil_of_length_eq_zero (o3 h)) o2 o5
    have hk : ∀ k ∈ t.kids, (szT (simpleS k) : Int) ≤ 3 * wS k := fun k hk => by
      obtain ⟨i, hi, rfl⟩ := List.getElem_of_mem hk
      refine ih _ (by have := parts_kid hi; unfold szT at hn ⊢; omega) (fun p hp' => hp p (mem_parts_kid hi hp')) ?_
      have := wS_mem t.kids _ hk
      omega
    have hs := szL_map hk
    rw [simpleS_eq]
    have hln : (t.kids.map simpleS).length = t.kids.length := List.length_map _
    generalize t.kids.map simpleS = l at *
    have hh : 6 ≤ t.op → t.op ≤ 10 → szT (hdT l) = szL l := fun a b => by
      have h1 := o4 a b
      rw [← hln] at h1
      match l, h1 with
      | [x], _ => rw [szL_cons, szL_nil]; rfl
    have hself : szT { t with kids := l } = 1 + szL l := szT_eq _
    unfold simpleN
    by_cases a11 : t.op = 11
    · rw [if_pos a11]; have := joined_sz l; have := w5 (by omega); omega
    rw [if_neg a11]
    by_cases a12 : t.op = 12
    · rw [if_pos a12]
      have h1 := szL_filter (fun k => !(k.op == 1)) l
      have h2 := w3 a12
      have h3 := o5 a12
      unfold altS
      split
      · rw [opT_sz, szL_nil]; omega
      · rename_i x hx; rw [hx, szL_cons, szL_nil] at h1; omega
      · rename_i x y r hx
        rw [hx] at h1
        have : szT { t with kids := x :: y :: r } = 1 + szL (x :: y :: r) := szT_eq _
        rw [this]; omega
    rw [if_neg a12]
    by_cases a6 : t.op = 6
    · rw [if_pos a6]
      have h1 := hh (by omega) (by omega)
      have h2 := w2 a6
      split
      · rw [h1]; omega
      · rw [hself]; omega
    rw [if_neg a6]
    by_cases a7 : t.op = 7
    · rw [if_pos a7]; have := hh (by omega) (by omega); have := w5 (by omega); have := star_sz (hdT l) t.lz; omega
    rw [if_neg a7]
    by_cases a8 : t.op = 8
    · rw [if_pos a8]; have := hh (by omega) (by omega); have := w5 (by omega); have := plus_sz (hdT l) t.lz; omega
    rw [if_neg a8]
    by_cases a9 : t.op = 9
    · rw [if_pos a9]; have := hh (by omega) (by omega); have := w5 (by omega); have := quest_sz (hdT l) t.lz; omega
    rw [if_neg a9]
    by_cases a10 : t.op = 10
    · rw [if_pos a10]
      have h1 := hh (by omega) (by omega)
      have h2 := w4 a10
      obtain ⟨r1, r2, r3⟩ := o6 a10
      have hnn := wSum_nn t.kids
      rw [← h1] at hs
      generalize hdT l = x at *
      generalize wSum t.kids = W at *
      have mulN : ∀ (m : Nat) (k : Int), (m : Int) ≤ k → ((m * szT x : Nat) : Int) ≤ k * (3 * W) := fun m k hmk => by
        have e1 : ((m * szT x : Nat) : Int) ≤ (m : Int) * (3 * W) := by rw [Int.natCast_mul]; exact Int.mul_le_mul_of_nonneg_left hs (by omega)
        exact Int.le_trans e1 (Int.mul_le_mul_of_nonneg_right hmk (by omega))
      have e3 : ∀ k : Int, k * (3 * W) = 3 * (W * k) := fun k => by rw [Int.mul_comm W k, ← Int.mul_assoc, Int.mul_comm k 3, Int.mul_assoc]
      split
      · rw [opT_sz, szL_nil]; have : 0 ≤ W * max (max t.mn t.mx) 1 := Int.mul_nonneg hnn (by omega); omega
      split
      · rename_i hx0 hxp
        have hj := joined_sz (List.replicate t.mn.toNat x ++ [restS x t.lz (t.mx - t.mn).toNat])
        have hr := rest_sz x t.lz (t.mx - t.mn).toNat
        rw [szL_app, szL_rep, szL_cons, szL_nil] at hj
        have hmax : max (max t.mn t.mx) 1 = t.mx := by omega
        rw [hmax] at h2
        have hm := mulN (t.mn.toNat + (t.mx - t.mn).toNat) t.mx (by omega)
        rw [Nat.add_mul] at hm
        rw [Nat.mul_add] at hr
        rw [e3] at hm
        omega
      split
      · have hst := star_sz x t.lz
        have hm := mulN 1 (max (max t.mn t.mx) 1) (by omega)
        rw [e3] at hm
        omega
      · have hj := joined_sz (List.replicate (t.mn - 1).toNat x ++ [plusS x t.lz])
        have hr := plus_sz x t.lz
        rw [szL_app, szL_rep, szL_cons, szL_nil] at hj
        have hmax : max (max t.mn t.mx) 1 = t.mn := by omega
        rw [hmax] at h2
        have hm := mulN ((t.mn - 1).toNat + 1) t.mn (by omega)
        rw [Nat.add_mul, e3] at hm
        omega
    rw [if_neg a10, hself]
    have h0 := o3 (by omega)
    rw [← hln] at h0
    rw [List.eq_nil_of_length_eq_zero h0, szL_nil]
    omega
/-- A tree that is right may be made plain by the program. -/
theorem simOK_of (R : List Rg → Bool) {t : Tr} (hp : ∀ p ∈ parts t, PlainF R p) (hw : wS t ≤ 4000) (hs : ∀ p ∈ parts t, p.set.length ≤ 1000000 ∧ p.kids.length ≤ 1000000) : SimOK t := by
  have key : ∀ (n : Nat) (t : Tr), szT t ≤ n → (∀ p ∈ parts t, PlainF R p) → wS t ≤ 4000 → ∀ p ∈ parts t, wS p ≤ 4000 := by
    intro n
    induction n with
    | zero => intro t h; rw [szT_eq] at h; omega
    | succ n ih =>
      intro t hn hp hw p hpp
      rw [parts_eq] at hpp
      rcases List.mem_cons.1 hpp with rfl | hpp
      · exact hw
      · rw [partsL_flat] at hpp
        obtain ⟨k, hk, hpk⟩ := List.mem_flatMap.1 hpp
        obtain ⟨i, hi, rfl⟩ := List.getElem_of_mem hk
        obtain ⟨o1, o2, o3, o4, o5, o6⟩ := (hp t (mem_parts_self t)).ops
        have hwk := (wS_kids hw (fun h => List.eq_nil_of_length_eq_zero (o3 h)) o2 o5).1
        refine ih _ (by have := parts_kid hi; unfold szT at hn ⊢; omega) (fun p hp' => hp p (mem_parts_kid hi hp')) ?_ p hpk
        have := wS_mem t.kids _ hk
        omega
  intro p hpp
  have hwp := key _ t (Nat.le_refl _) hp hw p hpp
  have hpf := hp p hpp
  obtain ⟨o1, o2, o3, o4, o5, o6⟩ := hpf.ops
  have hpk : ∀ k ∈ p.kids, (szT (simpleS k) : Int) ≤ 3 * wS k := fun k hk => by
    obtain ⟨i, hi, rfl⟩ := List.getElem_of_mem hk
    have hsub : ∀ q ∈ parts p.kids[i], q ∈ parts t := fun q hq => parts_trans hpp (mem_parts_kid hi hq)
    exact simple_sz R _ _ (Nat.le_refl _) (fun q hq => hp q (hsub q hq)) (key _ t (Nat.le_refl _) hp hw _ (hsub _ (mem_parts_self _)))
  have hsl := szL_map hpk
  have hwk := (wS_kids hwp (fun h => List.eq_nil_of_length_eq_zero (o3 h)) o2 o5).1
  refine ⟨o4, o6, (hs p hpp).2, by have := (hs p hpp).1; omega, ?_, fun x hx q hq => ?_⟩
  · have h1 := len_szL (flatK (p.kids.map simpleS))
    have h2 := szL_flat (p.kids.map simpleS)
    omega
  · obtain ⟨k, hk, rfl⟩ := List.mem_map.1 hx
    have h1 := hpk k hk
    have h2 := wS_mem p.kids k hk
    have h3 : szT q ≤ szT (simpleS k) := sz_part hq
    have h4 := kids_szT q
    omega
end Go.Proofs.Ytdnbholiijgedaa
