/-
  simplify.simple: the plain law, third part: what is told is tidy, and is made plain as it is. No program here but its words.
-/
import Derived.Test.YtdnbholiijgedaaSimpLaw2
import Derived.Test.YtdnbholiijgedaaRight
namespace Go.Proofs.Ytdnbholiijgedaa
open Go.RowKit
set_option linter.unusedVariables false

structure NodeOK (q : Tr) : Prop where
  pl : PlainF rightR q
  no10 : q.op ≠ 10
  cap : q.op = 6 → 1 ≤ q.cap
  kid : ∀ k ∈ q.kids, k.op ≠ 1 ∧ (q.op = 11 → k.op ≠ 2 ∧ k.op ≠ 11) ∧ (q.op = 7 ∨ q.op = 8 → movesB k = true) ∧ (q.op = 9 → k.op ≠ 2)
  two : q.op = 11 ∨ q.op = 12 → 1 < q.kids.length
  set : q.set.length ≤ 1000000
  nam : q.name.size ≤ maxLen
def GoodT (t : Tr) : Prop := ∀ q ∈ parts t, NodeOK q
theorem good_iff {t : Tr} : GoodT t ↔ NodeOK t ∧ ∀ k ∈ t.kids, GoodT k := by
  constructor
  · intro h
    refine ⟨h t (mem_parts_self t), fun k hk q hq => ?_⟩
    obtain ⟨i, hi, rfl⟩ := List.getElem_of_mem hk
    exact h q (mem_parts_kid hi hq)
  · rintro ⟨h1, h2⟩ q hq
    rw [parts_eq] at hq
    rcases List.mem_cons.1 hq with rfl | hq
    · exact h1
    · rw [partsL_flat] at hq
      obtain ⟨k, hk, hqk⟩ := List.mem_flatMap.1 hq
      exact h2 k hk q hqk
theorem opT_node {op : Int} {l : List Tr} {lz : Bool} (hv : opV true op l.length 0 0 0 ⟨#[]⟩ 0 0 = true) (h4 : op ≠ 4) (h6 : op ≠ 6) (h10 : op ≠ 10) (hlz : op ≠ 7 → op ≠ 8 → op ≠ 9 → lz = false)
    (hk : ∀ k ∈ l, k.op ≠ 1 ∧ (op = 11 → k.op ≠ 2 ∧ k.op ≠ 11) ∧ (op = 7 ∨ op = 8 → movesB k = true) ∧ (op = 9 → k.op ≠ 2)) (h2 : op = 11 ∨ op = 12 → 1 < l.length) : NodeOK (opT op l lz) := by
  refine ⟨⟨fun _ => rfl, fun _ => rfl, fun _ => rfl, fun _ => rfl, fun _ => rfl, fun _ => rfl, fun _ => rfl, fun a b c _ => hlz a b c, ?_⟩, h10, fun e => absurd e h6, hk, h2, ?_, ?_⟩
  · show opV (rightR []) op l.length 0 0 0 ⟨#[]⟩ 0 0 = true
    have : rightR [] = true := by kernel_rfl
    rw [this]; exact hv
  · exact Nat.zero_le _
  · exact Nat.zero_le _
theorem good_leaf {op : Int} (h : op = 1 ∨ op = 2) : GoodT (opT op [] false) := by
  refine good_iff.2 ⟨opT_node ?_ (by omega) (by omega) (by omega) (fun _ _ _ => rfl) (fun k hk => by simp at hk) (by omega), fun k hk => by simp [opT] at hk⟩
  rcases h with rfl | rfl <;> rfl
theorem moves_none {x : Tr} (h : NodeOK x) (h1 : x.op = 1 ∨ x.op = 2) : movesB x = false := by
  rw [moves_step]
  obtain ⟨_, _, o3, _⟩ := h.pl.ops
  have h0 : x.kids = [] := List.eq_nil_of_length_eq_zero (o3 (by omega))
  rw [h0]
  rcases h1 with e | e <;> rw [e] <;> rfl
theorem good_star {x : Tr} (lz : Bool) (h : GoodT x) : GoodT (starS x lz) := by
  unfold starS
  split
  · rename_i hm
    refine good_iff.2 ⟨opT_node rfl (by omega) (by omega) (by omega) (fun a => absurd rfl a) (fun k hk => ?_) (by omega), fun k hk => by simp [opT] at hk; rw [hk]; exact h⟩
    rw [List.mem_singleton.1 hk]
    refine ⟨fun e => ?_, by omega, fun _ => hm, by omega⟩
    rw [moves_none (good_iff.1 h).1 (.inl e)] at hm; cases hm
  · exact good_leaf (.inr rfl)
theorem good_plus {x : Tr} (lz : Bool) (h : GoodT x) : GoodT (plusS x lz) := by
  unfold plusS
  split
  · rename_i hm
    refine good_iff.2 ⟨opT_node rfl (by omega) (by omega) (by omega) (fun _ a => absurd rfl a) (fun k hk => ?_) (by omega), fun k hk => by simp [opT] at hk; rw [hk]; exact h⟩
    rw [List.mem_singleton.1 hk]
    refine ⟨fun e => ?_, by omega, fun _ => hm, by omega⟩
    rw [moves_none (good_iff.1 h).1 (.inl e)] at hm; cases hm
  · exact h
theorem good_quest {x : Tr} (lz : Bool) (h : GoodT x) : GoodT (questS x lz) := by
  unfold questS
  split
  · exact good_leaf (.inr rfl)
  · rename_i hm
    simp at hm
    refine good_iff.2 ⟨opT_node rfl (by omega) (by omega) (by omega) (fun _ _ a => absurd rfl a) (fun k hk => ?_) (by omega), fun k hk => by simp [opT] at hk; rw [hk]; exact h⟩
    rw [List.mem_singleton.1 hk]
    exact ⟨hm.1, by omega, by omega, fun _ => hm.2⟩
theorem good_flat {l : List Tr} (h : ∀ k ∈ l, GoodT k) : ∀ k ∈ flatK l, GoodT k ∧ k.op ≠ 11 := by
  intro k hk
  unfold flatK at hk
  obtain ⟨x, hx, hk⟩ := List.mem_flatMap.1 hk
  have hg := good_iff.1 (h x hx)
  by_cases e : x.op = 11
  · rw [if_pos e] at hk
    exact ⟨hg.2 k hk, ((hg.1.kid k hk).2.1 e).2⟩
  · rw [if_neg e] at hk
    rw [List.mem_singleton.1 hk]
    exact ⟨h x hx, e⟩
theorem good_joined {l : List Tr} (h : ∀ k ∈ l, GoodT k) : GoodT (joinedS l) := by
  have hf := good_flat h
  unfold joinedS
  simp only
  have hm : ∀ k ∈ (flatK l).filter (fun t => !(t.op == 2)), GoodT k ∧ k.op ≠ 11 ∧ k.op ≠ 2 := fun k hk => by
    obtain ⟨h1, h2⟩ := List.mem_filter.1 hk
    exact ⟨(hf k h1).1, (hf k h1).2, by simpa using h2⟩
  generalize (flatK l).filter (fun t => !(t.op == 2)) = out at *
  split
  · exact good_leaf (.inl rfl)
  · rename_i hn
    split
    · exact good_leaf (.inr rfl)
    · rename_i x; exact (hm x (by simp)).1
    · rename_i x y r
      refine good_iff.2 ⟨opT_node rfl (by omega) (by omega) (by omega) (fun _ _ _ => rfl) (fun k hk => ?_) (fun _ => by simp), fun k hk => (hm k hk).1⟩
      obtain ⟨h1, h2, h3⟩ := hm k hk
      refine ⟨fun e => hn ?_, fun _ => ⟨h3, h2⟩, by omega, by omega⟩
      rw [List.any_eq_true]; exact ⟨k, hk, by simpa using e⟩
theorem good_rest {x : Tr} (lz : Bool) (h : GoodT x) : ∀ n, GoodT (restS x lz n)
  | 0 => by rw [restS]; exact good_leaf (.inr rfl)
  | n + 1 => by
    rw [restS]
    exact good_quest _ (good_joined (fun k hk => by
      simp at hk
      rcases hk with rfl | rfl
      · exact h
      · exact good_rest lz h n))
/-- A tree with other Kids, as many. -/
theorem good_with {t : Tr} {l : List Tr} (hp : PlainF rightR t) (hc : t.op = 6 → 1 ≤ t.cap) (hs : t.set.length ≤ 1000000) (hn : t.name.size ≤ maxLen) (h7 : t.op = 6 ∨ t.op = 12 ∨ t.op ≤ 5) (hl : ∀ k ∈ l, GoodT k ∧ k.op ≠ 1) (hk : l.length = t.kids.length ∨ t.op = 12 ∧ 1 < l.length) (h12 : t.op = 12 → 1 < l.length) : GoodT { t with kids := l } := by
  refine good_iff.2 ⟨⟨⟨hp.rune, hp.set, hp.at0, hp.cap, hp.name, hp.mn, hp.mx, hp.lz, ?_⟩, by show t.op ≠ 10; omega, hc, fun k hk => ⟨(hl k hk).2, by intro e; have e : t.op = 11 := e; omega, by intro e; have e : t.op = 7 ∨ t.op = 8 := e; omega, by intro e; have e : t.op = 9 := e; omega⟩, fun e => h12 (by have e : t.op = 11 ∨ t.op = 12 := e; omega), hs, hn⟩, fun k hk => (hl k hk).1⟩
  have hv := hp.val
  show opV (rightR t.set) t.op l.length t.rune t.set.length t.at_ t.name t.mn t.mx = true
  rcases hk with hk | ⟨h1, h2⟩
  · rw [hk]; exact hv
  · unfold opV
    rw [h1]
    simp; omega
theorem good_simple : ∀ (n : Nat) (t : Tr), szT t ≤ n → (∀ p ∈ parts t, PlainF rightR p ∧ (p.op = 6 → 1 ≤ p.cap) ∧ p.set.length ≤ 1000000 ∧ p.name.size ≤ maxLen) → GoodT (simpleS t) := by
  intro n
  induction n with
  | zero => intro t h; rw [szT_eq] at h; omega
  | succ n ih =>
    intro t hn hp
    obtain ⟨hpf, hcp, hset, hnam⟩ := hp t (mem_parts_self t)
    obtain ⟨o1, o2, o3, o4, o5, o6⟩ := hpf.ops
    have hk : ∀ k ∈ t.kids.map simpleS, GoodT k := fun x hx => by
      obtain ⟨k, hk, rfl⟩ := List.mem_map.1 hx
      obtain ⟨i, hi, rfl⟩ := List.getElem_of_mem hk
      exact ih _ (by have := parts_kid hi; unfold szT at hn ⊢; omega) (fun p hp' => hp p (mem_parts_kid hi hp'))
    rw [simpleS_eq]
    have hln : (t.kids.map simpleS).length = t.kids.length := List.length_map _
    generalize t.kids.map simpleS = l at *
    have hh : 6 ≤ t.op → t.op ≤ 10 → l = [hdT l] ∧ GoodT (hdT l) := fun a b => by
      have h1 := o4 a b
      rw [← hln] at h1
      match l, h1 with
      | [x], _ => exact ⟨rfl, hk x (by simp)⟩
    unfold simpleN
    by_cases a11 : t.op = 11
    · rw [if_pos a11]; exact good_joined hk
    rw [if_neg a11]
    by_cases a12 : t.op = 12
    · rw [if_pos a12]
      have hm : ∀ k ∈ l.filter (fun k => !(k.op == 1)), GoodT k ∧ k.op ≠ 1 := fun k h => by
        obtain ⟨h1, h2⟩ := List.mem_filter.1 h
        exact ⟨hk k h1, by simpa using h2⟩
      generalize l.filter (fun k => !(k.op == 1)) = out at *
      unfold altS
      split
      · exact good_leaf (.inl rfl)
      · rename_i x; exact (hm x (by simp)).1
      · rename_i x y r
        exact good_with hpf hcp hset hnam (by omega) hm (.inr ⟨a12, by simp⟩) (fun _ => by simp)
    rw [if_neg a12]
    by_cases a6 : t.op = 6
    · rw [if_pos a6]
      obtain ⟨h1, h2⟩ := hh (by omega) (by omega)
      split
      · exact h2
      · rename_i hne
        refine good_with hpf hcp hset hnam (by omega) (fun k hkk => ?_) (.inl hln) (by omega)
        rw [h1] at hkk
        rw [List.mem_singleton.1 hkk]
        exact ⟨h2, hne⟩
    rw [if_neg a6]
    by_cases a7 : t.op = 7
    · rw [if_pos a7]; exact good_star _ (hh (by omega) (by omega)).2
    rw [if_neg a7]
    by_cases a8 : t.op = 8
    · rw [if_pos a8]; exact good_plus _ (hh (by omega) (by omega)).2
    rw [if_neg a8]
    by_cases a9 : t.op = 9
    · rw [if_pos a9]; exact good_quest _ (hh (by omega) (by omega)).2
    rw [if_neg a9]
    by_cases a10 : t.op = 10
    · rw [if_pos a10]
      obtain ⟨h1, h2⟩ := hh (by omega) (by omega)
      generalize hdT l = x at *
      split
      · exact good_leaf (.inr rfl)
      split
      · exact good_joined (fun k hkk => by
          rcases List.mem_append.1 hkk with hkk | hkk
          · rw [(List.mem_replicate.1 hkk).2]; exact h2
          · rw [List.mem_singleton.1 hkk]; exact good_rest _ h2 _)
      split
      · exact good_star _ h2
      · exact good_joined (fun k hkk => by
          rcases List.mem_append.1 hkk with hkk | hkk
          · rw [(List.mem_replicate.1 hkk).2]; exact h2
          · rw [List.mem_singleton.1 hkk]; exact good_plus _ h2)
    rw [if_neg a10]
    have h0 := o3 (by omega)
    rw [← hln] at h0
    have h00 := List.eq_nil_of_length_eq_zero h0
    exact good_with hpf hcp hset hnam (by omega) (fun k hkk => by rw [h00] at hkk; simp at hkk) (.inl hln) (by omega)
theorem opT_of {t : Tr} (hp : PlainF rightR t) (h : t.op = 7 ∨ t.op = 8 ∨ t.op = 9 ∨ t.op = 11) : opT t.op t.kids t.lz = t := by
  have h1 := hp.rune (by omega)
  have h2 := hp.set (by omega)
  have h3 := hp.at0 (by omega)
  have h4 := hp.cap (by omega)
  have h5 := hp.name (by omega)
  have h6 := hp.mn (by omega)
  have h7 := hp.mx (by omega)
  cases t
  dsimp only at h1 h2 h3 h4 h5 h6 h7
  subst h1 h2 h3 h4 h5 h6 h7
  rfl
theorem filter_id {l : List Tr} {p : Tr → Bool} (h : ∀ k ∈ l, p k = true) : l.filter p = l := List.filter_eq_self.2 h
theorem tr_eta (t : Tr) : (⟨t.op, t.kids, t.rune, t.set, t.at_, t.cap, t.name, t.mn, t.mx, t.lz⟩ : Tr) = t := by cases t; rfl
theorem simple_fix : ∀ (n : Nat) (t : Tr), szT t ≤ n → GoodT t → simpleS t = t := by
  intro n
  induction n with
  | zero => intro t h; rw [szT_eq] at h; omega
  | succ n ih =>
    intro t hn hg
    obtain ⟨hN, hK⟩ := good_iff.1 hg
    obtain ⟨o1, o2, o3, o4, o5, o6⟩ := hN.pl.ops
    have hl : t.kids.map simpleS = t.kids := by
      conv => rhs; rw [← List.map_id t.kids]
      refine List.map_congr_left (fun k hk => ?_)
      obtain ⟨i, hi, rfl⟩ := List.getElem_of_mem hk
      exact ih _ (by have := parts_kid hi; unfold szT at hn ⊢; omega) (hK _ hk)
    rw [simpleS_eq, hl]
    have hh : 6 ≤ t.op → t.op ≤ 10 → t.kids = [hdT t.kids] := fun a b => by
      have h1 := o4 a b
      generalize t.kids = l at *
      match l, h1 with
      | [x], _ => rfl
    have hkid := hN.kid
    unfold simpleN
    by_cases a11 : t.op = 11
    · rw [if_pos a11]
      have h2 := hN.two (.inl a11)
      have hf : flatK t.kids = t.kids := by
        unfold flatK
        have : ∀ l : List Tr, (∀ k ∈ l, k.op ≠ 11) → l.flatMap (fun k => if k.op = 11 then k.kids else [k]) = l := by
          intro l
          induction l with
          | nil => intro _; rfl
          | cons k l ih2 => intro h; rw [List.flatMap_cons, if_neg (h k (by simp)), ih2 (fun x hx => h x (by simp [hx]))]; rfl
        exact this _ (fun k hk => ((hkid k hk).2.1 a11).2)
      unfold joinedS
      rw [hf, filter_id (fun k hk => by simpa using ((hkid k hk).2.1 a11).1)]
      have hn1 : ¬ (t.kids.any (fun t => t.op == 1)) = true := by
        rw [List.any_eq_true]
        rintro ⟨k, hk, he⟩
        exact (hkid k hk).1 (by simpa using he)
      simp only
      rw [if_neg hn1]
      have hlz := hN.pl.lz (by omega) (by omega) (by omega) (by omega)
      have ho := opT_of hN.pl (by omega)
      rw [hlz, a11] at ho
      have h3 : ∀ l : List Tr, l = t.kids → (match l with | [] => opT 2 [] false | [x] => x | x :: y :: r => opT 11 (x :: y :: r) false) = t := by
        intro l hl
        match l, hl with
        | [], hl => rw [← hl] at h2; simp at h2
        | [x], hl => rw [← hl] at h2; simp at h2
        | x :: y :: r, hl => show opT 11 (x :: y :: r) false = t; rw [hl]; exact ho
      exact h3 _ rfl
    rw [if_neg a11]
    by_cases a12 : t.op = 12
    · rw [if_pos a12]
      have h2 := hN.two (.inr a12)
      rw [filter_id (fun k hk => by simpa using (hkid k hk).1)]
      unfold altS
      split
      · rename_i e; rw [e] at h2; simp at h2
      · rename_i x e; rw [e] at h2; simp at h2
      · rename_i x y r e; rw [← e]; exact tr_eta t
    rw [if_neg a12]
    by_cases a6 : t.op = 6
    · rw [if_pos a6]
      have h1 := hh (by omega) (by omega)
      rw [if_neg ((hkid (hdT t.kids) (by rw [h1]; simp [hdT])).1)]; exact tr_eta t
    rw [if_neg a6]
    by_cases a7 : t.op = 7
    · rw [if_pos a7]
      have h1 := hh (by omega) (by omega)
      unfold starS
      rw [if_pos ((hkid (hdT t.kids) (by rw [h1]; simp [hdT])).2.2.1 (.inl a7)), ← h1]
      have ho := opT_of hN.pl (by omega)
      rwa [a7] at ho
    rw [if_neg a7]
    by_cases a8 : t.op = 8
    · rw [if_pos a8]
      have h1 := hh (by omega) (by omega)
      unfold plusS
      rw [if_pos ((hkid (hdT t.kids) (by rw [h1]; simp [hdT])).2.2.1 (.inr a8)), ← h1]
      have ho := opT_of hN.pl (by omega)
      rwa [a8] at ho
    rw [if_neg a8]
    by_cases a9 : t.op = 9
    · rw [if_pos a9]
      have h1 := hh (by omega) (by omega)
      have hk9 := hkid (hdT t.kids) (by rw [h1]; simp [hdT])
      unfold questS
      rw [if_neg (by simp; exact ⟨hk9.1, hk9.2.2.2 a9⟩), ← h1]
      have ho := opT_of hN.pl (by omega)
      rwa [a9] at ho
    rw [if_neg a9, if_neg hN.no10]; exact tr_eta t
/-- What trees.Right says. -/
theorem right_parts {R : List Rg → Bool} : ∀ (l : List Tr) (s s' : Nat × List ByteArray), rightFold R l s = some s' → ∀ p ∈ l, PlainF R p ∧ (p.op = 6 → 1 ≤ p.cap)
  | [], s, s', h, p, hp => by simp at hp
  | q :: l, s, s', h, p, hp => by
    rw [rightFold] at h
    cases hq : rightStep R s q with
    | none => rw [hq] at h; cases h
    | some s1 =>
      rw [hq] at h
      rcases List.mem_cons.1 hp with rfl | hp
      · unfold rightStep at hq
        split at hq
        · cases hq
        · rename_i hpl
          refine ⟨plainF_iff.1 (by simpa using hpl), fun e => ?_⟩
          rw [if_pos e] at hq
          split at hq
          · cases hq
          · rename_i hc
            have h1 : p.cap = (s.1 : Int) + 1 := by
              by_cases e : p.cap = (s.1 : Int) + 1
              · exact e
              · exact absurd (.inl e) hc
            omega
      · exact right_parts l s1 s' h p hp
theorem right_facts {t : Tr} (h : rightTB rightR t = true) : wS t ≤ 4000 ∧ ∀ p ∈ parts t, PlainF rightR p ∧ (p.op = 6 → 1 ≤ p.cap) := by
  unfold rightTB at h
  simp only [Bool.and_eq_true, decide_eq_true_eq] at h
  obtain ⟨s, hs⟩ := Option.isSome_iff_exists.1 h.2
  exact ⟨h.1.2, right_parts _ _ _ hs⟩
end Go.Proofs.Ytdnbholiijgedaa
