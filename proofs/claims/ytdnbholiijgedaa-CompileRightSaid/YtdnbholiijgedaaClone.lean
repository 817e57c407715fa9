/-
  slices.Clone at each element type: a list of one's own, with the same elements. No condition but on the size.
-/
import Derived.Test.YtdnbholiijgedaaCore
import Derived.Test.YtdnbholiijgedaaProg
namespace Go.Proofs.Ytdnbholiijgedaa
open Go.RowKit
set_option linter.unusedVariables false

theorem flatten_back {sz : Nat} : ∀ {css : List (List Value)} (h : ∀ c ∈ css, c.length = sz) {j : Nat} {u : Value}, css.flatten[j]? = some u → ∃ i c r, css[i]? = some c ∧ c[r]? = some u ∧ j = i * sz + r
  | [], _, j, u, h => by simp at h
  | x :: css, h, j, u, hj => by
    have h0 := h x (by simp)
    rw [List.flatten_cons] at hj
    rcases Nat.lt_or_ge j x.length with hl | hl
    · rw [List.getElem?_append_left hl] at hj
      exact ⟨0, x, j, rfl, hj, by omega⟩
    · rw [List.getElem?_append_right hl] at hj
      obtain ⟨i, c, r, hi, hr, he⟩ := flatten_back (fun c hc => h c (by simp [hc])) hj
      exact ⟨i + 1, c, r, by simpa using hi, hr, by rw [Nat.add_mul]; omega⟩
theorem Arr.css {α : Type} {ok : Nat → Prop} {w : World} {sz : Nat} {E : α → List Value → Prop} {A : Option Addr} {xs : List α} (h : Arr ok w sz E A xs) :
    ∃ css : List (List Value), css.length = xs.length ∧ (∀ (i : Nat) (x : α) (c : List Value), xs[i]? = some x → css[i]? = some c → E x c) ∧ (∀ c ∈ css, c.length = sz) ∧ ∀ ad, A = some ad → ∀ j u, css.flatten[j]? = some u → w.cell? (ad.add j) = some u := by
  have h1 : ∀ i : Nat, ∃ cs : List Value, ∀ x, xs[i]? = some x → E x cs ∧ cs.length = sz ∧ ∀ ad, A = some ad → ∀ j u, cs[j]? = some u → w.cell? (ad.add (i * sz + j)) = some u := fun i => by
    cases hx : xs[i]? with
    | none => exact ⟨[], fun x hx => by cases hx⟩
    | some x =>
      obtain ⟨ad, cs, rfl, _, hE, hl, hc⟩ := h i x hx
      exact ⟨cs, fun y hy => by cases hy; exact ⟨hE, hl, fun ad' e => by cases e; exact hc⟩⟩
  obtain ⟨f, hf⟩ := Classical.axiomOfChoice h1
  have hget : ∀ (i : Nat) (c : List Value), ((List.range xs.length).map f)[i]? = some c → i < xs.length ∧ c = f i := fun i c hc => by
    rw [List.getElem?_map] at hc
    rcases Nat.lt_or_ge i xs.length with hi | hi
    · rw [List.getElem?_range hi] at hc; exact ⟨hi, by simpa [eq_comm] using hc⟩
    · rw [List.getElem?_eq_none (by simpa using hi)] at hc; simp at hc
  have hlen : ∀ c ∈ (List.range xs.length).map f, c.length = sz := fun c hc => by
    obtain ⟨i, hi, rfl⟩ := List.mem_map.1 hc
    have hi := List.mem_range.1 hi
    exact (hf i _ (List.getElem?_eq_getElem hi)).2.1
  refine ⟨(List.range xs.length).map f, by simp, fun i x c hx hc => ?_, hlen, fun ad hA j u hu => ?_⟩
  · obtain ⟨_, rfl⟩ := hget i c hc
    exact (hf i x hx).1
  · obtain ⟨i, c, r, hi, hr, rfl⟩ := flatten_back hlen hu
    obtain ⟨hlt, rfl⟩ := hget i c hi
    exact (hf i _ (List.getElem?_eq_getElem hlt)).2.2 ad hA r u hr

def ClonePost {α : Type} (E : α → List Value → Prop) (e : TypeId) (sz : Nat) (xs : List α) (w : World) (en : Ending) (w' : World) : Prop :=
  ∃ v' css, en = .returned v' ∧ css.length = xs.length ∧ (∀ (i : Nat) (x : α) (c : List Value), xs[i]? = some x → css[i]? = some c → E x c) ∧ Owns w' w.heap.size e sz v' css ∧ Below w.heap.size w w'



theorem infoCRange : (Try.prog.info? 61).map (fun i => (i.zero, i.size, i.bytes)) = some (some (.agg #[.int .i32 0, .int .i32 0]), 2, 8) := by kernel_rfl
set_option maxRecDepth 100000 in
set_option maxHeartbeats 1000000 in
theorem cloneRange (α : Type) (E : α → List Value → Prop) (hE1 : ∀ x c, E x c → ∀ u ∈ c, u.oneCell' = true) (ok : Nat → Prop) (w : World) (A : Option Addr) (c : Nat) (xs : List α) (h : Arr ok w 2 E A xs) (hN : xs.length * 8 ≤ 140737488355328) :
    Calls Try.prog 35 #[.slice A xs.length c] w (ClonePost E 61 2 xs w) := by
  obtain ⟨css, hl, hE, hs, hc⟩ := h.css
  have HE := Lib.hid hE
  have hxs : A = none → xs = [] := fun hA => by
    cases xs with
    | nil => rfl
    | cons x xs => obtain ⟨ad, _, hA', _⟩ := h 0 x rfl; rw [hA] at hA'; cases hA'
  clear hE h
  cases A with
  | none =>
    have hnil := fun W => Go.Lib.run_eql_slice_nil (P := Try.prog) W 24 61 none 0 c 0 0 Try.underlying24
    obtain rfl := hxs rfl
    clear hxs
    obtain rfl : css = [] := List.eq_nil_of_length_eq_zero hl
    clear hl hs hc
    go_enter Try.func35, Try.ntmps35
    go_wp2_with fail
    go_ret
    exact ⟨_, [], rfl, rfl, HE.out, Owns.nil _ _ _ _, Below.refl _ _⟩
  | some ad =>
    have hnil := fun W => Go.Lib.run_eql_slice_nil (P := Try.prog) W 24 61 (some ad) xs.length c 0 0 Try.underlying24
    obtain ⟨i0, hi, hz0, hz1, hz2⟩ := info_parts infoCRange
    have HL := Lib.hid hl
    have HS := Lib.hid hs
    have HC := Lib.hid hc
    have hfl : css.flatten.length = xs.length * 2 := by
      rw [← hl]
      clear hl hc HE HL HS HC
      induction css with
      | nil => simp
      | cons c css ih => rw [List.flatten_cons, List.length_append, ih (fun c hc => hs c (by simp [hc])), hs c (by simp), List.length_cons, Nat.add_mul]; omega
    have HFL := Lib.hid hfl
    have hmax : xs.length ≤ maxLen := by unfold maxLen; omega
    have hone : ∀ u ∈ css.flatten, u.oneCell' = true := fun u hu => by
      obtain ⟨c', hc', hu'⟩ := List.mem_flatten.1 hu
      obtain ⟨k, hk, rfl⟩ := List.getElem_of_mem hc'
      exact hE1 _ _ (HE.out k _ _ (List.getElem?_eq_getElem (show k < xs.length by omega)) (List.getElem?_eq_getElem hk)) u hu'
    clear hl hs hc hxs hfl
    go_enter Try.func35, Try.ntmps35
    go_wp2_with (at_builtin; refine wpList_append_own _ rfl _ _ 24 rfl w.heap.size 61 i0 (.agg #[.int .i32 0, .int .i32 0]) 2 8 Try.underlying24 hi hz0 hz1 hz2 rfl (by decide) _ 0 [] rfl (World.ownsRow_made w #[] 0 (Nat.le_refl _) (Nat.zero_le _) rfl) ad xs.length c css.flatten rfl HFL.out ?c1 hone (by omega) (by omega) (by simp) ?_)
    case c1 =>
      intro j u hu
      have h1 := HC.out ad rfl j u hu
      rw [← h1]; exact World.cell?_alloc_lt _ _ _ (World.block_lt_of_cell? w _ h1)
    · intro v' w1 hown' hgrow _
      have hb1 : Below w.heap.size w w1 := (below_al (Below.refl _ _) _).grown hgrow (by simp) (fun k e => by simp [Value.ownBlock] at e; omega)
      have hown : Owns w1 w.heap.size 61 2 v' css := ⟨by rw [HL.out]; simpa using hown', HS.out⟩
      clear hown' hgrow
      have HH := Lib.hid (And.intro hown hb1)
      clear hown hb1
      go_wp2_with fail
      go_ret
      exact ⟨v', css, rfl, HL.out, HE.out, HH.out.1, HH.out.2⟩

theorem infoCTree : (Try.prog.info? 27).map (fun i => (i.zero, i.size, i.bytes)) = some (some (.agg #[.int .i64 0, .slice none 0 0, .int .i32 0, .slice none 0 0, .int .i64 0, .int .i64 0, .string ⟨#[]⟩, .int .i64 0, .int .i64 0, .bool false]), 10, 120) := by kernel_rfl
set_option maxRecDepth 100000 in
set_option maxHeartbeats 1000000 in
theorem cloneTree (α : Type) (E : α → List Value → Prop) (hE1 : ∀ x c, E x c → ∀ u ∈ c, u.oneCell' = true) (ok : Nat → Prop) (w : World) (A : Option Addr) (c : Nat) (xs : List α) (h : Arr ok w 10 E A xs) (hN : xs.length * 120 ≤ 140737488355328) :
    Calls Try.prog 41 #[.slice A xs.length c] w (ClonePost E 27 10 xs w) := by
  obtain ⟨css, hl, hE, hs, hc⟩ := h.css
  have HE := Lib.hid hE
  have hxs : A = none → xs = [] := fun hA => by
    cases xs with
    | nil => rfl
    | cons x xs => obtain ⟨ad, _, hA', _⟩ := h 0 x rfl; rw [hA] at hA'; cases hA'
  clear hE h
  cases A with
  | none =>
    have hnil := fun W => Go.Lib.run_eql_slice_nil (P := Try.prog) W 23 27 none 0 c 0 0 Try.underlying23
    obtain rfl := hxs rfl
    clear hxs
    obtain rfl : css = [] := List.eq_nil_of_length_eq_zero hl
    clear hl hs hc
    go_enter Try.func41, Try.ntmps41
    go_wp2_with fail
    go_ret
    exact ⟨_, [], rfl, rfl, HE.out, Owns.nil _ _ _ _, Below.refl _ _⟩
  | some ad =>
    have hnil := fun W => Go.Lib.run_eql_slice_nil (P := Try.prog) W 23 27 (some ad) xs.length c 0 0 Try.underlying23
    obtain ⟨i0, hi, hz0, hz1, hz2⟩ := info_parts infoCTree
    have HL := Lib.hid hl
    have HS := Lib.hid hs
    have HC := Lib.hid hc
    have hfl : css.flatten.length = xs.length * 10 := by
      rw [← hl]
      clear hl hc HE HL HS HC
      induction css with
      | nil => simp
      | cons c css ih => rw [List.flatten_cons, List.length_append, ih (fun c hc => hs c (by simp [hc])), hs c (by simp), List.length_cons, Nat.add_mul]; omega
    have HFL := Lib.hid hfl
    have hmax : xs.length ≤ maxLen := by unfold maxLen; omega
    have hone : ∀ u ∈ css.flatten, u.oneCell' = true := fun u hu => by
      obtain ⟨c', hc', hu'⟩ := List.mem_flatten.1 hu
      obtain ⟨k, hk, rfl⟩ := List.getElem_of_mem hc'
      exact hE1 _ _ (HE.out k _ _ (List.getElem?_eq_getElem (show k < xs.length by omega)) (List.getElem?_eq_getElem hk)) u hu'
    clear hl hs hc hxs hfl
    go_enter Try.func41, Try.ntmps41
    go_wp2_with (at_builtin; refine wpList_append_own _ rfl _ _ 23 rfl w.heap.size 27 i0 (.agg #[.int .i64 0, .slice none 0 0, .int .i32 0, .slice none 0 0, .int .i64 0, .int .i64 0, .string ⟨#[]⟩, .int .i64 0, .int .i64 0, .bool false]) 10 120 Try.underlying23 hi hz0 hz1 hz2 rfl (by decide) _ 0 [] rfl (World.ownsRow_made w #[] 0 (Nat.le_refl _) (Nat.zero_le _) rfl) ad xs.length c css.flatten rfl HFL.out ?c1 hone (by omega) (by omega) (by simp) ?_)
    case c1 =>
      intro j u hu
      have h1 := HC.out ad rfl j u hu
      rw [← h1]; exact World.cell?_alloc_lt _ _ _ (World.block_lt_of_cell? w _ h1)
    · intro v' w1 hown' hgrow _
      have hb1 : Below w.heap.size w w1 := (below_al (Below.refl _ _) _).grown hgrow (by simp) (fun k e => by simp [Value.ownBlock] at e; omega)
      have hown : Owns w1 w.heap.size 27 10 v' css := ⟨by rw [HL.out]; simpa using hown', HS.out⟩
      clear hown' hgrow
      have HH := Lib.hid (And.intro hown hb1)
      clear hown hb1
      go_wp2_with fail
      go_ret
      exact ⟨v', css, rfl, HL.out, HE.out, HH.out.1, HH.out.2⟩

end Go.Proofs.Ytdnbholiijgedaa
