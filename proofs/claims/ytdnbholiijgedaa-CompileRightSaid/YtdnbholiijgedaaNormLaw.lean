/-
  A list of ranges is the union of itself just where its ranges are runes', rise and do not touch. Plain; no condition.
-/
import Derived.Test.YtdnbholiijgedaaRight
namespace Go.Proofs.Ytdnbholiijgedaa
set_option linter.unusedVariables false

def RgOK (x : Rg) : Prop := 0 ≤ x.lo ∧ x.lo ≤ x.hi ∧ x.hi ≤ 1114111
/-- A set, as the document has it. -/
def SetOK (l : List Rg) : Prop := (∀ x ∈ l, RgOK x) ∧ l.Pairwise (fun x y => x.hi + 2 ≤ y.lo)

theorem put_snoc (fr : List Rg) (y x : Rg) : putSpan (fr ++ [y]) x = if y.hi + 1 = x.lo then fr ++ [⟨y.lo, x.hi⟩] else fr ++ [y] ++ [x] := by simp [putSpan]
theorem put_nil (x : Rg) : putSpan [] x = [x] := rfl
theorem setOK_put (out : List Rg) (x : Rg) (h : SetOK out) (hx : RgOK x) (hl : ∀ y ∈ out, y.hi < x.lo) : SetOK (putSpan out x) ∧ ∀ y ∈ putSpan out x, y.hi ≤ x.hi := by
  rcases List.eq_nil_or_concat out with rfl | ⟨fr, y, rfl⟩
  · rw [put_nil]; exact ⟨⟨by simpa using hx, by simp⟩, by simp⟩
  · rw [List.concat_eq_append] at *
    rw [put_snoc]
    obtain ⟨h1, h2⟩ := h
    have hy := h1 y (by simp)
    have hyl := hl y (by simp)
    obtain ⟨hx0, hx1, hx2⟩ := hx
    obtain ⟨hy0, hy1, hy2⟩ := hy
    obtain ⟨p1, p2, p3⟩ := List.pairwise_append.1 h2
    split
    · refine ⟨⟨fun z hz => ?_, List.pairwise_append.2 ⟨p1, by simp, fun a ha b hb => ?_⟩⟩, fun z hz => ?_⟩
      · rcases List.mem_append.1 hz with hz | hz
        · exact h1 z (by simp [hz])
        · rw [List.mem_singleton.1 hz]; exact ⟨hy0, by simp; omega, hx2⟩
      · rw [List.mem_singleton.1 hb]; exact p3 a ha y (by simp)
      · rcases List.mem_append.1 hz with hz | hz
        · have := hl z (by simp [hz]); omega
        · rw [List.mem_singleton.1 hz]; simp
    · rename_i hne
      refine ⟨⟨fun z hz => ?_, List.pairwise_append.2 ⟨h2, by simp, fun a ha b hb => ?_⟩⟩, fun z hz => ?_⟩
      · rcases List.mem_append.1 hz with hz | hz
        · exact h1 z hz
        · rw [List.mem_singleton.1 hz]; exact ⟨hx0, hx1, hx2⟩
      · rw [List.mem_singleton.1 hb]
        rcases List.mem_append.1 ha with ha | ha
        · have := p3 a ha y (by simp); omega
        · rw [List.mem_singleton.1 ha]; omega
      · rcases List.mem_append.1 hz with hz | hz
        · have := hl z hz; omega
        · rw [List.mem_singleton.1 hz]; omega
theorem setOK_fold (is : Int → Bool) : ∀ (es : List (Int × Int)) (f n : Int) (out : List Rg), 0 ≤ f → (∀ x ∈ es, x.1 ≤ 1114112) → SetOK out → (∀ y ∈ out, y.hi < f) →
    SetOK ((spansOf f n es).foldl (fun out s => if is s.2 then putSpan out s.1 else out) out)
  | [], f, n, out, hf, _, ho, hl => by
    rw [spansOf]
    split
    · rw [List.foldl_cons, List.foldl_nil]
      split
      · exact (setOK_put out _ ho ⟨hf, by assumption, by simp⟩ hl).1
      · exact ho
    · exact ho
  | x :: es, f, n, out, hf, h, ho, hl => by
    have hx := h x (by simp)
    have hr := fun y hy => h y (List.mem_cons_of_mem _ hy)
    rw [spansOf]
    split
    · rw [List.foldl_cons]
      split
      · obtain ⟨h1, h2⟩ := setOK_put out ⟨f, x.1 - 1⟩ ho ⟨hf, by simp; omega, by simp; omega⟩ hl
        exact setOK_fold is es _ _ _ (by omega) hr h1 (fun y hy => by have := h2 y hy; simp at this; omega)
      · exact setOK_fold is es _ _ _ (by omega) hr ho (fun y hy => by have := hl y hy; omega)
    · exact setOK_fold is es _ _ _ hf hr ho hl
theorem edge1_ok {x : Rg} (h : RgOK x) : edge1 x = [(x.lo, 1), (x.hi + 1, -1)] := by
  obtain ⟨h0, h1, h2⟩ := h
  have e1 : max x.lo 0 = x.lo := by omega
  have e2 : min x.hi 1114111 = x.hi := by omega
  unfold edge1
  rw [e1, e2, if_pos h1]
theorem edges_sorted : ∀ {l : List Rg}, SetOK l → (l.flatMap edge1).Pairwise (fun x y => x.1 ≤ y.1)
  | [], _ => by simp
  | x :: l, ⟨h1, h2⟩ => by
    have hx := h1 x (by simp)
    have h3 : SetOK l := ⟨fun y hy => h1 y (by simp [hy]), (List.pairwise_cons.1 h2).2⟩
    rw [List.flatMap_cons, edge1_ok hx]
    refine List.pairwise_append.2 ⟨by have := hx.2.1; simp; omega, edges_sorted h3, fun a ha b hb => ?_⟩
    obtain ⟨y, hy, hb⟩ := List.mem_flatMap.1 hb
    rw [edge1_ok (h3.1 y hy)] at hb
    have h4 := (List.pairwise_cons.1 h2).1 y hy
    have h5 := hx.2.1
    have h6 := (h3.1 y hy).2.1
    simp only [List.mem_cons, List.not_mem_nil, or_false] at ha hb
    rcases ha with rfl | rfl <;> rcases hb with rfl | rfl <;> simp <;> omega
theorem fold_self : ∀ (l out : List Rg) (f : Int), SetOK l → 0 ≤ f → (∀ x ∈ l, f ≤ x.lo) → (∀ y ∈ out, ∀ x ∈ l, y.hi + 1 < x.lo) →
    (spansOf f 0 (l.flatMap edge1)).foldl (fun out s => if decide (0 < s.2) then putSpan out s.1 else out) out = out ++ l
  | [], out, f, _, hf, _, _ => by
    rw [List.flatMap_nil, spansOf]
    split <;> simp
  | x :: l, out, f, ⟨h1, h2⟩, hf, hlo, hg => by
    have hx := h1 x (by simp)
    have h3 : SetOK l := ⟨fun y hy => h1 y (by simp [hy]), (List.pairwise_cons.1 h2).2⟩
    have hfx := hlo x (by simp)
    have hp : putSpan out x = out ++ [x] := by
      rcases List.eq_nil_or_concat out with rfl | ⟨fr, y, rfl⟩
      · rfl
      · rw [List.concat_eq_append] at *
        rw [put_snoc, if_neg (by have := hg y (by simp) x (by simp); omega)]
    have ih := fold_self l (out ++ [x]) (x.hi + 1) h3 (by have := hx.1; have := hx.2.1; omega) (fun y hy => by have := (List.pairwise_cons.1 h2).1 y hy; omega)
      (fun y hy z hz => by
        rcases List.mem_append.1 hy with hy | hy
        · have h5 := hg y hy x (by simp)
          have h6 := (List.pairwise_cons.1 h2).1 z hz
          have h7 := hx.2.1
          omega
        · rw [List.mem_singleton.1 hy]; have h6 := (List.pairwise_cons.1 h2).1 z hz; omega)
    rw [List.append_assoc, List.singleton_append] at ih
    have h8 := hx.2.1
    have hbody : ∀ g : Int, g = x.lo → (spansOf g 1 ((x.hi + 1, -1) :: l.flatMap edge1)).foldl (fun out s => if decide (0 < s.2) then putSpan out s.1 else out) out = out ++ x :: l := by
      rintro g rfl
      rw [spansOf, if_pos (by show x.lo < x.hi + 1; omega), List.foldl_cons]
      simp only [show (1 : Int) + -1 = 0 by omega, Int.add_sub_cancel]
      rw [if_pos (by simp)]
      show List.foldl _ (putSpan out x) _ = _
      rw [hp]; exact ih
    rw [List.flatMap_cons, edge1_ok hx, List.cons_append, List.cons_append, List.nil_append, spansOf]
    by_cases hc : f < x.lo
    · rw [if_pos hc, List.foldl_cons, if_neg (by simp)]
      exact hbody x.lo rfl
    · rw [if_neg hc]
      exact hbody f (by omega)
theorem right_iff (l : List Rg) : rightR l = true ↔ SetOK l := by
  unfold rightR
  rw [eqR_eq]
  constructor
  · intro h
    rw [h]
    unfold normOf thoseOf
    refine setOK_fold (fun n => decide (0 < n)) _ 0 0 [] (by omega) (fun x hx => ?_) ⟨by simp, by simp⟩ (by simp)
    have hm : x ∈ edgesOf [l] := (List.mergeSort_perm _ _).subset hx
    exact (edges_vals l x hm).1.2
  · intro h
    have h1 := norm_any [l] (edgesOf [l]) (List.Perm.refl _) (by simpa [edgesOf] using edges_sorted h)
    rw [← h1]
    have h2 := fold_self l [] 0 h (by omega) (fun x hx => (h.1 x hx).1) (by simp)
    simp only [edgesOf, List.flatMap_cons, List.flatMap_nil, List.append_nil]
    unfold thoseOf
    rw [h2]; rfl
end Go.Proofs.Ytdnbholiijgedaa
