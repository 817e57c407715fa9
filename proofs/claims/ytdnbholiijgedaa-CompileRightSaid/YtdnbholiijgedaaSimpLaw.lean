/-
  simplify.simple: the plain law: what is told is shaped, tidy, small, and made plain as it is. No program here but its words.
-/
import Derived.Test.YtdnbholiijgedaaSimpF
import Derived.Test.YtdnbholiijgedaaNames
namespace Go.Proofs.Ytdnbholiijgedaa
open Go.RowKit
set_option linter.unusedVariables false

theorem ba_inj {s s' : ByteArray} (h : s.data.toList = s'.data.toList) : s = s' := by
  cases s with | mk d => cases s' with | mk d' => simp at h; rw [h]
/-- What plain says of a tree's fields. -/
structure PlainF (R : List Rg → Bool) (q : Tr) : Prop where
  rune : q.op ≠ 3 → q.rune = 0
  set : q.op ≠ 4 → q.set = []
  at0 : q.op ≠ 5 → q.at_ = 0
  cap : q.op ≠ 6 → q.cap = 0
  name : q.op ≠ 6 → q.name = ⟨#[]⟩
  mn : q.op ≠ 10 → q.mn = 0
  mx : q.op ≠ 10 → q.mx = 0
  lz : q.op ≠ 7 → q.op ≠ 8 → q.op ≠ 9 → q.op ≠ 10 → q.lz = false
  val : opV (R q.set) q.op q.kids.length q.rune q.set.length q.at_ q.name q.mn q.mx = true
theorem plainF_iff {R : List Rg → Bool} {q : Tr} : plainB R q = true ↔ PlainF R q := by
  constructor
  · intro h
    unfold plainB plainV at h
    split at h
    · cases h
    rename_i h1
    split at h
    · cases h
    rename_i h2
    split at h
    · cases h
    rename_i h3
    split at h
    · cases h
    rename_i h4
    split at h
    · cases h
    rename_i h5
    split at h
    · cases h
    rename_i h6
    split at h
    · cases h
    rename_i h7
    split at h
    · cases h
    rename_i h8
    simp only [Decidable.not_not] at h1 h2 h3 h4 h5 h6 h7
    refine ⟨fun e => ?_, fun e => ?_, fun e => ?_, fun e => ?_, fun e => ?_, fun e => ?_, fun e => ?_, fun e1 e2 e3 e4 => ?_, h⟩
    · rw [bI, if_neg e] at h1; exact h1.symm
    · rw [bN, if_neg e] at h2; exact List.eq_nil_of_length_eq_zero (by omega)
    · rw [bI, if_neg e] at h3; exact h3.symm
    · rw [bI, if_neg e] at h4; exact h4.symm
    · rw [bS, if_neg e] at h5
      have h9 : q.name.toList = (⟨#[]⟩ : ByteArray).toList := h5.symm
      rw [ByteArray.toList_eq, ByteArray.toList_eq] at h9
      exact ba_inj h9
    · rw [bI, if_neg e] at h6; exact h6.symm
    · rw [bI, if_neg e] at h7; exact h7.symm
    · rw [bL] at h8
      simp [e1, e2, e3, e4] at h8
      exact h8
  · intro h
    have e1 : bI 3 q.op q.rune = q.rune := by
      unfold bI
      by_cases e : q.op = 3
      · rw [if_pos e]
      · rw [if_neg e, h.rune e]
    have e2 : (bN q.op q.set.length : Int) = q.set.length := by
      unfold bN
      by_cases e : q.op = 4
      · rw [if_pos e]
      · rw [if_neg e, h.set e]; rfl
    have e3 : bI 5 q.op q.at_ = q.at_ := by
      unfold bI
      by_cases e : q.op = 5
      · rw [if_pos e]
      · rw [if_neg e, h.at0 e]
    have e4 : bI 6 q.op q.cap = q.cap := by
      unfold bI
      by_cases e : q.op = 6
      · rw [if_pos e]
      · rw [if_neg e, h.cap e]
    have e5 : (bS q.op q.name).toList = q.name.toList := by
      unfold bS
      by_cases e : q.op = 6
      · rw [if_pos e]
      · rw [if_neg e, h.name e]
    have e6 : bI 10 q.op q.mn = q.mn := by
      unfold bI
      by_cases e : q.op = 10
      · rw [if_pos e]
      · rw [if_neg e, h.mn e]
    have e7 : bI 10 q.op q.mx = q.mx := by
      unfold bI
      by_cases e : q.op = 10
      · rw [if_pos e]
      · rw [if_neg e, h.mx e]
    have e8 : (!bL q.op q.lz == q.lz) = false := by
      unfold bL
      by_cases a7 : q.op = 7
      · simp [a7]
      by_cases a8 : q.op = 8
      · simp [a8]
      by_cases a9 : q.op = 9
      · simp [a9]
      by_cases a10 : q.op = 10
      · simp [a10]
      rw [h.lz a7 a8 a9 a10]; simp
    unfold plainB
    rw [plainV_fine e1 e2 e3 e4 e5 e6 e7 e8]
    exact h.val
theorem PlainF.ops {R : List Rg → Bool} {q : Tr} (h : PlainF R q) : 1 ≤ q.op ∧ q.op ≤ 12 ∧ (q.op ≤ 5 → q.kids.length = 0) ∧ (6 ≤ q.op → q.op ≤ 10 → q.kids.length = 1) ∧ (q.op = 12 → 0 < q.kids.length) ∧ (q.op = 10 → 0 ≤ q.mn ∧ q.mn ≤ 1000 ∧ (q.mx = -1 ∨ q.mn ≤ q.mx ∧ q.mx ≤ 1000)) := by
  have hv := h.val
  unfold opV at hv
  simp only [cast_beq1] at hv
  by_cases a1 : q.op = 1
  · rw [if_pos a1] at hv; have := of_decide_eq_true hv; refine ⟨?_, ?_, ?_, ?_, ?_, ?_⟩ <;> intros <;> omega
  rw [if_neg a1] at hv
  by_cases a2 : q.op = 2
  · rw [if_pos a2] at hv; have := of_decide_eq_true hv; refine ⟨?_, ?_, ?_, ?_, ?_, ?_⟩ <;> intros <;> omega
  rw [if_neg a2] at hv
  by_cases a3 : q.op = 3
  · rw [if_pos a3] at hv; simp at hv; refine ⟨?_, ?_, ?_, ?_, ?_, ?_⟩ <;> intros <;> first | omega | (rw [hv.1.1]; rfl)
  rw [if_neg a3] at hv
  by_cases a4 : q.op = 4
  · rw [if_pos a4] at hv; simp at hv; refine ⟨?_, ?_, ?_, ?_, ?_, ?_⟩ <;> intros <;> first | omega | (rw [hv.1.1]; rfl)
  rw [if_neg a4] at hv
  by_cases a5 : q.op = 5
  · rw [if_pos a5] at hv; simp at hv; refine ⟨?_, ?_, ?_, ?_, ?_, ?_⟩ <;> intros <;> first | omega | (rw [hv.1]; rfl)
  rw [if_neg a5] at hv
  by_cases a6 : q.op = 6
  · rw [if_pos a6] at hv; simp at hv; refine ⟨?_, ?_, ?_, ?_, ?_, ?_⟩ <;> intros <;> omega
  rw [if_neg a6] at hv
  by_cases a7 : q.op = 7
  · rw [if_pos a7] at hv; simp at hv; refine ⟨?_, ?_, ?_, ?_, ?_, ?_⟩ <;> intros <;> omega
  rw [if_neg a7] at hv
  by_cases a8 : q.op = 8
  · rw [if_pos a8] at hv; simp at hv; refine ⟨?_, ?_, ?_, ?_, ?_, ?_⟩ <;> intros <;> omega
  rw [if_neg a8] at hv
  by_cases a9 : q.op = 9
  · rw [if_pos a9] at hv; simp at hv; refine ⟨?_, ?_, ?_, ?_, ?_, ?_⟩ <;> intros <;> omega
  rw [if_neg a9] at hv
  by_cases a10 : q.op = 10
  · rw [if_pos a10] at hv; simp at hv; refine ⟨?_, ?_, ?_, ?_, ?_, ?_⟩ <;> intros <;> omega
  rw [if_neg a10] at hv
  by_cases a11 : q.op = 11
  · refine ⟨?_, ?_, ?_, ?_, ?_, ?_⟩ <;> intros <;> omega
  rw [if_neg a11] at hv
  by_cases a12 : q.op = 12
  · rw [if_pos a12] at hv; simp at hv; refine ⟨?_, ?_, ?_, ?_, ?_, ?_⟩ <;> intros <;> first | omega | (exact List.length_pos_iff.2 hv)
  rw [if_neg a12] at hv
  cases hv
end Go.Proofs.Ytdnbholiijgedaa
