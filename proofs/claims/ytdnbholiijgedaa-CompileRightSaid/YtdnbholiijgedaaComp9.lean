/-
  compile's code on any shaped tree. No condition.
-/
import Derived.Test.YtdnbholiijgedaaComp8
import Derived.Test.YtdnbholiijgedaaShaped
namespace Go.Proofs.Ytdnbholiijgedaa
open Go.RowKit
set_option linter.unusedVariables false

def fineP (p : Tr) : Prop := (p.op = 6 → p.kids.length = 1 ∧ 1 ≤ p.cap) ∧ (p.op = 7 ∨ p.op = 8 ∨ p.op = 9 → 0 < p.kids.length) ∧ (p.op = 12 → 0 < p.kids.length) ∧ p.set.length ≤ 1000000000 ∧ p.kids.length ≤ 1000000000
theorem code_any (B0 G : Nat) (st cp gr : Int) (hgr : 0 ≤ gr ∧ gr ≤ 2000) : ∀ (n : Nat) (t : Tr), (parts t).length ≤ n → (∀ p ∈ parts t, fineP p) → CodeOK B0 G st cp gr t := by
  intro n
  induction n with
  | zero => intro t hn; rw [parts_eq] at hn; simp at hn
  | succ n ih =>
    intro t hn hf cs to w v s ht hb hl
    have hk : ∀ k ∈ t.kids, CodeOK B0 G st cp gr k := by
      intro k hk
      obtain ⟨i, hi, rfl⟩ := List.getElem_of_mem hk
      have := parts_kid hi
      exact ih _ (by omega) (fun p hp => hf p (mem_parts_kid hi hp))
    have hk0 : ∀ h : 0 < t.kids.length, CodeOK B0 G st cp gr t.kids[0] := fun h => hk _ (List.getElem_mem h)
    obtain ⟨f1, f2, f3, f4, f5⟩ := hf t (mem_parts_self t)
    cases hm : s.2 with
    | true => exact code_many B0 G st cp gr t cs to w v s ht hb hm
    | false =>
      by_cases h1 : t.op = 1
      · exact code_fail B0 G st cp gr t cs to w v s ht hb hl hm h1
      by_cases h3 : t.op = 3
      · exact code_rune B0 G st cp gr t cs to w v s ht hb hl hm h3
      by_cases h4 : t.op = 4
      · exact code_set B0 G st cp gr t cs to w v s ht hb hl hm h4 f4
      by_cases h5 : t.op = 5
      · exact code_at B0 G st cp gr t cs to w v s ht hb hl hm h5
      by_cases h6 : t.op = 6
      · exact code_cap B0 G st cp gr t cs to w v s ht hb hl hm h6 hgr (by have := (f1 h6).1; omega) (f1 h6).2 (hk0 _)
      by_cases h7 : t.op = 7
      · exact code_star B0 G st cp gr t cs to w v s ht hb hl hm h7 (f2 (by omega)) (hk0 _)
      by_cases h8 : t.op = 8
      · exact code_plus B0 G st cp gr t cs to w v s ht hb hl hm h8 (f2 (by omega)) (hk0 _)
      by_cases h9 : t.op = 9
      · exact code_quest B0 G st cp gr t cs to w v s ht hb hl hm h9 (f2 (by omega)) (hk0 _)
      by_cases h11 : t.op = 11
      · exact callsIn_wide.1 (code_cat B0 G st cp gr t cs to w v s ht hb hl hm h11 f5 hk)
      by_cases h12 : t.op = 12
      · exact callsIn_wide.1 (code_alt B0 G st cp gr t cs to w v s ht hb hl hm h12 (f3 h12) f5 hk)
      exact code_rest B0 G st cp gr t cs to w v s ht hb hl hm (by omega)
theorem opV_of {rs : Bool} {op : Int} {n : Nat} {r : Int} {m : Nat} {at_ c : Int} {nm : ByteArray} {mn mx : Int} {lz : Bool} (h : plainV rs op n r m at_ c nm mn mx lz = true) : opV rs op n r m at_ nm mn mx = true := by
  unfold plainV at h
  repeat' split at h
  all_goals first | exact h | cases h
theorem fine_of {R : List Rg → Bool} {t : Tr} (h : shapedB R t = true) (hs : ∀ p ∈ parts t, p.set.length ≤ 1000000000 ∧ p.kids.length ≤ 1000000000) : ∀ p ∈ parts t, fineP p := by
  intro p hp
  have h1 := List.all_eq_true.1 h p hp
  unfold goodP plainB at h1
  rw [Bool.and_eq_true] at h1
  obtain ⟨h2, h3⟩ := h1
  have h4 := opV_of h2
  refine ⟨fun ho => ?_, fun ho => ?_, fun ho => ?_, hs p hp⟩
  · simp [opV, ho] at h4
    simp [ho] at h3
    exact ⟨by omega, by omega⟩
  · rcases ho with ho | ho | ho
    all_goals
      simp [opV, ho] at h4
      omega
  · simp [opV, ho] at h4
    omega
end Go.Proofs.Ytdnbholiijgedaa
