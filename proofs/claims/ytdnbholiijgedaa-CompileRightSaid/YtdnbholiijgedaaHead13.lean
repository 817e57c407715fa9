/-
  martellolaw13.head: what is asked of two trees. No condition.
-/
import Derived.Test.YtdnbholiijgedaaCompile
namespace Go.Proofs.Ytdnbholiijgedaa
open Go.RowKit
set_option linter.unusedVariables false

def aT : Tr := ⟨3, [], 97, [], 0, 0, ⟨#[]⟩, 0, 0, false⟩
def starT : Tr := ⟨7, [aT], 0, [], 0, 0, ⟨#[]⟩, 0, 0, false⟩
def zeroT : Tr := ⟨0, [], 0, [], 0, 0, ⟨#[]⟩, 0, 0, false⟩
theorem comp_star : compR starT 0 = ([⟨1, 0, 0, [], 0⟩, ⟨3, 2, 0, [], 0⟩, ⟨2, 1, 0, [⟨97, 97⟩], 0⟩], 1, 2, 0) := by kernel_rfl
theorem comp_zero : compR zeroT 0 = ([], 0, 0, 51) := by kernel_rfl
def aC : List Value := [.int .i64 3, .slice none 0 0, .int .i32 97, .slice none 0 0, .int .i64 0, .int .i64 0, .string ⟨#[]⟩, .int .i64 0, .int .i64 0, .bool false]
theorem aC_any (ok : Nat → Prop) (w : World) : TrC ok w aT aC := trC_iff.2 ⟨none, 0, none, 0, rfl, Nat.le_refl _, Nat.zero_le _, Nat.le_refl _, Nat.zero_le _, Arr.nil, Arr.nil⟩
theorem zeroC_any (ok : Nat → Prop) (w : World) : TrC ok w zeroT [.int .i64 0, .slice none 0 0, .int .i32 0, .slice none 0 0, .int .i64 0, .int .i64 0, .string ⟨#[]⟩, .int .i64 0, .int .i64 0, .bool false] := trC_iff.2 ⟨none, 0, none, 0, rfl, Nat.le_refl _, Nat.zero_le _, Nat.le_refl _, Nat.zero_le _, Arr.nil, Arr.nil⟩
theorem starC_any (w : World) (b : Nat) (h : w.heap[b]? = some (.cells aC.toArray 27 (0, 0))) : TrC (fun _ => True) w starT [.int .i64 7, .slice (some ⟨b, 0, none⟩) 1 1, .int .i32 0, .slice none 0 0, .int .i64 0, .int .i64 0, .string ⟨#[]⟩, .int .i64 0, .int .i64 0, .bool false] :=
  trC_iff.2 ⟨some ⟨b, 0, none⟩, 1, none, 0, rfl, Nat.le_refl _, by unfold maxLen; simp, Nat.le_refl _, Nat.zero_le _, Arr.nil, fun i x hx => by
    have hi : i < 1 := (List.getElem?_eq_some_iff.1 hx).1
    obtain rfl : i = 0 := by omega
    simp [starT] at hx
    subst hx
    refine ⟨_, aC, rfl, trivial, aC_any _ _, rfl, fun j u hu => ?_⟩
    have : (⟨b, 0, none⟩ : Addr).add (0 * 10 + j) = ⟨b, j, none⟩ := by unfold Addr.add; split <;> simp_all
    rw [this, cell_of_blk h]; simpa using hu⟩
theorem insts_at {W : World} {base : Nat} {v : Value} {css : List (List Value)} {l : List In} (h : Owns W base 39 5 v css) (hi : InsC W css l) : ∃ A c, v = .slice A l.length c ∧ l.length ≤ c ∧ c ≤ maxLen ∧ ∀ (i : Nat) (hl : i < l.length), ∃ g, A = some ⟨g, 0, none⟩ ∧ base ≤ g ∧ g < W.heap.size ∧
    W.cell? ⟨g, i * 5, none⟩ = some (.int .i64 l[i].op) ∧ W.cell? ⟨g, i * 5 + 1, none⟩ = some (.int .i64 l[i].out) ∧ W.cell? ⟨g, i * 5 + 2, none⟩ = some (.int .i64 l[i].arg) ∧ (∃ B d, W.cell? ⟨g, i * 5 + 3, none⟩ = some (.slice B l[i].set.length d) ∧ l[i].set.length ≤ d ∧ d ≤ maxLen ∧ Arr (TyB 61 W) W 2 RgC B l[i].set) ∧ W.cell? ⟨g, i * 5 + 4, none⟩ = some (.int .i64 l[i].at_) := by
  obtain ⟨A, c, rfl, h1, h2⟩ := Owns.shape h
  rw [hi.1] at h1 ⊢
  refine ⟨A, c, rfl, h1, h2, fun i hl => ?_⟩
  have hl' : i < css.length := by rw [hi.1]; exact hl
  obtain ⟨B, d, hc, hb1, hb2, hb3⟩ := hi.2 i l[i] css[i] (List.getElem?_eq_getElem hl) (List.getElem?_eq_getElem hl')
  have hsh : ∃ g, A = some ⟨g, 0, none⟩ := by
    rcases h.1.2 with ⟨e, e0⟩ | ⟨g, _, _, e, _⟩
    · omega
    · injection e with e; exact ⟨g, e⟩
  obtain ⟨g, rfl⟩ := hsh
  obtain ⟨hg0, hg1⟩ := h.lt g rfl
  have hcell : ∀ j u, css[i][j]? = some u → W.cell? ⟨g, i * 5 + j, none⟩ = some u := fun j u hu => by
    have h9 := h.1.cells (g := g) rfl (i * 5 + j) u (flatten_at h.2 (List.getElem?_eq_getElem hl') hu)
    have : (⟨g, 0, none⟩ : Addr).add (i * 5 + j) = ⟨g, i * 5 + j, none⟩ := by unfold Addr.add; split <;> simp_all
    rwa [this] at h9
  rw [hc] at hcell
  exact ⟨g, rfl, hg0, hg1, hcell 0 _ rfl, hcell 1 _ rfl, hcell 2 _ rfl, ⟨B, d, hcell 3 _ rfl, hb1, hb2, hb3⟩, hcell 4 _ rfl⟩
set_option maxRecDepth 100000 in
set_option maxHeartbeats 1000000 in
theorem head13_any (w : World) : Calls Try.prog 9 #[] w fun e w' => e = .returned (.bool true) ∧ Below w.heap.size w w' := by
  have h1 := fun (W : World) (b : Nat) hb => compile_any _ W starT _ 0 (starC_any W b hb) (by simp [parts_eq, partsL, starT, aT])
  have h2 := fun (W : World) => compile_any (fun _ => True) W zeroT _ 0 (zeroC_any _ W) (by simp [parts_eq, partsL, zeroT])
  rw [comp_star] at h1
  rw [comp_zero] at h2
  go_enter Try.func9, Try.ntmps9
  go_wp2_with fail
  refine (h1 _ w.heap.size (heap_new1 _ _)).mono ?_
  clear h1
  rintro e w1 ⟨v1, rfl, ⟨css1, ho1, hi1⟩, hb1⟩
  obtain ⟨A, c, rfl, hl1, hl2, hat⟩ := insts_at ho1 hi1
  obtain ⟨g, rfl, hg0, hg1, hz1, hout, hz2⟩ := hat 1 (by simp)
  clear hz1 hz2
  have hbw := below_and hb1 (below_al (Below.refl _ _) _)
  have hsz1 : w.heap.size + 1 ≤ w1.heap.size := by have := hb1.size; simpa using this
  have HA := Lib.hid (And.intro hout hbw)
  clear hat ho1 hi1 hb1 hout hbw
  simp only [List.length_cons, List.length_nil, Nat.reduceAdd] at hl1 hl2 ⊢
  go_wp2_with fail
  refine (h2 _).mono ?_
  clear h2
  rintro e w2 ⟨v2, rfl, ⟨css2, ho2, hi2⟩, hb2⟩
  obtain ⟨A2, c9, rfl, _⟩ := insts_at ho2 hi2
  have hout : w1.cell? ⟨g, 6, none⟩ = some (.int .i64 2) := HA.out.1
  have e1 := (hb2.block _ (by simp)).trans (heap_new1 w1 (.cells #[.slice (some ⟨g, 0, none⟩) 3 c, .int .i64 1, .int .i64 2] 32))
  have e2 := (hb2.cell (p := ⟨g, 6, none⟩) (by simp; omega)).trans ((below_al (Below.refl w1.heap.size w1) (.cells #[.slice (some ⟨g, 0, none⟩) 3 c, .int .i64 1, .int .i64 2] 32)).cell (p := ⟨g, 6, none⟩) hg1 |>.trans hout)
  obtain ⟨z0, z1, _⟩ := prog3 e1
  have n1 := heap_lt e1
  have n2 : g < w2.heap.size := by omega
  have hbz := below_and (below_and hb2 (below_al (Below.refl w1.heap.size w1) _)) HA.out.2
  have HZ := Lib.hid hbz
  clear e1 hb2 ho2 hi2 hout hbz
  dsimp only
  go_wp2_with fail
  go_ret
  exact ⟨rfl, by repeat (first | exact HZ.out | refine below_al ?_ _ | refine Below.setCell ?_ (by show w.heap.size ≤ w2.heap.size; omega) _)⟩
end Go.Proofs.Ytdnbholiijgedaa
