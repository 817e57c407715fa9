/-
  compile's loop, given the code of the Kid. No condition.
-/
import Derived.Test.YtdnbholiijgedaaComp2
import Derived.Deep.RegionWith
namespace Go.Proofs.Ytdnbholiijgedaa
open Go.RowKit
set_option linter.unusedVariables false

theorem emitS_grow {x : In} {s : St} (h : (emitS x s).2.2 = false) : s.2 = false ∧ emitS x s = ((s.1.length : Int), (s.1 ++ [x], false)) := by
  unfold emitS at h ⊢
  split at h
  · rename_i h1; rw [h1] at h; cases h
  · split at h
    · cases h
    · rename_i h1 h2
      exact ⟨by simpa using h1, by rw [if_neg h1, if_neg h2]⟩
/-- Where it is not too much behind, it was not ahead; and nothing went. -/
def Grow (s r : St) : Prop := r.2 = false → s.2 = false ∧ s.1.length ≤ r.1.length
theorem Grow.refl (s : St) : Grow s s := fun h => ⟨h, Nat.le_refl _⟩
theorem Grow.trans {a b c : St} (h : Grow a b) (k : Grow b c) : Grow a c := fun hc => ⟨(h (k hc).1).1, Nat.le_trans (h (k hc).1).2 (k hc).2⟩
theorem Grow.emit (x : In) (s : St) : Grow s (emitS x s).2 := fun h => by
  obtain ⟨h1, h2⟩ := emitS_grow h
  rw [h2]; exact ⟨h1, by simp⟩
theorem Grow.forks : ∀ (l : List Int) (to : Int) (s : St), Grow s (forksS l to s).2
  | [], to, s => by rw [forksS]; exact Grow.refl s
  | i :: l, to, s => by rw [forksS]; exact (Grow.forks l to s).trans (Grow.emit _ _)
theorem Grow.set (s : St) (i : Int) (x : In) : Grow s (setI s i x) := fun h => by
  unfold setI at h ⊢
  split at h
  · rename_i h1; rw [h1] at h; cases h
  · rename_i h1; rw [if_neg h1]; exact ⟨by simpa using h1, by simp⟩
theorem Grow.ite {c : Prop} [Decidable c] {s : St} {a b : Int × St} (h1 : c → Grow s a.2) (h2 : ¬ c → Grow s b.2) : Grow s (if c then a else b).2 := by
  split
  · exact h1 (by assumption)
  · exact h2 (by assumption)
mutual
theorem codeS_grow (g : Int) : ∀ (t : Tr) (to : Int) (s : St), Grow s (codeS g t to s).2
  | ⟨op, kids, rune, set, at_, cap, name, mn, mx, lz⟩, to, s => by
    have hH := fun to s => codeH_grow g kids to s
    have hR := codeR_grow g kids to s
    have hA := codeA_grow g kids to s
    rw [codeS]
    refine Grow.ite (fun _ => Grow.refl s) (fun _ => Grow.ite (fun _ => Grow.emit _ _) (fun _ => Grow.ite (fun _ => Grow.emit _ _) (fun _ => Grow.ite (fun _ => Grow.emit _ _) (fun _ => Grow.ite (fun _ => Grow.emit _ _) (fun _ =>
      Grow.ite (fun _ => Grow.ite (fun _ => hH _ _) (fun _ => ((Grow.emit _ _).trans (hH _ _)).trans (Grow.emit _ _))) (fun _ => Grow.ite (fun _ => hR) (fun _ => Grow.ite (fun _ => hA.trans (Grow.forks _ _ _)) (fun _ => Grow.ite (fun _ => (hH _ _).trans (Grow.emit _ _)) (fun _ =>
      Grow.ite (fun _ => ((Grow.emit _ _).trans (hH _ _)).trans (Grow.set _ _ _)) (fun _ => Grow.refl s))))))))))
theorem codeH_grow (g : Int) : ∀ (l : List Tr) (to : Int) (s : St), Grow s (codeH g l to s).2
  | [], to, s => by rw [codeH]; exact Grow.refl s
  | k :: l, to, s => by rw [codeH]; exact codeS_grow g k to s
theorem codeR_grow (g : Int) : ∀ (l : List Tr) (to : Int) (s : St), Grow s (codeR g l to s).2
  | [], to, s => by rw [codeR]; exact Grow.refl s
  | k :: l, to, s => by rw [codeR]; exact (codeR_grow g l to s).trans (codeS_grow g k _ _)
theorem codeA_grow (g : Int) : ∀ (l : List Tr) (to : Int) (s : St), Grow s (codeA g l to s).2
  | [], to, s => by rw [codeA]; exact Grow.refl s
  | k :: l, to, s => by rw [codeA]; exact (codeS_grow g k to s).trans (codeA_grow g l _ _)
end
theorem flat_set5 (a b c d e : Value) : ∀ (css : List (List Value)) (n : Nat), (∀ x ∈ css, x.length = 5) → n < css.length →
    (((((css.flatten.set (n * 5) a).set (n * 5 + 1) b).set (n * 5 + 2) c).set (n * 5 + 3) d).set (n * 5 + 4) e) = (css.set n [a, b, c, d, e]).flatten
  | [], n, _, h => by simp at h
  | x :: css, 0, h, _ => by
    have h0 := h x (by simp)
    match x, h0 with
    | [x0, x1, x2, x3, x4], _ => simp
  | x :: css, n + 1, h, hn => by
    have h0 := h x (by simp)
    have ih := flat_set5 a b c d e css n (fun y hy => h y (by simp [hy])) (by simpa using hn)
    rw [List.set_cons_succ, List.flatten_cons, List.flatten_cons, ← ih]
    have hs : ∀ (ys : List Value) (j : Nat) (u : Value), (x ++ ys).set ((n + 1) * 5 + j) u = x ++ ys.set (n * 5 + j) u := fun ys j u => by
      rw [List.set_append_right _ _ (by omega), h0, show (n + 1) * 5 + j - 5 = n * 5 + j by omega]
    have hs0 := fun ys u => hs ys 0 u
    simp only [Nat.add_zero] at hs0
    rw [hs0, hs, hs, hs, hs]
theorem bld_set {w2 w5 : World} {B0 G g c2 n : Nat} {st cp gr fo fa : Int} {l : List In} (h : BldAt w2 B0 G (.slice (some ⟨g, 0, none⟩) l.length c2) st cp gr (l, false)) (hb : Below w2.heap.size w2 w5) (hn : n < l.length) :
    BldAt (((((w5.setCell ⟨g, n * 5, none⟩ (.int .i64 3)).setCell ⟨g, n * 5 + 1, none⟩ (.int .i64 fo)).setCell ⟨g, n * 5 + 2, none⟩ (.int .i64 fa)).setCell ⟨g, n * 5 + 3, none⟩ (.slice none 0 0)).setCell ⟨g, n * 5 + 4, none⟩ (.int .i64 0)) B0 G (.slice (some ⟨g, 0, none⟩) l.length c2) st cp gr (l.set n ⟨3, fo, fa, [], 0⟩, false) ∧
    Touch G (some g) (some g) w2 (((((w5.setCell ⟨g, n * 5, none⟩ (.int .i64 3)).setCell ⟨g, n * 5 + 1, none⟩ (.int .i64 fo)).setCell ⟨g, n * 5 + 2, none⟩ (.int .i64 fa)).setCell ⟨g, n * 5 + 3, none⟩ (.slice none 0 0)).setCell ⟨g, n * 5 + 4, none⟩ (.int .i64 0)) := by
  have h5 := h.below hb
  obtain ⟨css, ho, hi⟩ := h5.row
  have hcl : css.length = l.length := hi.1
  have hne : g ≠ G := (h5.rowlt g rfl).2.2
  have ho1 : w5.ownsRow B0 39 5 (.slice (some ⟨g, 0, none⟩) l.length c2) l.length css.flatten := by have h9 := ho.1; rwa [hcl] at h9
  have hs1 := World.ownsRow.stored ho1 (n * 5) (.int .i64 3)
  have hs2 := World.ownsRow.stored hs1.1 (n * 5 + 1) (.int .i64 fo)
  have hs3 := World.ownsRow.stored hs2.1 (n * 5 + 2) (.int .i64 fa)
  have hs4 := World.ownsRow.stored hs3.1 (n * 5 + 3) (.slice none 0 0)
  have hs5 := World.ownsRow.stored hs4.1 (n * 5 + 4) (.int .i64 0)
  have hg := ((((hs1.2).trans hs2.2).trans hs3.2).trans hs4.2).trans hs5.2
  have ho5 := hs5.1
  rw [flat_set5 _ _ _ _ _ css n ho.2 (by omega)] at ho5
  generalize (((((w5.setCell ⟨g, n * 5, none⟩ (.int .i64 3)).setCell ⟨g, n * 5 + 1, none⟩ (.int .i64 fo)).setCell ⟨g, n * 5 + 2, none⟩ (.int .i64 fa)).setCell ⟨g, n * 5 + 3, none⟩ (.slice none 0 0)).setCell ⟨g, n * 5 + 4, none⟩ (.int .i64 0)) = W at hg ho5 ⊢
  have hmv : ∀ b', TyB 61 w5 b' → W.heap[b']? = w5.heap[b']? := fun b' hb' => hg.block b' hb'.lt (hb'.ne_own ho (by decide))
  refine ⟨⟨h.base, (hg.block G (heap_lt h5.blk) (fun e => hne (by injection e with e; exact e.symm))).trans h5.blk, css.set n [.int .i64 3, .int .i64 fo, .int .i64 fa, .slice none 0 0, .int .i64 0], ⟨by rw [List.length_set, hcl]; exact ho5, fun c hc => ?_⟩, by simp [hcl], fun i x c hx hc => ?_⟩, (Touch.of_below hb).trans (touch_grown hg (.inl rfl))⟩
  · rcases List.mem_or_eq_of_mem_set hc with h1 | rfl
    · exact ho.2 c h1
    · rfl
  · rw [List.getElem?_set] at hx hc
    by_cases hni : n = i
    · subst hni
      simp only [if_true, hcl, hn] at hx hc
      cases hx; cases hc
      exact inC_lit W _ _ _ _
    · rw [if_neg hni] at hx hc
      exact (hi.2 i x c hx hc).move hmv
def loopS (g : Int) (t : Tr) (to : Int) (s : St) : (Int × Int) × St :=
  let e := emitS ⟨3, 0, 0, [], 0⟩ s
  let i := codeH g t.kids e.1 e.2
  ((e.1, i.1), setI i.2 e.1 (forkI i.1 to t.lz))
def LoopPost (B0 G : Nat) (st cp gr : Int) (v : Value) (w : World) (r : (Int × Int) × St) (e : Ending) (w' : World) : Prop :=
  ∃ v', e = .returned (.tuple #[.int .i64 r.1.1, .int .i64 r.1.2]) ∧ BldAt w' B0 G v' st cp gr r.2 ∧ Touch G v.ownBlock v'.ownBlock w w'
set_option maxRecDepth 100000 in
set_option maxHeartbeats 1000000 in
theorem loop_any (B0 G : Nat) (st cp gr : Int) (t : Tr) (cs : List Value) (to : Int) (w : World) (v : Value) (s : St) (ht : TrC (fun b => b < B0) w t cs) (hb : BldAt w B0 G v st cp gr s) (hl : s.1.length ≤ 10000)
    (h1 : 0 < t.kids.length) (ih : CodeOK B0 G st cp gr t.kids[0]) :
    Calls Try.prog 40 #[.pointer (some ⟨G, 0, none⟩), .agg cs.toArray, .int .i64 to] w
      (LoopPost B0 G st cp gr v w (loopS gr t to s)) := by
  obtain ⟨A, c, B, d, rfl, k1, k2, k3, k4, h5, h6⟩ := trC_iff.1 ht
  have hGlt := hb.glt.1
  have hB0 := hb.glt.2
  have hem := fun W (hW : Below w.heap.size w W) => emit_any W B0 G v st cp gr s ⟨3, 0, 0, [], 0⟩ _ (hb.below hW) (inC_lit W _ _ _ _) hl
  have hgr := @emitS_grow ⟨3, 0, 0, [], 0⟩ s
  have hl1 := emitS_len ⟨3, 0, 0, [], 0⟩ s hl
  have hS : loopS gr t to s = (((emitS ⟨3, 0, 0, [], 0⟩ s).1, (codeS gr t.kids[0] (emitS ⟨3, 0, 0, [], 0⟩ s).1 (emitS ⟨3, 0, 0, [], 0⟩ s).2).1), setI (codeS gr t.kids[0] (emitS ⟨3, 0, 0, [], 0⟩ s).1 (emitS ⟨3, 0, 0, [], 0⟩ s).2).2 (emitS ⟨3, 0, 0, [], 0⟩ s).1 (forkI (codeS gr t.kids[0] (emitS ⟨3, 0, 0, [], 0⟩ s).1 (emitS ⟨3, 0, 0, [], 0⟩ s).2).1 to t.lz)) := by
    unfold loopS; simp only [codeH_eq h1]
  have hgk := codeS_grow gr t.kids[0] (emitS ⟨3, 0, 0, [], 0⟩ s).1 (emitS ⟨3, 0, 0, [], 0⟩ s).2
  have hih0 := fun cs w v h1 h2 h3 => ih cs (emitS ⟨3, 0, 0, [], 0⟩ s).1 w v (emitS ⟨3, 0, 0, [], 0⟩ s).2 h1 h2 h3
  generalize codeS gr t.kids[0] (emitS ⟨3, 0, 0, [], 0⟩ s).1 (emitS ⟨3, 0, 0, [], 0⟩ s).2 = E2 at *
  generalize emitS ⟨3, 0, 0, [], 0⟩ s = E1 at *
  have HH := Lib.hid (And.intro hb (And.intro h6 (And.intro hih0 (And.intro hgr (And.intro hgk hS)))))
  clear ih ht hb h6 hgr hgk hS hih0
  go_enter Try.func40, Try.ntmps40
  go_wp2_with fail
  refine (hem _ (by repeat (first | exact Below.refl _ _ | apply below_al | apply below_drewN))).mono ?_
  rintro e w1 ⟨v1, rfl, hb1, ht1⟩
  clear hem
  have hWX : Below w.heap.size w (w.alloc (.cells #[.int .i64 t.op, .slice A t.kids.length c, .int .i32 t.rune, .slice B t.set.length d, .int .i64 t.at_, .int .i64 t.cap, .string t.name, .int .i64 t.mn, .int .i64 t.mx, .bool t.lz] 27)) := by repeat (first | exact Below.refl _ _ | apply below_al | apply below_drewN)
  have hx1 := ht1.keep (HH.out.1.below hWX) (heap_new1 w _) (by decide) (by decide)
  have hol : Below B0 w w1 := (hWX.mono hB0).trans (ht1.old (HH.out.1.below hWX))
  have htt := (Touch.of_below hWX).trans ht1
  clear hWX ht1
  obtain ⟨g0, g1, g2, g3, g4, g5, g6, g7, g8, g9⟩ := cells10 hx1
  obtain ⟨ad, A1, c1, A3, c3, rfl, hTk, k0, k1', k2', k3', k4', k5, k6, k7, k8, k9⟩ := trArr_at0 HH.out.2.1 w1 (fun b hb' _ => hol.block b hb') h1
  have hih := HH.out.2.2.1 _ w1 v1 (hTk.move (fun b hb' _ => ⟨hol.block b hb', hb'⟩)) hb1 hl1
  have H1 := Lib.hid (And.intro hb1 (And.intro htt hx1))
  clear hb1 htt hx1 hTk hol
  go_wp2_with fail
  refine hih.mono ?_
  rintro e w2 ⟨v2, rfl, hb2, ht2⟩
  clear hih g0 g1 g2 g3 g4 g5 g6 g7 g8 g9 k0 k1' k2' k3' k4' k5 k6 k7 k8 k9
  have hx2 := ht2.keep H1.out.1 H1.out.2.2 (by decide) (by decide)
  obtain ⟨g0, g1, g2, g3, g4, g5, g6, g7, g8, g9⟩ := cells10 hx2
  have htt := H1.out.2.1.trans ht2
  obtain ⟨i, l, b⟩ := E2
  have hgk := HH.out.2.2.2.2.1
  have hk4 : w2.cell? ⟨G, 4, none⟩ = some (.bool b) := by rw [cell_of_blk hb2.blk]; rfl
  cases b with
  | true =>
    have H2 := Lib.hid (And.intro hb2 htt)
    clear hb2 htt ht2 hx2 hgk
    go_wp2_with fail
    go_ret2
    rw [HH.out.2.2.2.2.2]
    exact ⟨v2, rfl, H2.out.1, H2.out.2⟩
  | false =>
    obtain ⟨e1, e2⟩ := HH.out.2.2.2.1 (hgk rfl).1
    have hnl := (hgk rfl).2
    subst e2
    have hnl2 : s.1.length + 1 ≤ l.length := by simpa using hnl
    clear hnl hgk
    obtain ⟨css, hro, hri⟩ := hb2.row
    obtain ⟨A2, c2, rfl, ho1, ho2⟩ := Owns.shape hro
    rw [hri.1] at hb2 hro ho1
    obtain ⟨g, rfl⟩ : ∃ g, A2 = some ⟨g, 0, none⟩ := by
      rcases hro.1.2 with ⟨e, _⟩ | ⟨g, _, _, e, _⟩
      · injection e with e1 e2; have e3 : l.length = 0 := e2; omega
      · injection e with e1; exact ⟨g, e1⟩
    have hk0 : w2.cell? ⟨G, 0, none⟩ = some (.slice (some ⟨g, 0, none⟩) l.length c2) := by rw [cell_of_blk hb2.blk]; rfl
    have hcell : ∀ j, j < 5 → ∃ u, w2.cell? ⟨g, s.1.length * 5 + j, none⟩ = some u := fun j hj => by
      have hf : css.flatten.length = css.length * 5 := by rw [← hro.1.1]
      have hlt : s.1.length * 5 + j < css.flatten.length := by rw [hf, hri.1]; simp only; omega
      have h9 := hro.1.cells (g := g) rfl (s.1.length * 5 + j) _ (List.getElem?_eq_getElem hlt)
      have : (⟨g, 0, none⟩ : Addr).add (s.1.length * 5 + j) = ⟨g, s.1.length * 5 + j, none⟩ := by unfold Addr.add; split <;> simp_all
      rw [this] at h9
      exact ⟨_, h9⟩
    obtain ⟨u0, q0⟩ := hcell 0 (by omega)
    obtain ⟨u1, q1⟩ := hcell 1 (by omega)
    obtain ⟨u2, q2⟩ := hcell 2 (by omega)
    obtain ⟨u3, q3⟩ := hcell 3 (by omega)
    obtain ⟨u4, q4⟩ := hcell 4 (by omega)
    rw [Nat.add_zero] at q0
    obtain ⟨csg, fzg, hcg⟩ := own_ty hro (k := g) rfl
    have hgl := heap_lt hcg
    have hfz : ∀ j, w2.frozen? ⟨g, j, none⟩ = false := fun j => by
      rcases hro.1.2 with ⟨e, _⟩ | ⟨g', cap, cur, e, _, hh, _⟩
      · cases e
      · injection e with e1; injection e1 with e1; injection e1 with e1; subst e1
        simp [World.frozen?, hh]
    have z0 := hfz (s.1.length * 5)
    have z1 := hfz (s.1.length * 5 + 1)
    have z2 := hfz (s.1.length * 5 + 2)
    have z3 := hfz (s.1.length * 5 + 3)
    have z4 := hfz (s.1.length * 5 + 4)
    have hGl := hb2.glt.1
    have hwl := heap_lt hx2
    have hlt5 : s.1.length < l.length := by omega
    have hfk := fun W => fork_any W i to t.lz
    obtain ⟨fo, hfo⟩ : ∃ fo, fo = (forkI i to t.lz).out := ⟨_, rfl⟩
    obtain ⟨fa, hfa⟩ : ∃ fa, fa = (forkI i to t.lz).arg := ⟨_, rfl⟩
    have hfi : forkI i to t.lz = ⟨3, fo, fa, [], 0⟩ := by rw [hfo, hfa]; rfl
    rw [hfi] at hfk
    simp only [inV] at hfk
    have HF := Lib.hid hfi
    clear hfo hfa hfi
    have H2 := Lib.hid (And.intro hb2 (And.intro htt (And.intro hro (And.intro hri hcg))))
    clear hb2 htt ht2 hx2 hro hri hcg hcell hfz
    go_wp2_with fail
    go_region_with ((go_at_call 39; refine (hfk _).mono ?_; rintro e w5 ⟨rfl, hb5⟩; have hc5 : ∀ b o, b < w2.heap.size → w5.cell? ⟨b, o, none⟩ = w2.cell? ⟨b, o, none⟩ := fun b o hb' => hb5.cell (p := ⟨b, o, none⟩) hb'; have hf5 : ∀ b o, b < w2.heap.size → w5.frozen? ⟨b, o, none⟩ = w2.frozen? ⟨b, o, none⟩ := fun b o hb' => hb5.frozen (p := ⟨b, o, none⟩) hb'))
    all_goals
      have hb6 : Below w2.heap.size w2 w5 := by first | exact hb5 | exact (Below.refl _ _).drew.trans hb5
      obtain ⟨hbs, hts⟩ := bld_set (n := s.1.length) (fo := fo) (fa := fa) H2.out.1 hb6 hlt5
      have H3 := Lib.hid (And.intro hbs hts)
      clear hbs hts hb5 hb6 hc5 hf5 g0 g1 g2 g3 g4 g5 g6 g7 g8 g9 q0 q1 q2 q3 q4 z0 z1 z2 z3 z4 hk0 hk4
      go_wp2_with fail
      go_ret2
      rw [HH.out.2.2.2.2.2]
      refine ⟨.slice (some ⟨g, 0, none⟩) l.length c2, rfl, ?_, H2.out.2.1.trans H3.out.2⟩
      rw [HF.out]
      exact H3.out.1
end Go.Proofs.Ytdnbholiijgedaa
