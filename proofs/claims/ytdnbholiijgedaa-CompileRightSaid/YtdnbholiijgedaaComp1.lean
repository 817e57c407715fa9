/-
  A builder in memory; emit; fork. No condition.
-/
import Derived.Test.YtdnbholiijgedaaCompS
import Derived.Test.YtdnbholiijgedaaMore
import Derived.Test.YtdnbholiijgedaaProg
import Derived.Deep.RegionLaw
import Derived.Maps.AppendAt
namespace Go.Proofs.Ytdnbholiijgedaa
open Go.RowKit
set_option linter.unusedVariables false

/-- Block b holds cells of type T. -/
def TyB (T : TypeId) (w : World) (b : Nat) : Prop := ∃ cs fr, w.heap[b]? = some (.cells cs T fr)
def InC (w : World) (x : In) (cs : List Value) : Prop := ∃ B d, cs = [.int .i64 x.op, .int .i64 x.out, .int .i64 x.arg, .slice B x.set.length d, .int .i64 x.at_] ∧ x.set.length ≤ d ∧ d ≤ maxLen ∧ Arr (TyB 61 w) w 2 RgC B x.set
def InsC (w : World) (css : List (List Value)) (l : List In) : Prop := css.length = l.length ∧ ∀ (i : Nat) (x : In) (c : List Value), l[i]? = some x → css[i]? = some c → InC w x c
/-- Only the builder's block and its row have turned, and what is new. -/
structure Touch (G : Nat) (r r' : Option Nat) (w w' : World) : Prop where
  os : w'.os = w.os
  tape : w'.tape = w.tape
  output : w'.output = w.output
  size : w.heap.size ≤ w'.heap.size
  block : ∀ b, b < w.heap.size → b ≠ G → some b ≠ r → w'.heap[b]? = w.heap[b]?
  row : ∀ k, r' = some k → w.heap.size ≤ k ∨ r = some k
theorem Touch.trans {G : Nat} {r r1 r2 : Option Nat} {a b c : World} (h : Touch G r r1 a b) (k : Touch G r1 r2 b c) : Touch G r r2 a c :=
  ⟨k.os.trans h.os, k.tape.trans h.tape, k.output.trans h.output, Nat.le_trans h.size k.size, fun x hx hg hr => (k.block x (Nat.lt_of_lt_of_le hx h.size) hg (fun e => by
    rcases h.row x e.symm with h1 | h1
    · omega
    · exact hr h1.symm)).trans (h.block x hx hg hr), fun x hx => by
    rcases k.row x hx with h1 | h1
    · exact .inl (Nat.le_trans h.size h1)
    · exact h.row x h1⟩
theorem Touch.refl (G : Nat) (r : Option Nat) (w : World) : Touch G r r w w := ⟨rfl, rfl, rfl, Nat.le_refl _, fun _ _ _ _ => rfl, fun k h => .inr h⟩
theorem Touch.of_below {G : Nat} {r : Option Nat} {w w' : World} (h : Below w.heap.size w w') : Touch G r r w w' := ⟨h.os, h.tape, h.output, h.size, fun b hb _ _ => h.block b hb, fun k h => .inr h⟩
theorem Touch.below {G B0 : Nat} {r r' : Option Nat} {w0 w w' : World} (h : Touch G r r' w w') (hb : Below B0 w0 w) (hB : B0 ≤ w.heap.size) (hG : B0 ≤ G) (hr : ∀ k, r = some k → B0 ≤ k) : Below B0 w0 w' :=
  ⟨h.os.trans hb.os, h.tape.trans hb.tape, h.output.trans hb.output, Nat.le_trans hb.size h.size, fun k hk => (h.block k (by omega) (by omega) (fun e => by have := hr k e.symm; omega)).trans (hb.block k hk)⟩
/-- The builder. -/
structure BldAt (w : World) (B0 G : Nat) (v : Value) (st cp gr : Int) (s : St) : Prop where
  base : B0 ≤ G
  blk : w.heap[G]? = some (.cells #[v, .int .i64 st, .int .i64 cp, .int .i64 gr, .bool s.2] 49 (0, 0))
  row : ∃ css, Owns w B0 39 5 v css ∧ InsC w css s.1
theorem TyB.move {T : TypeId} {w w' : World} {b : Nat} (h : TyB T w b) (hm : w'.heap[b]? = w.heap[b]?) : TyB T w' b := by obtain ⟨cs, fr, h⟩ := h; exact ⟨cs, fr, hm.trans h⟩
theorem InC.move {w w' : World} {x : In} {cs : List Value} (h : InC w x cs) (hm : ∀ b, TyB 61 w b → w'.heap[b]? = w.heap[b]?) : InC w' x cs := by
  obtain ⟨B, d, h1, h2, h3, h4⟩ := h
  exact ⟨B, d, h1, h2, h3, h4.move (fun b hb hlt => ⟨hm b hb, hb.move (hm b hb)⟩) (by omega)⟩
theorem InsC.move {w w' : World} {css : List (List Value)} {l : List In} (h : InsC w css l) (hm : ∀ b, TyB 61 w b → w'.heap[b]? = w.heap[b]?) : InsC w' css l :=
  ⟨h.1, fun i x c hx hc => (h.2 i x c hx hc).move hm⟩
theorem TyB.lt {T : TypeId} {w : World} {b : Nat} (h : TyB T w b) : b < w.heap.size := by obtain ⟨cs, fr, h⟩ := h; exact heap_lt h
theorem TyB.ne {T T' : TypeId} {w : World} {b : Nat} {cs : Array Value} {fr : Nat × Nat} (h : TyB T w b) {b' : Nat} (h' : w.heap[b']? = some (.cells cs T' fr)) (hne : T ≠ T') : b ≠ b' := by
  rintro rfl
  obtain ⟨cs2, fr2, h⟩ := h
  rw [h] at h'
  injection h' with h'
  injection h' with _ h2
  exact hne h2
theorem own_ty {w : World} {B : Nat} {e : TypeId} {sz : Nat} {v : Value} {css : List (List Value)} (h : Owns w B e sz v css) {k : Nat} (hk : v.ownBlock = some k) : ∃ cs fr, w.heap[k]? = some (.cells cs e fr) := by
  rcases h.1.2 with ⟨rfl, _⟩ | ⟨g, cap, cur, rfl, _, hh, _⟩
  · simp [Value.ownBlock] at hk
  · have : g = k := by simpa [Value.ownBlock] using hk
    subst this
    exact ⟨_, _, hh⟩
theorem TyB.ne_own {T : TypeId} {w : World} {b B : Nat} {e : TypeId} {sz : Nat} {v : Value} {css : List (List Value)} (h : TyB T w b) (ho : Owns w B e sz v css) (hne : T ≠ e) : some b ≠ v.ownBlock := fun hk => by
  obtain ⟨cs, fr, hc⟩ := own_ty ho hk.symm
  exact h.ne hc hne rfl
/-- A builder stays in a later world. -/
theorem BldAt.below {w w' : World} {B0 G : Nat} {v : Value} {st cp gr : Int} {s : St} (h : BldAt w B0 G v st cp gr s) (hb : Below w.heap.size w w') : BldAt w' B0 G v st cp gr s := by
  obtain ⟨h0, h1, css, h2, h3⟩ := h
  exact ⟨h0, (hb.block _ (heap_lt h1)).trans h1, css, h2.below hb, h3.move (fun b hb' => hb.block b hb'.lt)⟩
theorem BldAt.rowlt {w : World} {B0 G : Nat} {v : Value} {st cp gr : Int} {s : St} (h : BldAt w B0 G v st cp gr s) : ∀ k, v.ownBlock = some k → B0 ≤ k ∧ k < w.heap.size ∧ k ≠ G := by
  obtain ⟨h0, h1, css, h2, h3⟩ := h
  intro k hk
  obtain ⟨a, b⟩ := h2.lt k hk
  obtain ⟨cs, fr, hc⟩ := own_ty h2 hk
  refine ⟨a, b, ?_⟩
  rintro rfl
  rw [h1] at hc
  injection hc with hc
  injection hc with _ h4
  exact absurd h4 (by decide)
theorem infoIn : (Try.prog.info? 39).map (fun i => (i.zero, i.size, i.bytes)) = some (some (.agg #[.int .i64 0, .int .i64 0, .int .i64 0, .slice none 0 0, .int .i64 0]), 5, 56) := by kernel_rfl
/-- An append, as one step of a region that draws its order. -/
theorem step_app1 {P : Program} {ops : Array Oper} {o : Oper} {a : Act} {Q : Exit → Act → World → Prop} {K : Act → World → Prop} {E : Prop} {w : World} (hgd : o.guard = none) (s x : Operand) (t : TypeId)
    (ho : o.op = .call { callee := .builtin .append, args := #[s, x], argTypes := #[t, t] }) (base : Nat) (e : TypeId) (z : Value) (sz bytes : Nat) (ht : P.underlying t = some (.slice e)) (hinfo : (P.info? e).map (fun i => (i.zero, i.size, i.bytes)) = some (some z, sz, bytes))
    (hzs : z.cells.size = sz) (hsz : 0 < sz) (v : Value) (css : List (List Value)) (hs : a.eval s = v) (hown : Owns w base e sz v css)
    (g : Nat) (c : List Value) (hx : a.eval x = .slice (some ⟨g, 0, none⟩) 1 1) (hc : c.length = sz) (hg : w.heap[g]? = some (.cells c.toArray e (0, 0))) (h1 : ∀ u ∈ c, u.oneCell' = true)
    (hmax : css.length + 1 ≤ maxLen) (hbytes : (css.length + 1) * bytes ≤ 140737488355328) (hbase : base ≤ w.heap.size)
    (h : ∀ v' w', Owns w' base e sz v' (css ++ [c]) → w.grownBy w' v.ownBlock → (v'.ownBlock = v.ownBlock ∨ v'.ownBlock = some w.heap.size) → K (a.put o.dst v') w') :
    if Region.wanted o (yielded ops a.tmps) = true then Oper.wp P o a w K Q else E := by
  obtain ⟨i0, hi, hzz⟩ := Option.map_eq_some_iff.1 hinfo
  simp only [Prod.mk.injEq] at hzz
  obtain ⟨hz0, hz1, hz2⟩ := hzz
  have hw : Region.wanted o (yielded ops a.tmps) = true := by simp [Region.wanted, hgd]
  rw [if_pos hw]
  obtain ⟨v1, w1, hr, hown1, hg1, _, hat⟩ := run_append_own_at (P := P) w base t o.type e i0 z sz bytes ht hi hz0 hz1 hz2 hzs hsz v css.length css.flatten hown.1 ⟨g, 0, none⟩ 1 1 c (by rw [hc]; simp)
    (fun j u hj => by
      have : (⟨g, 0, none⟩ : Addr).add j = ⟨g, j, none⟩ := by unfold Addr.add; split <;> simp_all
      rw [this, cell_of_blk hg]; simpa using hj) h1 hmax hbytes hbase
  have hs' := hs
  unfold Oper.wp execOp
  simp only [ho, resolve, invoke, builtin, Sem.run_bind, Sem.run_pure, Result.andThen_ok, List.map_toArray, List.map_cons, List.map_nil, hs, hx]
  rw [hr]
  exact h v1 w1 ⟨by rw [List.length_append, List.flatten_append]; simpa using hown1, fun c' hc' => (List.mem_append.1 hc').elim (hown.2 c') (fun e => by rw [List.mem_singleton.1 e]; exact hc)⟩ hg1 hat

/-! ### fork -/
def inV (x : In) : Value := .agg #[.int .i64 x.op, .int .i64 x.out, .int .i64 x.arg, .slice none 0 0, .int .i64 x.at_]
theorem fork_any (w : World) (a b : Int) (lz : Bool) : Calls Try.prog 39 #[.int .i64 a, .int .i64 b, .bool lz] w fun e w' => e = .returned (inV (forkI a b lz)) ∧ Below w.heap.size w w' := by
  cases lz <;>
  · go_enter Try.func39, Try.ntmps39
    go_wp2
    exact bodyPost_ret (v := inV (forkI a b _)) (by simp [results, Try.results39, go_sem, inV, forkI]) rfl ⟨rfl, by repeat (first | exact Below.refl _ _ | refine Below.setCell ?_ (by simp) _ | apply below_al)⟩

/-! ### emit -/
def EmitPost (B0 G : Nat) (st cp gr : Int) (v : Value) (w : World) (r : Int × St) (e : Ending) (w' : World) : Prop :=
  ∃ v', e = .returned (.int .i64 r.1) ∧ BldAt w' B0 G v' st cp gr r.2 ∧ Touch G v.ownBlock v'.ownBlock w w'
theorem blk_set {W : World} {b : Nat} {cs : Array Value} {ty : TypeId} {fr : Nat × Nat} (h : W.heap[b]? = some (.cells cs ty fr)) (j : Nat) (v : Value) : (W.setCell ⟨b, j, none⟩ v).heap[b]? = some (.cells (cs.setIfInBounds j v) ty fr) := by
  obtain ⟨hlt, hk⟩ := Array.getElem?_eq_some_iff.1 h
  show (W.heap.modify b _)[b]? = _
  rw [Array.getElem?_eq_getElem (by rw [Array.size_modify]; exact hlt), Array.getElem_modify_self, hk]
  rfl
theorem size_set (W : World) (a : Addr) (v : Value) : (W.setCell a v).heap.size = W.heap.size := by simp [World.setCell]
theorem touch_set {G : Nat} {r : Option Nat} (W : World) (j : Nat) (v : Value) : Touch G r r W (W.setCell ⟨G, j, none⟩ v) :=
  ⟨rfl, rfl, rfl, by rw [size_set]; exact Nat.le_refl _, fun b _ hg _ => Below.heap_setCell _ _ _ _ hg, fun k h => .inr h⟩
theorem touch_grown {G : Nat} {r r' : Option Nat} {W W' : World} (h : W.grownBy W' r) (hat : r' = r ∨ r' = some W.heap.size) : Touch G r r' W W' :=
  ⟨h.os, h.tape, h.output, h.size, fun b hb _ hr => h.block b hb hr, fun k hk => by
    rcases hat with e | e
    · exact .inr (by rw [← e]; exact hk)
    · rw [e] at hk; cases hk; exact .inl (Nat.le_refl _)⟩
/-- A store of a plain value into the builder. -/
theorem BldAt.many {w : World} {B0 G : Nat} {v : Value} {st cp gr : Int} {s : St} (h : BldAt w B0 G v st cp gr s) (b : Bool) : BldAt (w.setCell ⟨G, 4, none⟩ (.bool b)) B0 G v st cp gr (s.1, b) := by
  obtain ⟨h0, h1, css, h2, h3⟩ := h
  refine ⟨h0, blk_set h1 4 _, css, ⟨ownsRow_setCell_other h2.1 (fun hk => ?_) _, h2.2⟩, h3.move (fun b' hb' => Below.heap_setCell _ _ _ _ (hb'.ne h1 (by decide)))⟩
  obtain ⟨cs, fr, hc⟩ := own_ty h2 hk
  have hc' : w.heap[G]? = some (.cells cs 39 fr) := hc
  rw [h1] at hc'
  injection hc' with hc'
  injection hc' with _ h4
  exact absurd h4 (by decide)
/-- What an append onto a builder's row, and the store of the new row, leave. -/
theorem bld_app {w W w4 : World} {B0 G : Nat} {v v' : Value} {st cp gr : Int} {l : List In} {x : In} {c : List Value} {css : List (List Value)} {b : Bool} (h : BldAt W B0 G v st cp gr (l, b)) (hl : InsC W css l) (hx : InC W x c)
    (hown : Owns w4 B0 39 5 v' (css ++ [c])) (ho : Owns W B0 39 5 v css) (hg : W.grownBy w4 v.ownBlock) (hat : v'.ownBlock = v.ownBlock ∨ v'.ownBlock = some W.heap.size) :
    w4.heap[G]? = some (.cells #[v, .int .i64 st, .int .i64 cp, .int .i64 gr, .bool b] 49 (0, 0)) ∧
    BldAt (w4.setCell ⟨G, 0, none⟩ v') B0 G v' st cp gr (l ++ [x], b) ∧ Touch G v.ownBlock v'.ownBlock W (w4.setCell ⟨G, 0, none⟩ v') := by
  have h1 := h.blk
  have hne := fun k hk => (h.rowlt k hk).2.2
  have k1 : w4.heap[G]? = _ := (hg.block G (heap_lt h1) (fun e => hne G e.symm rfl)).trans h1
  have hmv : ∀ b', TyB 61 W b' → (w4.setCell ⟨G, 0, none⟩ v').heap[b']? = W.heap[b']? := fun b' hb' => by
    have h2 := hg.block b' hb'.lt (hb'.ne_own ho (by decide))
    rw [Below.heap_setCell _ _ _ _ (hb'.ne h1 (by decide))]
    exact h2
  refine ⟨k1, ⟨h.base, blk_set k1 0 v', css ++ [c], ⟨ownsRow_setCell_other hown.1 (fun hk => ?_) _, hown.2⟩, ⟨by simp [hl.1], fun i y cc hy hcc => ?_⟩⟩, (touch_grown hg hat).trans (touch_set _ _ _)⟩
  · obtain ⟨cs, fr, hc⟩ := own_ty hown hk
    have hc' : w4.heap[G]? = some (.cells cs 39 fr) := hc
    rw [k1] at hc'
    injection hc' with hc'
    injection hc' with _ h4
    exact absurd h4 (by decide)
  · rcases Nat.lt_or_ge i l.length with hi | hi
    · rw [List.getElem?_append_left hi] at hy
      rw [List.getElem?_append_left (by rw [hl.1]; exact hi)] at hcc
      exact (hl.2 i y cc hy hcc).move hmv
    · have : i < l.length + 1 := by have := (List.getElem?_eq_some_iff.1 hy).1; simpa using this
      obtain rfl : i = l.length := by omega
      rw [List.getElem?_append_right (Nat.le_refl _), Nat.sub_self] at hy
      rw [List.getElem?_append_right (by rw [hl.1]; exact Nat.le_refl _), hl.1, Nat.sub_self] at hcc
      simp at hy hcc
      subst hy; subst hcc
      exact hx.move hmv
theorem emit_app {W0 w4 : World} {B0 G : Nat} {v v' : Value} {st cp gr : Int} {l : List In} {x : In} {c : List Value} {css : List (List Value)} {o : Obj} (h : BldAt W0 B0 G v st cp gr (l, false)) (ho : Owns W0 B0 39 5 v css) (hi : InsC W0 css l) (hx : InC W0 x c)
    (hown : Owns w4 B0 39 5 v' (css ++ [c])) (hg : (W0.alloc o).drew.grownBy w4 v.ownBlock) (hat : v'.ownBlock = v.ownBlock ∨ v'.ownBlock = some (W0.alloc o).drew.heap.size) :
    w4.heap[G]? = some (.cells #[v, .int .i64 st, .int .i64 cp, .int .i64 gr, .bool false] 49 (0, 0)) ∧
    BldAt (w4.setCell ⟨G, 0, none⟩ v') B0 G v' st cp gr (l ++ [x], false) ∧ Touch G v.ownBlock v'.ownBlock W0 (w4.setCell ⟨G, 0, none⟩ v') := by
  have hb : Below W0.heap.size W0 (W0.alloc o).drew := (below_al (Below.refl _ _) _).drew
  have h2 := bld_app (w := W0) (h.below hb) (hi.move (fun b hb' => hb.block b hb'.lt)) (hx.move (fun b hb' => hb.block b hb'.lt)) hown (ho.below hb) hg hat
  exact ⟨h2.1, h2.2.1, (Touch.of_below hb).trans h2.2.2⟩
set_option maxRecDepth 100000 in
set_option maxHeartbeats 1000000 in
theorem emit_any (w : World) (B0 G : Nat) (v : Value) (st cp gr : Int) (s : St) (x : In) (cs : List Value) (hb : BldAt w B0 G v st cp gr s) (hx : InC w x cs) (hl : s.1.length ≤ 10000) :
    Calls Try.prog 34 #[.pointer (some ⟨G, 0, none⟩), .agg cs.toArray] w (EmitPost B0 G st cp gr v w (emitS x s)) := by
  obtain ⟨B, d, rfl, hx1, hx2, hx3⟩ := hx
  obtain ⟨css, ho, hi⟩ := hb.row
  obtain ⟨A, c, rfl, ho1, ho2⟩ := Owns.shape ho
  have hcl := hi.1
  rw [hcl] at hb ho ho1 ⊢
  have hk := hb.blk
  have k0 : w.cell? ⟨G, 0, none⟩ = some (.slice A s.1.length c) := by rw [cell_of_blk hk]; rfl
  have k4 : w.cell? ⟨G, 4, none⟩ = some (.bool s.2) := by rw [cell_of_blk hk]; rfl
  have f0 : w.frozen? ⟨G, 0, none⟩ = false := by simp [World.frozen?, hk]
  have f4 : w.frozen? ⟨G, 4, none⟩ = false := by simp [World.frozen?, hk]
  have hGlt := heap_lt hk
  have hB0 : B0 ≤ w.heap.size := by have := hb.base; omega
  obtain ⟨l, b⟩ := s
  simp only at *
  rcases b with _ | _
  · by_cases hten : l.length = 10000
    · have ht1 : ((l.length : Int) == 10000) = true := by simp; omega
      have HH := Lib.hid hb
      have HS := Lib.hid hten
      clear hb ho hi hx3 hk hten
      go_enter Try.func34, Try.ntmps34
      go_wp2_with fail
      go_ret
      have he : emitS x (l, false) = (0, (l, true)) := by rw [emitS, if_neg (by simp), if_pos HS.out]
      rw [he]
      exact ⟨.slice A l.length c, rfl, (HH.out.many true).below (below_al (Below.refl _ _) _), (touch_set _ _ _).trans (Touch.of_below (below_al (Below.refl _ _) _))⟩
    · have ht1 : ((l.length : Int) == 10000) = false := by simp; omega
      have HH := Lib.hid (And.intro hb (And.intro ho (And.intro hi (And.intro hx3 hk))))
      have HS := Lib.hid hten
      clear hb ho hi hx3 hk hten
      go_enter Try.func34, Try.ntmps34
      go_wp2_with fail
      have hb1 := (HH.out.1.many false).below (below_al (Below.refl _ _) (.cells #[.int .i64 x.op, .int .i64 x.out, .int .i64 x.arg, .slice B x.set.length d, .int .i64 x.at_] 39))
      have ht : Touch G (Value.slice A l.length c).ownBlock (Value.slice A l.length c).ownBlock w _ := (touch_set (G := G) w 4 (.bool false)).trans (Touch.of_below (below_al (Below.refl _ _) (.cells #[.int .i64 x.op, .int .i64 x.out, .int .i64 x.arg, .slice B x.set.length d, .int .i64 x.at_] 39)))
      have hbx := heap_new1 (w.setCell ⟨G, 4, none⟩ (.bool false)) (.cells #[.int .i64 x.op, .int .i64 x.out, .int .i64 x.arg, .slice B x.set.length d, .int .i64 x.at_] 39)
      have hmv : ∀ b', TyB 61 w b' → ((w.setCell ⟨G, 4, none⟩ (.bool false)).alloc (.cells #[.int .i64 x.op, .int .i64 x.out, .int .i64 x.arg, .slice B x.set.length d, .int .i64 x.at_] 39)).heap[b']? = w.heap[b']? := fun b' hb' => by
        rw [Below.heap_alloc _ _ _ (by rw [size_set]; exact hb'.lt), Below.heap_setCell _ _ _ _ (hb'.ne HH.out.2.2.2.2 (by decide))]
      obtain ⟨W0, hW0⟩ : ∃ W0, ((w.setCell ⟨G, 4, none⟩ (.bool false)).alloc (.cells #[.int .i64 x.op, .int .i64 x.out, .int .i64 x.arg, .slice B x.set.length d, .int .i64 x.at_] 39)) = W0 := ⟨_, rfl⟩
      rw [hW0] at hb1 ht hbx hmv ⊢
      rw [size_set] at hbx
      have hsz0 : w.heap.size < W0.heap.size := heap_lt hbx
      clear hW0
      obtain ⟨css1, ho', hi'⟩ := hb1.row
      have hxc : InC W0 x [.int .i64 x.op, .int .i64 x.out, .int .i64 x.arg, .slice B x.set.length d, .int .i64 x.at_] := (show InC w x _ from ⟨B, d, rfl, hx1, hx2, HH.out.2.2.2.1⟩).move hmv
      have g0 : W0.cell? ⟨G, 0, none⟩ = some (.slice A l.length c) := by rw [cell_of_blk hb1.blk]; rfl
      have g1 : W0.frozen? ⟨G, 0, none⟩ = false := by simp [World.frozen?, hb1.blk]
      have b0 : W0.cell? ⟨w.heap.size, 0, none⟩ = some (.int .i64 x.op) := by rw [cell_of_blk hbx]; rfl
      have b1 : W0.cell? ⟨w.heap.size, 1, none⟩ = some (.int .i64 x.out) := by rw [cell_of_blk hbx]; rfl
      have b2 : W0.cell? ⟨w.heap.size, 2, none⟩ = some (.int .i64 x.arg) := by rw [cell_of_blk hbx]; rfl
      have b3 : W0.cell? ⟨w.heap.size, 3, none⟩ = some (.slice B x.set.length d) := by rw [cell_of_blk hbx]; rfl
      have b4 : W0.cell? ⟨w.heap.size, 4, none⟩ = some (.int .i64 x.at_) := by rw [cell_of_blk hbx]; rfl
      have H2 := Lib.hid (And.intro hb1 (And.intro ht (And.intro ho' (And.intro hi' hxc))))
      clear hb1 ht hbx hmv ho' hi' hxc k0 k4 f0 f4
      have hl1 : css1.length + 1 ≤ 10001 := by have := H2.out.2.2.2.1.1; simp only at this; omega
      have hB1 : B0 ≤ W0.heap.size := by omega
      have hown0 := H2.out.2.2.1
      have hG2 : G < W0.heap.size := by omega
      have HO := Lib.hid hown0
      clear hown0
      go_region_law ((refine step_app1 rfl _ _ 30 rfl B0 39 _ 5 56 Try.underlying30 infoIn rfl (by decide) (.slice A l.length c) css1 rfl (by first | exact (Owns.alloc HO.out _).drew | exact Owns.alloc (Owns.drew HO.out) _) _ [.int .i64 x.op, .int .i64 x.out, .int .i64 x.arg, .slice B x.set.length d, .int .i64 x.at_] rfl rfl (World.alloc_heap_new _ _) (by simp [Value.oneCell']) (by unfold maxLen; omega) (by omega) (by simp; omega) ?_); intro v' w4 hown' hgrow hat; obtain ⟨k1, k2, k3⟩ := emit_app H2.out.1 H2.out.2.2.1 H2.out.2.2.2.1 H2.out.2.2.2.2 hown' hgrow hat; (have hsh : ∃ A5 c5, v' = .slice A5 (l.length + 1) c5 := by obtain ⟨A5, c5, h, _⟩ := hown'.shape; exact ⟨A5, c5, by rw [h, List.length_append, H2.out.2.2.2.1.1]; rfl⟩); (obtain ⟨A5, c5, rfl⟩ := hsh); (have q1 : w4.cell? ⟨G, 0, none⟩ = some (.slice A l.length c) := by rw [cell_of_blk k1]; rfl); (have q2 : w4.frozen? ⟨G, 0, none⟩ = false := by simp [World.frozen?, k1]); have HG := Lib.hid (And.intro k2 k3); clear k1 k2 k3 hown' hgrow hat)
      all_goals
        clear g0 g1 b0 b1 b2 b3 b4
        go_wp2_with fail
        go_ret
        have he : emitS x (l, false) = ((l.length : Int), (l ++ [x], false)) := by rw [emitS, if_neg (by simp), if_neg HS.out]
        rw [he]
        exact ⟨_, rfl, HG.out.1, H2.out.2.1.trans HG.out.2⟩
  · have HH := Lib.hid hb
    clear hb ho hi hx3 hk
    go_enter Try.func34, Try.ntmps34
    go_wp2_with fail
    go_ret
    have he : emitS x (l, true) = (0, (l, true)) := by rw [emitS, if_pos rfl]
    rw [he]
    exact ⟨.slice A l.length c, rfl, (HH.out.many true).below (below_al (Below.refl _ _) _), (touch_set _ _ _).trans (Touch.of_below (below_al (Below.refl _ _) _))⟩
end Go.Proofs.Ytdnbholiijgedaa
