/-
  martelloref05.Groups: the numbered parts, gathered. No condition.
-/
import Derived.Test.YtdnbholiijgedaaSizes
import Derived.Deep.AppendLies
import Derived.Deep.Onto
import Derived.Laws.OwnMore
namespace Go.Proofs.Ytdnbholiijgedaa
open Go.RowKit
set_option linter.unusedVariables false

/-- An append of a whole list of one's own. -/
theorem wpList_appN {P : Program} {ops : Array Oper} {rest : List Oper} {o : Oper} {a : Act} {Q : Exit → Act → World → Prop} {w : World} (hgd : o.guard = none) (s x : Operand) (t : TypeId)
    (ho : o.op = .call { callee := .builtin .append, args := #[s, x], argTypes := #[t, t] }) (base : Nat) (e : TypeId) (i : TypeInfo) (z : Value) (sz bytes : Nat) (ht : P.underlying t = some (.slice e)) (hi : P.info? e = some i) (hz : i.zero = some z)
    (hsize : i.size = sz) (hby : i.bytes = bytes) (hzs : z.cells.size = sz) (hsz : 0 < sz) (v : Value) (css : List (List Value)) (hs : a.eval s = v) (hown : Owns w base e sz v css)
    (v2 : Value) (css2 : List (List Value)) (base2 : Nat) (hx : a.eval x = v2) (hown2 : Owns w base2 e sz v2 css2) (h1 : ∀ c ∈ css2, ∀ u ∈ c, u.oneCell' = true)
    (hmax : css.length + css2.length ≤ maxLen) (hbytes : (css.length + css2.length) * bytes ≤ 140737488355328) (hbase : base ≤ w.heap.size)
    (h : ∀ v' w', Owns w' base e sz v' (css ++ css2) → w.grownBy w' v.ownBlock → wpList P ops Q rest (a.put o.dst v') w') : wpList P ops Q (o :: rest) a w := by
  refine wpList_plain hgd fun K hK => ?_
  unfold Oper.wp execOp
  rcases hown2.1.2 with ⟨e0, e1⟩ | ⟨g, cap, cur, e0, h2, h3, h4, h5, h6, h7⟩
  · subst e0
    have hn : css2 = [] := List.length_eq_zero_iff.1 e1
    subst hn
    have hr := run_append_owned_none (P := P) (w := w) base t o.type e i sz ht hi v css.length css.flatten hown.1
    simp only [ho, resolve, invoke, builtin, Sem.run_bind, Sem.run_pure, Result.andThen_ok, List.map_toArray, List.map_cons, List.map_nil, hs, hx, hr]
    exact hK _ _ (h _ _ (by rw [List.append_nil]; exact hown) ⟨rfl, rfl, rfl, Nat.le_refl _, fun _ _ _ => rfl⟩)
  · obtain ⟨v', w', hr, k2, k3, _, _⟩ := run_append_own_at (P := P) w base t o.type e i z sz bytes ht hi hz hsize hby hzs hsz v css.length css.flatten hown.1 ⟨g, 0, none⟩ css2.length cap css2.flatten hown2.1.1
      (fun j u hu => hown2.1.cells (g := g) (by rw [e0]; rfl) j u hu) (fun u hu => by obtain ⟨c, hc, hu⟩ := List.mem_flatten.1 hu; exact h1 c hc u hu) hmax hbytes hbase
    subst e0
    simp only [ho, resolve, invoke, builtin, Sem.run_bind, Sem.run_pure, Result.andThen_ok, List.map_toArray, List.map_cons, List.map_nil, hs, hx, hr]
    exact hK _ _ (h _ _ ⟨by rw [List.length_append, List.flatten_append]; exact k2, fun c hc => (List.mem_append.1 hc).elim (hown.2 c) (hown2.2 c)⟩ k3)
def gp (l : List Tr) : List Tr := l.filter (fun p => p.op == 6)
/-- Each element's number; its cells are one-celled. -/
def GrC (p : Tr) (c : List Value) : Prop := c[5]? = some (.int .i64 p.cap) ∧ ∀ u ∈ c, u.oneCell' = true
def GrsC (l : List Tr) (css : List (List Value)) : Prop := l.length = css.length ∧ ∀ q ∈ l.zip css, GrC q.1 q.2
theorem GrsC.app {a b : List Tr} {x y : List (List Value)} (h : GrsC a x) (k : GrsC b y) : GrsC (a ++ b) (x ++ y) := by
  refine ⟨by rw [List.length_append, List.length_append, h.1, k.1], fun q hq => ?_⟩
  rw [List.zip_append h.1] at hq
  exact (List.mem_append.1 hq).elim (h.2 q) (k.2 q)
theorem GrsC.one {l : List Tr} {css : List (List Value)} (h : GrsC l css) : ∀ c ∈ css, ∀ u ∈ c, u.oneCell' = true := by
  intro c hc
  obtain ⟨i, hi, rfl⟩ := List.getElem_of_mem hc
  have hi' : i < l.length := by rw [h.1]; exact hi
  exact (h.2 (l[i], css[i]) (List.mem_iff_getElem.2 ⟨i, by simp; omega, by simp⟩)).2
theorem gp_parts (t : Tr) : gp (parts t) = (if t.op = 6 then [t] else []) ++ gp (t.kids.flatMap parts) := by
  unfold gp
  rw [parts_eq, partsL_flat, List.filter_cons]
  by_cases h : t.op = 6
  · rw [if_pos (by simp [h]), if_pos h]; rfl
  · rw [if_neg (by simp [h]), if_neg h]; rfl
theorem gp_take {l : List Tr} {j : Nat} (h : j < l.length) : gp ((l.take (j + 1)).flatMap parts) = gp ((l.take j).flatMap parts) ++ gp (parts l[j]) := by
  unfold gp
  rw [List.take_succ_eq_append_getElem h, List.flatMap_append, List.filter_append]
  simp
def GroupsPost (t : Tr) (w : World) (e : Ending) (w' : World) : Prop := ∃ v css, e = .returned v ∧ Owns w' w.heap.size 27 10 v css ∧ GrsC (gp (parts t)) css ∧ Below w.heap.size w w'
theorem infoTr : (Try.prog.info? 27).map (fun i => (i.zero, i.size, i.bytes)) = some (some (.agg #[.int .i64 0, .slice none 0 0, .int .i32 0, .slice none 0 0, .int .i64 0, .int .i64 0, .string ⟨#[]⟩, .int .i64 0, .int .i64 0, .bool false]), 10, 120) := by kernel_rfl
set_option maxRecDepth 100000 in
set_option maxHeartbeats 2000000 in
theorem groups_any (ok : Nat → Prop) : ∀ (n : Nat) (t : Tr) (cs : List Value) (w : World), (parts t).length ≤ n → n ≤ 1000000000 → TrC ok w t cs →
    Calls Try.prog 12 #[.agg cs.toArray] w (GroupsPost t w) := by
  intro n
  induction n with
  | zero => intro t cs w hn; rw [parts_eq] at hn; simp at hn
  | succ n ih =>
    intro t cs w hn hn9 ht
    obtain ⟨A, c, B, d, rfl, h1, h2, h3, h4, h5, h6⟩ := trC_iff.1 ht
    have hgp := gp_parts t
    have hkl : t.kids.length ≤ 1000000000 := by have := kids_le t; omega
    have hfl : (gp (t.kids.flatMap parts)).length + 1 ≤ (parts t).length := by
      rw [parts_eq, partsL_flat, List.length_cons]
      have := List.length_filter_le (fun p : Tr => p.op == 6) (t.kids.flatMap parts)
      unfold gp
      omega
    have HG := Lib.hid (And.intro hgp (And.intro hfl h6))
    clear hgp hfl ht h5 h6
    have hx := heap_new1 w (.cells #[.int .i64 t.op, .slice A t.kids.length c, .int .i32 t.rune, .slice B t.set.length d, .int .i64 t.at_, .int .i64 t.cap, .string t.name, .int .i64 t.mn, .int .i64 t.mx, .bool t.lz] 27)
    have hxb : Below w.heap.size w (w.alloc (.cells #[.int .i64 t.op, .slice A t.kids.length c, .int .i32 t.rune, .slice B t.set.length d, .int .i64 t.at_, .int .i64 t.cap, .string t.name, .int .i64 t.mn, .int .i64 t.mx, .bool t.lz] 27)) := below_al (Below.refl _ _) _
    have hIr := infoTr
    obtain ⟨i0, hi0, hxx⟩ := Option.map_eq_some_iff.1 hIr
    simp only [Prod.mk.injEq] at hxx
    obtain ⟨hz0, hz1, hz2⟩ := hxx
    by_cases ho : t.op = 6
    · have o6 : (t.op == 6) = true := by rw [ho]; rfl
      have HO := Lib.hid ho
      clear ho
      go_enter Try.func12, Try.ntmps12
      go_wp2_with (at_builtin; refine wpList_app1 rfl _ _ 23 rfl (w.heap.size + 1) 27 i0 _ 10 120 Try.underlying23 hi0 hz0 hz1 hz2 rfl (by decide) _ [] rfl (Owns.nil _ _ _ _) _ [.int .i64 t.op, .slice A t.kids.length c, .int .i32 t.rune, .slice B t.set.length d, .int .i64 t.at_, .int .i64 t.cap, .string t.name, .int .i64 t.mn, .int .i64 t.mx, .bool t.lz] rfl rfl (heap_new2 _ _ _) ?c2 ?c3 ?c4 ?c5 ?_)
      case c2 => intro u hu; simp at hu; rcases hu with rfl | rfl | rfl | rfl | rfl | rfl | rfl | rfl | rfl | rfl <;> rfl
      case c3 => simp; unfold maxLen; omega
      case c4 => simp
      case c5 => simp
      intro v0 w0 hown hgrow
      have hb0 : Below w.heap.size w ((w.alloc (.cells #[.int .i64 t.op, .slice A t.kids.length c, .int .i32 t.rune, .slice B t.set.length d, .int .i64 t.at_, .int .i64 t.cap, .string t.name, .int .i64 t.mn, .int .i64 t.mx, .bool t.lz] 27)).alloc (.cells #[.int .i64 t.op, .slice A t.kids.length c, .int .i32 t.rune, .slice B t.set.length d, .int .i64 t.at_, .int .i64 t.cap, .string t.name, .int .i64 t.mn, .int .i64 t.mx, .bool t.lz] 27)) := below_al hxb _
      have hbx0 : ((w.alloc (.cells #[.int .i64 t.op, .slice A t.kids.length c, .int .i32 t.rune, .slice B t.set.length d, .int .i64 t.at_, .int .i64 t.cap, .string t.name, .int .i64 t.mn, .int .i64 t.mx, .bool t.lz] 27)).alloc (.cells #[.int .i64 t.op, .slice A t.kids.length c, .int .i32 t.rune, .slice B t.set.length d, .int .i64 t.at_, .int .i64 t.cap, .string t.name, .int .i64 t.mn, .int .i64 t.mx, .bool t.lz] 27)).heap[w.heap.size]? = some (.cells #[.int .i64 t.op, .slice A t.kids.length c, .int .i32 t.rune, .slice B t.set.length d, .int .i64 t.at_, .int .i64 t.cap, .string t.name, .int .i64 t.mn, .int .i64 t.mx, .bool t.lz] 27) := (Below.heap_alloc _ _ _ (by simp)).trans hx
      have hB := (hb0.grown hgrow (by simp; omega) (fun k e => by cases e))
      have hX := (hgrow.block _ (heap_lt hbx0) (fun e => by cases e)).trans hbx0
      obtain ⟨A0, c0, rfl, _⟩ := Owns.shape hown
      simp only [List.nil_append, List.length_cons, List.length_nil, Nat.zero_add] at hown ⊢
      have HS := Lib.hid (And.intro hown (And.intro (show GrsC ([t] ++ gp ((t.kids.take 0).flatMap parts)) ([[.int .i64 t.op, .slice A t.kids.length c, .int .i32 t.rune, .slice B t.set.length d, .int .i64 t.at_, .int .i64 t.cap, .string t.name, .int .i64 t.mn, .int .i64 t.mx, .bool t.lz]] : List (List Value)) from ⟨by simp [gp], fun q hq => by simp [gp] at hq; subst hq; exact ⟨rfl, fun u hu => by simp at hu; rcases hu with rfl | rfl | rfl | rfl | rfl | rfl | rfl | rfl | rfl | rfl <;> rfl⟩⟩) (And.intro hB hX)))
      clear hown hgrow hb0 hbx0 hB hX hx hxb
      go_wp2_with fail
      go_loopw [3, 4] (fun s3 s4 wr => ∃ (j : Nat) (css : List (List Value)), s4 = .int .i64 j ∧ j ≤ t.kids.length ∧ Owns wr (w.heap.size + 1) 27 10 s3 css ∧ GrsC ([t] ++ gp ((t.kids.take j).flatMap parts)) css ∧ Below w.heap.size w wr ∧ wr.heap[w.heap.size]? = some (.cells #[.int .i64 t.op, .slice A t.kids.length c, .int .i32 t.rune, .slice B t.set.length d, .int .i64 t.at_, .int .i64 t.cap, .string t.name, .int .i64 t.mn, .int .i64 t.mx, .bool t.lz] 27 (0, 0)) ∧ w.heap.size + 1 ≤ wr.heap.size) (fun _ s4 _ => t.kids.length - (intOf s4).toNat)
      case atStart => exact ⟨0, _, by simp, Nat.zero_le _, HS.out.1, HS.out.2.1, HS.out.2.2.1, HS.out.2.2.2, heap_lt HS.out.2.2.2⟩
      case round =>
        obtain ⟨j, css, rfl, hj, hown, hgr, hBr, hbx, hsz⟩ := hrel
        obtain ⟨g0, g1, g2, g3, g4, g5, g6, g7, g8, g9⟩ := cells10 hbx
        obtain ⟨A9, c9, rfl, q1, q2⟩ := Owns.shape hown
        by_cases hlt : j < t.kids.length
        · obtain ⟨ad, A1, c1, A3, c3, rfl, hTk, k0, k1, k2, k3, k4, k5, k6, k7, k8, k9⟩ := trArr_at HG.out.2.2 wr (fun b _ hb' => hBr.block b hb') j hlt
          have hkk := parts_kid hlt
          have hih := ih _ _ wr (by omega) (by omega) (hTk.move (fun b hb' hlt' => ⟨hBr.block b hlt', hb'⟩))
          have htk := gp_take hlt
          have hle1 : (gp ((t.kids.take j).flatMap parts)).length ≤ ((t.kids.take j).flatMap parts).length := List.length_filter_le _ _
          have hle2 : (gp (parts t.kids[j])).length ≤ (parts t.kids[j]).length := List.length_filter_le _ _
          have hcl := hgr.1
          rw [List.length_append] at hcl
          have hpl : ([t]).length ≤ 1 := by simp
          have HB := Lib.hid (And.intro hown (And.intro hgr (And.intro hBr (And.intro hbx htk))))
          clear hown hgr hBr hbx htk hTk ih
          go_wp2_with fail
          refine hih.mono ?_
          clear hih g0 g1 g2 g3 g4 g5 g6 g7 g8 g9 k0 k1 k2 k3 k4 k5 k6 k7 k8 k9
          rintro e w1 ⟨v2, css2, rfl, ho2, hg2, hb1⟩
          dsimp only
          have hown1 := HB.out.1.below hb1
          have hcl2 := hg2.1
          have hs1 := hb1.size
          have HC := Lib.hid (And.intro hg2 hb1)
          clear hg2 hb1
          go_wp2_with (at_builtin; refine wpList_appN rfl _ _ 23 rfl (w.heap.size + 1) 27 i0 _ 10 120 Try.underlying23 hi0 hz0 hz1 hz2 rfl (by decide) _ css rfl hown1 v2 css2 wr.heap.size rfl ho2 (GrsC.one HC.out.1) ?c3 ?c4 ?c5 ?_)
          case c3 => unfold maxLen; omega
          case c4 => omega
          case c5 => omega
          intro v4 w4 hown4 hgrow
          obtain ⟨_, hgr, hBr, hbx, htk⟩ := HB.out
          have hbw := below_and HC.out.2 hBr
          have hB4 := hbw.grown hgrow (by omega) (fun k e => by have := (hown1.lt k e).1; omega)
          have hX4 := (hgrow.block _ (by have := heap_lt hbx; omega) (fun e => by have := (hown1.lt _ e.symm).1; omega)).trans ((HC.out.2.block _ (heap_lt hbx)).trans hbx)
          have hg4 := hgr.app HC.out.1
          rw [List.append_assoc, ← htk] at hg4
          have hs4 := hgrow.size
          have H4 := Lib.hid (And.intro hown4 (And.intro hg4 (And.intro hB4 hX4)))
          clear hgr hBr hbx htk hbw hB4 hX4 hg4 hown4 hgrow hown1 ho2
          go_wp2_with fail
          go_roundw
          case rel => exact ⟨j + 1, _, by go_num, by omega, H4.out.1, H4.out.2.1, H4.out.2.2.1, H4.out.2.2.2, by omega⟩
          case measure => simp [intOf]; omega
        · obtain rfl : j = t.kids.length := by omega
          rw [List.take_length] at hgr
          have HB := Lib.hid (And.intro hown (And.intro hgr hBr))
          clear hown hgr hBr hbx
          go_wp2_with fail
          go_ret
          refine ⟨_, css, rfl, ⟨World.ownsRow.mono HB.out.1.1 (by omega), HB.out.1.2⟩, ?_, HB.out.2.2⟩
          rw [HG.out.1, if_pos HO.out]
          exact HB.out.2.1
    · have o6 : (t.op == 6) = false := by simpa using ho
      have HO := Lib.hid ho
      clear ho
      go_enter Try.func12, Try.ntmps12
      have HS := Lib.hid (And.intro (Owns.nil (w.alloc (.cells #[.int .i64 t.op, .slice A t.kids.length c, .int .i32 t.rune, .slice B t.set.length d, .int .i64 t.at_, .int .i64 t.cap, .string t.name, .int .i64 t.mn, .int .i64 t.mx, .bool t.lz] 27)) (w.heap.size + 1) 27 10) (And.intro (show GrsC ([] ++ gp ((t.kids.take 0).flatMap parts)) ([] : List (List Value)) from ⟨by simp [gp], fun q hq => by simp [gp] at hq⟩) (And.intro hxb hx)))
      clear hx hxb
      go_wp2_with fail
      go_loopw [3, 4] (fun s3 s4 wr => ∃ (j : Nat) (css : List (List Value)), s4 = .int .i64 j ∧ j ≤ t.kids.length ∧ Owns wr (w.heap.size + 1) 27 10 s3 css ∧ GrsC (([] : List Tr) ++ gp ((t.kids.take j).flatMap parts)) css ∧ Below w.heap.size w wr ∧ wr.heap[w.heap.size]? = some (.cells #[.int .i64 t.op, .slice A t.kids.length c, .int .i32 t.rune, .slice B t.set.length d, .int .i64 t.at_, .int .i64 t.cap, .string t.name, .int .i64 t.mn, .int .i64 t.mx, .bool t.lz] 27 (0, 0)) ∧ w.heap.size + 1 ≤ wr.heap.size) (fun _ s4 _ => t.kids.length - (intOf s4).toNat)
      case atStart => exact ⟨0, [], by simp, Nat.zero_le _, HS.out.1, HS.out.2.1, HS.out.2.2.1, HS.out.2.2.2, heap_lt HS.out.2.2.2⟩
      case round =>
        obtain ⟨j, css, rfl, hj, hown, hgr, hBr, hbx, hsz⟩ := hrel
        obtain ⟨g0, g1, g2, g3, g4, g5, g6, g7, g8, g9⟩ := cells10 hbx
        obtain ⟨A9, c9, rfl, q1, q2⟩ := Owns.shape hown
        by_cases hlt : j < t.kids.length
        · obtain ⟨ad, A1, c1, A3, c3, rfl, hTk, k0, k1, k2, k3, k4, k5, k6, k7, k8, k9⟩ := trArr_at HG.out.2.2 wr (fun b _ hb' => hBr.block b hb') j hlt
          have hkk := parts_kid hlt
          have hih := ih _ _ wr (by omega) (by omega) (hTk.move (fun b hb' hlt' => ⟨hBr.block b hlt', hb'⟩))
          have htk := gp_take hlt
          have hle1 : (gp ((t.kids.take j).flatMap parts)).length ≤ ((t.kids.take j).flatMap parts).length := List.length_filter_le _ _
          have hle2 : (gp (parts t.kids[j])).length ≤ (parts t.kids[j]).length := List.length_filter_le _ _
          have hcl := hgr.1
          rw [List.length_append] at hcl
          have hpl : (([] : List Tr)).length ≤ 1 := by simp
          have HB := Lib.hid (And.intro hown (And.intro hgr (And.intro hBr (And.intro hbx htk))))
          clear hown hgr hBr hbx htk hTk ih
          go_wp2_with fail
          refine hih.mono ?_
          clear hih g0 g1 g2 g3 g4 g5 g6 g7 g8 g9 k0 k1 k2 k3 k4 k5 k6 k7 k8 k9
          rintro e w1 ⟨v2, css2, rfl, ho2, hg2, hb1⟩
          dsimp only
          have hown1 := HB.out.1.below hb1
          have hcl2 := hg2.1
          have hs1 := hb1.size
          have HC := Lib.hid (And.intro hg2 hb1)
          clear hg2 hb1
          go_wp2_with (at_builtin; refine wpList_appN rfl _ _ 23 rfl (w.heap.size + 1) 27 i0 _ 10 120 Try.underlying23 hi0 hz0 hz1 hz2 rfl (by decide) _ css rfl hown1 v2 css2 wr.heap.size rfl ho2 (GrsC.one HC.out.1) ?c3 ?c4 ?c5 ?_)
          case c3 => unfold maxLen; omega
          case c4 => omega
          case c5 => omega
          intro v4 w4 hown4 hgrow
          obtain ⟨_, hgr, hBr, hbx, htk⟩ := HB.out
          have hbw := below_and HC.out.2 hBr
          have hB4 := hbw.grown hgrow (by omega) (fun k e => by have := (hown1.lt k e).1; omega)
          have hX4 := (hgrow.block _ (by have := heap_lt hbx; omega) (fun e => by have := (hown1.lt _ e.symm).1; omega)).trans ((HC.out.2.block _ (heap_lt hbx)).trans hbx)
          have hg4 := hgr.app HC.out.1
          rw [List.append_assoc, ← htk] at hg4
          have hs4 := hgrow.size
          have H4 := Lib.hid (And.intro hown4 (And.intro hg4 (And.intro hB4 hX4)))
          clear hgr hBr hbx htk hbw hB4 hX4 hg4 hown4 hgrow hown1 ho2
          go_wp2_with fail
          go_roundw
          case rel => exact ⟨j + 1, _, by go_num, by omega, H4.out.1, H4.out.2.1, H4.out.2.2.1, H4.out.2.2.2, by omega⟩
          case measure => simp [intOf]; omega
        · obtain rfl : j = t.kids.length := by omega
          rw [List.take_length] at hgr
          have HB := Lib.hid (And.intro hown (And.intro hgr hBr))
          clear hown hgr hBr hbx
          go_wp2_with fail
          go_ret
          refine ⟨_, css, rfl, ⟨World.ownsRow.mono HB.out.1.1 (by omega), HB.out.1.2⟩, ?_, HB.out.2.2⟩
          rw [HG.out.1, if_neg HO.out]
          exact HB.out.2.1
end Go.Proofs.Ytdnbholiijgedaa
