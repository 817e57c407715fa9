/-
  sets.edges: where the ranges of lists begin and end, in order. No condition but a bound on the lists.
-/
import Derived.Test.YtdnbholiijgedaaSort
import Derived.Test.YtdnbholiijgedaaPlain
import Derived.WalkKit
import Derived.Deep.LoopGhost
import Derived.Deep.QuietTactic
import Derived.BigQuiet
namespace Go.Proofs.Ytdnbholiijgedaa
open Go.RowKit Go.Shelf Go.Lib Go.Sort
set_option linter.unusedVariables false

def edge1 (r : Rg) : List (Int × Int) := if max r.lo 0 ≤ min r.hi 1114111 then [(max r.lo 0, 1), (min r.hi 1114111 + 1, -1)] else []
def edgesOf (ls : List (List Rg)) : List (Int × Int) := ls.flatMap fun l => l.flatMap edge1
/-- A list of ranges, as one value. -/
def RgsC (ok : Nat → Prop) (w : World) (l : List Rg) (cs : List Value) : Prop := ∃ B d, cs = [.slice B l.length d] ∧ Arr ok w 2 RgC B l

theorem infoEdge : (Try.prog.info? 113).map (fun i => (i.zero, i.size, i.bytes)) = some (some (.agg #[.int .i32 0, .int .i64 0]), 2, 16) := by kernel_rfl
def EdgesPost (ls : List (List Rg)) (w : World) (e : Ending) (w' : World) : Prop :=
  ∃ v es, e = .returned v ∧ es.Perm (edgesOf ls) ∧ es.Pairwise (fun x y => x.1 ≤ y.1) ∧ OwnE w' w.heap.size v es ∧ Below w.heap.size w w'
theorem edge1_len (r : Rg) : (edge1 r).length ≤ 2 := by unfold edge1; split <;> simp
theorem flat_len (l : List Rg) : (l.flatMap edge1).length ≤ 2 * l.length := by
  induction l with
  | nil => simp
  | cons x l ih => rw [List.flatMap_cons, List.length_append, List.length_cons]; have := edge1_len x; omega

theorem flat_size {sz : Nat} : ∀ {l : List (List Value)}, (∀ c ∈ l, c.length = sz) → l.flatten.length = l.length * sz
  | [], _ => by simp
  | x :: l, h => by rw [List.flatten_cons, List.length_append, flat_size (fun c hc => h c (by simp [hc])), h x (by simp), List.length_cons, Nat.add_mul]; omega
/-- An append of a block of elements. -/
theorem wpList_appM {P : Program} {ops : Array Oper} {rest : List Oper} {o : Oper} {a : Act} {Q : Exit → Act → World → Prop} {w : World} (hgd : o.guard = none) (s x : Operand) (t : TypeId)
    (ho : o.op = .call { callee := .builtin .append, args := #[s, x], argTypes := #[t, t] }) (base : Nat) (e : TypeId) (i : TypeInfo) (z : Value) (sz bytes : Nat) (ht : P.underlying t = some (.slice e)) (hi : P.info? e = some i) (hz : i.zero = some z)
    (hsize : i.size = sz) (hby : i.bytes = bytes) (hzs : z.cells.size = sz) (hsz : 0 < sz) (v : Value) (css : List (List Value)) (hs : a.eval s = v) (hown : Owns w base e sz v css)
    (g : Nat) (cs2 : List (List Value)) (m : Nat) (arr : Array Value) (hx : a.eval x = .slice (some ⟨g, 0, none⟩) m m) (hm : cs2.length = m) (hc : ∀ c ∈ cs2, c.length = sz) (hg : w.heap[g]? = some (.cells arr e (0, 0))) (harr : arr = cs2.flatten.toArray) (h1 : ∀ c ∈ cs2, ∀ u ∈ c, u.oneCell' = true)
    (hmax : css.length + m ≤ maxLen) (hbytes : (css.length + m) * bytes ≤ 140737488355328) (hbase : base ≤ w.heap.size)
    (h : ∀ v' w', Owns w' base e sz v' (css ++ cs2) → w.grownBy w' v.ownBlock → wpList P ops Q rest (a.put o.dst v') w') : wpList P ops Q (o :: rest) a w :=
  wpList_append_own w hgd s x t ho base e i z sz bytes ht hi hz hsize hby hzs hsz v css.length css.flatten hs hown.1 ⟨g, 0, none⟩ m m cs2.flatten hx (by rw [flat_size hc, hm])
    (fun j u hj => by
      have : (⟨g, 0, none⟩ : Addr).add j = ⟨g, j, none⟩ := by unfold Addr.add; split <;> simp_all
      rw [this, cell_of_blk hg, harr]; simpa using hj) (fun u hu => by obtain ⟨c, hc', hu'⟩ := List.mem_flatten.1 hu; exact h1 c hc' u hu') hmax hbytes hbase
    (fun v' w' h2 h3 _ => h v' w' ⟨by rw [List.length_append, List.flatten_append, hm]; exact h2, fun c' hc' => (List.mem_append.1 hc').elim (hown.2 c') (hc c')⟩ h3)
theorem take_next {l : List Rg} {j : Nat} (h : j < l.length) : (l.take (j + 1)).flatMap edge1 = (l.take j).flatMap edge1 ++ edge1 l[j] := by
  rw [List.take_succ_eq_append_getElem h, List.flatMap_append]; simp
theorem heap_newE {W : World} {o : Obj} {n : Nat} (h : n = W.heap.size) : (W.alloc o).heap[n]? = some o := by subst h; exact World.alloc_heap_new _ _
theorem rg_at {ok : Nat → Prop} {w wr : World} {B : Option Addr} {l : List Rg} (h : Arr ok w 2 RgC B l) (hb : RowKit.Below w.heap.size w wr) (j : Nat) (hj : j < l.length) :
    ∃ ad, B = some ad ∧ wr.cell? (ad.add (j * 2)) = some (.int .i32 l[j].lo) ∧ wr.cell? ⟨(ad.add (j * 2)).block, (ad.add (j * 2)).off + 1, none⟩ = some (.int .i32 l[j].hi) := by
  obtain ⟨ad, cs, rfl, _, hr, _, hc⟩ := h j _ (List.getElem?_eq_getElem hj)
  rw [hr] at hc
  have h0 := hc 0 _ rfl
  have h1 := hc 1 _ rfl
  rw [add_field _ _ _ (by omega)] at h1
  exact ⟨ad, rfl, (hb.cell (World.block_lt_of_cell? w _ h0)).trans h0, (hb.cell (World.block_lt_of_cell? w _ h1)).trans h1⟩
set_option maxRecDepth 100000 in
set_option maxHeartbeats 4000000 in
theorem edges_any (ok : Nat → Prop) (w : World) (A : Addr) (c : Nat) (ls : List (List Rg)) (h : Arr ok w 1 (RgsC ok w) (some A) ls) (hn : ls.length ≤ 2) (hN : ∀ l ∈ ls, l.length ≤ 1000000000) :
    Calls Try.prog 75 #[.slice (some A) ls.length c] w (EdgesPost ls w) := by
  obtain ⟨i0, hi, hx⟩ := Option.map_eq_some_iff.1 infoEdge
  simp only [Prod.mk.injEq] at hx
  obtain ⟨hz0, hz1, hz2⟩ := hx
  have HA := Lib.hid h
  clear h
  go_enter Try.func75, Try.ntmps75
  go_wp2_with fail
  go_loopg [3, 12] ls.length (fun g v i wr => ∃ k : Nat, k + g = ls.length ∧ i = .int .i64 k ∧ OwnE wr w.heap.size v (edgesOf (ls.take k)) ∧ Below w.heap.size w wr ∧ (edgesOf (ls.take k)).length ≤ 2000000000 * k)
  case atStart => exact ⟨0, by omega, rfl, Owns.nil _ _ _ _, Below.refl _ _, by simp [edgesOf]⟩
  case round =>
    obtain ⟨k, hk, rfl, hown, hBr, hel⟩ := hrel
    obtain ⟨G, hG⟩ : ∃ G, G = gk := ⟨_, rfl⟩
    by_cases hlt : k < ls.length
    · obtain ⟨ad, cs, hA', _, ⟨B, d, rfl, harr⟩, _, hc⟩ := HA.out k _ (List.getElem?_eq_getElem hlt)
      injection hA' with hA'
      subst hA'
      have hcw := hc 0 _ rfl
      rw [Nat.mul_one, Nat.add_zero] at hcw
      have hcr : wr.cell? (A.add k) = some (.slice B ls[k].length d) := (hBr.cell (World.block_lt_of_cell? w _ hcw)).trans hcw
      have HR := Lib.hid harr
      have HO := Lib.hid (And.intro hown hBr)
      clear hc hcw harr hown hBr
      have hll := hN _ (List.getElem_mem hlt)
      obtain ⟨l, hl⟩ : ∃ l, l = ls[k] := ⟨_, rfl⟩
      obtain ⟨E0, hE0⟩ : ∃ E0, E0 = edgesOf (ls.take k) := ⟨_, rfl⟩
      rw [← hl] at hcr HR hll
      rw [← hE0] at HO hel
      have HL := Lib.hid (And.intro hl hE0)
      clear hl hE0
      go_wp2_with fail
      go_loopg [3, 18] l.length (fun g2 v i wy => ∃ j : Nat, j + g2 = l.length ∧ i = .int .i64 j ∧ OwnE wy w.heap.size v (E0 ++ (l.take j).flatMap edge1) ∧ RowKit.Below w.heap.size w wy)
      case atStart => exact ⟨0, by omega, rfl, by simpa using HO.out.1, HO.out.2⟩
      case round =>
        obtain ⟨j, hj, rfl, hown, hBy⟩ := hrel
        by_cases hjl : j < l.length
        · obtain ⟨bd, rfl, hlo, hhi⟩ := rg_at HR.out hBy j hjl
          obtain ⟨lo, hlo'⟩ : ∃ z, z = l[j].lo := ⟨_, rfl⟩
          obtain ⟨hi', hhi'⟩ : ∃ z, z = l[j].hi := ⟨_, rfl⟩
          rw [← hlo'] at hlo
          rw [← hhi'] at hhi
          have HX := Lib.hid (And.intro hlo' hhi')
          have HO2 := Lib.hid (And.intro hown hBy)
          clear hlo' hhi' hown hBy
          by_cases hle : max lo 0 ≤ min hi' 1114111
          · have he : edge1 l[j] = [(max lo 0, 1), (min hi' 1114111 + 1, -1)] := by unfold edge1; rw [← HX.out.1, ← HX.out.2, if_pos hle]
            have HE := Lib.hid he
            clear he
            go_wp2_with fail
            go_quiet (fail)
            generalize hmx : max lo 0 = mx at *
            generalize hmn : min hi' 1114111 = mm at *
            have hmm : mm ≤ 1114111 := by omega
            have hm0 : 0 ≤ mx := by omega
            clear hmx hmn
            have hlen : ((E0 ++ (l.take j).flatMap edge1).map edgeC).length ≤ 6000000000 := by
              rw [List.length_map, List.length_append]
              have h5 := flat_len (l.take j)
              rw [List.length_take] at h5
              have h6 : 2000000000 * k ≤ 4000000000 := by omega
              omega
            go_wp2_with (at_builtin; refine wpList_appM rfl _ _ 106 rfl w.heap.size 113 i0 _ 2 16 Try.underlying106 hi hz0 hz1 hz2 rfl (by decide) _ _ rfl (Owns.alloc (show Owns ((wr.alloc _).drewN _) _ _ _ _ _ from HO2.out.1.alloc _) _) _ [edgeC (mx, 1), edgeC (mm + 1, -1)] 2 _ rfl rfl ?c1 (heap_newE (by simp)) rfl ?c2 ?c3 ?c4 ?c5 ?_)
            case c1 => intro cc hcc; simp at hcc; rcases hcc with rfl | rfl <;> rfl
            case c2 => intro cc hcc u hu; simp [edgeC] at hcc; rcases hcc with rfl | rfl <;> simp at hu <;> rcases hu with rfl | rfl <;> rfl
            case c3 => unfold maxLen; omega
            case c4 => omega
            case c5 => have := HO2.out.2.size; simp; omega
            intro v' w2 hown' hgrow
            have hb2 := below_app (below_al (below_drewN (below_al HO2.out.2 _) _) _) (by have := HO2.out.2.size; simp; omega) (Owns.alloc (show Owns ((wr.alloc (.cells #[.int .i32 lo, .int .i32 hi'] 61)).drewN nq) _ _ _ _ _ from HO2.out.1.alloc _) _) hgrow
            have H2 := Lib.hid (And.intro hown' hb2)
            clear hown' hgrow hb2 hlen
            go_wp2_with fail
            go_roundg (gk - 1)
            case measure => omega
            case rel =>
              refine ⟨j + 1, by omega, by go_num, ?_, H2.out.2⟩
              rw [take_next hjl, HE.out]
              have h5 := H2.out.1
              unfold OwnE
              rw [List.map_append, List.map_append]
              exact h5
          · have he : edge1 l[j] = [] := by unfold edge1; rw [← HX.out.1, ← HX.out.2, if_neg hle]
            have HE := Lib.hid he
            clear he
            go_wp2_with fail
            go_quiet (fail)
            go_wp2_with fail
            go_roundg (gk - 1)
            case measure => omega
            case rel =>
              refine ⟨j + 1, by omega, by go_num, ?_, below_drewN (below_al HO2.out.2 _) _⟩
              rw [take_next hjl, HE.out, List.append_nil]
              exact HO2.out.1.alloc _
        · obtain rfl : j = l.length := by omega
          rw [List.take_length] at hown
          have HO3 := Lib.hid (And.intro hown hBy)
          clear hown hBy
          go_wp2_with fail
          go_roundg (G - 1)
          case measure => omega
          case rel =>
            have h5 : edgesOf (ls.take (k + 1)) = E0 ++ l.flatMap edge1 := by
              unfold edgesOf
              rw [List.take_succ_eq_append_getElem hlt, List.flatMap_append, HL.out.2, HL.out.1]
              simp [edgesOf]
            refine ⟨k + 1, by omega, by go_num, by rw [h5]; exact HO3.out.1, HO3.out.2, ?_⟩
            rw [h5, List.length_append]
            have := flat_len l
            omega
    · obtain rfl : k = ls.length := by omega
      rw [List.take_length] at hown hel
      have hso := sort_own wr w.heap.size _ _ hown (by omega)
      have HO3 := Lib.hid hBr
      clear hown hBr
      go_wp2_with (go_at_call 78; refine hso.mono ?_; rintro e w2 ⟨rfl, es', hp, hpw, ho2, hb2⟩)
      go_ret
      exact ⟨_, es', rfl, hp, hpw, ho2, HO3.out.trans hb2⟩
end Go.Proofs.Ytdnbholiijgedaa
