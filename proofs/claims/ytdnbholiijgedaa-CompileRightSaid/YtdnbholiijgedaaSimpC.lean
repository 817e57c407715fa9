/-
  simplify.joined: trees one behind the other. No condition.
-/
import Derived.Test.YtdnbholiijgedaaSimpB
import Derived.Test.YtdnbholiijgedaaClone
import Derived.Test.YtdnbholiijgedaaComp1
namespace Go.Proofs.Ytdnbholiijgedaa
open Go.RowKit
set_option linter.unusedVariables false

theorem run_append_zero {P : Program} {w : World} (t ty e : TypeId) (i : TypeInfo) (ht : P.underlying t = some (.slice e)) (hi : P.info? e = some i) (A A2 : Option Addr) (n c c2 : Nat) (hnc : n ≤ c) :
    (Builtin.append_ #[t, t] ty #[.slice A n c, .slice A2 0 c2]).run P w = .ok (.slice A n c) w := by
  cases A <;> cases A2 <;> simp [Builtin.append_, run_underlying ht, sizeOf, typeInfo, hi, Builtin.lenOf, Builtin.firstCells, hnc, storeCells, loadCells, loadCellsFrom]
/-- An append of a slice of trees. -/
theorem wpList_appA {P : Program} {ops : Array Oper} {rest : List Oper} {o : Oper} {a : Act} {Q : Exit → Act → World → Prop} {w : World} (hgd : o.guard = none) (s x : Operand) (t : TypeId)
    (ho : o.op = .call { callee := .builtin .append, args := #[s, x], argTypes := #[t, t] }) (base : Nat) (e : TypeId) (i : TypeInfo) (z : Value) (bytes : Nat) (ht : P.underlying t = some (.slice e)) (hi : P.info? e = some i) (hz : i.zero = some z)
    (hsize : i.size = 10) (hby : i.bytes = bytes) (hzs : z.cells.size = 10) (v : Value) (css : List (List Value)) (hs : a.eval s = v) (hown : Owns w base e 10 v css)
    (A2 : Option Addr) (ts : List Tr) (c2 : Nat) (ok : Nat → Prop) (hx : a.eval x = .slice A2 ts.length c2) (hA : Arr ok w 10 (TrC ok w) A2 ts)
    (hmax : css.length + ts.length ≤ maxLen) (hbytes : (css.length + ts.length) * bytes ≤ 140737488355328) (hbase : base ≤ w.heap.size)
    (h : ∀ v' w' css2, TsC ok w ts css2 → Owns w' base e 10 v' (css ++ css2) → w.grownBy w' v.ownBlock → wpList P ops Q rest (a.put o.dst v') w') : wpList P ops Q (o :: rest) a w := by
  refine wpList_plain hgd fun K hK => ?_
  unfold Oper.wp execOp
  obtain ⟨css2, k1, k2, k3, k4⟩ := hA.css
  have hts : TsC ok w ts css2 := ⟨k1, k2⟩
  cases ts with
  | nil =>
    obtain ⟨A1, c1, rfl, hnc, _⟩ := Owns.shape hown
    obtain rfl : css2 = [] := List.eq_nil_of_length_eq_zero k1
    have hr := run_append_zero (P := P) (w := w) t o.type e i ht hi A1 A2 css.length c1 c2 hnc
    simp only [ho, resolve, invoke, builtin, Sem.run_bind, Sem.run_pure, Result.andThen_ok, List.map_toArray, List.map_cons, List.map_nil, hs, hx, List.length_nil, hr]
    exact hK _ _ (h _ _ [] hts (by rw [List.append_nil]; exact hown) ⟨rfl, rfl, rfl, Nat.le_refl _, fun _ _ _ => rfl⟩)
  | cons t0 ts =>
    obtain ⟨ad, _, rfl, _⟩ := hA 0 t0 rfl
    have hfl : css2.flatten.length = (t0 :: ts).length * 10 := by
      rw [← k1]
      clear k1 k2 k4 hts
      induction css2 with
      | nil => rfl
      | cons c cs ihc =>
        rw [List.flatten_cons, List.length_append, List.length_cons, k3 c (by simp), ihc (fun c hc => k3 c (by simp [hc]))]
        omega
    obtain ⟨v', w', hr, l2, l3, _, _⟩ := run_append_own_at (P := P) w base t o.type e i z 10 bytes ht hi hz hsize hby hzs (by omega) v css.length css.flatten hown.1 ad (t0 :: ts).length c2 css2.flatten hfl (k4 ad rfl)
      (fun u hu => by
        obtain ⟨c, hc, hu⟩ := List.mem_flatten.1 hu
        obtain ⟨i, hi, rfl⟩ := List.getElem_of_mem hc
        have hi' : i < (t0 :: ts).length := by rw [← k1]; exact hi
        exact trC_cells (k2 i _ _ (List.getElem?_eq_getElem hi') (List.getElem?_eq_getElem hi)) u hu) hmax hbytes hbase
    simp only [ho, resolve, invoke, builtin, Sem.run_bind, Sem.run_pure, Result.andThen_ok, List.map_toArray, List.map_cons, List.map_nil, hs, hx, hr]
    exact hK _ _ (h _ _ css2 hts ⟨by rw [List.length_append, List.flatten_append, k1]; exact l2, fun c hc => (List.mem_append.1 hc).elim (hown.2 c) (k3 c)⟩ l3)
/-- A tree with an Op alone. -/
def opT (op : Int) (kids : List Tr) (lz : Bool) : Tr := ⟨op, kids, 0, [], 0, 0, ⟨#[]⟩, 0, 0, lz⟩
def flatK (l : List Tr) : List Tr := l.flatMap (fun k => if k.op = 11 then k.kids else [k])
def joinedS (l : List Tr) : Tr :=
  let out := (flatK l).filter (fun t => !(t.op == 2))
  if out.any (fun t => t.op == 1) = true then opT 1 [] false else
  match out with
  | [] => opT 2 [] false
  | [x] => x
  | x :: y :: r => opT 11 (x :: y :: r) false
def TreePost (ok : Nat → Prop) (t : Tr) (w : World) (e : Ending) (w' : World) : Prop := ∃ cs, e = .returned (.agg cs.toArray) ∧ TrC (fun b => ok b ∨ w.heap.size ≤ b) w' t cs ∧ Below w.heap.size w w'
theorem set10_blk {W : World} {b : Nat} {x0  x1  x2  x3  x4  x5  x6  x7  x8  x9 : Value} {T : TypeId} (h : W.heap[b]? = some (.cells #[x0, x1, x2, x3, x4, x5, x6, x7, x8, x9] T (0, 0))) (y0  y1  y2  y3  y4  y5  y6  y7  y8  y9 : Value) : ((((((((((W.setCell ⟨b, 0, none⟩ y0).setCell ⟨b, 1, none⟩ y1).setCell ⟨b, 2, none⟩ y2).setCell ⟨b, 3, none⟩ y3).setCell ⟨b, 4, none⟩ y4).setCell ⟨b, 5, none⟩ y5).setCell ⟨b, 6, none⟩ y6).setCell ⟨b, 7, none⟩ y7).setCell ⟨b, 8, none⟩ y8).setCell ⟨b, 9, none⟩ y9).heap[b]? = some (.cells #[y0, y1, y2, y3, y4, y5, y6, y7, y8, y9] T (0, 0)) := by
  have e0 := blk_set h 0 y0
  simp only [List.setIfInBounds_toArray, List.set_cons_zero] at e0
  have e1 := blk_set e0 1 y1
  simp only [List.setIfInBounds_toArray, List.set_cons_zero, List.set_cons_succ] at e1
  have e2 := blk_set e1 2 y2
  simp only [List.setIfInBounds_toArray, List.set_cons_zero, List.set_cons_succ] at e2
  have e3 := blk_set e2 3 y3
  simp only [List.setIfInBounds_toArray, List.set_cons_zero, List.set_cons_succ] at e3
  have e4 := blk_set e3 4 y4
  simp only [List.setIfInBounds_toArray, List.set_cons_zero, List.set_cons_succ] at e4
  have e5 := blk_set e4 5 y5
  simp only [List.setIfInBounds_toArray, List.set_cons_zero, List.set_cons_succ] at e5
  have e6 := blk_set e5 6 y6
  simp only [List.setIfInBounds_toArray, List.set_cons_zero, List.set_cons_succ] at e6
  have e7 := blk_set e6 7 y7
  simp only [List.setIfInBounds_toArray, List.set_cons_zero, List.set_cons_succ] at e7
  have e8 := blk_set e7 8 y8
  simp only [List.setIfInBounds_toArray, List.set_cons_zero, List.set_cons_succ] at e8
  have e9 := blk_set e8 9 y9
  simp only [List.setIfInBounds_toArray, List.set_cons_zero, List.set_cons_succ] at e9
  exact e9
theorem below_set10 {B : Nat} {w W : World} {b : Nat} (h : Below B w W) (hb : B ≤ b) (y0  y1  y2  y3  y4  y5  y6  y7  y8  y9 : Value) : Below B w ((((((((((W.setCell ⟨b, 0, none⟩ y0).setCell ⟨b, 1, none⟩ y1).setCell ⟨b, 2, none⟩ y2).setCell ⟨b, 3, none⟩ y3).setCell ⟨b, 4, none⟩ y4).setCell ⟨b, 5, none⟩ y5).setCell ⟨b, 6, none⟩ y6).setCell ⟨b, 7, none⟩ y7).setCell ⟨b, 8, none⟩ y8).setCell ⟨b, 9, none⟩ y9) := ((((((((((h.setCell hb _).setCell hb _).setCell hb _).setCell hb _).setCell hb _).setCell hb _).setCell hb _).setCell hb _).setCell hb _).setCell hb _)
theorem set10_ne {W : World} {b k : Nat} (hne : k ≠ b) (y0 y1 y2 y3 y4 y5 y6 y7 y8 y9 : Value) : ((((((((((W.setCell ⟨b, 0, none⟩ y0).setCell ⟨b, 1, none⟩ y1).setCell ⟨b, 2, none⟩ y2).setCell ⟨b, 3, none⟩ y3).setCell ⟨b, 4, none⟩ y4).setCell ⟨b, 5, none⟩ y5).setCell ⟨b, 6, none⟩ y6).setCell ⟨b, 7, none⟩ y7).setCell ⟨b, 8, none⟩ y8).setCell ⟨b, 9, none⟩ y9).heap[k]? = W.heap[k]? := by
  have h0 := Below.heap_setCell W ⟨b, 0, none⟩ y0 k (show k ≠ b from hne)
  have h1 := Below.heap_setCell ((W.setCell ⟨b, 0, none⟩ y0)) ⟨b, 1, none⟩ y1 k (show k ≠ b from hne)
  have h2 := Below.heap_setCell (((W.setCell ⟨b, 0, none⟩ y0).setCell ⟨b, 1, none⟩ y1)) ⟨b, 2, none⟩ y2 k (show k ≠ b from hne)
  have h3 := Below.heap_setCell ((((W.setCell ⟨b, 0, none⟩ y0).setCell ⟨b, 1, none⟩ y1).setCell ⟨b, 2, none⟩ y2)) ⟨b, 3, none⟩ y3 k (show k ≠ b from hne)
  have h4 := Below.heap_setCell (((((W.setCell ⟨b, 0, none⟩ y0).setCell ⟨b, 1, none⟩ y1).setCell ⟨b, 2, none⟩ y2).setCell ⟨b, 3, none⟩ y3)) ⟨b, 4, none⟩ y4 k (show k ≠ b from hne)
  have h5 := Below.heap_setCell ((((((W.setCell ⟨b, 0, none⟩ y0).setCell ⟨b, 1, none⟩ y1).setCell ⟨b, 2, none⟩ y2).setCell ⟨b, 3, none⟩ y3).setCell ⟨b, 4, none⟩ y4)) ⟨b, 5, none⟩ y5 k (show k ≠ b from hne)
  have h6 := Below.heap_setCell (((((((W.setCell ⟨b, 0, none⟩ y0).setCell ⟨b, 1, none⟩ y1).setCell ⟨b, 2, none⟩ y2).setCell ⟨b, 3, none⟩ y3).setCell ⟨b, 4, none⟩ y4).setCell ⟨b, 5, none⟩ y5)) ⟨b, 6, none⟩ y6 k (show k ≠ b from hne)
  have h7 := Below.heap_setCell ((((((((W.setCell ⟨b, 0, none⟩ y0).setCell ⟨b, 1, none⟩ y1).setCell ⟨b, 2, none⟩ y2).setCell ⟨b, 3, none⟩ y3).setCell ⟨b, 4, none⟩ y4).setCell ⟨b, 5, none⟩ y5).setCell ⟨b, 6, none⟩ y6)) ⟨b, 7, none⟩ y7 k (show k ≠ b from hne)
  have h8 := Below.heap_setCell (((((((((W.setCell ⟨b, 0, none⟩ y0).setCell ⟨b, 1, none⟩ y1).setCell ⟨b, 2, none⟩ y2).setCell ⟨b, 3, none⟩ y3).setCell ⟨b, 4, none⟩ y4).setCell ⟨b, 5, none⟩ y5).setCell ⟨b, 6, none⟩ y6).setCell ⟨b, 7, none⟩ y7)) ⟨b, 8, none⟩ y8 k (show k ≠ b from hne)
  have h9 := Below.heap_setCell ((((((((((W.setCell ⟨b, 0, none⟩ y0).setCell ⟨b, 1, none⟩ y1).setCell ⟨b, 2, none⟩ y2).setCell ⟨b, 3, none⟩ y3).setCell ⟨b, 4, none⟩ y4).setCell ⟨b, 5, none⟩ y5).setCell ⟨b, 6, none⟩ y6).setCell ⟨b, 7, none⟩ y7).setCell ⟨b, 8, none⟩ y8)) ⟨b, 9, none⟩ y9 k (show k ≠ b from hne)
  exact h9.trans (h8.trans (h7.trans (h6.trans (h5.trans (h4.trans (h3.trans (h2.trans (h1.trans h0))))))))
theorem frozen_of {W : World} {b : Nat} {cs : Array Value} {T : TypeId} (h : W.heap[b]? = some (.cells cs T (0, 0))) : ∀ j, W.frozen? ⟨b, j, none⟩ = false := fun j => by simp [World.frozen?, h]
theorem opTrC {ok : Nat → Prop} {w : World} {op : Int} {kids : List Tr} {lz : Bool} {A : Option Addr} {c : Nat} (h : Arr ok w 10 (TrC ok w) A kids) (h1 : kids.length ≤ c) (h2 : c ≤ maxLen) : TrC ok w (opT op kids lz) [.int .i64 op, .slice A kids.length c, .int .i32 0, .slice none 0 0, .int .i64 0, .int .i64 0, .string ⟨#[]⟩, .int .i64 0, .int .i64 0, .bool lz] :=
  trC_iff.2 ⟨A, c, none, 0, rfl, h1, h2, Nat.le_refl _, Nat.zero_le _, Arr.nil, h⟩
theorem flatK_take {l : List Tr} {j : Nat} (h : j < l.length) : flatK (l.take (j + 1)) = flatK (l.take j) ++ (if l[j].op = 11 then l[j].kids else [l[j]]) := by
  unfold flatK
  rw [List.take_succ_eq_append_getElem h, List.flatMap_append]
  simp
theorem flatK_le (l : List Tr) (j : Nat) : (flatK (l.take j)).length ≤ (flatK l).length := by
  have h := congrArg List.length (congrArg flatK (List.take_append_drop j l))
  unfold flatK at h ⊢
  rw [List.flatMap_append, List.length_append] at h
  omega
set_option maxRecDepth 100000 in
set_option maxHeartbeats 4000000 in
theorem joined_any (ok : Nat → Prop) (w : World) (A : Option Addr) (c : Nat) (l : List Tr) (h6 : Arr ok w 10 (TrC ok w) A l) (hN : l.length ≤ 1000000000) (hF : (flatK l).length ≤ 1000000000) :
    Calls Try.prog 42 #[.slice A l.length c] w (TreePost ok (joinedS l) w) := by
  have HE := Lib.hid h6
  clear h6
  have hIr := infoTr2
  obtain ⟨i0, hi0, hxx⟩ := Option.map_eq_some_iff.1 hIr
  simp only [Prod.mk.injEq] at hxx
  obtain ⟨hz0, hz1, hz2⟩ := hxx
  clear hIr
  go_enter Try.func42, Try.ntmps42
  go_wp2_with fail
  go_loopw [3, 9] (fun s3 s9 wr => ∃ (j : Nat) (css : List (List Value)), s9 = .int .i64 j ∧ j ≤ l.length ∧ Owns wr (w.heap.size + 1) 27 10 s3 css ∧ TsC (fun b => ok b ∧ b < w.heap.size) wr (flatK (l.take j)) css ∧ Below w.heap.size w wr ∧ wr.heap[w.heap.size]? = some (.cells #[.int .i64 0, .slice none 0 0, .int .i32 0, .slice none 0 0, .int .i64 0, .int .i64 0, .string ⟨#[]⟩, .int .i64 0, .int .i64 0, .bool false] 27 (0, 0)) ∧ w.heap.size + 1 ≤ wr.heap.size) (fun _ s9 _ => l.length - (intOf s9).toNat)
  case atStart => exact ⟨0, [], rfl, Nat.zero_le _, Owns.nil _ _ _ _, TsC.nil _ _, below_al (Below.refl _ _) _, heap_new1 _ _, by simp⟩
  case round =>
    obtain ⟨j, css, rfl, hj, hown, hts, hBr, hbx, hsz⟩ := hrel
    obtain ⟨A9, c9, rfl, q1, q2⟩ := Owns.shape hown
    have hcl : css.length ≤ (flatK (l.take j)).length := Nat.le_of_eq hts.1
    have hfj := flatK_le l j
    by_cases hlt : j < l.length
    · obtain ⟨ad, A1, c1, A3, c3, rfl, hTk, k0, k1, k2, k3, k4, k5, k6, k7, k8, k9⟩ := trArr_at HE.out wr (fun b _ hb' => hBr.block b hb') j hlt
      have hTo : TrC (fun b => ok b ∧ b < w.heap.size) wr l[j] _ := TrC.move (fun b hb hlt' => ⟨hBr.block b hb.2, hb⟩) hTk.old
      have hsn := flatK_take hlt
      have hfj1 := flatK_le l (j + 1)
      rw [hsn, List.length_append] at hfj1
      generalize l[j] = kj at *
      have his := fun (W : World) (gg : Nat) hg => is_lit W kj A1 c1 A3 c3 [11] gg 1 rfl hg (by simp)
      unfold treeC at his
      have hb11 : ([11] : List Int).contains kj.op = (kj.op == 11) := by rw [Bool.eq_iff_iff]; simp
      rw [hb11] at his
      have HB := Lib.hid (And.intro hown (And.intro hts (And.intro hBr (And.intro hTo (And.intro hsn hbx)))))
      clear hown hts hBr hTo hTk hsn hbx hb11
      go_wp2_with fail
      refine (his _ _ (heap_new2 _ _ _)).mono ?_
      clear his k0 k1 k2 k3 k4 k5 k6 k7 k8 k9
      rintro e w1 ⟨rfl, hb1⟩
      dsimp only
      obtain ⟨hown, hts, hBr, hTo, hsn, hbx⟩ := HB.out
      have eb := below_al (below_al (Below.refl wr.heap.size wr) (.cells #[.int .i64 kj.op, .slice A1 kj.kids.length c1, .int .i32 kj.rune, .slice A3 kj.set.length c3, .int .i64 kj.at_, .int .i64 kj.cap, .string kj.name, .int .i64 kj.mn, .int .i64 kj.mx, .bool kj.lz] 27)) (.cells #[.int .i64 11] 22)
      have yx := (hb1.block wr.heap.size (by simp; omega)).trans ((Below.heap_alloc _ _ _ (by simp)).trans (heap_new1 wr (.cells #[.int .i64 kj.op, .slice A1 kj.kids.length c1, .int .i32 kj.rune, .slice A3 kj.set.length c3, .int .i64 kj.at_, .int .i64 kj.cap, .string kj.name, .int .i64 kj.mn, .int .i64 kj.mx, .bool kj.lz] 27)))
      obtain ⟨g0, g1, g2, g3, g4, g5, g6, g7, g8, g9⟩ := cells10 yx
      have hb2 := below_and hb1 eb
      have ho1 := hown.below hb2
      have hs1 := hb2.size
      have hss := hBr.size
      have ht1 : TsC (fun b => ok b ∧ b < w.heap.size) w1 _ css := hts.move (fun b hb hlt' => ⟨hb2.block b hlt', hb⟩)
      have hT1 : TrC (fun b => ok b ∧ b < w.heap.size) w1 kj _ := hTo.move (fun b hb hlt' => ⟨hb2.block b hlt', hb⟩)
      have hx1 := (hb2.block _ (heap_lt hbx)).trans hbx
      have HC := Lib.hid (And.intro ht1 (And.intro hT1 (And.intro (below_and hb2 hBr) (And.intro hsn hx1))))
      have HO := Lib.hid ho1
      clear hown hts hBr hTo hsn eb yx hb2 ht1 hT1 hb1 ho1 hbx hx1
      by_cases h11 : kj.op = 11
      · have o11 : (kj.op == 11) = true := by rw [h11]; rfl
        rw [if_pos h11] at hfj1
        have H11 := Lib.hid h11
        clear h11
        obtain ⟨A1', c1', B1', d1', hcs, _, _, _, _, _, hkids⟩ := trC_iff.1 HC.out.2.1
        simp only [List.cons.injEq, Value.slice.injEq] at hcs
        obtain ⟨_, ⟨rfl, _, rfl⟩, _⟩ := hcs
        have HK := Lib.hid hkids
        clear hkids
        rw [o11]
        go_wp2_with (at_builtin; refine wpList_appA rfl _ _ 23 rfl (w.heap.size + 1) 27 i0 _ 120 Try.underlying23 hi0 hz0 hz1 hz2 rfl _ css rfl HO.out A1 kj.kids c1 (fun b => ok b ∧ b < w.heap.size) rfl HK.out ?c3 ?c4 ?c5 ?_)
        case c3 => unfold maxLen; omega
        case c4 => omega
        case c5 => omega
        intro v4 w4 css2 hts2 hown4 hgrow
        obtain ⟨ht1, hT1, hB1, hsn, hx1⟩ := HC.out
        have hB4 := hB1.grown hgrow (by omega) (fun k e => by have := (HO.out.lt k e).1; omega)
        have hx4 := (hgrow.block _ (heap_lt hx1) (fun e => by have := (HO.out.lt _ e.symm).1; omega)).trans hx1
        have hT4 : TsC (fun b => ok b ∧ b < w.heap.size) w4 _ _ := (ht1.app hts2).move (fun b hb hlt' => ⟨hgrow.block b hlt' (fun e => by have := (HO.out.lt _ e.symm).1; omega), hb⟩)
        rw [if_pos H11.out] at hsn
        rw [← hsn] at hT4
        have hs4 := hgrow.size
        have H4 := Lib.hid (And.intro hown4 (And.intro hT4 (And.intro hB4 hx4)))
        clear ht1 hT1 hB1 hB4 hT4 hown4 hgrow hsn hx1 hx4 hts2
        go_wp2_with fail
        go_roundw
        case rel => exact ⟨j + 1, _, by go_num, by omega, H4.out.1, H4.out.2.1, H4.out.2.2.1, H4.out.2.2.2, by omega⟩
        case measure => simp [intOf]; omega
      · have o11 : (kj.op == 11) = false := by simpa using h11
        rw [if_neg h11, List.length_singleton] at hfj1
        have H11 := Lib.hid h11
        clear h11
        rw [o11]
        go_wp2_with (at_builtin; refine wpList_app1 rfl _ _ 23 rfl (w.heap.size + 1) 27 i0 _ 10 120 Try.underlying23 hi0 hz0 hz1 hz2 rfl (by decide) _ css rfl (HO.out.alloc _) _ [.int .i64 kj.op, .slice A1 kj.kids.length c1, .int .i32 kj.rune, .slice A3 kj.set.length c3, .int .i64 kj.at_, .int .i64 kj.cap, .string kj.name, .int .i64 kj.mn, .int .i64 kj.mx, .bool kj.lz] rfl rfl (heap_new1 _ _) ?c2 ?c3 ?c4 ?c5 ?_)
        case c2 => exact trC_cells HC.out.2.1
        case c3 => unfold maxLen; omega
        case c4 => omega
        case c5 => simp; omega
        intro v4 w4 hown4 hgrow
        obtain ⟨ht1, hT1, hB1, hsn, hx1⟩ := HC.out
        have hB2 := below_al hB1 (.cells #[.int .i64 kj.op, .slice A1 kj.kids.length c1, .int .i32 kj.rune, .slice A3 kj.set.length c3, .int .i64 kj.at_, .int .i64 kj.cap, .string kj.name, .int .i64 kj.mn, .int .i64 kj.mx, .bool kj.lz] 27)
        have hB4 := hB2.grown hgrow (by simp; omega) (fun k e => by have := (HO.out.lt k e).1; omega)
        have hx4 := (hgrow.block _ (by have := heap_lt hx1; simp; omega) (fun e => by have := (HO.out.lt _ e.symm).1; omega)).trans ((Below.heap_alloc _ _ _ (heap_lt hx1)).trans hx1)
        have hT4 : TsC (fun b => ok b ∧ b < w.heap.size) w4 _ _ := (ht1.app (TsC.one hT1)).move (fun b hb hlt' => ⟨(hgrow.block b (by simp; omega) (fun e => by have := (HO.out.lt _ e.symm).1; omega)).trans (Below.heap_alloc _ _ _ hlt'), hb⟩)
        rw [if_neg H11.out] at hsn
        rw [← hsn] at hT4
        have hs4 : w1.heap.size ≤ w4.heap.size := Nat.le_trans (by simp) hgrow.size
        have H4 := Lib.hid (And.intro hown4 (And.intro hT4 (And.intro hB4 hx4)))
        clear ht1 hT1 hB1 hB2 hB4 hT4 hown4 hgrow hsn hx1 hx4
        go_wp2_with fail
        go_roundw
        case rel => exact ⟨j + 1, _, by go_num, by omega, H4.out.1, H4.out.2.1, H4.out.2.2.1, H4.out.2.2.2, by omega⟩
        case measure => simp [intOf]; omega
    · obtain rfl : j = l.length := by omega
      rw [List.take_length] at hts
      have e9 : css.length = (flatK l).length := hts.1
      rw [e9] at hown ⊢
      have HB := Lib.hid (And.intro hown (And.intro hts (And.intro hBr hbx)))
      clear e9
      clear hown hts hBr hbx
      go_wp2_with fail
      have harr := TsC.arr HB.out.1 HB.out.2.1
      refine (kept_joined1 _ wr A9 c9 (flatK l) harr hF).mono ?_
      rintro e w2 ⟨v2, css2, rfl, ho2, ht2, hb2⟩
      dsimp only
      obtain ⟨A2, c2, rfl, m1, m2⟩ := Owns.shape ho2
      have e9 := ht2.1
      have hfl : ((flatK l).filter (fun t => !(t.op == 2))).length ≤ (flatK l).length := List.length_filter_le _ _
      have hJ : joinedS l = (if ((flatK l).filter (fun t => !(t.op == 2))).any (fun t => t.op == 1) = true then opT 1 [] false else
        match (flatK l).filter (fun t => !(t.op == 2)) with
        | [] => opT 2 [] false
        | [x] => x
        | x :: y :: r => opT 11 (x :: y :: r) false) := rfl
      generalize joinedS l = J at *
      generalize (flatK l).filter (fun t => !(t.op == 2)) = out at *
      rw [e9] at ho2 m1 ⊢
      have harr2 := TsC.arr ho2 ht2
      have hbx2 := (hb2.block _ (heap_lt HB.out.2.2.2)).trans HB.out.2.2.2
      have hbw := below_and hb2 HB.out.2.2.1
      have hcn := contains_none _ w2 A2 c2 out (fun t => t.op == 1) harr2 (by omega) (fun k hk cs W hW hT => joined2_any W k cs _ hT)
      have HD0 := Lib.hid (And.intro ho2 (And.intro ht2 (And.intro hbx2 (And.intro hbw harr2))))
      have HJ := Lib.hid hJ
      have hls := heap_lt hbx2
      clear ho2 ht2 hb2 hbx2 hbw harr2 harr e9 hJ
      go_wp2_with fail
      refine hcn.mono ?_
      clear hcn
      rintro e w3 ⟨rfl, hb3⟩
      dsimp only
      obtain ⟨ho2, ht2, hbx2, hbw, harr2⟩ := HD0.out
      have hbx3 := (hb3.block _ (heap_lt hbx2)).trans hbx2
      obtain ⟨g0, g1, g2, g3, g4, g5, g6, g7, g8, g9⟩ := cells10 hbx3
      have hfz := frozen_of hbx3
      have HD := Lib.hid (And.intro (below_and hb3 hbw) (And.intro (harr2.move (fun b hb hlt => ⟨hb3.block b hlt, hb⟩) (by omega) |>.weak (fun x _ cs hx => hx.move (fun b hb hlt => ⟨hb3.block b hlt, hb⟩))) hbx3))
      clear ho2 ht2 hbx2 hbw harr2 hb3 hbx3
      cases hany : out.any (fun t => t.op == 1) with
      | true =>
        have HY := Lib.hid hany
        clear hany
        go_wp2_with fail
        obtain ⟨z0, z1, z2, z3, z4, z5, z6, z7, z8, z9⟩ := cells10 (set10_blk HD.out.2.2 (.int .i64 1) (.slice none 0 0) (.int .i32 0) (.slice none 0 0) (.int .i64 0) (.int .i64 0) (.string ⟨#[]⟩) (.int .i64 0) (.int .i64 0) (.bool false))
        refine bodyPost_ret (v := .agg #[.int .i64 1, .slice none 0 0, .int .i32 0, .slice none 0 0, .int .i64 0, .int .i64 0, .string ⟨#[]⟩, .int .i64 0, .int .i64 0, .bool false]) (by simp [results, Try.f42, go_sem, z0, z1, z2, z3, z4, z5, z6, z7, z8, z9]) rfl ?_
        have hJ := HJ.out
        rw [if_pos HY.out] at hJ
        subst hJ
        exact ⟨_, rfl, opTrC Arr.nil (Nat.le_refl _) (Nat.zero_le _), below_set10 HD.out.1 (Nat.le_refl _) _ _ _ _ _ _ _ _ _ _⟩
      | false =>
        have HY := Lib.hid hany
        clear hany
        have hJ := HJ.out
        rw [if_neg (by rw [HY.out]; simp)] at hJ
        have hsz3 := HD.out.1.size
        have HJ2 := Lib.hid hJ
        clear hJ
        have hlo : ∀ b, ((fun b => ((ok b ∧ b < w.heap.size) ∨ w.heap.size + 1 ≤ b) ∧ b < wr.heap.size) b ∨ wr.heap.size ≤ b) → b ≠ w.heap.size ∧ (ok b ∨ w.heap.size ≤ b) := fun b hb => by
          rcases hb with ⟨⟨h1, h2⟩ | h1, h3⟩ | h1
          · exact ⟨by omega, .inl h1⟩
          · exact ⟨by omega, .inr (by omega)⟩
          · exact ⟨by omega, .inr (by omega)⟩
        have HLO := Lib.hid hlo
        clear hlo
        by_cases e0 : out.length = 0
        · have hl0 : out = [] := List.length_eq_zero_iff.1 e0
          rw [hl0] at HJ2
          rw [e0] at m1 ⊢
          go_wp2_with fail
          obtain ⟨z0, z1, z2, z3, z4, z5, z6, z7, z8, z9⟩ := cells10 (set10_blk HD.out.2.2 (.int .i64 2) (.slice none 0 0) (.int .i32 0) (.slice none 0 0) (.int .i64 0) (.int .i64 0) (.string ⟨#[]⟩) (.int .i64 0) (.int .i64 0) (.bool false))
          refine bodyPost_ret (v := .agg #[.int .i64 2, .slice none 0 0, .int .i32 0, .slice none 0 0, .int .i64 0, .int .i64 0, .string ⟨#[]⟩, .int .i64 0, .int .i64 0, .bool false]) (by simp [results, Try.f42, go_sem, z0, z1, z2, z3, z4, z5, z6, z7, z8, z9]) rfl ?_
          rw [HJ2.out]
          exact ⟨_, rfl, opTrC Arr.nil (Nat.le_refl _) (Nat.zero_le _), below_set10 HD.out.1 (Nat.le_refl _) _ _ _ _ _ _ _ _ _ _⟩
        by_cases e1 : out.length = 1
        · obtain ⟨ad, A1, c1, A3, c3, rfl, hTk, k0, k1, k2, k3, k4, k5, k6, k7, k8, k9⟩ := trArr_at0 HD.out.2.1 w3 (fun _ _ _ => rfl) (by omega)
          have hlx : out = [out[0]] := List.ext_getElem (by simp [e1]) (fun i h1 h2 => by
            have hi0 : i = 0 := by omega
            subst hi0
            rfl)
          rw [hlx] at HJ2
          have hJ3 : J = out[0] := HJ2.out
          generalize out[0] = x at *
          have HT := Lib.hid (And.intro hTk hJ3)
          clear hTk hJ3 HJ2 hlx
          rw [e1] at m1 ⊢
          go_wp2_with fail
          obtain ⟨z0, z1, z2, z3, z4, z5, z6, z7, z8, z9⟩ := cells10 (set10_blk HD.out.2.2 (.int .i64 x.op) (.slice A1 x.kids.length c1) (.int .i32 x.rune) (.slice A3 x.set.length c3) (.int .i64 x.at_) (.int .i64 x.cap) (.string x.name) (.int .i64 x.mn) (.int .i64 x.mx) (.bool x.lz))
          refine bodyPost_ret (v := .agg #[.int .i64 x.op, .slice A1 x.kids.length c1, .int .i32 x.rune, .slice A3 x.set.length c3, .int .i64 x.at_, .int .i64 x.cap, .string x.name, .int .i64 x.mn, .int .i64 x.mx, .bool x.lz]) (by simp [results, Try.f42, go_sem, z0, z1, z2, z3, z4, z5, z6, z7, z8, z9]) rfl ?_
          rw [HT.out.2]
          refine ⟨_, rfl, HT.out.1.move (fun b hb hlt => ⟨?_, (HLO.out b hb).2⟩), below_set10 HD.out.1 (Nat.le_refl _) _ _ _ _ _ _ _ _ _ _⟩
          exact set10_ne (HLO.out b hb).1 _ _ _ _ _ _ _ _ _ _
        · have hJ3 : J = opT 11 out false := by
            have h9 := HJ2.out
            cases out with
            | nil => simp at e0
            | cons a r => cases r with
              | nil => simp at e1
              | cons b r => exact h9
          obtain ⟨n, hn⟩ : ∃ n, out.length = n := ⟨_, rfl⟩
          have HT := Lib.hid (And.intro hJ3 hn)
          clear hJ3 HJ2
          rw [hn] at m1 e0 e1 hfl ⊢
          have e0' : ((n : Int) == 0) = false := by simp; omega
          have e1' : ((n : Int) == 1) = false := by simp; omega
          go_wp2_with fail
          obtain ⟨hJ3, rfl⟩ := HT.out
          obtain ⟨z0, z1, z2, z3, z4, z5, z6, z7, z8, z9⟩ := cells10 (set10_blk HD.out.2.2 (.int .i64 11) (.slice A2 out.length c2) (.int .i32 0) (.slice none 0 0) (.int .i64 0) (.int .i64 0) (.string ⟨#[]⟩) (.int .i64 0) (.int .i64 0) (.bool false))
          refine bodyPost_ret (v := .agg #[.int .i64 11, .slice A2 out.length c2, .int .i32 0, .slice none 0 0, .int .i64 0, .int .i64 0, .string ⟨#[]⟩, .int .i64 0, .int .i64 0, .bool false]) (by simp [results, Try.f42, go_sem, z0, z1, z2, z3, z4, z5, z6, z7, z8, z9]) rfl ?_
          rw [hJ3]
          exact ⟨_, rfl, opTrC (HD.out.2.1.move (fun b hb hlt => ⟨set10_ne (HLO.out b hb).1 _ _ _ _ _ _ _ _ _ _, (HLO.out b hb).2⟩) (by omega) |>.weak (fun x _ cs hx => hx.move (fun b hb hlt => ⟨set10_ne (HLO.out b hb).1 _ _ _ _ _ _ _ _ _ _, (HLO.out b hb).2⟩))) m1 m2, below_set10 HD.out.1 (Nat.le_refl _) _ _ _ _ _ _ _ _ _ _⟩
end Go.Proofs.Ytdnbholiijgedaa
