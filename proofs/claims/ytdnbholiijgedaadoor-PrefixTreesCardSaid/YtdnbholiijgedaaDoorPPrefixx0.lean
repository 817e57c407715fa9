-- PRINTED BY print.sh 35421559b90ae4d0a3588c463048766b98c2df88dd9212a6774a882060cdf62d: not written by this session
import Derived.Test.YtdnbholiijgedaaDoorProg
import Derived.Below
import Derived.Deep.Draws
import Derived.Deep.AppendLies
import Derived.Maps.AppendAt
import Derived.OwnWalk
import Derived.Laws.BytesArg
import Derived.Laws.MakeOwn
import Derived.Laws.OwnMore
import Derived.Deep.OwnRows
import Derived.Tactics
import Derived.Lib.ConvBytes
import Derived.Laws.Slices
import Derived.WalkKit
import Derived.KernelRfl
import Derived.RowKit3
import Derived.Deep.LoopGhost
import Derived.Deep.QuietTactic
import Derived.BigQuiet
import Derived.WideLaws
import Derived.Deep.DeepCutAuto
import Derived.Deep.CutBlock
import Derived.Deep.RegionHeld3
import Derived.Laws.Rows
import Derived.Lib.AppendStr
import Derived.ArgAppend
import Derived.Laws.IdiomCopy
import Derived.OrdersHeld
import Derived.Laws.BitsLemmas
import Derived.RowKit
import Derived.Test.YtdnbholiijgedaaDoorWWords
import Derived.Test.YtdnbholiijgedaaDoorWLast
import Derived.Test.YtdnbholiijgedaaDoorWTab
import Derived.Test.YtdnbholiijgedaaDoorWFour
import Derived.Test.YtdnbholiijgedaaDoorWQPut
import Derived.Test.YtdnbholiijgedaaDoorWApart
import Derived.Test.YtdnbholiijgedaaDoorWArr
import Derived.Test.YtdnbholiijgedaaDoorWZeros
import Derived.Test.YtdnbholiijgedaaDoorWFoot
import Derived.Test.YtdnbholiijgedaaDoorWKept
import Derived.Test.YtdnbholiijgedaaDoorWShare
import Derived.Test.YtdnbholiijgedaaDoorWN
import Derived.Test.YtdnbholiijgedaaDoorWFootNe
import Derived.Test.YtdnbholiijgedaaDoorWAt
import Derived.Test.YtdnbholiijgedaaDoorWEqStruct
import Derived.Test.YtdnbholiijgedaaDoorWRepsOne
import Derived.Test.YtdnbholiijgedaaDoorWInv
import Derived.Test.YtdnbholiijgedaaDoorWInvWords
import Derived.Test.YtdnbholiijgedaaDoorWGuard
import Derived.Test.YtdnbholiijgedaaDoorWNEv
import Derived.Test.YtdnbholiijgedaaDoorWMore
namespace Go.Proofs.YtdnbholiijgedaaDoor.PPrefix
open Go.RowKit Go.Proofs.YtdnbholiijgedaaDoorW.PrintWords Go.Proofs.YtdnbholiijgedaaDoorW.PrintLast Go.Proofs.YtdnbholiijgedaaDoorW.PrintMore
attribute [local go_sem] max2_int min2_int max_two min_two max_three min_three max_four min_four   -- for this text's walks alone
set_option linter.unusedVariables false
set_option linter.unusedSimpArgs false



def errW : Option Int → Value
  | none => .nilIface
  | some c => .iface 0 (.int .i64 c)
theorem errW_none : errW none = .nilIface := rfl
theorem errW_some (c : Int) : errW (some c) = .iface 0 (.int .i64 c) := rfl

theorem info21 : (Tryd.prog.info? 21).map (fun i => (i.zero, i.size, i.bytes)) = some (some (.int .i32 0), 1, 4) := by kernel_rfl
-- the values' own types
/-! #### struct type 84 -/
structure S84 where
  f0 : Int
  f1 : Int
def z84 : S84 := ⟨(0 : Int), (0 : Int)⟩
def k84 : Kd S84 := Kd.iso (Kd.pair (Kd.int .i32) (Kd.int .i32)) (fun x : S84 => (x.f0, x.f1))
theorem k84_open {w : World} {x : S84} {cs : List Value} (h : k84.K w x cs) : cs = [.int .i32 x.f0, .int .i32 x.f1] := by
  obtain ⟨_, _, rfl, rfl, rfl⟩ := h
  exact rfl
theorem k84_openM {w : World} {base : Nat} {ok : Nat → Prop} {x : S84} {cs : List Value} (h : k84.M w base ok x cs) : cs = [.int .i32 x.f0, .int .i32 x.f1] := by
  obtain ⟨_, _, rfl, rfl, rfl⟩ := h
  exact rfl
theorem k84_mk (w : World) (x : S84)  : k84.K w x [.int .i32 x.f0, .int .i32 x.f1] := ⟨[.int .i32 x.f0], [.int .i32 x.f1], rfl, rfl, rfl⟩
theorem k84_mkM (w : World) (base : Nat) (ok : Nat → Prop) (x : S84)  : k84.M w base ok x [.int .i32 x.f0, .int .i32 x.f1] := ⟨[.int .i32 x.f0], [.int .i32 x.f1], rfl, rfl, rfl⟩
def rd_T84 (xs : List S84) (i : Int) : S84 := xs.getD i.toNat z84
theorem at_T84 {w : World} {A : Option Addr} {n : Nat} {xs : List S84} (h : Kd.C k84 w A n xs) (i : Int) (h0 : 0 ≤ i) (h1 : i < n) : ∃ ad , A = some ad ∧ w.cell? (ad.add (i.toNat * 2)) = some (.int .i32 (rd_T84 xs i).f0) ∧ w.cell? ⟨(ad.add (i.toNat * 2)).block, (ad.add (i.toNat * 2)).off + 1, none⟩ = some (.int .i32 (rd_T84 xs i).f1) := by
  obtain ⟨ad, c, e, _, hK, hc0⟩ := Kd.C_get h z84 i h0 h1
  have hc : ∀ j u, c[j]? = some u → w.cell? (ad.add (i.toNat * 2 + j)) = some u := hc0
  obtain rfl := k84_open hK
  exact ⟨ad, e, hc 0 _ rfl, by rw [← add_field _ _ 1 (by omega)]; exact hc 1 _ rfl⟩

def rd_L3 (xs : List (List S84)) (i : Int) : (List S84) := xs.getD i.toNat ([] : List S84)
theorem at_L3 {w : World} {A : Option Addr} {n : Nat} {xs : List (List S84)} (h : Kd.C (Kd.slice 84 k84) w A n xs) (i : Int) (h0 : 0 ≤ i) (h1 : i < n) : ∃ ad A0 c0, A = some ad ∧ w.cell? (ad.add i.toNat) = some (.slice A0 (rd_L3 xs i).length c0) ∧ (rd_L3 xs i).length ≤ c0 ∧ k84.C w A0 (rd_L3 xs i).length (rd_L3 xs i) := by
  obtain ⟨ad, c, e, _, hK, hc0⟩ := Kd.C_get h ([] : List S84) i h0 h1
  have hc : ∀ j u, c[j]? = some u → w.cell? (ad.add (i.toNat * 1 + j)) = some u := hc0
  obtain ⟨A0, c0, rfl, l0, g0⟩ := hK
  exact ⟨ad, A0, c0, e, by have hq := hc 0 _ rfl; rwa [Nat.mul_one, Nat.add_zero] at hq, l0, g0⟩

/-! #### struct type 27, nested in itself -/
structure S27 where
  f0 : Int
  f1 : (List S27)
  f2 : Int
  f3 : (List S84)
  f4 : Int
  f5 : Int
  f6 : ByteArray
  f7 : Int
  f8 : Int
  f9 : Bool
def z27 : S27 := ⟨(0 : Int), ([] : List S27), (0 : Int), ([] : List S84), (0 : Int), (0 : Int), (⟨#[]⟩ : ByteArray), (0 : Int), (0 : Int), false⟩
def F27 (d : Kd S27) : Kd S27 := Kd.iso (Kd.pair (Kd.int .i64) (Kd.pair (Kd.slice 27 d) (Kd.pair (Kd.int .i32) (Kd.pair (Kd.slice 84 k84) (Kd.pair (Kd.int .i64) (Kd.pair (Kd.int .i64) (Kd.pair Kd.string (Kd.pair (Kd.int .i64) (Kd.pair (Kd.int .i64) Kd.bool))))))))) (fun x : S27 => (x.f0, x.f1, x.f2, x.f3, x.f4, x.f5, x.f6, x.f7, x.f8, x.f9))
theorem mono27 : Kd.Mono F27 := Kd.mono_iso _ (Kd.mono_pair (Kd.mono_const _) (Kd.mono_pair (Kd.mono_slice 27 Kd.mono_id) (Kd.mono_pair (Kd.mono_const _) (Kd.mono_pair (Kd.mono_const _) (Kd.mono_pair (Kd.mono_const _) (Kd.mono_pair (Kd.mono_const _) (Kd.mono_pair (Kd.mono_const _) (Kd.mono_pair (Kd.mono_const _) (Kd.mono_pair (Kd.mono_const _) (Kd.mono_const _))))))))))
theorem sub27 : Kd.Sub F27 [27, 84] := Kd.sub_iso _ (Kd.sub_pair (Kd.sub_const _ (by decide)) (Kd.sub_pair (Kd.sub_slice 27 (by decide) Kd.sub_id) (Kd.sub_pair (Kd.sub_const _ (by decide)) (Kd.sub_pair (Kd.sub_const _ (by decide)) (Kd.sub_pair (Kd.sub_const _ (by decide)) (Kd.sub_pair (Kd.sub_const _ (by decide)) (Kd.sub_pair (Kd.sub_const _ (by decide)) (Kd.sub_pair (Kd.sub_const _ (by decide)) (Kd.sub_pair (Kd.sub_const _ (by decide)) (Kd.sub_const _ (by decide)))))))))))
theorem sz27 : ∀ n, (Kd.upto F27 10 [27, 84] n).sz = 10 := Kd.upto_sz (fun _ => rfl)
def k27 : Kd S27 := Kd.fix F27 10 [27, 84] sz27 (Kd.upto_E sub27)
theorem k27_open {w : World} {x : S27} {cs : List Value} (h : k27.K w x cs) : ∃ A1 c1 A3 c3, cs = [.int .i64 x.f0, .slice A1 x.f1.length c1, .int .i32 x.f2, .slice A3 x.f3.length c3, .int .i64 x.f4, .int .i64 x.f5, .string x.f6, .int .i64 x.f7, .int .i64 x.f8, .bool x.f9] ∧ x.f1.length ≤ c1 ∧ k27.C w A1 x.f1.length x.f1 ∧ x.f3.length ≤ c3 ∧ k84.C w A3 x.f3.length x.f3 := by
  obtain ⟨n, h⟩ := h
  cases n with
  | zero => exact h.elim
  | succ n =>
    obtain ⟨_, _, rfl, rfl, ⟨_, _, rfl, ⟨A1, c1, rfl, l1, g1⟩, ⟨_, _, rfl, rfl, ⟨_, _, rfl, ⟨A3, c3, rfl, l3, g3⟩, ⟨_, _, rfl, rfl, ⟨_, _, rfl, rfl, ⟨_, _, rfl, rfl, ⟨_, _, rfl, rfl, ⟨_, _, rfl, rfl, rfl⟩⟩⟩⟩⟩⟩⟩⟩⟩ := h
    exact ⟨A1, c1, A3, c3, rfl, l1, Kd.fix_C g1, l3, g3⟩
theorem k27_openM {w : World} {base : Nat} {ok : Nat → Prop} {x : S27} {cs : List Value} (h : k27.M w base ok x cs) : ∃ v1 v3, cs = [.int .i64 x.f0, v1, .int .i32 x.f2, v3, .int .i64 x.f4, .int .i64 x.f5, .string x.f6, .int .i64 x.f7, .int .i64 x.f8, .bool x.f9] ∧ k27.R 27 w base ok v1 x.f1 ∧ k84.R 84 w base ok v3 x.f3 := by
  obtain ⟨n, h⟩ := h
  cases n with
  | zero => exact h.elim
  | succ n =>
    obtain ⟨_, _, rfl, rfl, ⟨_, _, rfl, ⟨v1, rfl, g1⟩, ⟨_, _, rfl, rfl, ⟨_, _, rfl, ⟨v3, rfl, g3⟩, ⟨_, _, rfl, rfl, ⟨_, _, rfl, rfl, ⟨_, _, rfl, rfl, ⟨_, _, rfl, rfl, ⟨_, _, rfl, rfl, rfl⟩⟩⟩⟩⟩⟩⟩⟩⟩ := h
    exact ⟨v1, v3, rfl, Kd.fix_R g1, g3⟩
theorem k27_mk (w : World) (x : S27) {A1 : Option Addr} {c1 : Nat} (l1 : x.f1.length ≤ c1) (g1 : k27.C w A1 x.f1.length x.f1) {A3 : Option Addr} {c3 : Nat} (l3 : x.f3.length ≤ c3) (g3 : k84.C w A3 x.f3.length x.f3) : k27.K w x [.int .i64 x.f0, .slice A1 x.f1.length c1, .int .i32 x.f2, .slice A3 x.f3.length c3, .int .i64 x.f4, .int .i64 x.f5, .string x.f6, .int .i64 x.f7, .int .i64 x.f8, .bool x.f9] := by
  obtain ⟨n1, q1⟩ := Kd.fix_C_back mono27 g1
  have r1 := Kd.upto_C_le mono27 sz27 (show n1 ≤ n1 by omega) q1
  exact ⟨n1 + 1, ⟨[.int .i64 x.f0], [.slice A1 x.f1.length c1, .int .i32 x.f2, .slice A3 x.f3.length c3, .int .i64 x.f4, .int .i64 x.f5, .string x.f6, .int .i64 x.f7, .int .i64 x.f8, .bool x.f9], rfl, rfl, ⟨[.slice A1 x.f1.length c1], [.int .i32 x.f2, .slice A3 x.f3.length c3, .int .i64 x.f4, .int .i64 x.f5, .string x.f6, .int .i64 x.f7, .int .i64 x.f8, .bool x.f9], rfl, ⟨A1, c1, rfl, l1, r1⟩, ⟨[.int .i32 x.f2], [.slice A3 x.f3.length c3, .int .i64 x.f4, .int .i64 x.f5, .string x.f6, .int .i64 x.f7, .int .i64 x.f8, .bool x.f9], rfl, rfl, ⟨[.slice A3 x.f3.length c3], [.int .i64 x.f4, .int .i64 x.f5, .string x.f6, .int .i64 x.f7, .int .i64 x.f8, .bool x.f9], rfl, ⟨A3, c3, rfl, l3, g3⟩, ⟨[.int .i64 x.f4], [.int .i64 x.f5, .string x.f6, .int .i64 x.f7, .int .i64 x.f8, .bool x.f9], rfl, rfl, ⟨[.int .i64 x.f5], [.string x.f6, .int .i64 x.f7, .int .i64 x.f8, .bool x.f9], rfl, rfl, ⟨[.string x.f6], [.int .i64 x.f7, .int .i64 x.f8, .bool x.f9], rfl, rfl, ⟨[.int .i64 x.f7], [.int .i64 x.f8, .bool x.f9], rfl, rfl, ⟨[.int .i64 x.f8], [.bool x.f9], rfl, rfl, rfl⟩⟩⟩⟩⟩⟩⟩⟩⟩⟩
theorem k27_mkM (w : World) (base : Nat) (ok : Nat → Prop) (x : S27) {v1 : Value} (g1 : k27.R 27 w base ok v1 x.f1) {v3 : Value} (g3 : k84.R 84 w base ok v3 x.f3) : k27.M w base ok x [.int .i64 x.f0, v1, .int .i32 x.f2, v3, .int .i64 x.f4, .int .i64 x.f5, .string x.f6, .int .i64 x.f7, .int .i64 x.f8, .bool x.f9] := by
  obtain ⟨n1, q1⟩ := Kd.fix_R_back mono27 g1
  have r1 := Kd.upto_R_le mono27 sz27 (show n1 ≤ n1 by omega) q1
  exact ⟨n1 + 1, ⟨[.int .i64 x.f0], [v1, .int .i32 x.f2, v3, .int .i64 x.f4, .int .i64 x.f5, .string x.f6, .int .i64 x.f7, .int .i64 x.f8, .bool x.f9], rfl, rfl, ⟨[v1], [.int .i32 x.f2, v3, .int .i64 x.f4, .int .i64 x.f5, .string x.f6, .int .i64 x.f7, .int .i64 x.f8, .bool x.f9], rfl, ⟨v1, rfl, r1⟩, ⟨[.int .i32 x.f2], [v3, .int .i64 x.f4, .int .i64 x.f5, .string x.f6, .int .i64 x.f7, .int .i64 x.f8, .bool x.f9], rfl, rfl, ⟨[v3], [.int .i64 x.f4, .int .i64 x.f5, .string x.f6, .int .i64 x.f7, .int .i64 x.f8, .bool x.f9], rfl, ⟨v3, rfl, g3⟩, ⟨[.int .i64 x.f4], [.int .i64 x.f5, .string x.f6, .int .i64 x.f7, .int .i64 x.f8, .bool x.f9], rfl, rfl, ⟨[.int .i64 x.f5], [.string x.f6, .int .i64 x.f7, .int .i64 x.f8, .bool x.f9], rfl, rfl, ⟨[.string x.f6], [.int .i64 x.f7, .int .i64 x.f8, .bool x.f9], rfl, rfl, ⟨[.int .i64 x.f7], [.int .i64 x.f8, .bool x.f9], rfl, rfl, ⟨[.int .i64 x.f8], [.bool x.f9], rfl, rfl, rfl⟩⟩⟩⟩⟩⟩⟩⟩⟩⟩
def rd_T27 (xs : List S27) (i : Int) : S27 := xs.getD i.toNat z27
theorem at_T27 {w : World} {A : Option Addr} {n : Nat} {xs : List S27} (h : Kd.C k27 w A n xs) (i : Int) (h0 : 0 ≤ i) (h1 : i < n) : ∃ ad A1 c1 A3 c3, A = some ad ∧ w.cell? (ad.add (i.toNat * 10)) = some (.int .i64 (rd_T27 xs i).f0) ∧ w.cell? ⟨(ad.add (i.toNat * 10)).block, (ad.add (i.toNat * 10)).off + 1, none⟩ = some (.slice A1 (rd_T27 xs i).f1.length c1) ∧ w.cell? ⟨(ad.add (i.toNat * 10)).block, (ad.add (i.toNat * 10)).off + 2, none⟩ = some (.int .i32 (rd_T27 xs i).f2) ∧ w.cell? ⟨(ad.add (i.toNat * 10)).block, (ad.add (i.toNat * 10)).off + 3, none⟩ = some (.slice A3 (rd_T27 xs i).f3.length c3) ∧ w.cell? ⟨(ad.add (i.toNat * 10)).block, (ad.add (i.toNat * 10)).off + 4, none⟩ = some (.int .i64 (rd_T27 xs i).f4) ∧ w.cell? ⟨(ad.add (i.toNat * 10)).block, (ad.add (i.toNat * 10)).off + 5, none⟩ = some (.int .i64 (rd_T27 xs i).f5) ∧ w.cell? ⟨(ad.add (i.toNat * 10)).block, (ad.add (i.toNat * 10)).off + 6, none⟩ = some (.string (rd_T27 xs i).f6) ∧ w.cell? ⟨(ad.add (i.toNat * 10)).block, (ad.add (i.toNat * 10)).off + 7, none⟩ = some (.int .i64 (rd_T27 xs i).f7) ∧ w.cell? ⟨(ad.add (i.toNat * 10)).block, (ad.add (i.toNat * 10)).off + 8, none⟩ = some (.int .i64 (rd_T27 xs i).f8) ∧ w.cell? ⟨(ad.add (i.toNat * 10)).block, (ad.add (i.toNat * 10)).off + 9, none⟩ = some (.bool (rd_T27 xs i).f9) ∧ (rd_T27 xs i).f1.length ≤ c1 ∧ k27.C w A1 (rd_T27 xs i).f1.length (rd_T27 xs i).f1 ∧ (rd_T27 xs i).f3.length ≤ c3 ∧ k84.C w A3 (rd_T27 xs i).f3.length (rd_T27 xs i).f3 := by
  obtain ⟨ad, c, e, _, hK, hc0⟩ := Kd.C_get h z27 i h0 h1
  have hc : ∀ j u, c[j]? = some u → w.cell? (ad.add (i.toNat * 10 + j)) = some u := hc0
  obtain ⟨A1, c1, A3, c3, rfl, l1, g1, l3, g3⟩ := k27_open hK
  exact ⟨ad, A1, c1, A3, c3, e, hc 0 _ rfl, by rw [← add_field _ _ 1 (by omega)]; exact hc 1 _ rfl, by rw [← add_field _ _ 2 (by omega)]; exact hc 2 _ rfl, by rw [← add_field _ _ 3 (by omega)]; exact hc 3 _ rfl, by rw [← add_field _ _ 4 (by omega)]; exact hc 4 _ rfl, by rw [← add_field _ _ 5 (by omega)]; exact hc 5 _ rfl, by rw [← add_field _ _ 6 (by omega)]; exact hc 6 _ rfl, by rw [← add_field _ _ 7 (by omega)]; exact hc 7 _ rfl, by rw [← add_field _ _ 8 (by omega)]; exact hc 8 _ rfl, by rw [← add_field _ _ 9 (by omega)]; exact hc 9 _ rfl, l1, g1, l3, g3⟩

end Go.Proofs.YtdnbholiijgedaaDoor.PPrefix
