/-
  CompileRight: the row, from its walk.
-/
import Derived.Test.YtdnbholiijgedaaCRight
import Derived.Test.YtdnbholiijgedaaRow
import Derived.Test.YtdnbholiijgedaaTree
namespace Go.Proofs.Ytdnbholiijgedaa.compileRight
open Go.ChangeShapes Go.WideShapes Go.ChangeAt Go.RowKit
set_option linter.unusedVariables false

set_option maxRecDepth 100000 in
theorem lifted (os : Os) (started : os.Started) (H : Type) (enc : TypeId × Value → H) :
    ReturnsInHanded {} Try.checked os 8 .any (Rows.compileRightSpec.pre6 enc Try.prog Try.f8 Rows.compileRightRow.domain false) (Rows.compileRightSpec.post enc Try.prog Try.f8 false true false false) := by
  refine returnsInHanded_of_change_sized (C := Try.checked) ownGodebug started (by kernel_rfl) Try.func8
    (ChangeSpec.witness6 (enc := enc) (C := Try.checked) false ⟨#[], #[.agg #[.int .i64 0, .slice none 0 0, .int .i32 0, .slice none 0 0, .int .i64 0, .int .i64 0, .string ⟨#[]⟩, .int .i64 0, .int .i64 0, .bool false], .int .i64 0], []⟩ 8 (by kernel_rfl) (by kernel_rfl) (by kernel_rfl) (by kernel_rfl)) ?_
  intro W base args ds gs before hval0 hW hc hsz0 _
  have hval : ∀ (j : Nat) t v, Try.f8.params[j]? = some t → args[j]? = some v → Value.okWide Try.prog W .any base t v := hval0
  have hW' := hW
  obtain ⟨p, q, hA0, hV, rfl, _, _⟩ := hW
  have hA : DataW.TrodAll enc Try.prog W 0 (fun _ => true) true Try.f8.params.toList args.toList ds p := hA0
  rw [Try.params8] at hA hval
  obtain ⟨v0, vs0, d0, ds0, p0, q0, hargs, rfl, rfl, h0, r0⟩ := trodAll_cons hA
  obtain ⟨v1, vs1, d1, ds1, p1, q1, rfl, rfl, rfl, h1, r1⟩ := trodAll_cons r0
  obtain ⟨rfl, rfl, rfl⟩ := trodAll_nil r1
  obtain rfl : args = #[v0, v1] := by cases args; simp_all
  obtain ⟨rfl, rfl⟩ := trodVars_none hV
  obtain ⟨cs0, rfl, hcsz0⟩ := okWide_struct Try.underlying27 (hval 0 27 v0 rfl rfl)
  have hz0 : SizedD d0 27 := fun n hn => by
    have h9 := List.all_eq_true.1 hsz0 n (DataW.weights_mem_each (j := 0) (t := 27) (by rw [Try.params8]; rfl) rfl n hn)
    have h8 : n ≤ reachBytes := by simpa using h9
    exact Nat.le_trans h8 (by unfold reachBytes; omega)
  have htr0 := h0
  obtain ⟨fuel0, hf0⟩ := htr0
  obtain ⟨t0, htc0, hfw0, hsm0⟩ := tree_of fuel0 hf0
  have hlt0 : ∀ x ∈ p0, x.block < W.heap.size := fun x hx => hW'.lt x (by simp [hx])
  obtain ⟨z1, rfl, rfl, rfl, hz1⟩ := open_int Try.underlying3 (hval 1 3 v1 rfl rfl) h1
  clear hA0 hval0
  have walk := compileRight_any _ W t0 _ z1 htc0 (fun p hp => hsm0 hz0 p hp) hfw0
  refine walk.mono fun e W' ⟨he, bel⟩ => ?_
  subst he
  exact ⟨_, rfl, post_grown (pv := []) hW' bel rfl (fun _ _ _ => trodAll_mk1 (shut_bool Try.underlying4 _))
    (fun sp hsp => (trodAll_cons_mk (WideElems.Trod_stays laidOut (by kernel_rfl) (of_decide_eq_true (by kernel_rfl)) h0 (fun x hx => bel.same (hlt0 x hx)) (fun x hx => hsp x (by simp [hx]))) (trodAll_cons_mk (shut_int Try.underlying3 hz1) trodAll_mk0))) (fun _ _ => rfl) (ok_one (by kernel_rfl) rfl (okWide_bool_mk Try.underlying4 _))⟩

theorem said : Rows.CompileRightSaid :=
  OpenClaim.holds_of_wide 8 Try.f8 rfl rfl rfl rfl rfl rfl rfl ⟨rfl, rfl, rfl, rfl, rfl⟩ rfl rfl rfl rfl rfl (by kernel_rfl) Try.func8 (by kernel_rfl)
    (of_decide_eq_true (by kernel_rfl)) (by unfold Func.isWrapper; first | (rw [if_pos (by decide +kernel)]; kernel_rfl) | (rw [if_neg (by decide +kernel)]; exact ⟨rfl, rfl⟩))
    (fun os started H enc _ => lifted os started H enc)

end Go.Proofs.Ytdnbholiijgedaa.compileRight
namespace Go.Proofs.Ytdnbholiijgedaa
/-- The statement, under a short name, for the claim. -/
theorem compileRight_said : Rows.CompileRightSaid := compileRight.said
end Go.Proofs.Ytdnbholiijgedaa
