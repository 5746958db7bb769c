/- The syndromes are the inner products with the dual description's generators, and are 0 just for codewords, for every input. No condition. -/
import Derived.Test.YticgblagimmlfaaX807
import Derived.Test.YticgblagimmlfaaX820
namespace Go.Proofs.Yticgblagimmlfaa.boundedSyndromes
open Go.ChangeShapes Go.WideShapes Go.ChangeAt Go.RowKit
set_option linter.unusedVariables false

theorem own : ownKnob Try.prog.godebug = none := by kernel_rfl
set_option maxRecDepth 100000 in
theorem lifted (os : Os) (started : os.Started) (H : Type) (enc : TypeId × Value → H) :
    ReturnsInHanded {} Try.checked os 8 .any (Rows.boundedSyndromesSpec.pre6 enc Try.prog Try.f8 Rows.boundedSyndromesRow.domain false) (Rows.boundedSyndromesSpec.post enc Try.prog Try.f8 false true false false) := by
  refine returnsInHanded_of_change (C := Try.checked) own started (by kernel_rfl) Try.func8
    (ChangeSpec.witness6 (enc := enc) (C := Try.checked) false ⟨#[], #[.agg #[.int .i64 0, .int .i64 0, .slice none 0 0, .int .i64 0, .slice none 0 0, .slice none 0 0], .slice none 0 0], []⟩ 8 (by kernel_rfl) (by kernel_rfl) (by kernel_rfl) (by kernel_rfl)) ?_
  intro W base args ds gs before hval0 hW hcnd _
  have hval : ∀ (j : Nat) t v, Try.f8.params[j]? = some t → args[j]? = some v → Value.okWide Try.prog W .any base t v := hval0
  have hW' := hW
  obtain ⟨p, q, hA0, hV, rfl, hfz, hnd⟩ := hW
  have hA : DataW.TrodAll enc Try.prog W 0 (fun _ => true) true Try.f8.params.toList args.toList ds p := hA0
  rw [Try.params8] at hA hval
  obtain ⟨v0, vs0, d0, ds0, p0, q0, hargs, rfl, rfl, h0, r0⟩ := trodAll_cons hA
  obtain ⟨v1, vs1, d1, ds1, p1, q1, rfl, rfl, rfl, h1, r1⟩ := trodAll_cons r0
  obtain ⟨rfl, rfl, rfl⟩ := trodAll_nil r1
  obtain rfl : args = #[v0, v1] := by cases args; simp_all
  obtain ⟨rfl, rfl⟩ := trodVars_none hV
  have k0 := h0
  obtain ⟨s0, g0⟩ := open_GRS (hval 0 29 v0 rfl rfl) h0
  have k1 := h1
  obtain ⟨A1, c1, l1, rfl, b1, y1⟩ := open_listV (hval 1 25 v1 rfl rfl) h1
  clear hA0 hval0
  refine (lawSyndromes_row g0 y1).mono fun e W' ⟨he, bel⟩ => ?_
  subst he
  exact ⟨_, rfl, _, _, _, [], _, [], hW', trodAll_mk1 (shut_bool Try.underlying4 _), (trodAll_cons_mk (Below.trod laidOutT (by kernel_rfl) (of_decide_eq_true (by kernel_rfl)) k0 bel (trod_blocks k0)) (trodAll_cons_mk (Below.trod laidOutT (by kernel_rfl) (of_decide_eq_true (by kernel_rfl)) k1 bel (trod_blocks k1)) trodAll_mk0)), rfl, bel.frame _, fun h => by cases h⟩

theorem over : Rows.boundedSyndromesRow.holds Try.pinned (OpenSpec.ofChange Rows.boundedSyndromesSpec) :=
  OpenClaim.holds_of_wide 8 Try.f8 rfl rfl rfl rfl rfl rfl rfl ⟨rfl, rfl, rfl, rfl, rfl⟩ rfl rfl rfl rfl rfl (by kernel_rfl) Try.func8 (by kernel_rfl)
    (of_decide_eq_true (by kernel_rfl)) (by unfold Func.isWrapper; first | (rw [if_pos (by decide +kernel)]; kernel_rfl) | (rw [if_neg (by decide +kernel)]; exact ⟨rfl, rfl⟩))
    (fun os started H enc _ => lifted os started H enc)
end Go.Proofs.Yticgblagimmlfaa.boundedSyndromes
namespace Go.Proofs.Yticgblagimmlfaa
/-- The statement. -/
theorem boundedSyndromes_holds : Rows.BoundedSyndromesSaid := boundedSyndromes.over
#print axioms boundedSyndromes_holds
end Go.Proofs.Yticgblagimmlfaa
