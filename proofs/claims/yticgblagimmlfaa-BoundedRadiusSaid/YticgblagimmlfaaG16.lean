/- New. -/
import Derived.Test.YticgblagimmlfaaG15
import Derived.Lib.SliceRun
import Derived.WalkSpells
namespace Go.Proofs.Yticgblagimmlfaa
open Go.RowKit Go.Proofs.YticgblagimmlfaaW.PrintWords Go.Proofs.YticgblagimmlfaaW.PrintLast Go.Proofs.YticgblagimmlfaaW.PrintMore
set_option linter.unusedVariables false
set_option linter.unusedSimpArgs false

set_option maxRecDepth 100000 in
theorem new_bad {w : World} {A : Option Addr} {c : Nat} (P M : Int) {Mod : List Int} (hl : Kd.C (Kd.int .i64) w A Mod.length Mod) (hb : fieldOk P M Mod = false) :
    Calls Try.prog 37 #[.agg #[.int .i64 P, .int .i64 M, .slice A Mod.length c]] w fun e w' => e = .returned (.tuple #[.pointer none, .int .i64 1]) ∧ Below w.heap.size w w' := by
  have HL := Aside0.mk hl
  have hF0 := FAt.new w P M A Mod.length c
  obtain ⟨w0, hw0⟩ : ∃ w0, w.alloc (.cells #[.int .i64 P, .int .i64 M, .slice A Mod.length c] 27) = w0 := ⟨_, rfl⟩
  have hB0 : Below w.heap.size w w0 := by rw [← hw0]; exact below_alloc (Below.refl _ _) _
  rw [hw0] at hF0
  have HF := Aside0.mk hF0
  have HB0 := Aside0.mk hB0
  have HW := Aside0.mk hw0
  have HS := fun (w1 : World) (hb1 : Below w.heap.size w w1) => Aside0.mk (shape_any (c := c) P M (Kd.C_below hl hb1))
  clear hl hF0 hB0 hw0
  cases hs : shapeZ P M Mod with
  | false =>
    rw [hs] at HS
    clear hs hb
    go_enter Try.func37, Try.ntmps37
    go_wp2_with fail
    rw [HW.out]
    have cP := HF.out.p
    have cM := HF.out.m
    have cMod := HF.out.mod
    go_wp2_with (go_at_call 63; refine (HS _ HB0.out).out.mono ?_; rintro e w1 ⟨rfl, hB1⟩; have HB1 := Aside0.mk (below_later HB0.out HB0.out.size hB1); clear hB1)
    go_ret2
    exact ⟨rfl, HB1.out⟩
  | true =>
    rw [hs] at HS
    obtain ⟨p1, p2, p3, p4, p5, p6, p7, p8, p9, p10⟩ := shapeZ_true P M Mod hs
    have hg : genZ P M.toNat Mod (P ^ M.toNat) = [] := by
      unfold fieldOk at hb
      rw [hs, Bool.true_and] at hb
      cases e : genZ P M.toNat Mod (P ^ M.toNat) with
      | nil => rfl
      | cons a l => rw [e] at hb; simp at hb
    obtain ⟨m, rfl⟩ := Int.eq_ofNat_of_zero_le (by omega : 0 ≤ M)
    rw [Int.toNat_natCast] at p5 p6 p8 hg
    have HG := fun (w1 : World) (hb1 : Below w.heap.size w w1) => Aside0.mk (generator_any (c := c) P m (Kd.C_below HL.out hb1) p1 p2 (by omega) (by omega) p6 p8 p9 _ rfl)
    rw [hg] at HG
    obtain ⟨q, hq⟩ : ∃ q, P ^ m = q := ⟨_, rfl⟩
    rw [hq] at p5 HG
    have HO := fun (w1 : World) => order_fn P (m : Int) w1
    simp only [p5] at HO
    clear hs hb hg p1 p2 p3 p4 p5 p6 p7 p8 p9 p10 hq
    have hnil := fun (w1 : World) (a : Option Addr) (n c n' c' : Nat) => Lib.run_eql_slice_nil (P := Try.prog) w1 25 3 a n c n' c' Try.underlying25
    go_enter Try.func37, Try.ntmps37
    go_wp2_with fail
    rw [HW.out]
    have cP := HF.out.p
    have cM := HF.out.m
    have cMod := HF.out.mod
    go_wp2_with (first
      | (go_at_call 63; refine (HS _ HB0.out).out.mono ?_; rintro e w1 ⟨rfl, hB1⟩; have hB1' := below_later (Below.refl w0.heap.size w0) (Nat.le_refl _) hB1; have HB1 := Aside0.mk (below_later HB0.out HB0.out.size hB1); have cP1 := (HF.out.below hB1).p; have cM1 := (HF.out.below hB1).m; have cMod1 := (HF.out.below hB1).mod; clear hB1 hB1')
      | (go_at_call 64; (with_reducible refine (HO _).mono ?_); rintro e w2 ⟨rfl, rfl⟩)
      | (go_at_call 65; refine (HG _ HB1.out).out.mono ?_; rintro e w3 ⟨v3, rfl, hN, hB3⟩; obtain ⟨-, rfl⟩ := hN.resolve_right (fun h => h.1 rfl); have HB3 := Aside0.mk (below_later HB1.out HB1.out.size hB3); clear hB3 hN))
    go_ret2
    exact ⟨rfl, HB3.out⟩
end Go.Proofs.Yticgblagimmlfaa
