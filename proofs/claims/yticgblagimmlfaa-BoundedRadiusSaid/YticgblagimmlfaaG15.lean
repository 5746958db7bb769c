/- shape. -/
import Derived.Test.YticgblagimmlfaaG14
namespace Go.Proofs.Yticgblagimmlfaa
open Go.RowKit Go.Proofs.YticgblagimmlfaaW.PrintWords Go.Proofs.YticgblagimmlfaaW.PrintLast Go.Proofs.YticgblagimmlfaaW.PrintMore
set_option linter.unusedVariables false
set_option linter.unusedSimpArgs false

theorem shape_any {w : World} {A : Option Addr} {c : Nat} (P M : Int) {Mod : List Int} (hl : Kd.C (Kd.int .i64) w A Mod.length Mod) :
    Calls Try.prog 63 #[.agg #[.int .i64 P, .int .i64 M, .slice A Mod.length c]] w fun e w' => e = .returned (.bool (shapeZ P M Mod)) ∧ Below w.heap.size w w' := by
  have HL := Aside0.mk hl
  have hmx := Kd.C_max hl
  have hu27 := Try.underlying27
  obtain ⟨R, hR⟩ : ∃ R, shapeZ P M Mod = R := ⟨_, rfl⟩
  rw [hR]
  have hF0 := FAt.new w P M A Mod.length c
  obtain ⟨w0, hw0⟩ : ∃ w0, w.alloc (.cells #[.int .i64 P, .int .i64 M, .slice A Mod.length c] 27) = w0 := ⟨_, rfl⟩
  have hB0 : Below w.heap.size w w0 := by rw [← hw0]; exact below_alloc (Below.refl _ _) _
  have HB0 := Aside0.mk hB0
  have HO := fun (w1 : World) => order_fn P M w1
  obtain ⟨o, ho⟩ : ∃ o, orderZ P M = o := ⟨_, rfl⟩
  simp only [ho] at HO
  unfold shapeZ at hR
  rw [ho] at hR
  by_cases h0 : o = 0
  · rw [if_pos h0] at hR
    subst hR h0
    clear hF0 hw0 hB0 ho HB0
    go_enter Try.func63, Try.ntmps63
    go_wp2_with (go_at_call 64; (with_reducible refine (HO _).mono ?_); rintro e w1 ⟨rfl, rfl⟩)
    go_ret
    exact ⟨rfl, below_alloc (Below.refl _ _) _⟩
  · rw [if_neg h0] at hR
    obtain ⟨h1, h2, h3, h4⟩ := orderZ_range P M (by rw [ho]; exact h0)
    have hob : (o == 0) = false := by simp [h0]
    have HP := fun (w1 : World) => isPrime_fn P h1 h2 w1
    obtain ⟨pr, hpr⟩ : ∃ b, primeZ P = b := ⟨_, rfl⟩
    simp only [hpr] at HP
    rw [hpr] at hR
    clear ho hpr h0
    cases pr with
    | false =>
      have hR' : false = R := hR
      subst hR'
      clear hF0 hw0 hB0 HB0 hR
      go_enter Try.func63, Try.ntmps63
      go_wp2_with (first | (go_at_call 64; (with_reducible refine (HO _).mono ?_); rintro e w1 ⟨rfl, rfl⟩) | (go_at_call 100; (with_reducible refine (HP _).mono ?_); rintro e w1 ⟨rfl, rfl⟩))
      go_ret
      exact ⟨rfl, below_alloc (Below.refl _ _) _⟩
    | true =>
      rw [if_neg (by simp)] at hR
      by_cases hM : M = 1
      · rw [if_pos hM] at hR
        subst hM
        clear hF0 hw0 hB0 HB0
        by_cases hz : Mod.length = 0
        · have hR' : true = R := by rw [← hR]; simp [hz]
          have hzb : ((Mod.length : Int) == 0) = true := by simp [hz]
          subst hR'
          clear hz hR
          go_enter Try.func63, Try.ntmps63
          go_wp2_with (first | (go_at_call 64; (with_reducible refine (HO _).mono ?_); rintro e w1 ⟨rfl, rfl⟩) | (go_at_call 100; (with_reducible refine (HP _).mono ?_); rintro e w1 ⟨rfl, rfl⟩))
          go_ret
          exact ⟨rfl, below_alloc (Below.refl _ _) _⟩
        · have hR' : false = R := by rw [← hR]; simp [hz]
          have hzb : ((Mod.length : Int) == 0) = false := by simp only [beq_eq_false_iff_ne]; omega
          subst hR'
          clear hz hR
          go_enter Try.func63, Try.ntmps63
          go_wp2_with (first | (go_at_call 64; (with_reducible refine (HO _).mono ?_); rintro e w1 ⟨rfl, rfl⟩) | (go_at_call 100; (with_reducible refine (HP _).mono ?_); rintro e w1 ⟨rfl, rfl⟩))
          go_ret
          exact ⟨rfl, below_alloc (Below.refl _ _) _⟩
      · rw [if_neg hM] at hR
        have hMb : (M == 1) = false := by simp [hM]
        by_cases hlen : (Mod.length : Int) ≠ M
        · rw [if_pos hlen] at hR
          subst hR
          have hlb : ((Mod.length : Int) != M) = true := by simp [hlen]
          clear hF0 hw0 hB0 HB0 hlen hM
          go_enter Try.func63, Try.ntmps63
          go_wp2_with (first | (go_at_call 64; (with_reducible refine (HO _).mono ?_); rintro e w1 ⟨rfl, rfl⟩) | (go_at_call 100; (with_reducible refine (HP _).mono ?_); rintro e w1 ⟨rfl, rfl⟩))
          go_ret
          exact ⟨rfl, below_alloc (Below.refl _ _) _⟩
        · rw [if_neg hlen] at hR
          have hlb : ((Mod.length : Int) != M) = false := by simpa using hlen
          have HR := Aside0.mk hR
          have HW := Aside0.mk hw0
          have HF := Aside0.mk hF0
          clear hlen hM hR hw0 hF0 hB0
          go_enter Try.func63, Try.ntmps63
          go_wp2_with (first | (go_at_call 64; (with_reducible refine (HO _).mono ?_); rintro e w1 ⟨rfl, rfl⟩) | (go_at_call 100; (with_reducible refine (HP _).mono ?_); rintro e w1 ⟨rfl, rfl⟩))
          have hF := HF.out
          rw [HW.out] at hF ⊢
          have cP := hF.p
          have HLb := Aside0.mk (Kd.C_below HL.out HB0.out)
          clear HW HF hF HO HP
          go_loop [33] (fun v33 => ∃ k : Nat, v33 = .int .i64 k ∧ k ≤ Mod.length ∧ Aside0 (inRange P (Mod.take k) = true)) (fun v33 => Mod.length - (intOf v33).toNat)
          case atStart => exact ⟨0, rfl, by omega, ⟨by simp [inRange]⟩⟩
          case round =>
            obtain ⟨k, rfl, hk, HI⟩ := hrel
            by_cases hlk : k < Mod.length
            · obtain ⟨ad, e, hx⟩ := C_nat HLb.out k hlk
              cases e
              have hst := inRange_take_succ P Mod k hlk
              obtain ⟨x, hx'⟩ : ∃ x, Mod.getD k 0 = x := ⟨_, rfl⟩
              rw [hx'] at hx hst
              rw [HI.out, Bool.true_and] at hst
              by_cases hx0 : x < 0
              · have hf := inRange_mono P Mod (k + 1) (by rw [hst]; simp; omega)
                have hR : false = R := by rw [← HR.out]; exact hf.symm
                subst hR
                clear hst hf HI HR hx'
                go_wp2
                go_ret
                exact ⟨rfl, HB0.out⟩
              · by_cases hxP : P ≤ x
                · have hf := inRange_mono P Mod (k + 1) (by rw [hst]; simp; omega)
                  have hR : false = R := by rw [← HR.out]; exact hf.symm
                  subst hR
                  clear hst hf HI HR hx'
                  go_wp2
                  go_ret
                  exact ⟨rfl, HB0.out⟩
                · have HI2 : Aside0 (inRange P (Mod.take (k + 1)) = true) := ⟨by rw [hst]; simp; omega⟩
                  clear hst HI hx'
                  go_wp2
                  go_round
                  case rel => exact ⟨k + 1, by go_num, by omega, HI2⟩
                  case measure => simp [intOf]; omega
            · obtain rfl : k = Mod.length := by omega
              rw [List.take_length] at HI
              have hR : true = R := by rw [← HR.out]; exact HI.out.symm
              subst hR
              clear HI HR
              go_wp2
              go_ret
              exact ⟨rfl, HB0.out⟩
end Go.Proofs.Yticgblagimmlfaa
