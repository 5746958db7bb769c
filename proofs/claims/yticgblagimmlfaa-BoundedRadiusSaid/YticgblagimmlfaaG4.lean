/- The product, Sub, FromRoots. -/
import Derived.Test.YticgblagimmlfaaG3
namespace Go.Proofs.Yticgblagimmlfaa
open Go.RowKit Go.Proofs.YticgblagimmlfaaW.PrintWords Go.Proofs.YticgblagimmlfaaW.PrintLast Go.Proofs.YticgblagimmlfaaW.PrintMore
set_option linter.unusedVariables false
set_option linter.unusedSimpArgs false

theorem Own.nil (w : World) (base : Nat) : Own w base (.slice none 0 0) [] := ⟨Kd.R_nil _ _ _ _ _⟩
theorem Drawn0.below' {w0 w w1 : World} (h : Below w0.heap.size w0 w) (hd : Drawn0 w w1) : Below w0.heap.size w0 w1 := by
  obtain ⟨n, rfl⟩ := hd
  exact pw_below_drewN h n

theorem product_any {g : Nat} {D : GFD} {w : World} (h : GFat w g D) (hD : D.ok) {A B : Option Addr} {c d : Nat} {p q : List Int} (hp : Kd.C (Kd.int .i64) w A p.length p) (hq : Kd.C (Kd.int .i64) w B q.length q)
    (hb : p.length + q.length ≤ 35184372088832) :
    Calls Try.prog 138 #[.pointer (some ⟨g, 0, none⟩), .slice A p.length c, .slice B q.length d] w fun e w' => ∃ v, e = .returned v ∧ Own w' w.heap.size v (D.product p q) ∧ Below w.heap.size w w' := by
  have H := Aside0.mk h
  have HP := Aside0.mk hp
  have HQ := Aside0.mk hq
  have hbp : p.length ≤ 35184372088832 := by omega
  have hbq : q.length ≤ 35184372088832 := by omega
  clear h hp hq
  have lp := canon_length_le D p
  have lq := canon_length_le D q
  have hpr : D.product p q = D.prodC (D.canon p) (D.canon q) := rfl
  rw [hpr]
  obtain ⟨P, hP⟩ : ∃ P, D.canon p = P := ⟨_, rfl⟩
  obtain ⟨Q, hQ⟩ : ∃ Q, D.canon q = Q := ⟨_, rfl⟩
  rw [hP] at lp
  rw [hQ] at lq
  rw [hP, hQ]
  have C1 := fun (w1 : World) (h1 : Below w.heap.size w w1) => Aside0.mk (canon_any (c := c) (H.out.below h1) (Kd.C_below HP.out h1) hbp)
  have C2 := fun (w1 : World) (h1 : Below w.heap.size w w1) => Aside0.mk (canon_any (c := d) (H.out.below h1) (Kd.C_below HQ.out h1) hbq)
  simp only [hP] at C1
  simp only [hQ] at C2
  clear hpr hP hQ
  have B0 := Below.refl w.heap.size w
  by_cases hnil : P = [] ∨ Q = []
  · have e : D.prodC P Q = [] := by unfold GFD.prodC; rw [if_pos hnil]
    rw [e]
    clear e
    by_cases hp0 : P.length = 0
    · have hz : ((P.length : Int) == 0) = true := by simp [hp0]
      clear hnil hp0
      go_enter Try.func138, Try.ntmps138
      go_wp2_with (first | (go_at_call 120; refine (C1 _ B0).out.mono ?_; rintro e w1 ⟨v1, rfl, hO1, hB1⟩; obtain ⟨A1, c1, rfl, hc1, hC1⟩ := hO1.slice; have HB1 := Aside0.mk hB1; clear hO1 hB1 C1 hC1) | (go_at_call 120; refine (C2 _ HB1.out).out.mono ?_; rintro e w2 ⟨v2, rfl, hO2, hB2⟩; obtain ⟨A2, c2, rfl, hc2, hC2⟩ := hO2.slice; have HB2 := Aside0.mk (below_later HB1.out HB1.out.size hB2); clear hO2 hB2 C2 hC2))
      go_ret
      exact ⟨_, rfl, Own.nil _ _, HB2.out⟩
    · have hq0 : Q.length = 0 := by
        rcases hnil with h | h
        · rw [h] at hp0; simp at hp0
        · rw [h]; rfl
      have hz : ((P.length : Int) == 0) = false := by simp only [beq_eq_false_iff_ne]; omega
      have hz2 : ((Q.length : Int) == 0) = true := by simp [hq0]
      clear hnil hp0 hq0
      go_enter Try.func138, Try.ntmps138
      go_wp2_with (first | (go_at_call 120; refine (C1 _ B0).out.mono ?_; rintro e w1 ⟨v1, rfl, hO1, hB1⟩; obtain ⟨A1, c1, rfl, hc1, hC1⟩ := hO1.slice; have HB1 := Aside0.mk hB1; clear hO1 hB1 C1 hC1) | (go_at_call 120; refine (C2 _ HB1.out).out.mono ?_; rintro e w2 ⟨v2, rfl, hO2, hB2⟩; obtain ⟨A2, c2, rfl, hc2, hC2⟩ := hO2.slice; have HB2 := Aside0.mk (below_later HB1.out HB1.out.size hB2); clear hO2 hB2 C2 hC2))
      go_ret
      exact ⟨_, rfl, Own.nil _ _, HB2.out⟩
  · have hp0 : ¬ P.length = 0 := fun h => hnil (.inl (List.eq_nil_of_length_eq_zero h))
    have hq0 : ¬ Q.length = 0 := fun h => hnil (.inr (List.eq_nil_of_length_eq_zero h))
    obtain ⟨R, hR⟩ : ∃ R, D.prodC P Q = R := ⟨_, rfl⟩
    rw [hR]
    have hR' : D.prodAux Q P 0 (List.replicate (P.length + Q.length - 1) 0) = R := by rw [← hR]; unfold GFD.prodC; rw [if_neg hnil]
    obtain ⟨N, hN⟩ : ∃ N, P.length + Q.length - 1 = N := ⟨_, rfl⟩
    rw [hN] at hR'
    have hNi : (P.length : Int) + (Q.length : Int) - 1 = (N : Int) := by omega
    have HN := Aside0.mk hNi
    have HNl := Aside0.mk hN
    have hNb : N ≤ 35184372088832 := by omega
    have HR := Aside0.mk hR'
    have hz : ((P.length : Int) == 0) = false := by simp only [beq_eq_false_iff_ne]; omega
    have hz2 : ((Q.length : Int) == 0) = false := by simp only [beq_eq_false_iff_ne]; omega
    have hP1 : 1 ≤ P.length := by omega
    have hQ1 : 1 ≤ Q.length := by omega
    clear hnil hp0 hq0 hR hR' hNi hN
    go_enter Try.func138, Try.ntmps138
    go_wp2_with (first | (go_at_call 120; refine (C1 _ B0).out.mono ?_; rintro e w1 ⟨v1, rfl, hO1, hB1⟩; obtain ⟨A1, c1, rfl, hc1, hC1⟩ := hO1.slice; have HB1 := Aside0.mk hB1; have HC1 := Aside0.mk hC1; clear hO1 hB1 C1 hC1) | (go_at_call 120; refine (C2 _ HB1.out).out.mono ?_; rintro e w2 ⟨v2, rfl, hO2, hB2⟩; obtain ⟨A2, c2, rfl, hc2, hC2⟩ := hO2.slice; replace HC1 := Aside0.mk (Kd.C_below HC1.out hB2); have HC2 := Aside0.mk hC2; have HB2 := Aside0.mk (below_later HB1.out HB1.out.size hB2); clear hO2 hB2 C2 hC2 HB1) | ((with_reducible refine gate_dst (N := 32) rfl ?_); refine make_ownI rfl (N := 32) rfl _ _ rfl HN rfl rfl hNb ?_; intro v w3 hO3 hB3; have HO := Aside0.mk hO3; have HB := Aside0.mk hB3; have HG2 := Aside0.mk (H.out.below HB2.out); clear hO3 hB3))
    go_loopw [35] (fun v35 w' => ∃ (k : Nat) (O : List Int), v35 = .int .i64 k ∧ k ≤ P.length ∧ Aside0 (O.length = N) ∧ Aside0 (D.prodAux Q (P.drop k) k O = R) ∧ Aside0 (Own w' w2.heap.size v O) ∧ Aside0 (Below w2.heap.size w2 w')) (fun v35 _ => P.length - (intOf v35).toNat)
    case atStart => exact ⟨0, _, rfl, by omega, ⟨List.length_replicate⟩, ⟨HR.out⟩, HO, HB⟩
    case round =>
      clear HO HB HR B0 H HP HQ HN
      obtain ⟨k, O, rfl, hk, HOl, HR, HO, HB⟩ := hrel
      by_cases hlk : k < P.length
      · obtain ⟨ad, e, hx⟩ := C_nat (Kd.C_below HC1.out HB.out) k hlk
        cases e
        obtain ⟨y, hy⟩ : ∃ y, P.getD k 0 = y := ⟨_, rfl⟩
        rw [hy] at hx
        have hdr : P.drop k = y :: P.drop (k + 1) := by
          rw [List.drop_eq_getElem_cons hlk, ← hy]; simp [List.getD_eq_getElem?_getD, hlk]
        have hr := HR.out
        rw [hdr] at hr
        have HR2 := Aside0.mk (show D.prodAux Q (P.drop (k + 1)) (k + 1) (D.prodRow y k O Q) = R from hr)
        obtain ⟨F, hF⟩ : ∃ F : Int → Int → Int, F = (fun o b => D.add o (D.mul y b)) := ⟨_, rfl⟩
        have hrow : D.prodRow y k O Q = updAt F k O Q := by rw [hF]; rfl
        rw [hrow] at HR2
        have HF := Aside0.mk hF
        clear hy hdr hr hrow hF HR
        go_wp2
        obtain ⟨wo, rfl⟩ : ∃ wo : World, wo = wr := ⟨_, rfl⟩
        go_loopw [42] (fun v42 w' => ∃ (j : Nat), v42 = .int .i64 j ∧ j ≤ Q.length ∧ Aside0 (Own w' w2.heap.size v (updAt F k O (Q.take j))) ∧ Aside0 (Below w2.heap.size w2 w')) (fun v42 _ => Q.length - (intOf v42).toNat)
        case atStart => exact ⟨0, rfl, by omega, ⟨by simpa [updAt_nil] using HO.out⟩, HB⟩
        case round =>
          clear HO HB
          obtain ⟨j, rfl, hj, HO, HB⟩ := hrel
          have hlen : (updAt F k O (Q.take j)).length = N := by rw [updAt_length]; exact HOl.out
          by_cases hlj : j < Q.length
          · have hkj : k + j < N := by have := HNl.out; omega
            obtain ⟨ad2, e, hx2⟩ := C_nat (Kd.C_below HC2.out HB.out) j hlj
            cases e
            obtain ⟨z, hz⟩ : ∃ z, Q.getD j 0 = z := ⟨_, rfl⟩
            rw [hz] at hx2
            have hstep := updAt_set F 0 k j O Q hlj (by rw [HOl.out]; omega)
            have hget := updAt_get F 0 k j O Q (by rw [HOl.out]; omega)
            obtain ⟨o, ho⟩ : ∃ o, O.getD (k + j) 0 = o := ⟨_, rfl⟩
            rw [ho] at hget hstep
            rw [hz, show F o z = D.add o (D.mul y z) from by rw [HF.out]] at hstep
            obtain ⟨gb, cap, e, hg1, hg2⟩ := HO.out.form (by omega)
            rw [hlen] at e
            subst e
            have HO2 := Aside0.mk (HO.out.set hlen.symm (k + j) (D.add o (D.mul y z)))
            rw [hstep] at HO2
            obtain ⟨hcl, hfz⟩ := HO.out.cell' hlen.symm (k + j) hkj
            rw [hget] at hcl
            have HG := Aside0.mk (HG2.out.below HB.out)
            have e1 : IntKind.i64.wrap ((k : Int) + (j : Int)) = (k : Int) + (j : Int) := w64 _ (by omega) (by omega)
            have e2 : ((k : Int) + (j : Int)).toNat = k + j := by omega
            have e3 : 0 ≤ (k : Int) + (j : Int) := by omega
            have e4 : (k : Int) + (j : Int) < (N : Int) := by omega
            clear hstep hlen HO hz ho hget
            go_wp2
            refine wp_region_quiet_tail 17 (by kernel_rfl) (by kernel_rfl) ?_
            simp only [List.take_succ_cons, List.take_zero, List.drop_succ_cons, List.drop_zero]
            repeat (first | go_big_quiet_step (first | (go_at_call 79; exact quiet_d (mul_any (HG.out.drewN _) hD _ _)) | (go_at_call 83; exact quiet_d (add_any (HG.out.drewN _) hD _ _))) | quiet_step (first | (go_at_call 79; exact quiet_d (mul_any (HG.out.drewN _) hD _ _)) | (go_at_call 83; exact quiet_d (add_any (HG.out.drewN _) hD _ _))))
            refine wpQuiet_nil ?_
            intro _ hw'
            obtain ⟨nq, hw''⟩ := hw'
            subst hw''
            go_wp2
            go_roundw
            case rel => exact ⟨j + 1, by go_num, by omega, ⟨HO2.out.drewN _⟩, ⟨pw_below_drewN (HB.out.setCell hg1 _) _⟩⟩
            case measure => simp [intOf]; omega
          · obtain rfl : j = Q.length := by omega
            rw [List.take_length] at HO hlen
            go_wp2
            go_roundw
            case rel => exact ⟨k + 1, _, by go_num, by omega, ⟨hlen⟩, HR2, HO, HB⟩
            case measure => simp [intOf]; omega
      · obtain rfl : k = P.length := by omega
        have hr := HR.out
        rw [List.drop_length] at hr
        have hr' : O = R := hr
        have HR2 := Aside0.mk hr'
        clear hr hr' HR
        go_wp2
        go_ret
        exact ⟨_, rfl, by rw [← HR2.out]; exact HO.out.lower HB2.out.size, below_later HB2.out HB2.out.size HB.out⟩
end Go.Proofs.Yticgblagimmlfaa
