/- The reference: Mul. -/
import Derived.Test.YticgblagimmlfaaR1
namespace Go.Proofs.Yticgblagimmlfaa
open Go.RowKit Go.Proofs.YticgblagimmlfaaW.PrintWords Go.Proofs.YticgblagimmlfaaW.PrintLast Go.Proofs.YticgblagimmlfaaW.PrintMore
set_option linter.unusedVariables false
set_option linter.unusedSimpArgs false

set_option maxHeartbeats 4000000 in
set_option maxRecDepth 100000 in
theorem refMul_raw {w : World} {A : Option Addr} {c : Nat} {P : Int} {m : Nat} {Mod : List Int} (hf : FOK P m) (hMod : 1 < m → Mod.length = m) (hMr : ∀ d ∈ Mod, 0 ≤ d ∧ d < P) (hC : Kd.C (Kd.int .i64) w A Mod.length Mod) (x y : Int) :
    Calls Try.prog 46 #[.agg #[.int .i64 P, .int .i64 (m : Int), .slice A Mod.length c], .int .i64 x, .int .i64 y] w fun e w' => e = .returned (.int .i64 (mulR P m Mod x y)) ∧ Below w.heap.size w w' := by
  obtain ⟨hP, hP2, hm1, hm8, hq, ho⟩ := hf.facts
  have hF0 := FAt.new w P (m : Int) A Mod.length c
  obtain ⟨w0, hw0⟩ : ∃ w0, w.alloc (.cells #[.int .i64 P, .int .i64 (m : Int), .slice A Mod.length c] 27) = w0 := ⟨_, rfl⟩
  have hB0 : Below w.heap.size w w0 := by rw [← hw0]; exact below_alloc (Below.refl _ _) _
  rw [hw0] at hF0
  have HB0 := Aside0.mk hB0
  have HW := Aside0.mk hw0
  have HF := Aside0.mk hF0
  have HMod := Aside0.mk (Kd.C_below hC hB0)
  have HDx := Aside0.mk (fun (w1 : World) => refDig_any (w := w1) (A := A) (n := Mod.length) (c := c) hf x)
  have HDy := Aside0.mk (fun (w1 : World) => refDig_any (w := w1) (A := A) (n := Mod.length) (c := c) hf y)
  have hxl := digs_length P m (inR P m x)
  have hyl := digs_length P m (inR P m y)
  have hxm := digs_mem P hP m (inR P m x)
  have hym := digs_mem P hP m (inR P m y)
  have hR : mulR P m Mod x y = val P ((redRun P m Mod (m - 1) (convTo P (digs P m (inR P m x)) (digs P m (inR P m y)) (List.replicate (2 * m - 1) 0) m)).take m) := rfl
  rw [hR]
  obtain ⟨a, ha⟩ : ∃ a, digs P m (inR P m x) = a := ⟨_, rfl⟩
  obtain ⟨b, hb⟩ : ∃ b, digs P m (inR P m y) = b := ⟨_, rfl⟩
  rw [ha] at HDx hxl hxm ⊢
  rw [hb] at HDy hyl hym ⊢
  obtain ⟨Z, hZ⟩ : ∃ Z, List.replicate (2 * m - 1) (0 : Int) = Z := ⟨_, rfl⟩
  have hZm : ∀ d ∈ Z, 0 ≤ d ∧ d < P := fun d hd => by rw [← hZ] at hd; rw [List.eq_of_mem_replicate hd]; omega
  have hZl : Z.length = 2 * m - 1 := by rw [← hZ]; exact List.length_replicate
  rw [hZ]
  have hcm := convTo_mem P hP a b Z hZm
  have hcl := convTo_length P a b Z
  obtain ⟨CV, hCV⟩ : ∃ CV, convTo P a b Z = CV := ⟨_, rfl⟩
  have hCV0 : CV 0 = Z := by rw [← hCV]; rfl
  have hCVs : ∀ k, CV (k + 1) = updAt (fun o t => (o + a.getD k 0 * t) % P) k (CV k) b := by intro k; rw [← hCV]; rfl
  rw [hCV] at hcm hcl ⊢
  rw [hZl] at hcl
  obtain ⟨R, hRR⟩ : ∃ R, val P ((redRun P m Mod (m - 1) (CV m)).take m) = R := ⟨_, rfl⟩
  rw [hRR]
  have HRR := Aside0.mk hRR
  have Hcm := Aside0.mk hcm
  have Hcl := Aside0.mk hcl
  have HCV0 := Aside0.mk hCV0
  have HCVs := Aside0.mk hCVs
  have HZe := Aside0.mk hZ
  have HMl := Aside0.mk hMod
  have HMr := Aside0.mk hMr
  have Hxl := Aside0.mk hxl
  have Hyl := Aside0.mk hyl
  have Hxm := Aside0.mk hxm
  have Hym := Aside0.mk hym
  have HQ := Aside0.mk hq
  have HN : Aside0 (2 * (m : Int) - 1 = ((2 * m - 1 : Nat) : Int)) := ⟨by omega⟩
  have HVal := Aside0.mk (fun (w1 : World) (l : List Int) (B : Option Addr) (d : Nat) (hl : Kd.C (Kd.int .i64) w1 B l.length l) (hm : ∀ d ∈ l, 0 ≤ d ∧ d < P) (hb : P ^ l.length ≤ 256) => refValue_any (A := A) (n := Mod.length) (c := c) (d := d) P (m : Int) hl hP hP2 hm hb)
  clear hF0 hB0 hw0 ha hb hxl hyl hxm hym hR hq ho hZ hZm hZl hcm hcl hCV hCV0 hCVs hRR hMod hMr hC hf
  go_enter Try.func46, Try.ntmps46
  go_upto_region 1 with (fail)
  rw [HW.out]
  obtain ⟨cP, cM, cD⟩ := HF.out
  go_wp2_with (first
    | (go_at_call 76; (with_reducible refine Calls.mono (HDx.out _) ?_); rintro e w1 ⟨v1, rfl, hO, hB⟩; have HO1 := Aside0.mk hO; have HB1 := Aside0.mk hB; obtain ⟨cP1, cM1, cD1⟩ := HF.out.below hB; clear hO hB)
    | (go_at_call 76; (with_reducible refine Calls.mono (HDy.out _) ?_); rintro e w2 ⟨v2, rfl, hO, hB⟩; have HO2 := Aside0.mk hO; have HO1b := Aside0.mk (HO1.out.below hB); have HB2 := Aside0.mk (below_later HB1.out HB1.out.size hB); obtain ⟨cP2, cM2, cD2⟩ := HF.out.below HB2.out; clear hO hB)
    | ((with_reducible refine gate_dst (N := 24) rfl ?_); refine make_ownI rfl (N := 24) rfl _ _ rfl HN rfl rfl (by omega) ?_; intro v3 w3 hO hB; rw [HZe.out] at hO; have HO3 := Aside0.mk hO; have HO1c := Aside0.mk (HO1b.out.below hB); have HO2c := Aside0.mk (HO2.out.below hB); have HB3 := Aside0.mk (below_later HB2.out HB2.out.size hB); obtain ⟨cP3, cM3, cD3⟩ := HF.out.below HB3.out; clear hO hB))
  obtain ⟨g1, c1, e1, h11, h12⟩ := HO1.out.form (by rw [Hxl.out]; omega)
  obtain ⟨g2, c2, e2, h21, h22⟩ := HO2.out.form (by rw [Hyl.out]; omega)
  have hz3 : Z.length = 2 * m - 1 := by rw [← HZe.out]; exact List.length_replicate
  obtain ⟨g3, c3, e3, h31, h32⟩ := HO3.out.form (by rw [hz3]; omega)
  rw [Hxl.out] at e1
  rw [Hyl.out] at e2
  rw [hz3] at e3
  subst e1 e2 e3
  have HG13 : Aside0 (g1 ≠ g3) := ⟨by have := HO1b.out.form (by rw [Hxl.out]; omega); obtain ⟨_, _, e, _, hh⟩ := this; cases e; omega⟩
  have HG23 : Aside0 (g2 ≠ g3) := ⟨by omega⟩
  have HG3 : w0.heap.size ≤ g3 := by have := HB2.out.size; omega
  have H3 : Aside0 (Own w3 w0.heap.size (.slice (some ⟨g3, 0, none⟩) (2 * m - 1) c3) (CV 0)) := ⟨by rw [HCV0.out]; exact HO3.out.lower HB2.out.size⟩
  have H1 : Aside0 (Own w3 w0.heap.size (.slice (some ⟨g1, 0, none⟩) m c1) a) := HO1c
  have H2 : Aside0 (Own w3 w0.heap.size (.slice (some ⟨g2, 0, none⟩) m c2) b) := ⟨HO2c.out.lower HB1.out.size⟩
  clear cP cM cD cP1 cM1 cD1 cP2 cM2 cD2 cP3 cM3 cD3 HO1 HO1b HO1c HO2 HO2c HO3 h11 h12 h21 h22 h31 h32 hz3 HCV0
  go_wp2
  go_loopw [10] (fun v10 w' => ∃ k : Nat, v10 = .int .i64 k ∧ k ≤ m ∧ Aside0 (Own w' w0.heap.size (.slice (some ⟨g3, 0, none⟩) (2 * m - 1) c3) (CV k)) ∧ Aside0 (Below w0.heap.size w0 w') ∧ Aside0 (Own w' w0.heap.size (.slice (some ⟨g1, 0, none⟩) m c1) a) ∧ Aside0 (Own w' w0.heap.size (.slice (some ⟨g2, 0, none⟩) m c2) b)) (fun v10 _ => m - (intOf v10).toNat)
  case atStart => exact ⟨0, rfl, by omega, H3, HB3, H1, H2⟩
  case round =>
    clear H1 H2 H3
    obtain ⟨k, rfl, hk, HOc, HB, HOa, HOb⟩ := hrel
    obtain ⟨cP, cM, cD⟩ := HF.out.below HB.out
    by_cases hlk : k < m
    · obtain ⟨C0, hC0⟩ : ∃ C0, CV k = C0 := ⟨_, rfl⟩
      have hC1 := HCVs.out k
      have hCm0 := Hcm.out k
      have hCl0 := Hcl.out k
      rw [hC0] at HOc hC1 hCm0 hCl0
      have hax := getD_range P hP a Hxm.out k
      obtain ⟨ax, haxe⟩ : ∃ ax, a.getD k 0 = ax := ⟨_, rfl⟩
      rw [haxe] at hC1 hax
      obtain ⟨F, hF⟩ : ∃ F : Int → Int → Int, (fun o t => (o + ax * t) % P) = F := ⟨_, rfl⟩
      rw [hF] at hC1
      have HFe := Aside0.mk hF
      have HC1 := Aside0.mk hC1
      have HCm0 := Aside0.mk hCm0
      have HCl0 := Aside0.mk hCl0
      have HAx := Aside0.mk haxe
      have H0 : Aside0 (Own wr w0.heap.size (.slice (some ⟨g3, 0, none⟩) (2 * m - 1) c3) (updAt F k C0 (b.take 0))) := ⟨by simpa [updAt_nil] using HOc.out⟩
      clear hC0 hC1 hCm0 hCl0 haxe hF HOc
      go_wp2
      obtain ⟨wo, hwo⟩ : ∃ wo : World, wo = wr := ⟨_, rfl⟩
      subst hwo
      go_loopw [11] (fun v11 w' => ∃ j : Nat, v11 = .int .i64 j ∧ j ≤ m ∧ Aside0 (Own w' w0.heap.size (.slice (some ⟨g3, 0, none⟩) (2 * m - 1) c3) (updAt F k C0 (b.take j))) ∧ Aside0 (Below w0.heap.size w0 w') ∧ Aside0 (Own w' w0.heap.size (.slice (some ⟨g1, 0, none⟩) m c1) a) ∧ Aside0 (Own w' w0.heap.size (.slice (some ⟨g2, 0, none⟩) m c2) b)) (fun v11 _ => m - (intOf v11).toNat)
      case atStart => exact ⟨0, rfl, by omega, H0, HB, HOa, HOb⟩
      case round =>
        clear H0 HB HOa HOb cP cM cD
        obtain ⟨j, rfl, hj, HOc, HB, HOa, HOb⟩ := hrel
        obtain ⟨cP, cM, cD⟩ := HF.out.below HB.out
        have hlen : (updAt F k C0 (b.take j)).length = 2 * m - 1 := by rw [updAt_length]; exact HCl0.out
        by_cases hlj : j < m
        · have hkj : k + j < 2 * m - 1 := by omega
          obtain ⟨hcl, hfz⟩ := HOc.out.cell' hlen.symm (k + j) hkj
          obtain ⟨hca, -⟩ := HOa.out.cell' Hxl.out.symm k hlk
          obtain ⟨hcb, -⟩ := HOb.out.cell' Hyl.out.symm j hlj
          rw [HAx.out] at hca
          have hget := updAt_get F 0 k j C0 b (by rw [HCl0.out]; exact hkj)
          have hstep := updAt_set F 0 k j C0 b (by rw [Hyl.out]; exact hlj) (by rw [HCl0.out]; exact hkj)
          have hor := getD_range P hP C0 HCm0.out (k + j)
          have hzr := getD_range P hP b Hym.out j
          obtain ⟨o, ho⟩ : ∃ o, C0.getD (k + j) 0 = o := ⟨_, rfl⟩
          obtain ⟨z, hz⟩ : ∃ z, b.getD j 0 = z := ⟨_, rfl⟩
          rw [hget, ho] at hcl
          rw [hz] at hcb hzr
          rw [ho] at hor
          obtain ⟨pr, hpr⟩ : ∃ pr, ax * z = pr := ⟨_, rfl⟩
          have hpr0 : 0 ≤ pr := by rw [← hpr]; exact Int.mul_nonneg (by omega) (by omega)
          have hpr1 : pr ≤ 256 * 256 := by rw [← hpr]; exact Int.mul_le_mul (by omega) (by omega) (by omega) (by omega)
          obtain ⟨u, hu⟩ : ∃ u, (o + pr) % P = u := ⟨_, rfl⟩
          rw [ho, hz, show F o z = u from by rw [← HFe.out]; simp only [hpr]; exact hu] at hstep
          have e1 : IntKind.i64.wrap (ax * z) = pr := by rw [hpr]; exact w64 _ (by omega) (by omega)
          have e2 : IntKind.i64.wrap (o + pr) = o + pr := w64 _ (by omega) (by omega)
          have e3 : Int.tmod (o + pr) P = u := by rw [Int.tmod_eq_emod_of_nonneg (by omega)]; exact hu
          have e4 : (P == 0) = false := by simp only [beq_eq_false_iff_ne]; omega
          have e5 : IntKind.i64.wrap ((k : Int) + (j : Int)) = (k : Int) + (j : Int) := w64 _ (by omega) (by omega)
          have e6 : ((k : Int) + (j : Int)).toNat = k + j := by omega
          have e7 : 0 ≤ (k : Int) + (j : Int) := by omega
          have e8 : (k : Int) + (j : Int) < ((2 * m - 1 : Nat) : Int) := by omega
          have i0 : (0 : Int) ≤ (k : Int) := by omega
          have i1 : (k : Int) < (m : Int) := by omega
          have i2 : (0 : Int) ≤ (j : Int) := by omega
          have i3 : (j : Int) < (m : Int) := by omega
          have HO2 := Aside0.mk (HOc.out.set hlen.symm (k + j) u)
          rw [hstep] at HO2
          have HOa2 := Aside0.mk (HOa.out.setFar' (k := k + j) HG13.out (.int .i64 u))
          have HOb2 := Aside0.mk (HOb.out.setFar' (k := k + j) HG23.out (.int .i64 u))
          clear hget hstep ho hz hu hpr HOa HOb HOc hlen
          go_wp2
          refine wp_region_quiet_tail 23 (by kernel_rfl) (by kernel_rfl) ?_
          simp only [List.take_succ_cons, List.take_zero, List.drop_succ_cons, List.drop_zero]
          repeat (first | go_big_quiet_step (fail) | quiet_step (fail))
          refine wpQuiet_nil ?_
          intro _ hw'
          obtain ⟨nq, hw''⟩ := hw'
          subst hw''
          go_wp2
          go_roundw
          case rel => exact ⟨j + 1, by go_num, by omega, ⟨HO2.out.drewN _⟩, ⟨pw_below_drewN (HB.out.setCell (p := ⟨g3, k + j, none⟩) HG3 _) _⟩, ⟨HOa2.out.drewN _⟩, ⟨HOb2.out.drewN _⟩⟩
          case measure => simp [intOf]; omega
        · obtain rfl : j = m := by omega
          rw [← Hyl.out, List.take_length, ← HC1.out, Hyl.out] at HOc
          go_wp2
          go_roundw
          case rel => exact ⟨k + 1, by go_num, by omega, HOc, HB, HOa, HOb⟩
          case measure => simp [intOf]; omega
    · obtain rfl : k = m := by omega
      obtain ⟨C0, hC0⟩ : ∃ C0, CV k = C0 := ⟨_, rfl⟩
      have hCm0 := Hcm.out k
      have hCl0 := Hcl.out k
      have hRR := HRR.out
      rw [hC0] at HOc hCm0 hCl0 hRR
      have H0 : Aside0 (val P ((redRun P k Mod (k - 1) C0).take k) = R) := ⟨hRR⟩
      have HCl0 := Aside0.mk hCl0
      have HCm0 := Aside0.mk hCm0
      have H12 : Aside0 (2 * (k : Int) - 2 = (k : Int) - 1 + ((k - 1 : Nat) : Int)) := ⟨by omega⟩
      clear hC0 hCm0 hCl0 hRR HRR Hcm Hcl HCVs HOa HOb Hxl Hyl Hxm Hym HDx HDy HG13 HG23
      obtain ⟨wo, hwo⟩ : ∃ wo : World, wo = wr := ⟨_, rfl⟩
      subst hwo
      go_wp2
      go_loopw [12] (fun v12 w' => ∃ (i : Int) (n : Nat) (r : List Int), v12 = .int .i64 i ∧ -1 ≤ i ∧ i ≤ 20 ∧ Aside0 (i = (k : Int) - 1 + n) ∧ n ≤ k - 1 ∧ Aside0 (r.length = 2 * k - 1) ∧ Aside0 (∀ d ∈ r, 0 ≤ d ∧ d < P) ∧ Aside0 (val P ((redRun P k Mod n r).take k) = R) ∧ Aside0 (Own w' w0.heap.size (.slice (some ⟨g3, 0, none⟩) (2 * k - 1) c3) r) ∧ Aside0 (Below w0.heap.size w0 w')) (fun v12 _ => (intOf v12 + 1).toNat)
      case atStart => exact ⟨2 * (k : Int) - 2, k - 1, C0, rfl, by omega, by omega, H12, by omega, HCl0, HCm0, H0, HOc, HB⟩
      case round =>
        clear H0 H12 HCl0 HCm0 HOc HB cP cM cD
        obtain ⟨i, n, r, rfl, hi1, hi2, HI, hn, Hrl, Hrm, HRv, HOc, HB⟩ := hrel
        obtain ⟨cP, cM, cD⟩ := HF.out.below HB.out
        cases n with
        | succ n =>
          have hk2 : 1 < k := by omega
          have hml := HMl.out hk2
          have hv := HRv.out
          rw [redRun] at hv
          have hcr := getD_range P hP r Hrm.out (k + n)
          obtain ⟨cc, hcc⟩ : ∃ cc, r.getD (k + n) 0 = cc := ⟨_, rfl⟩
          rw [hcc] at hv hcr
          obtain ⟨G, hG⟩ : ∃ G : Int → Int → Int, (fun o t => (o + (P - cc) * t) % P) = G := ⟨_, rfl⟩
          rw [hG] at hv
          have hmS := updAt_mem G (fun d => 0 ≤ d ∧ d < P) (fun o t => by rw [← hG]; exact ⟨Int.emod_nonneg _ (by omega), Int.emod_lt_of_pos _ (by omega)⟩) n r Mod Hrm.out
          have HmS := Aside0.mk hmS
          have HlS : Aside0 ((updAt G n r Mod).length = 2 * k - 1) := ⟨by rw [updAt_length]; exact Hrl.out⟩
          have HV2 := Aside0.mk hv
          have HGe := Aside0.mk hG
          have HCc := Aside0.mk hcc
          have Hml := Aside0.mk hml
          have H0 : Aside0 (Own wr w0.heap.size (.slice (some ⟨g3, 0, none⟩) (2 * k - 1) c3) (updAt G n r (Mod.take 0))) := ⟨by simpa [updAt_nil] using HOc.out⟩
          have hge : (k : Int) ≤ i := by have := HI.out; omega
          clear hv hcc hG hmS hml HRv HOc
          go_wp2
          obtain ⟨wo2, hwo2⟩ : ∃ wo2 : World, wo2 = wr := ⟨_, rfl⟩
          subst hwo2
          go_loopw [13] (fun v13 w' => ∃ j : Nat, v13 = .int .i64 j ∧ j ≤ k ∧ Aside0 (Own w' w0.heap.size (.slice (some ⟨g3, 0, none⟩) (2 * k - 1) c3) (updAt G n r (Mod.take j))) ∧ Aside0 (Below w0.heap.size w0 w')) (fun v13 _ => k - (intOf v13).toNat)
          case atStart => exact ⟨0, rfl, by omega, H0, HB⟩
          case round =>
            clear H0 HB cP cM cD
            obtain ⟨j, rfl, hj, HOc, HB⟩ := hrel
            obtain ⟨cP, cM, cD⟩ := HF.out.below HB.out
            have hlen : (updAt G n r (Mod.take j)).length = 2 * k - 1 := by rw [updAt_length]; exact Hrl.out
            by_cases hlj : j < k
            · have hkj : n + j < 2 * k - 1 := by omega
              obtain ⟨hcl, hfz⟩ := HOc.out.cell' hlen.symm (n + j) hkj
              obtain ⟨hci, -⟩ := HOc.out.cell' hlen.symm (k + n) (by omega)
              obtain ⟨ad, e, hcm⟩ := C_nat (Kd.C_below HMod.out HB.out) j (by rw [Hml.out]; exact hlj)
              cases e
              have habv := updAt_above G n j (k + n) r Mod (by omega) (by rw [Hrl.out]; omega)
              rw [habv, HCc.out] at hci
              have hget := updAt_get G 0 n j r Mod (by rw [Hrl.out]; exact hkj)
              have hstep := updAt_set G 0 n j r Mod (by rw [Hml.out]; exact hlj) (by rw [Hrl.out]; exact hkj)
              have hor := getD_range P hP r Hrm.out (n + j)
              have hzr := getD_range P hP Mod HMr.out j
              obtain ⟨o, ho⟩ : ∃ o, r.getD (n + j) 0 = o := ⟨_, rfl⟩
              obtain ⟨z, hz⟩ : ∃ z, Mod.getD j 0 = z := ⟨_, rfl⟩
              rw [hget, ho] at hcl
              rw [hz] at hcm hzr
              rw [ho] at hor
              obtain ⟨pr, hpr⟩ : ∃ pr, (P - cc) * z = pr := ⟨_, rfl⟩
              have hpr0 : 0 ≤ pr := by rw [← hpr]; exact Int.mul_nonneg (by omega) (by omega)
              have hpr1 : pr ≤ 256 * 256 := by rw [← hpr]; exact Int.mul_le_mul (by omega) (by omega) (by omega) (by omega)
              obtain ⟨u, hu⟩ : ∃ u, (o + pr) % P = u := ⟨_, rfl⟩
              rw [ho, hz, show G o z = u from by rw [← HGe.out]; simp only [hpr]; exact hu] at hstep
              have e0 : IntKind.i64.wrap (P - cc) = P - cc := w64 _ (by omega) (by omega)
              have e1 : IntKind.i64.wrap ((P - cc) * z) = pr := by rw [hpr]; exact w64 _ (by omega) (by omega)
              have e2 : IntKind.i64.wrap (o + pr) = o + pr := w64 _ (by omega) (by omega)
              have e3 : Int.tmod (o + pr) P = u := by rw [Int.tmod_eq_emod_of_nonneg (by omega)]; exact hu
              have e4 : (P == 0) = false := by simp only [beq_eq_false_iff_ne]; omega
              have e5 : IntKind.i64.wrap (i - (k : Int)) = (n : Int) := by rw [w64 _ (by omega) (by omega)]; have := HI.out; omega
              have e6 : IntKind.i64.wrap ((n : Int) + (j : Int)) = (n : Int) + (j : Int) := w64 _ (by omega) (by omega)
              have e7 : ((n : Int) + (j : Int)).toNat = n + j := by omega
              have e8 : 0 ≤ (n : Int) + (j : Int) := by omega
              have e9 : (n : Int) + (j : Int) < ((2 * k - 1 : Nat) : Int) := by omega
              have f1 : i.toNat = k + n := by have := HI.out; omega
              have f2 : 0 ≤ i := by omega
              have f3 : i < ((2 * k - 1 : Nat) : Int) := by have := HI.out; omega
              have i2 : (0 : Int) ≤ (j : Int) := by omega
              have i3 : (j : Int) < (Mod.length : Int) := by have := Hml.out; omega
              have i4 : (j : Int) < (k : Int) := by omega
              have HO2 := Aside0.mk (HOc.out.set hlen.symm (n + j) u)
              rw [hstep] at HO2
              clear hget hstep ho hz hu hpr HOc hlen habv
              go_wp2
              refine wp_region_quiet_tail 33 (by kernel_rfl) (by kernel_rfl) ?_
              simp only [List.take_succ_cons, List.take_zero, List.drop_succ_cons, List.drop_zero]
              repeat (first | go_big_quiet_step (fail) | quiet_step (fail))
              refine wpQuiet_nil ?_
              intro _ hw'
              obtain ⟨nq, hw''⟩ := hw'
              subst hw''
              go_wp2
              go_roundw
              case rel => exact ⟨j + 1, by go_num, by omega, ⟨HO2.out.drewN _⟩, ⟨pw_below_drewN (HB.out.setCell (p := ⟨g3, n + j, none⟩) HG3 _) _⟩⟩
              case measure => simp [intOf]; omega
            · obtain rfl : j = k := by omega
              rw [← Hml.out, List.take_length, Hml.out] at HOc
              go_wp2
              go_roundw
              case rel => exact ⟨i - 1, n, _, by go_num, by omega, by omega, ⟨by have := HI.out; omega⟩, by omega, HlS, HmS, HV2, HOc, HB⟩
              case measure => first | (simp [intOf]; done) | (simp [intOf]; omega)
        | zero =>
          have hv := HRv.out
          rw [redRun] at hv
          have hlt : i < (k : Int) := by have := HI.out; omega
          have hO4 := HOc.out.take (m := k) (by rw [Hrl.out]; omega)
          obtain ⟨A7, c7, e7, hc7, hC7⟩ := hO4.slice
          have htl : (r.take k).length = k := by rw [List.length_take, Hrl.out]; omega
          rw [htl] at e7
          cases e7
          have hV := HVal.out
          have HCt := Aside0.mk hC7
          have HTm : Aside0 (∀ d ∈ r.take k, 0 ≤ d ∧ d < P) := ⟨fun d hd => Hrm.out d (List.mem_of_mem_take hd)⟩
          have HPk : Aside0 (P ^ (r.take k).length ≤ 256) := ⟨by rw [htl]; exact HQ.out⟩
          have HV := Aside0.mk (fun (w1 : World) (hb : Below wr.heap.size wr w1) => hV w1 (r.take k) (some ⟨g3, 0, none⟩) c3 (Kd.C_below HCt.out hb) HTm.out HPk.out)
          rw [hv] at HV
          simp only [htl] at HV
          have hcc3 := HOc.out.reads
          obtain ⟨i0, hi, _, hsz, _⟩ := info_parts info3
          have hcut := cut_to (P := Try.prog) 25 3 .i64 Try.underlying25 hi (some ⟨g3, 0, none⟩) (2 * k - 1) c3 (k : Int) (by omega) (by omega) (by omega)
          rw [Int.toNat_natCast] at hcut
          have hcP : ∀ j : Ext wr, j.wd.cell? ⟨w.heap.size, 0, none⟩ = some (.int .i64 P) := fun j => j.cell cP
          have hcM : ∀ j : Ext wr, j.wd.cell? ⟨w.heap.size, 1, none⟩ = some (.int .i64 (k : Int)) := fun j => j.cell cM
          have hcD : ∀ j : Ext wr, j.wd.cell? ⟨w.heap.size, 2, none⟩ = some (.slice A Mod.length c) := fun j => j.cell cD
          clear hv hO4 hC7 htl hV hi hsz hcc3 HRv
          go_wp2
          refine wp_region_ext (by kernel_rfl) (by kernel_rfl) ?_
          repeat (go_big_quiet_step ((go_at_call 77; with_reducible exact Ext.call _ (HV.out _ (Ext.below _)))))
          refine wpQuiet_nil ?_
          intro w5 hB5
          have HB5 := Aside0.mk (below_later HB.out HB.out.size hB5)
          clear hcP hcM hcD hB5
          go_wp2
          go_ret
          exact ⟨rfl, below_later HB0.out HB0.out.size HB5.out⟩

end Go.Proofs.Yticgblagimmlfaa
