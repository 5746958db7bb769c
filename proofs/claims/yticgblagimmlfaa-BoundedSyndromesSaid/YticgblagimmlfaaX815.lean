/- Parts of the proof: P4, R7, P5, P6. -/
import Derived.Test.YticgblagimmlfaaX814
import Derived.Test.YticgblagimmlfaaX812
section
/- The program: Dual of a good description. -/
namespace Go.Proofs.Yticgblagimmlfaa
open Go.RowKit Go.Proofs.YticgblagimmlfaaW.PrintWords Go.Proofs.YticgblagimmlfaaW.PrintLast Go.Proofs.YticgblagimmlfaaW.PrintMore
set_option linter.unusedVariables false
set_option linter.unusedSimpArgs false

set_option maxHeartbeats 8000000 in
set_option maxRecDepth 100000 in
theorem dual_good {w : World} {v : Value} {s : GD} (h : GArg w v s) (K : FD) (hf : s.fit K) (ho : s.open = 0) (hD : s.D = K.D) :
    Calls Try.prog 49 #[v] w fun e w' => ∃ u, e = .returned (.tuple #[u, .int .i64 0]) ∧ GArg w' u (s.dual K.D) ∧ Below w.heap.size w w' := by
  have HOp1 := Aside0.mk (fun (w2 : World) (hb : Below w.heap.size w w2) => open_any (h.below hb))
  have HCp1 := Aside0.mk (fun (w2 : World) (hb : Below w.heap.size w w2) (g : Nat) (hg : GFat w2 g K.D) => copied_any K hf.over hg (h.below hb) hf.p1 (by rw [hf.ml]; exact hf.p1) (by have := hf.pl; omega) (by have := hf.ml; have := hf.pl; omega))
  rw [ho] at HOp1
  have HOr : Aside0 (∀ (w2 : World) (b : Nat) (pv : Value), OpenRes w2 b pv s → ∃ g, pv = .pointer (some ⟨g, 0, none⟩) ∧ GFat w2 g K.D ∧ b ≤ g) := ⟨fun w2 b pv hr => by
    rcases hr with hh | hh
    · exact absurd ho hh.1
    · rw [hD] at hh; exact hh.2⟩
  clear ho hD
  obtain ⟨P, M, Mod, kk, pts, mults⟩ := s
  obtain ⟨⟨rfl, rfl, rfl⟩, hml, hpl, hp1, hk0, hk1, hp, inj, hm⟩ := hf
  simp only at hml hpl hp1 hk0 hk1 hp inj hm
  obtain ⟨A1, c1, A2, c2, A3, c3, rfl, g1, l1, g2, l2, g3, l3⟩ := h.out
  simp only at g1 l1 g2 l2 g3 l3
  have hS0 := SAt.new w ⟨K.P, (K.m : Int), K.Mod, kk, pts, mults⟩ A1 c1 A2 c2 A3 c3
  obtain ⟨w0, hw0⟩ : ∃ w0, w.alloc (.cells #[.int .i64 K.P, .int .i64 (K.m : Int), .slice A1 K.Mod.length c1, .int .i64 kk, .slice A2 pts.length c2, .slice A3 mults.length c3] 29) = w0 := ⟨_, rfl⟩
  have hB0 : Below w.heap.size w w0 := by rw [← hw0]; exact below_alloc (Below.refl _ _) _
  simp only at hS0
  rw [hw0] at hS0
  obtain ⟨w1, hw1⟩ : ∃ w1, w0.alloc (.cells #[.int .i64 0, .int .i64 0, .slice none 0 0, .int .i64 0, .slice none 0 0, .slice none 0 0] 29) = w1 := ⟨_, rfl⟩
  have hB1 : Below w0.heap.size w0 w1 := by rw [← hw1]; exact below_alloc (Below.refl _ _) _
  have hz0 : w0.heap.size = w.heap.size + 1 := by rw [← hw0]; simp
  have hz : w1.heap[w0.heap.size]? = some (.cells #[.int .i64 0, .int .i64 0, .slice none 0 0, .int .i64 0, .slice none 0 0, .slice none 0 0] 29 (0, 0)) := by rw [← hw1]; exact blk_new _ _
  rw [hz0] at hz
  have HB1 := Aside0.mk (below_later hB0 hB0.size hB1)
  have HS := Aside0.mk (hS0.below hB1)
  have HZb := Aside0.mk hz
  have HW0 := Aside0.mk hw0
  have HW1 := Aside0.mk hw1
  have HP := Aside0.mk (Kd.C_below g2 HB1.out)
  have HU := Aside0.mk (Kd.C_below g3 HB1.out)
  have HOp := Aside0.mk (HOp1.out w1 HB1.out)
  have HCp := Aside0.mk (fun (w2 : World) (hb : Below w1.heap.size w1 w2) => HCp1.out w2 (below_later HB1.out HB1.out.size hb))
  have hok := K.ok
  obtain ⟨dp, hdp⟩ : ∃ dp : Nat → Nat → Int, (fun i k => dpZ K.D pts i (mults.getD i 0) k) = dp := ⟨_, rfl⟩
  have Hdp0 : Aside0 (∀ i, mults.getD i 0 = dp i 0) := ⟨fun i => by rw [← hdp]; rfl⟩
  have Hdps : Aside0 (∀ i k, dp i (k + 1) = if k = i then dp i k else K.D.mul (dp i k) (K.D.sub (pts.getD i 0) (pts.getD k 0))) := ⟨fun i k => by rw [← hdp]; rfl⟩
  obtain ⟨T, hT⟩ : ∃ T, dualZ K.D pts mults = T := ⟨_, rfl⟩
  have hTl : T.length = pts.length := by rw [← hT]; exact dualZ_length _ _ _
  have hTg : ∀ i, i < pts.length → T.getD i 0 = K.D.inv (dp i pts.length) := fun i hi => by rw [← hT, ← hdp]; exact dualZ_getD _ _ _ _ hi
  obtain ⟨F, hF⟩ : ∃ F : Int → Int → Int, (fun _ c => c) = F := ⟨_, rfl⟩
  have hconst : updZ F mults T = T := by rw [← hF]; exact updZ_const mults T (by rw [hml, hTl])
  have HTe := Aside0.mk hT
  have HTl := Aside0.mk hTl
  have HTg := Aside0.mk hTg
  have HFe := Aside0.mk hF
  have HCo := Aside0.mk hconst
  have HML := Aside0.mk hml
  have hml1 : pts.length ≤ mults.length := by omega
  have hml2 : mults.length ≤ pts.length := by omega
  clear hS0 hB0 hB1 hw0 hw1 hz hz0 g1 g2 g3 hT hTl hTg hF hconst hml h hp inj hm hdp HOp1 HCp1
  obtain ⟨cP, cM, cD, cK, cS, cU⟩ := HS.out
  simp only at cP cM cD cK cS cU
  go_enter Try.func49, Try.ntmps49
  go_upto_region 1 with (fail)
  rw [HW0.out, HW1.out]
  go_upto_region 5 with (first
    | (go_at_call 62; (with_reducible refine Calls.mono HOp.out ?_); rintro e w2 ⟨pv, rfl, hr, hB⟩; obtain ⟨g, rfl, hgf, hgb⟩ := HOr.out _ _ _ hr; have HB2 := Aside0.mk hB; have HG2 := Aside0.mk hgf; obtain ⟨cP2, cM2, cD2, cK2, cS2, cU2⟩ := HS.out.below hB; simp only at cP2 cM2 cD2 cK2 cS2 cU2; clear hr hB hgf)
    | (go_at_call 78; (with_reducible refine Calls.mono (HCp.out _ HB2.out _ HG2.out) ?_); rintro e w3 ⟨hC, hB⟩; obtain ⟨AM, AX, AY, cM', cX, cY, rfl, hOM, hOX, hOY, hXY, hMY⟩ := hC.out; simp only at hOM hOX hOY hXY hMY; have HB3 := Aside0.mk hB; have HOM := Aside0.mk hOM; have HOX := Aside0.mk hOX; have HOY := Aside0.mk hOY; have HXY := Aside0.mk hXY; have HMY := Aside0.mk hMY; obtain ⟨cP3, cM3, cD3, cK3, cS3, cU3⟩ := HS.out.below (below_later HB2.out HB2.out.size hB); simp only at cP3 cM3 cD3 cK3 cS3 cU3; clear hC hB hOM hOX hOY hXY hMY))
  obtain ⟨w4, hw4⟩ : ∃ w4, w3.alloc (.cells #[.int .i64 K.P, .int .i64 (K.m : Int), .slice AM K.Mod.length cM', .int .i64 kk, .slice AX pts.length cX, .slice AY mults.length cY] 29) = w4 := ⟨_, rfl⟩
  have hB4 : Below w3.heap.size w3 w4 := by rw [← hw4]; exact below_alloc (Below.refl _ _) _
  have hd4 : w4.heap[w3.heap.size]? = some (.cells #[.int .i64 K.P, .int .i64 (K.m : Int), .slice AM K.Mod.length cM', .int .i64 kk, .slice AX pts.length cX, .slice AY mults.length cY] 29 (0, 0)) := by rw [← hw4]; exact blk_new _ _
  have HW4 := Aside0.mk hw4
  have HB4 := Aside0.mk (below_later HB3.out HB3.out.size hB4)
  have HD4 := Aside0.mk hd4
  have HOM4 := Aside0.mk (HOM.out.below hB4)
  have HOX4 := Aside0.mk (HOX.out.below hB4)
  have HOY4 := Aside0.mk (HOY.out.below hB4)
  clear hw4 hB4 hd4 cP2 cM2 cD2 cK2 cS2 cU2 cP3 cM3 cD3 cK3 cS3 cU3 cP cM cD cK cS cU
  rw [HW4.out]
  obtain ⟨cP4, cM4, cD4, cK4, cS4, cU4⟩ := HS.out.below (below_later HB2.out HB2.out.size HB4.out)
  simp only at cP4 cM4 cD4 cK4 cS4 cU4
  have d3 := blk_cell HD4.out 3
  have e3 := blk_frozen HD4.out 3
  simp at d3
  have hkr : (0 : Int) ≤ (pts.length : Int) - kk := by omega
  go_upto_region 6 with (fail)
  obtain ⟨w5, hw5⟩ : ∃ w5, w4.setCell ⟨w3.heap.size, 3, none⟩ (.int .i64 ((pts.length : Int) - kk)) = w5 := ⟨_, rfl⟩
  have HW5 := Aside0.mk hw5
  have hlt3 : w2.heap.size ≤ w3.heap.size := HB3.out.size
  have HB5 : Aside0 (Below w2.heap.size w2 w5) := ⟨by rw [← hw5]; exact HB4.out.setCell (p := ⟨w3.heap.size, 3, none⟩) hlt3 _⟩
  have hd5 := blk_set HD4.out 3 (.int .i64 ((pts.length : Int) - kk))
  rw [hw5] at hd5
  have HD5 : Aside0 (w5.heap[w3.heap.size]? = some (.cells #[.int .i64 K.P, .int .i64 (K.m : Int), .slice AM K.Mod.length cM', .int .i64 ((pts.length : Int) - kk), .slice AX pts.length cX, .slice AY mults.length cY] 29 (0, 0))) := ⟨hd5⟩
  have HOM5 : Aside0 (Own w5 w2.heap.size (.slice AM K.Mod.length cM') K.Mod) := ⟨by rw [← hw5]; exact HOM4.out.apart (fun k hk e => absurd (HOM.out.lt_size k hk) (by simp only at e; omega)) _⟩
  have HOX5 : Aside0 (Own w5 w2.heap.size (.slice AX pts.length cX) pts) := ⟨by rw [← hw5]; exact HOX4.out.apart (fun k hk e => absurd (HOX.out.lt_size k hk) (by simp only at e; omega)) _⟩
  have HOY5 : Aside0 (Own w5 w2.heap.size (.slice AY mults.length cY) (updZ F mults (T.take 0))) := ⟨by rw [← hw5, List.take_zero, updZ_nil]; exact HOY4.out.apart (fun k hk e => absurd (HOY.out.lt_size k hk) (by simp only at e; omega)) _⟩
  rw [HW5.out]
  clear hw5 hd5 d3 e3 cP4 cM4 cD4 cK4 cS4 cU4
  obtain ⟨cP5, cM5, cD5, cK5, cS5, cU5⟩ := HS.out.below (below_later HB2.out HB2.out.size HB5.out)
  simp only at cP5 cM5 cD5 cK5 cS5 cU5
  go_upto_region 7 with (fail)
  clear cP5 cM5 cD5 cK5 cS5 cU5
  go_loopw [34] (fun v34 w' => ∃ k : Nat, v34 = .int .i64 k ∧ k ≤ pts.length ∧ Aside0 (Below w2.heap.size w2 w') ∧ Aside0 (w'.heap[w3.heap.size]? = some (.cells #[.int .i64 K.P, .int .i64 (K.m : Int), .slice AM K.Mod.length cM', .int .i64 ((pts.length : Int) - kk), .slice AX pts.length cX, .slice AY mults.length cY] 29 (0, 0))) ∧ Aside0 (Own w' w2.heap.size (.slice AM K.Mod.length cM') K.Mod) ∧ Aside0 (Own w' w2.heap.size (.slice AX pts.length cX) pts) ∧ Aside0 (Own w' w2.heap.size (.slice AY mults.length cY) (updZ F mults (T.take k)))) (fun v34 _ => pts.length - (intOf v34).toNat)
  case atStart => exact ⟨0, rfl, by omega, HB5, HD5, HOM5, HOX5, HOY5⟩
  case round =>
    clear HB5 HD5 HOM5 HOX5 HOY5
    obtain ⟨wo, rfl⟩ : ∃ wo : World, wo = wr := ⟨_, rfl⟩
    obtain ⟨k, rfl, hk, HB, HD, HM, HX, HY⟩ := hrel
    have HBw := Aside0.mk (below_later HB2.out HB2.out.size HB.out)
    have hlen : (updZ F mults (T.take k)).length = mults.length := by rw [updZ_length]
    by_cases hlk : k < pts.length
    · obtain ⟨cP, cM, cD, cK, cS, cU⟩ := HS.out.below HBw.out
      simp only at cP cM cD cK cS cU
      obtain ⟨ad, e, hx⟩ := C_nat (Kd.C_below HP.out HBw.out) k hlk
      cases e
      obtain ⟨ad2, e, hy⟩ := C_nat (Kd.C_below HU.out HBw.out) k (by omega)
      cases e
      have hd0 := Hdp0.out k
      obtain ⟨y, hy'⟩ : ∃ z, mults.getD k 0 = z := ⟨_, rfl⟩
      obtain ⟨p, hp'⟩ : ∃ z, pts.getD k 0 = z := ⟨_, rfl⟩
      rw [hp'] at hx
      rw [hy'] at hy hd0
      have HPk := Aside0.mk hp'
      have HD0 := Aside0.mk hd0
      have HLn := Aside0.mk hlen
      have HGw := Aside0.mk (HG2.out.below HB.out)
      have i0 : (0 : Int) ≤ (k : Int) := by omega
      have i1 : (k : Int) < (pts.length : Int) := by omega
      have i2 : (k : Int) < (mults.length : Int) := by omega
      clear hy' hp' hd0 hlen
      go_upto_region 11 with (fail)
      clear cP cM cD cK cU hy hx
      go_loopw [9, 47] (fun v9 v47 w' => ∃ (j : Nat) (x : Int), v47 = .int .i64 j ∧ v9 = .int .i64 x ∧ j ≤ pts.length ∧ Aside0 (x = dp k j) ∧ Drawn0 wo w') (fun _ v47 _ => pts.length - (intOf v47).toNat)
      case atStart => exact ⟨0, y, rfl, rfl, by omega, HD0, Drawn0.refl _⟩
      case round =>
        clear HD0
        obtain ⟨j, x, rfl, rfl, hj, HX1, hd⟩ := hrel
        have HGr := Aside0.mk (HGw.out.drawn hd)
        by_cases hlj : j < pts.length
        · have hds := Hdps.out k j
          rw [← HX1.out, HPk.out] at hds
          obtain ⟨ad3, e, hx3⟩ := C_nat (Kd.C_below HP.out (below_later HBw.out HBw.out.size hd.below)) j hlj
          obtain rfl : ad = ad3 := by cases e; rfl
          clear e
          obtain ⟨q, hq'⟩ : ∃ z, pts.getD j 0 = z := ⟨_, rfl⟩
          rw [hq'] at hx3 hds
          have j0 : (0 : Int) ≤ (j : Int) := by omega
          have j1 : (j : Int) < (pts.length : Int) := by omega
          by_cases hjk : j = k
          · rw [if_pos hjk] at hds
            have HX2 := Aside0.mk hds.symm
            have hb : ((j : Int) != (k : Int)) = false := by simp [hjk]
            clear hds hq' hjk
            go_wp2
            go_roundw
            case rel => exact ⟨j + 1, x, by go_num, rfl, by omega, HX2, hd⟩
            case measure => simp [intOf]; omega
          · rw [if_neg hjk] at hds
            have HX2 := Aside0.mk hds.symm
            have hb : ((j : Int) != (k : Int)) = true := by simp; omega
            clear hds hq' hjk
            go_wp2_with (first | (go_at_call 80; (with_reducible refine (sub_any ?side1 hok _ _).mono ?_); (case side1 => exact HGr.out.drawn (by repeat (first | exact Drawn0.refl _ | apply Drawn0.step))); rintro e w' ⟨rfl, ⟨n1, rfl⟩⟩) | (go_at_call 79; (with_reducible refine (mul_any ?side1 hok _ _).mono ?_); (case side1 => exact HGr.out.drawn (by repeat (first | exact Drawn0.refl _ | apply Drawn0.step))); rintro e w' ⟨rfl, ⟨n2, rfl⟩⟩))
            go_roundw
            case rel => exact ⟨j + 1, _, by go_num, rfl, by omega, HX2, by repeat (first | exact hd | apply Drawn0.step)⟩
            case measure => simp [intOf]; omega
        · obtain rfl : j = pts.length := by omega
          have he := HX1.out
          subst he
          have hg := HTg.out k hlk
          have hstep := updZ_set F 0 k mults T (by rw [HTl.out]; exact hlk) (by omega)
          rw [show F (mults.getD k 0) (T.getD k 0) = T.getD k 0 from by rw [← HFe.out], hg] at hstep
          have HSt := Aside0.mk hstep
          have HBr := Aside0.mk (below_later HB.out HB.out.size hd.below)
          obtain ⟨g4, cap, e, h11, h12⟩ := HY.out.form (by rw [HLn.out]; omega)
          rw [HLn.out] at e
          cases e
          have hkm : k < mults.length := by omega
          have HDr := Aside0.mk (blk_below HD.out hd.below)
          have d5 := blk_cell HDr.out 5
          simp at d5
          have HXr := Aside0.mk (HX.out.below hd.below)
          have HMr := Aside0.mk (HM.out.below hd.below)
          have hg4 : g4 < w3.heap.size := HOY.out.lt_size g4 rfl
          have HG4 := Aside0.mk hg4
          clear hg hstep hg4
          go_upto_region 16 with (fail)
          refine wp_region_last (S := fun w' => w'.cell? ⟨w3.heap.size, 5, none⟩ = some (.slice (some ⟨g4, 0, none⟩) mults.length cY)) (L := 10) (by kernel_rfl) d5 (fun hHeld => ?_)
          refine wpAnyZ_pure 0 (v := ?_) rfl (by kernel_rfl) (by kernel_rfl) (by kernel_rfl) (by decide) (fun _ _ _ h => h) (by rfl) ?_ (fun _ => by assumption) ?_
          rotate_left
          focus (intro wq; go_simp; try (with_reducible rfl))
          try simp only [Act.put, List.setIfInBounds_toArray, List.set_cons_zero, List.set_cons_succ]
          refine wpAnyZ_load 1 (v := ?_) rfl (by kernel_rfl) (by kernel_rfl) (by kernel_rfl) (by kernel_rfl) (by kernel_rfl) (fun _ _ _ h => h) (by rfl) ?_ (by assumption) ?_
          rotate_left
          focus (intro wq hq; (try dsimp only at hq); go_split_ands; go_simp; try (with_reducible rfl))
          try simp only [Act.put, List.setIfInBounds_toArray, List.set_cons_zero, List.set_cons_succ]
          refine wpAnyZ_pure 2 (v := ?_) rfl (by kernel_rfl) (by kernel_rfl) (by kernel_rfl) (by decide) (fun _ _ _ h => h) (by rfl) ?_ (fun _ => by assumption) ?_
          rotate_left
          focus (intro wq; go_simp; try (with_reducible rfl))
          try simp only [Act.put, List.setIfInBounds_toArray, List.set_cons_zero, List.set_cons_succ]
          refine wpAnyZ_pure 3 (v := ?_) rfl (by kernel_rfl) (by kernel_rfl) (by kernel_rfl) (by decide) (fun _ _ _ h => h) (by rfl) ?_ (fun _ => by assumption) ?_
          rotate_left
          focus (intro wq; go_simp; try (with_reducible rfl))
          try simp only [Act.put, List.setIfInBounds_toArray, List.set_cons_zero, List.set_cons_succ]
          refine wpAnyZ_pure 4 (v := ?_) rfl (by kernel_rfl) (by kernel_rfl) (by kernel_rfl) (by decide) (fun _ _ _ h => h) (by rfl) ?_ (fun _ => by assumption) ?_
          rotate_left
          focus (intro wq; go_simp; try (with_reducible rfl))
          try simp only [Act.put, List.setIfInBounds_toArray, List.set_cons_zero, List.set_cons_succ]
          refine wpAnyZ_one 5 rfl (by kernel_rfl) (fun K' hK => ?_)
          go_simp
          go_at_call 81; (with_reducible refine (inv_any (HGr.out.below (below_drew1 (Below.refl _ _))) hok _).mono ?_); rintro e wq ⟨rfl, hdq⟩; have hBq : Below wr.heap.size wr wq := below_step (below_drew1 (Below.refl _ _)) hdq.below; have d5q := pw_cell_below hBq d5; have hYr := (HY.out.below hd.below).below hBq; obtain ⟨hcl, hfz⟩ := hYr.cell' HLn.out.symm k hkm; have hO3 := hYr.set HLn.out.symm k (K.D.inv (dp k pts.length)); rw [HSt.out] at hO3; have HO3 := Aside0.mk hO3; have HBq := Aside0.mk hBq; clear hdq hBq hYr hO3
          refine hK.out _ _ (fun _ => d5q) ?_
          clear hK K'
          try simp only [Act.put, List.setIfInBounds_toArray, List.set_cons_zero, List.set_cons_succ]
          refine wpAnyZ_pure 6 (v := ?_) rfl (by kernel_rfl) (by kernel_rfl) (by kernel_rfl) (by decide) (fun _ _ _ h => h) (by rfl) ?_ (fun _ => by assumption) ?_
          rotate_left
          focus (intro wq; go_simp; try (with_reducible rfl))
          try simp only [Act.put, List.setIfInBounds_toArray, List.set_cons_zero, List.set_cons_succ]
          refine wpAnyZ_pure 7 (v := ?_) rfl (by kernel_rfl) (by kernel_rfl) (by kernel_rfl) (by decide) (fun _ _ _ h => h) (by rfl) ?_ (fun _ => by assumption) ?_
          rotate_left
          focus (intro wq; go_simp; try (with_reducible rfl))
          try simp only [Act.put, List.setIfInBounds_toArray, List.set_cons_zero, List.set_cons_succ]
          refine wpAnyZ_pure 8 (v := ?_) rfl (by kernel_rfl) (by kernel_rfl) (by kernel_rfl) (by decide) (fun _ _ _ h => h) (by rfl) ?_ (fun _ => by assumption) ?_
          rotate_left
          focus (intro wq; go_simp; try (with_reducible rfl))
          try simp only [Act.put, List.setIfInBounds_toArray, List.set_cons_zero, List.set_cons_succ]
          refine wpAnyZ_pure 9 (v := ?_) rfl (by kernel_rfl) (by kernel_rfl) (by kernel_rfl) (by decide) (fun _ _ _ h => h) (by rfl) ?_ (fun _ => by assumption) ?_
          rotate_left
          focus (intro wq; go_simp; try (with_reducible rfl))
          try simp only [Act.put, List.setIfInBounds_toArray, List.set_cons_zero, List.set_cons_succ]
          refine wpAnyZ_one 10 rfl (by kernel_rfl) (fun K' hK => ?_)
          go_simp
          refine hK.out _ _ (unlistedZ (by kernel_rfl)) ?_
          clear hK K'
          try simp only [Act.put, List.setIfInBounds_toArray, List.set_cons_zero, List.set_cons_succ]
          refine wpAnyZ_done (by kernel_rfl) ?_ _
          go_wp2
          go_roundw
          case rel => exact ⟨k + 1, by go_num, by omega, ⟨(below_later HBr.out HBr.out.size HBq.out).setCell (p := ⟨g4, k, none⟩) h11 _⟩, ⟨blk_far (blk_below HDr.out HBq.out) (by have := HG4.out; show w3.heap.size ≠ g4; omega) _⟩, ⟨(HMr.out.below HBq.out).apart (fun k2 hk2 e2 => HMY.out k2 hk2 (by rw [e2]; rfl)) _⟩, ⟨(HXr.out.below HBq.out).apart (fun k2 hk2 e2 => HXY.out k2 hk2 (by rw [e2]; rfl)) _⟩, HO3⟩
          case measure => simp [intOf]; omega
    · obtain rfl : k = pts.length := by omega
      rw [← HTl.out, List.take_length, HCo.out] at HY
      have d0 := blk_cell HD.out 0
      have d1 := blk_cell HD.out 1
      have d2 := blk_cell HD.out 2
      have d3 := blk_cell HD.out 3
      have d4 := blk_cell HD.out 4
      have d5 := blk_cell HD.out 5
      have HZ5 := Aside0.mk (blk_below HZb.out HBw.out)
      have z0 := blk_cell HZ5.out 0
      have z1 := blk_cell HZ5.out 1
      have z2 := blk_cell HZ5.out 2
      have z3 := blk_cell HZ5.out 3
      have z4 := blk_cell HZ5.out 4
      have z5 := blk_cell HZ5.out 5
      have f0 := blk_frozen HZ5.out 0
      have f1 := blk_frozen HZ5.out 1
      have f2 := blk_frozen HZ5.out 2
      have f3 := blk_frozen HZ5.out 3
      have f4 := blk_frozen HZ5.out 4
      have f5 := blk_frozen HZ5.out 5
      simp at z0 z1 z2 z3 z4 z5 d0 d1 d2 d3 d4 d5
      clear hlen
      go_wp2_with (fail)
      have hb := (blk_set (blk_set (blk_set (blk_set (blk_set (blk_set HZ5.out 0 (.int .i64 K.P)) 1 (.int .i64 (K.m : Int))) 2 (.slice AM K.Mod.length cM')) 3 (.int .i64 ((pts.length : Int) - kk))) 4 (.slice AX pts.length cX)) 5 (.slice AY mults.length cY))
      refine results29 rfl rfl hb rfl ?_
      have hlt : w.heap.size + 1 < w2.heap.size := by have := blk_lt HZb.out; have := HB2.out.size; omega
      have hle : w.heap.size ≤ w.heap.size + 1 := Nat.le_succ _
      have hM6 := ((((((HM.out.far (p := ⟨w.heap.size + 1, 0, none⟩) hlt (.int .i64 K.P)).far (p := ⟨w.heap.size + 1, 1, none⟩) hlt (.int .i64 (K.m : Int))).far (p := ⟨w.heap.size + 1, 2, none⟩) hlt (.slice AM K.Mod.length cM')).far (p := ⟨w.heap.size + 1, 3, none⟩) hlt (.int .i64 ((pts.length : Int) - kk))).far (p := ⟨w.heap.size + 1, 4, none⟩) hlt (.slice AX pts.length cX)).far (p := ⟨w.heap.size + 1, 5, none⟩) hlt (.slice AY mults.length cY))
      have hX6 := ((((((HX.out.far (p := ⟨w.heap.size + 1, 0, none⟩) hlt (.int .i64 K.P)).far (p := ⟨w.heap.size + 1, 1, none⟩) hlt (.int .i64 (K.m : Int))).far (p := ⟨w.heap.size + 1, 2, none⟩) hlt (.slice AM K.Mod.length cM')).far (p := ⟨w.heap.size + 1, 3, none⟩) hlt (.int .i64 ((pts.length : Int) - kk))).far (p := ⟨w.heap.size + 1, 4, none⟩) hlt (.slice AX pts.length cX)).far (p := ⟨w.heap.size + 1, 5, none⟩) hlt (.slice AY mults.length cY))
      have hY6 := ((((((HY.out.far (p := ⟨w.heap.size + 1, 0, none⟩) hlt (.int .i64 K.P)).far (p := ⟨w.heap.size + 1, 1, none⟩) hlt (.int .i64 (K.m : Int))).far (p := ⟨w.heap.size + 1, 2, none⟩) hlt (.slice AM K.Mod.length cM')).far (p := ⟨w.heap.size + 1, 3, none⟩) hlt (.int .i64 ((pts.length : Int) - kk))).far (p := ⟨w.heap.size + 1, 4, none⟩) hlt (.slice AX pts.length cX)).far (p := ⟨w.heap.size + 1, 5, none⟩) hlt (.slice AY mults.length cY))
      have hBe := (((((((below_later HB1.out HB1.out.size HBw.out).setCell (p := ⟨w.heap.size + 1, 0, none⟩) hle (.int .i64 K.P)).setCell (p := ⟨w.heap.size + 1, 1, none⟩) hle (.int .i64 (K.m : Int))).setCell (p := ⟨w.heap.size + 1, 2, none⟩) hle (.slice AM K.Mod.length cM')).setCell (p := ⟨w.heap.size + 1, 3, none⟩) hle (.int .i64 ((pts.length : Int) - kk))).setCell (p := ⟨w.heap.size + 1, 4, none⟩) hle (.slice AX pts.length cX)).setCell (p := ⟨w.heap.size + 1, 5, none⟩) hle (.slice AY mults.length cY))
      obtain ⟨-, hm2, hm3⟩ := hM6.reads
      obtain ⟨-, hx2, hx3⟩ := hX6.reads
      obtain ⟨hy1, hy2, hy3⟩ := hY6.reads
      have hdl : (dualZ K.D pts mults).length = mults.length := by rw [dualZ_length]; exact HML.out.symm
      refine ⟨_, rfl, ⟨AM, cM', AX, cX, AY, cY, ?_, hm3, hm2, hx3, hx2, ?_, ?_⟩, hBe⟩
      · show _ = Value.agg #[.int .i64 K.P, .int .i64 (K.m : Int), .slice AM K.Mod.length cM', .int .i64 ((pts.length : Int) - kk), .slice AX pts.length cX, .slice AY (dualZ K.D pts mults).length cY]
        rw [hdl]
      · show Kd.C _ _ AY (dualZ K.D pts mults).length (dualZ K.D pts mults)
        rw [HTe.out]
        exact hy3
      · show (dualZ K.D pts mults).length ≤ cY
        rw [HTe.out]
        exact hy2
end Go.Proofs.Yticgblagimmlfaa
end
section
/- Rows in memory; the reference's Copy. -/
namespace Go.Proofs.Yticgblagimmlfaa
open Go.RowKit Go.Proofs.YticgblagimmlfaaW.PrintWords Go.Proofs.YticgblagimmlfaaW.PrintLast Go.Proofs.YticgblagimmlfaaW.PrintMore
set_option linter.unusedVariables false
set_option linter.unusedSimpArgs false

theorem info25 : (Try.prog.info? 25).map (fun i => (i.zero, i.size, i.bytes)) = some (some (.slice none 0 0), 1, 24) := by kernel_rfl
/-- Rows that the call made. -/
structure NR (w : World) (base : Nat) (v : Value) (ls : List (List Int)) : Prop where mk ::
  out : Kd.N (Kd.slice 3 (Kd.int .i64)) 25 w base (fun k => base ≤ k) v ls
theorem NR.nil (w : World) (base : Nat) : NR w base (.slice none 0 0) [] := ⟨Kd.N_nil _ _ _ _ _⟩
theorem NR.below {w w1 : World} {base : Nat} {v : Value} {ls : List (List Int)} (h : NR w base v ls) (hb : Below w.heap.size w w1) : NR w1 base v ls := ⟨Kd.N_below h.out hb⟩
theorem NR.lower {w : World} {base base' : Nat} {v : Value} {ls : List (List Int)} (h : NR w base v ls) (hb : base' ≤ base) : NR w base' v ls := ⟨Kd.N_mono (Kd.N_lower h.out hb) (fun k hk => Nat.le_trans hb hk)⟩
theorem Own.fk {w : World} {base base' : Nat} {vO v : Value} {ls : List (List Int)} {l : List Int} (h : Own w base v l) (hN : NR w base' vO ls) (hbb : base' ≤ base) :
    Kd.FK (Kd.slice 3 (Kd.int .i64)) w (fun k => some k = v.ownBlock) l [v] ∧ ∀ k, some k = v.ownBlock → base' ≤ k ∧ some k ≠ vO.ownBlock := by
  obtain ⟨A, c, e, hl, -⟩ := h.slice
  subst e
  exact ⟨Kd.FK_slice_mk hl (Kd.R_F (Kd.R_tight rfl h.out)), fun k hk => ⟨Nat.le_trans hbb (h.base_le k hk.symm), ((Kd.R_apart' h.out (Kd.N_typed hN.out) (by decide)).1 k hk.symm).2⟩⟩
/-- A row's cell in a list of rows that is read. -/
theorem rows_at {w : World} {A : Option Addr} {n : Nat} {xs : List (List Int)} (h : Kd.C (Kd.slice 3 (Kd.int .i64)) w A n xs) (i : Nat) (h1 : i < n) :
    ∃ ad A0 c0, A = some ad ∧ w.cell? (ad.add i) = some (.slice A0 (xs.getD i []).length c0) ∧ (xs.getD i []).length ≤ c0 ∧ Kd.C (Kd.int .i64) w A0 (xs.getD i []).length (xs.getD i []) := by
  obtain ⟨ad, c, e, _, hK, hc0⟩ := Kd.C_get h ([] : List Int) (i : Int) (by omega) (by omega)
  have hc : ∀ j u, c[j]? = some u → w.cell? (ad.add (((i : Int).toNat) * 1 + j)) = some u := hc0
  obtain ⟨A0, c0, rfl, l0, g0⟩ := hK
  exact ⟨ad, A0, c0, e, by have hq := hc 0 _ rfl; rwa [Nat.mul_one, Nat.add_zero, Int.toNat_natCast] at hq, l0, g0⟩

section
variable {ops : Array Oper} {rest : List Oper} {o : Oper} {a : Act} {Q : Exit → Act → World → Prop} {Kc : Act → World → Prop}
/-- append(rows, row) -/
theorem append_row {w0 W : World} (hgd : o.guard = none) (s x : Operand) (ho : o.op = .call { callee := .builtin .append, args := #[s, x], argTypes := #[51, 51] })
    {base b2 : Nat} {v vr : Value} {ls : List (List Int)} {l : List Int} (hs : a.eval s = v) (hx : a.eval x = .slice (some ⟨W.heap.size, 0, none⟩) 1 1) (HO : NR W base v ls) (HL : Own W b2 vr l) (hb2 : base ≤ b2) (hbase : base ≤ W.heap.size) (HB : Below base w0 W) (hl : ls.length ≤ 1000000000)
    (h : ∀ v1 w1, NR w1 base v1 (ls ++ [l]) → Below base w0 w1 → wpList Try.prog ops Q rest (a.put o.dst v1) w1) :
    wpList Try.prog ops Q (o :: rest) a (W.alloc (.cells #[vr] 25)) := by
  obtain ⟨h1, h2⟩ := HL.fk HO hb2
  refine Kd.N_append (Kd.slice 3 (Kd.int .i64)) (w0 := w0) base hgd s x 51 25 (.slice none 0 0) 24 ho Try.underlying51 info25 rfl (by decide) (by omega) v ls l [vr] (fun k => base ≤ k) (fun k => some k = vr.ownBlock) hs hx h1 h2 (fun k hk => Nat.le_trans hbase hk) HO.out HB hbase (by omega) ?_
  intro v1 w1 h3 h4 _ _
  exact h v1 w1 ⟨h3⟩ h4
theorem append_row_step {w0 W : World} (hw : Region.wanted o (yielded ops a.tmps) = true) (s x : Operand) (ho : o.op = .call { callee := .builtin .append, args := #[s, x], argTypes := #[51, 51] })
    {base b2 : Nat} {v vr : Value} {ls : List (List Int)} {l : List Int} (hs : a.eval s = v) (hx : a.eval x = .slice (some ⟨W.heap.size, 0, none⟩) 1 1) (HO : NR W base v ls) (HL : Own W b2 vr l) (hb2 : base ≤ b2) (hbase : base ≤ W.heap.size) (HB : Below base w0 W) (hl : ls.length ≤ 1000000000)
    (h : ∀ v1 w1, NR w1 base v1 (ls ++ [l]) → Below base w0 w1 → Kc (a.put o.dst v1) w1) :
    if Region.wanted o (yielded ops a.tmps) = true then Oper.wp Try.prog o a (W.alloc (.cells #[vr] 25)) Kc Q else Kc (a.put o.dst undef) (W.alloc (.cells #[vr] 25)) := by
  obtain ⟨h1, h2⟩ := HL.fk HO hb2
  refine Kd.N_append_step (Kd.slice 3 (Kd.int .i64)) (w0 := w0) base hw s x 51 25 (.slice none 0 0) 24 ho Try.underlying51 info25 rfl (by decide) (by omega) v ls l [vr] (fun k => base ≤ k) (fun k => some k = vr.ownBlock) hs hx h1 h2 (fun k hk => Nat.le_trans hbase hk) HO.out HB hbase (by omega) ?_
  intro v1 w1 h3 h4 _ _
  exact h v1 w1 ⟨h3⟩ h4
end
theorem NR.slice {w : World} {base : Nat} {v : Value} {ls : List (List Int)} (h : NR w base v ls) : ∃ A c, v = .slice A ls.length c ∧ ls.length ≤ c ∧ Kd.C (Kd.slice 3 (Kd.int .i64)) w A ls.length ls := Kd.N_reads h.out
theorem take_succ_rows (ls : List (List Int)) (k : Nat) (h : k < ls.length) : ls.take (k + 1) = ls.take k ++ [ls.getD k []] := by
  rw [List.take_add_one, List.getElem?_eq_getElem h, List.getD_eq_getElem?_getD, List.getElem?_eq_getElem h]
  rfl

set_option maxHeartbeats 8000000 in
set_option maxRecDepth 100000 in
theorem rCopy {w : World} {A : Option Addr} {c : Nat} {ls : List (List Int)} (hl : Kd.C (Kd.slice 3 (Kd.int .i64)) w A ls.length ls) (h1 : ls.length ≤ 1000) (h2 : ∀ i, i < ls.length → (ls.getD i []).length ≤ 1000) :
    Calls Try.prog 162 #[.slice A ls.length c] w fun e w' => ∃ v, e = .returned v ∧ NR w' w.heap.size v ls ∧ Below w.heap.size w w' := by
  have HL := Aside0.mk hl
  have H2 := Aside0.mk h2
  have HT := Aside0.mk (take_succ_rows ls)
  have HBz := Aside0.mk (Below.refl w.heap.size w)
  obtain ⟨Df, hDf⟩ : ∃ f : Nat → List (List Int), (fun k => ls.take k) = f := ⟨_, rfl⟩
  have HD : Aside0 (∀ k, ls.take k = Df k) := ⟨fun k => by rw [← hDf]⟩
  have H0 : Aside0 (NR w w.heap.size (.slice none 0 0) (Df 0)) := ⟨by rw [← hDf]; exact NR.nil _ _⟩
  have HDl : Aside0 (∀ k, k ≤ ls.length → (Df k).length = k) := ⟨fun k hk => by rw [← hDf]; simp; omega⟩
  clear hl h2 hDf
  go_enter Try.func162, Try.ntmps162
  go_wp2
  go_loopw [3, 4] (fun v3 v4 w' => ∃ (k : Nat) (vD : Value), v4 = .int .i64 k ∧ v3 = vD ∧ k ≤ ls.length ∧ Aside0 (NR w' w.heap.size vD (Df k)) ∧ Aside0 (Below w.heap.size w w')) (fun _ v4 _ => ls.length - (intOf v4).toNat)
  case atStart => exact ⟨0, _, rfl, rfl, by omega, H0, HBz⟩
  case round =>
    clear H0 HBz
    obtain ⟨k, vD, rfl, rfl, hk, HO, HB⟩ := hrel
    by_cases hlk : k < ls.length
    · obtain ⟨ad, A1, c1, e, hx, hx2, hx3⟩ := rows_at (Kd.C_below HL.out HB.out) k hlk
      cases e
      have hl2 := H2.out k hlk
      have htk := HT.out k hlk
      rw [HD.out, HD.out] at htk
      obtain ⟨l, hle⟩ : ∃ l, ls.getD k [] = l := ⟨_, rfl⟩
      rw [hle] at hx hx2 hx3 hl2 htk
      have HDk := Aside0.mk htk
      have HX3 := Aside0.mk hx3
      have i0 : (0 : Int) ≤ (k : Int) := by omega
      have i1 : (k : Int) < (ls.length : Int) := by omega
      have hdl := HDl.out k hk
      have HDl2 := Aside0.mk hdl
      obtain ⟨A3, c3, e3, -, -⟩ := HO.out.slice
      rw [hdl] at e3
      subst e3
      have hba := below_alloc (Below.refl wr.heap.size wr) (.cells #[] 3)
      have hx4 := pw_cell_below hba hx
      have HLit := Aside0.mk (own_lit0 wr)
      have HBa := Aside0.mk hba
      clear hle htk hx3 hdl hba
      go_wp2_with (first
        | ((with_reducible refine gate_builtin (b := .append) (xs := #[.tmp 12, .tmp 16]) rfl ?_); at_builtin; refine append_list (w0 := wr) (base := wr.heap.size) rfl (.tmp 12) (.tmp 16) rfl rfl rfl HLit.out HBa.out.size (Kd.C_below HX3.out HBa.out) HBa.out (by simp; omega) ?_; intro v6 w6 h6 hb6; rw [List.nil_append] at h6; obtain ⟨A6, c6, rfl, -, -⟩ := h6.slice; have HO6 := Aside0.mk h6; have HB6 := Aside0.mk hb6; clear h6 hb6)
        | ((with_reducible refine gate_builtin (b := .append) (xs := #[.tmp 11, .tmp 18]) rfl ?_); at_builtin; refine append_row (w0 := w) (W := w6) (base := w.heap.size) rfl (.tmp 11) (.tmp 18) rfl rfl rfl (HO.out.below HB6.out) HO6.out HB.out.size (Nat.le_trans HB.out.size HB6.out.size) (below_later HB.out HB.out.size HB6.out) (by rw [HDl2.out]; omega) ?_; intro v7 w7 h7 hb7; rw [← HDk.out] at h7; have HO7 := Aside0.mk h7; have HB7 := Aside0.mk hb7; clear h7 hb7))
      go_roundw
      case rel => exact ⟨k + 1, _, by go_num, rfl, by omega, HO7, HB7⟩
      case measure => simp [intOf]; omega
    · obtain rfl : k = ls.length := by omega
      have hT := HD.out ls.length
      rw [List.take_length] at hT
      rw [← hT] at HO
      clear hT
      go_wp2
      go_ret
      exact ⟨_, rfl, HO.out, HB.out⟩

end Go.Proofs.Yticgblagimmlfaa
end
section
/- The program: the generator's rows. -/
namespace Go.Proofs.Yticgblagimmlfaa
open Go.RowKit Go.Proofs.YticgblagimmlfaaW.PrintWords Go.Proofs.YticgblagimmlfaaW.PrintLast Go.Proofs.YticgblagimmlfaaW.PrintMore
set_option linter.unusedVariables false
set_option linter.unusedSimpArgs false

section
open CW CW.PS
theorem FD.row_zero (K : FD) (pts mults : List Int) (hml : mults.length = pts.length) (hm : ∀ j, j < pts.length → K.D.is (mults.getD j 0) = true) : encZ K.D pts mults (powZ 0) = mults := by
  refine List.ext_getElem (by rw [encZ_len K.D _ _ _ hml, hml]) fun j h1 h2 => ?_
  have e1 : (encZ K.D pts mults (powZ 0))[j] = (encZ K.D pts mults (powZ 0)).getD j 0 := by rw [List.getD_eq_getElem?_getD, List.getElem?_eq_getElem h1]; rfl
  have e2 : mults[j] = mults.getD j 0 := by rw [List.getD_eq_getElem?_getD, List.getElem?_eq_getElem h2]; rfl
  rw [e1, e2]
  refine K.el_inj (K.is_encZ _ _ _ _) (hm j (by omega)) ?_
  rw [K.el_encZ _ _ _ _ (by omega) h2, K.toP_powZ, pv_C_mul (Dg.mon 0), pv_mon, K.el_one]
  show _ * (1 * 1) = _
  rw [mul_one, mul_one]
theorem FD.row_succ (K : FD) (pts mults : List Int) (hml : mults.length = pts.length) (k j : Nat) (hj : j < pts.length) : (encZ K.D pts mults (powZ (k + 1))).getD j 0 = K.D.mul ((encZ K.D pts mults (powZ k)).getD j 0) (pts.getD j 0) := by
  refine K.el_inj (K.is_encZ _ _ _ _) (K.is_mul _ _) ?_
  rw [K.el_mul, K.el_encZ _ _ _ _ hj (by omega), K.el_encZ _ _ _ _ hj (by omega), K.toP_powZ, K.toP_powZ, pv_C_mul (Dg.mon _), pv_C_mul (Dg.mon _), pv_mon, pv_mon, K.el_one, one_mul, one_mul, mul_assoc]
  rfl
end
theorem NR.far {w : World} {base : Nat} {v : Value} {ls : List (List Int)} (h : NR w base v ls) {p : Addr} (hp : p.block < base) (u : Value) : NR (w.setCell p u) base v ls := ⟨Kd.N_far h.out (fun k hk => by omega) u⟩
theorem NR.drewN {w : World} {base : Nat} {v : Value} {ls : List (List Int)} (h : NR w base v ls) (n : Nat) : NR (w.drewN n) base v ls := h.below (pw_below_drewN (Below.refl _ _) n)
section
variable {ops : Array Oper} {rest : List Oper} {o : Oper} {a : Act} {Q : Exit → Act → World → Prop}
/-- append([]int{}, a list that is not empty), in a region of a set order. -/
theorem append_new {W : World} (hgd : o.guard = none) (s x : Operand) (ho : o.op = .call { callee := .builtin .append, args := #[s, x], argTypes := #[25, 25] })
    {b : Addr} {ys : List Int} {A : Option Addr} {c : Nat} (hs : a.eval s = .slice (some b) 0 0) (hx : a.eval x = .slice A ys.length c) (HR : Kd.C (Kd.int .i64) W A ys.length ys) (hp : 0 < ys.length) (hl : ys.length ≤ 1000000000000)
    (h : ∀ v1 w1, Own w1 W.heap.size v1 ys → Below W.heap.size W w1 → wpList Try.prog ops Q rest (a.put o.dst v1) w1) :
    wpList Try.prog ops Q (o :: rest) a W := by
  refine wpList_plain hgd fun K hK' => ?_
  have hw : Region.wanted o (yielded ops a.tmps) = true := by unfold Region.wanted; rw [hgd]
  have := append_new_step (Q := Q) (Kc := K) hw s x ho hs hx HR hp hl (fun v1 w1 h1 h2 => hK' _ _ (h v1 w1 h1 h2))
  rwa [if_pos hw] at this
end
theorem results85 {fn : Func} {p : Tmp} (h : fn.results = #[.cell p 85]) {a : Act} {w : World} {b : Nat} {v0 v1 : Value} (hp : a.tmps.getD p undef = .pointer (some ⟨b, 0, none⟩)) (hb : w.heap[b]? = some (.cells #[v0, v1] 85 (0, 0))) {R : Ending → World → Prop} (hd : a.defers = [])
    (hR : R (.returned (.agg #[v0, v1])) w) : bodyPost Try.prog fn R .ret a w :=
  bodyPost_ret (results_cell_row h _ _ _ _ _ _ _ hp hb Try.underlying85 rfl (by kernel_rfl)) hd hR

set_option maxHeartbeats 8000000 in
set_option maxRecDepth 100000 in
theorem generator2_any {g : Nat} {w : World} {v : Value} {s : GD} (h : GArg w v s) (K : FD) (hf : s.fit K) (hg : GFat w g K.D) (kn : Nat) (hk : s.K = kn) :
    Calls Try.prog 82 #[.pointer (some ⟨g, 0, none⟩), v] w fun e w' => ∃ u, e = .returned (.agg #[.int .i64 s.pts.length, u]) ∧ NR w' w.heap.size u (rowsZ K.D s.pts s.mults kn) ∧ Below w.heap.size w w' := by
  obtain ⟨P, M, Mod, kk, pts, mults⟩ := s
  obtain ⟨⟨rfl, rfl, rfl⟩, hml, hpl, hp1, hk0, hk1, hp, inj, hm⟩ := hf
  simp only at hml hpl hp1 hk0 hk1 hp inj hm hk ⊢
  subst hk
  obtain ⟨A1, c1, A2, c2, A3, c3, rfl, g1, l1, g2, l2, g3, l3⟩ := h.out
  simp only at g1 l1 g2 l2 g3 l3
  have hS0 := SAt.new w ⟨K.P, (K.m : Int), K.Mod, kn, pts, mults⟩ A1 c1 A2 c2 A3 c3
  obtain ⟨w0, hw0⟩ : ∃ w0, w.alloc (.cells #[.int .i64 K.P, .int .i64 (K.m : Int), .slice A1 K.Mod.length c1, .int .i64 kn, .slice A2 pts.length c2, .slice A3 mults.length c3] 29) = w0 := ⟨_, rfl⟩
  have hB0 : Below w.heap.size w w0 := by rw [← hw0]; exact below_alloc (Below.refl _ _) _
  simp only at hS0
  rw [hw0] at hS0
  obtain ⟨w1, hw1⟩ : ∃ w1, w0.alloc (.cells #[.int .i64 0, .slice none 0 0] 85) = w1 := ⟨_, rfl⟩
  have hB1 : Below w0.heap.size w0 w1 := by rw [← hw1]; exact below_alloc (Below.refl _ _) _
  have hz0 : w0.heap.size = w.heap.size + 1 := by rw [← hw0]; simp
  have hz : w1.heap[w0.heap.size]? = some (.cells #[.int .i64 0, .slice none 0 0] 85 (0, 0)) := by rw [← hw1]; exact blk_new _ _
  rw [hz0] at hz
  have HB1 := Aside0.mk (below_later hB0 hB0.size hB1)
  have HS := Aside0.mk (hS0.below hB1)
  have HZb := Aside0.mk hz
  have HW0 := Aside0.mk hw0
  have HW1 := Aside0.mk hw1
  have HP := Aside0.mk (Kd.C_below g2 HB1.out)
  have HU := Aside0.mk (Kd.C_below g3 HB1.out)
  have HG := Aside0.mk (hg.below HB1.out)
  have hok := K.ok
  obtain ⟨f, hf⟩ : ∃ f, rowsZ K.D pts mults = f := ⟨_, rfl⟩
  obtain ⟨rf, hrf⟩ : ∃ rf : Nat → List Int, (fun k => encZ K.D pts mults (powZ k)) = rf := ⟨_, rfl⟩
  have HF : Aside0 (∀ k, f (k + 1) = f k ++ [rf k]) := ⟨fun k => by rw [← hf, ← hrf]; simp [rowsZ, List.range_succ]⟩
  have HFl : Aside0 (∀ k, (f k).length = k) := ⟨fun k => by rw [← hf]; exact rowsZ_length _ _ _ _⟩
  have HF0 : Aside0 (f 0 = []) := ⟨by rw [← hf]; rfl⟩
  have HR0 : Aside0 (rf 0 = mults) := ⟨by rw [← hrf]; exact K.row_zero pts mults hml (fun j hj => (hm j hj).1)⟩
  have HRs : Aside0 (∀ k j, j < pts.length → (rf (k + 1)).getD j 0 = K.D.mul ((rf k).getD j 0) (pts.getD j 0)) := ⟨fun k j hj => by rw [← hrf]; exact K.row_succ pts mults hml k j hj⟩
  have HRl : Aside0 (∀ k, (rf k).length = pts.length) := ⟨fun k => by rw [← hrf]; exact encZ_len _ _ _ _ hml⟩
  obtain ⟨F, hF⟩ : ∃ F : Int → Int → Int, (fun _ c => c) = F := ⟨_, rfl⟩
  have HFe := Aside0.mk hF
  have HML := Aside0.mk hml
  have hml1 : pts.length ≤ mults.length := by omega
  have hml2 : 0 < mults.length := by omega
  have hml3 : mults.length ≤ 1000000000000 := by omega
  rw [hf]
  clear hS0 hB0 hB1 hw0 hw1 hz hz0 g1 g2 g3 hml h hp inj hm hg hf hrf hF
  obtain ⟨cP, cM, cD, cK, cS, cU⟩ := HS.out
  simp only at cP cM cD cK cS cU
  go_enter Try.func82, Try.ntmps82
  go_upto_region 1 with (fail)
  rw [HW0.out, HW1.out]
  go_upto_region 2 with (fail)
  obtain ⟨w2, hw2⟩ : ∃ w2, w1.alloc (.cells #[.int .i64 (pts.length : Int), .slice none 0 0] 85) = w2 := ⟨_, rfl⟩
  have hB2 : Below w1.heap.size w1 w2 := by rw [← hw2]; exact below_alloc (Below.refl _ _) _
  have hz2 : w2.heap.size = w1.heap.size + 1 := by rw [← hw2]; simp
  have hm2 : w2.heap[w1.heap.size]? = some (.cells #[.int .i64 (pts.length : Int), .slice none 0 0] 85 (0, 0)) := by rw [← hw2]; exact blk_new _ _
  have HW2 := Aside0.mk hw2
  have HB2 := Aside0.mk hB2
  have HM2 := Aside0.mk hm2
  have HZ2 := Aside0.mk hz2
  rw [HW2.out]
  clear hw2 hB2 hm2 hz2 cP cM cD cK cS cU
  obtain ⟨cP, cM, cD, cK, cS, cU⟩ := HS.out.below HB2.out
  simp only at cP cM cD cK cS cU
  have HBe : Aside0 (Below w2.heap.size w2 (w2.alloc (.cells #[] 3))) := ⟨below_alloc (Below.refl _ _) _⟩
  have cU' := pw_cell_below HBe.out cU
  go_upto_region 3 with (refine append_new (ys := mults) rfl (.tmp 13) (.tmp 15) rfl rfl rfl (Kd.C_below (Kd.C_below HU.out HB2.out) HBe.out) hml2 hml3 ?_; intro v3 w3 hO hB; have HO3 := Aside0.mk (hO.lower HBe.out.size); have HB3 := Aside0.mk (below_later HBe.out HBe.out.size hB); clear hO hB)
  clear HBe cP cM cD cS cU cU'
  obtain ⟨gr, cap, e, hgr1, hgr2⟩ := HO3.out.form hml2
  rw [HML.out] at e
  subst e
  have hK3 := (HS.out.below (below_later HB2.out HB2.out.size HB3.out)).k
  simp only at hK3
  go_upto_region 4 with (fail)
  clear cK hK3
  have H0 : Aside0 (Own w3 w2.heap.size (.slice (some ⟨gr, 0, none⟩) pts.length cap) (rf 0)) := ⟨by rw [HR0.out]; exact HO3.out⟩
  have HM3 := Aside0.mk (blk_below HM2.out HB3.out)
  have HN0 : Aside0 (NR w3 w3.heap.size (.slice none 0 0) (f 0)) := ⟨by rw [HF0.out]; exact NR.nil _ _⟩
  have HB3' := Aside0.mk (below_later HB2.out HB2.out.size HB3.out)
  have HGr := Aside0.mk hgr2
  have HGr1 := Aside0.mk hgr1
  have HL1 : Aside0 (w1.heap.size < w3.heap.size) := ⟨by have := HZ2.out; have := HB3.out.size; omega⟩
  have HB3s : Aside0 (w3.heap.size ≤ w3.heap.size) := ⟨Nat.le_refl _⟩
  go_loopw [19] (fun v19 w' => ∃ (k : Nat) (AR : Option Addr) (cR : Nat), v19 = .int .i64 k ∧ k ≤ kn ∧ Aside0 (Below w1.heap.size w1 w') ∧ Aside0 (w3.heap.size ≤ w'.heap.size) ∧ Aside0 (w'.heap[w1.heap.size]? = some (.cells #[.int .i64 (pts.length : Int), .slice AR k cR] 85 (0, 0))) ∧ Aside0 (NR w' w3.heap.size (.slice AR k cR) (f k)) ∧ Aside0 (Own w' w2.heap.size (.slice (some ⟨gr, 0, none⟩) pts.length cap) (rf k))) (fun v19 _ => kn - (intOf v19).toNat)
  case atStart => exact ⟨0, none, 0, rfl, by omega, HB3', HB3s, HM3, HN0, H0⟩
  case round =>
    clear H0 HM3 HN0 HB3' HB3s HO3 hgr1 hgr2
    obtain ⟨wo, rfl⟩ : ∃ wo : World, wo = wr := ⟨_, rfl⟩
    obtain ⟨k, AR, cR, rfl, hk, HB, HSz, HM, HN, HO⟩ := hrel
    by_cases hlk : k < kn
    · have mr1 := blk_cell HM.out 1
      simp at mr1
      have ik : (k : Int) < (kn : Int) := by omega
      obtain ⟨wr, rfl⟩ : ∃ wr : World, wr = wo := ⟨_, rfl⟩
      go_upto_region 5 with (fail)
      refine wp_region_last (S := fun w' => w'.cell? ⟨w1.heap.size, 1, none⟩ = some (.slice AR k cR)) (L := 8) (by kernel_rfl) mr1 (fun hHeld => ?_)
      refine wpAnyZ_pure 0 (v := ?_) rfl (by kernel_rfl) (by kernel_rfl) (by kernel_rfl) (by decide) (fun _ _ _ h => h) (by rfl) ?_ (fun _ => by assumption) ?_
      rotate_left
      focus (intro wq; go_simp; try (with_reducible rfl))
      try simp only [Act.put, List.setIfInBounds_toArray, List.set_cons_zero, List.set_cons_succ]
      refine wpAnyZ_load 1 (v := ?_) rfl (by kernel_rfl) (by kernel_rfl) (by kernel_rfl) (by kernel_rfl) (by kernel_rfl) (fun _ _ _ h => h) (by rfl) ?_ (by assumption) ?_
      rotate_left
      focus (intro wq hq; (try dsimp only at hq); go_split_ands; go_simp; try (with_reducible rfl))
      try simp only [Act.put, List.setIfInBounds_toArray, List.set_cons_zero, List.set_cons_succ]
      refine wpAnyZ_pure 3 (v := ?_) rfl (by kernel_rfl) (by kernel_rfl) (by kernel_rfl) (by decide) (fun _ _ _ h => h) (by rfl) ?_ (fun _ => by assumption) ?_
      rotate_left
      focus (intro wq; go_simp; try (with_reducible rfl))
      try simp only [Act.put, List.setIfInBounds_toArray, List.set_cons_zero, List.set_cons_succ]
      refine wpAnyZ_one 2 rfl (by kernel_rfl) (fun K' hK => ?_)
      go_simp
      obtain ⟨wa, hwa⟩ : ∃ wa, (wr.alloc (.cells #[] 3)).drew = wa := ⟨_, rfl⟩
      have hBa : Below wr.heap.size wr wa := by rw [← hwa]; exact below_drew1 (below_alloc (Below.refl _ _) _)
      have mra := pw_cell_below hBa mr1
      have HBa := Aside0.mk hBa
      first | rw [hwa] | rw [show (wr.drew.alloc (.cells #[] 3)) = wa from hwa]
      refine hK.out _ _ (fun _ => mra) ?_
      clear hK K' hwa hBa
      try simp only [Act.put, List.setIfInBounds_toArray, List.set_cons_zero, List.set_cons_succ]
      refine wpAnyZ_one 4 rfl (by kernel_rfl) (fun K' hK => ?_)
      refine append_new_step (ys := rf k) (by rfl) (.tmp 23) (.tmp 24) rfl rfl (by rw [HRl.out]; rfl) ((HO.out.below HBa.out).reads.2.2) (by rw [HRl.out]; omega) (by rw [HRl.out]; omega) ?_
      intro vb wb hOb hBb
      obtain ⟨Ab, cb, rfl, -, -⟩ := hOb.slice
      have mrb := pw_cell_below hBb mra
      have HBb := Aside0.mk (below_later HBa.out HBa.out.size hBb)
      have HOb := Aside0.mk (hOb.lower HBa.out.size)
      refine hK.out _ _ (fun _ => mrb) ?_
      clear hK K' hOb hBb
      try simp only [Act.put, List.setIfInBounds_toArray, List.set_cons_zero, List.set_cons_succ]
      refine wpAnyZ_one 5 rfl (by kernel_rfl) (fun K' hK => ?_)
      go_simp
      refine hK.out _ _ (fun _ => pw_cell_below (below_alloc (Below.refl _ _) _) mrb) ?_
      clear hK K'
      try simp only [Act.put, List.setIfInBounds_toArray, List.set_cons_zero, List.set_cons_succ]
      refine wpAnyZ_one 6 rfl (by kernel_rfl) (fun K' hK => ?_)
      refine append_row_step (w0 := wr) (base := w3.heap.size) (W := wb) (by rfl) (.tmp 22) (.tmp 26) rfl rfl rfl (HN.out.below HBb.out) HOb.out HSz.out (Nat.le_trans HSz.out HBb.out.size) (HBb.out.mono HSz.out) (by rw [HFl.out]; omega) ?_
      intro v5 w5 h5 hb5
      rw [← HF.out] at h5
      obtain ⟨AR5, cR5, rfl, -, -⟩ := h5.slice
      rw [HFl.out] at h5
      have hM5 := (hb5.block w1.heap.size HL1.out).trans HM.out
      have HM5 := Aside0.mk hM5
      have HN5 := Aside0.mk h5
      have HB5 := Aside0.mk hb5
      have mr5 := blk_cell hM5 1
      have fr5 := blk_frozen hM5 1
      simp at mr5
      refine hK.out _ _ (fun _ => mr5) ?_
      clear hK K' h5 hb5 hM5
      try simp only [Act.put, List.setIfInBounds_toArray, List.set_cons_zero, List.set_cons_succ]
      refine wpAnyZ_pure 7 (v := ?_) rfl (by kernel_rfl) (by kernel_rfl) (by kernel_rfl) (by decide) (fun _ _ _ h => h) (by rfl) ?_ (fun _ => by assumption) ?_
      rotate_left
      focus (intro wq; go_simp; try (with_reducible rfl))
      try simp only [Act.put, List.setIfInBounds_toArray, List.set_cons_zero, List.set_cons_succ]
      refine wpAnyZ_one 8 rfl (by kernel_rfl) (fun K' hK => ?_)
      go_simp
      refine hK.out _ _ (unlistedZ (by kernel_rfl)) ?_
      clear hK K'
      try simp only [Act.put, List.setIfInBounds_toArray, List.set_cons_zero, List.set_cons_succ]
      refine wpAnyZ_done (by kernel_rfl) ?_ _
      rw [HFl.out]
      obtain ⟨w6, hw6⟩ : ∃ w6, w5.setCell ⟨w1.heap.size, 1, none⟩ (.slice AR5 (k + 1) cR5) = w6 := ⟨_, rfl⟩
      have HW6 := Aside0.mk hw6
      have HL1' := HL1.out
      have hm6 := blk_set HM5.out 1 (.slice AR5 (k + 1) cR5)
      rw [hw6] at hm6
      have HM6 : Aside0 (w6.heap[w1.heap.size]? = some (.cells #[.int .i64 (pts.length : Int), .slice AR5 (k + 1) cR5] 85 (0, 0))) := ⟨hm6⟩
      have HN6 : Aside0 (NR w6 w3.heap.size (.slice AR5 (k + 1) cR5) (f (k + 1))) := ⟨by rw [← hw6]; exact HN5.out.far HL1' _⟩
      have HO6 : Aside0 (Own w6 w2.heap.size (.slice (some ⟨gr, 0, none⟩) pts.length cap) (updZ F (rf k) ((rf (k + 1)).take 0))) := ⟨by
        rw [← hw6, List.take_zero, updZ_nil]
        exact (HO.out.keep (fun q hq => HB5.out.block q (by cases hq; exact HGr.out))).far (p := ⟨w1.heap.size, 1, none⟩) (by have := HZ2.out; simp only; omega) _⟩
      have HB6 : Aside0 (Below w1.heap.size w1 w6) := ⟨by rw [← hw6]; exact (HB.out.trans (HB5.out.mono (by omega))).setCell (p := ⟨w1.heap.size, 1, none⟩) (Nat.le_refl _) _⟩
      have HS6 : Aside0 (w3.heap.size ≤ w6.heap.size) := ⟨by rw [← hw6]; have := HB5.out.size; have := HSz.out; simp; omega⟩
      clear hm6 hw6 HM5 HN5 mr5 fr5 HL1' HOb HBb HBa HM HN HO mr1 mra mrb
      first | rw [HW6.out] | skip
      obtain ⟨cP, cM, cD, cK, cS, cU⟩ := HS.out.below HB6.out
      simp only at cP cM cD cK cS cU
      go_upto_region 7 with (fail)
      clear cP cM cD cK cS cU
      go_loopw [32] (fun v32 w' => ∃ j : Nat, v32 = .int .i64 j ∧ j ≤ pts.length ∧ Aside0 (Below w1.heap.size w1 w') ∧ Aside0 (w3.heap.size ≤ w'.heap.size) ∧ Aside0 (w'.heap[w1.heap.size]? = some (.cells #[.int .i64 (pts.length : Int), .slice AR5 (k + 1) cR5] 85 (0, 0))) ∧ Aside0 (NR w' w3.heap.size (.slice AR5 (k + 1) cR5) (f (k + 1))) ∧ Aside0 (Own w' w2.heap.size (.slice (some ⟨gr, 0, none⟩) pts.length cap) (updZ F (rf k) ((rf (k + 1)).take j)))) (fun v32 _ => pts.length - (intOf v32).toNat)
      case atStart => exact ⟨0, rfl, by omega, HB6, HS6, HM6, HN6, HO6⟩
      case round =>
        clear HB6 HS6 HM6 HN6 HO6 HW6
        obtain ⟨j, rfl, hj, HB, HSz, HM, HN, HO⟩ := hrel
        have hlen : (updZ F (rf k) ((rf (k + 1)).take j)).length = pts.length := by rw [updZ_length]; exact HRl.out k
        by_cases hlj : j < pts.length
        · obtain ⟨ad, e, hx⟩ := C_nat (Kd.C_below HP.out HB.out) j hlj
          cases e
          have hs := HRs.out k j hlj
          have hstep := updZ_set F 0 j (rf k) (rf (k + 1)) (by rw [HRl.out]; exact hlj) (by rw [HRl.out]; exact hlj)
          rw [show F ((rf k).getD j 0) ((rf (k + 1)).getD j 0) = (rf (k + 1)).getD j 0 from by rw [← HFe.out], hs] at hstep
          have hget : (updZ F (rf k) ((rf (k + 1)).take j)).getD j 0 = (rf k).getD j 0 := updZ_get F 0 j (rf k) (rf (k + 1))
          obtain ⟨hcl, hfz⟩ := HO.out.cell' hlen.symm j hlj
          rw [hget] at hcl
          obtain ⟨x, hx'⟩ : ∃ x, pts.getD j 0 = x := ⟨_, rfl⟩
          obtain ⟨y, hy'⟩ : ∃ y, (rf k).getD j 0 = y := ⟨_, rfl⟩
          rw [hx'] at hx hstep
          rw [hy'] at hcl hstep
          have hO3 := HO.out.set hlen.symm j (K.D.mul y x)
          rw [hstep] at hO3
          have HO3 := Aside0.mk hO3
          have HGw := Aside0.mk (HG.out.below HB.out)
          have j0 : (0 : Int) ≤ (j : Int) := by omega
          have j1 : (j : Int) < (pts.length : Int) := by omega
          clear hs hstep hget hx' hy' hO3 hlen
          go_wp2_with (go_at_call 79; (with_reducible refine (mul_any ?side1 hok _ _).mono ?_); (case side1 => exact HGw.out.drawn (by repeat (first | exact Drawn0.refl _ | apply Drawn0.step))); rintro e w' ⟨rfl, ⟨n2, rfl⟩⟩)
          go_roundw
          case rel => exact ⟨j + 1, by go_num, by omega, ⟨(pw_below_drewN HB.out n2).setCell (p := ⟨gr, j, none⟩) (by have := HGr1.out; have := HB2.out.size; show w1.heap.size ≤ gr; omega) _⟩, ⟨by have := HSz.out; simpa using this⟩, ⟨blk_far (blk_drewN HM.out n2) (by have := HGr1.out; have := HZ2.out; show w1.heap.size ≠ gr; omega) _⟩, ⟨(HN.out.drewN n2).far (by have := HGr.out; show gr < w3.heap.size; exact this) _⟩, ⟨HO3.out.drewN n2⟩⟩
          case measure => simp [intOf]; omega
        · obtain rfl : j = pts.length := by omega
          have hfin : updZ F (rf k) ((rf (k + 1)).take pts.length) = rf (k + 1) := by
            rw [List.take_of_length_le (by rw [HRl.out]; exact Nat.le_refl _), ← HFe.out]
            exact updZ_const _ _ (by rw [HRl.out, HRl.out])
          rw [hfin] at HO
          clear hlen hfin
          go_wp2
          go_roundw
          case rel => exact ⟨k + 1, AR5, cR5, by go_num, by omega, HB, HSz, HM, HN, HO⟩
          case measure => simp [intOf]; omega
    · obtain rfl : k = kn := by omega
      have m0 := blk_cell HM.out 0
      have m1 := blk_cell HM.out 1
      have HZ5 := Aside0.mk (blk_below HZb.out HB.out)
      have z0 := blk_cell HZ5.out 0
      have z1 := blk_cell HZ5.out 1
      have f0 := blk_frozen HZ5.out 0
      have f1 := blk_frozen HZ5.out 1
      simp at z0 z1 m0 m1
      go_wp2_with (fail)
      have hb := blk_set (blk_set HZ5.out 0 (.int .i64 (pts.length : Int))) 1 (.slice AR k cR)
      refine results85 rfl rfl hb rfl ?_
      have hlt1 := blk_lt HZb.out
      have hlt : w.heap.size + 1 < w3.heap.size := by have := HL1.out; omega
      have hle : w.heap.size ≤ w.heap.size + 1 := Nat.le_succ _
      have hN := (HN.out.far (p := ⟨w.heap.size + 1, 0, none⟩) hlt (.int .i64 (pts.length : Int))).far (p := ⟨w.heap.size + 1, 1, none⟩) hlt (.slice AR k cR)
      exact ⟨_, rfl, hN.lower (by omega), ((below_later HB1.out HB1.out.size HB.out).setCell (p := ⟨w.heap.size + 1, 0, none⟩) hle (.int .i64 (pts.length : Int))).setCell (p := ⟨w.heap.size + 1, 1, none⟩) hle (.slice AR k cR)⟩
end Go.Proofs.Yticgblagimmlfaa
end
section
/- The program: Generator. The dual's description is a good one. -/
namespace Go.Proofs.Yticgblagimmlfaa
open Go.RowKit Go.Proofs.YticgblagimmlfaaW.PrintWords Go.Proofs.YticgblagimmlfaaW.PrintLast Go.Proofs.YticgblagimmlfaaW.PrintMore
set_option linter.unusedVariables false
set_option linter.unusedSimpArgs false

theorem dual_fit (s : GD) (K : FD) (hf : s.fit K) : (s.dual K.D).fit K := by
  have hg : ∀ j, j < s.pts.length → (dualZ K.D s.pts s.mults).getD j 0 = K.D.inv (dpZ K.D s.pts j (s.mults.getD j 0) s.pts.length) := fun j hj => dualZ_getD _ _ _ _ hj
  have h0 := hf.k0
  have h1 := hf.k1
  refine ⟨hf.over, dualZ_length _ _ _, hf.pl, hf.p1, ?_, ?_, hf.pts, hf.inj, fun j hj => ?_⟩
  · show (0 : Int) ≤ (s.pts.length : Int) - s.K
    omega
  · show (s.pts.length : Int) - s.K ≤ s.pts.length
    omega
  · have hj' : j < s.pts.length := hj
    obtain ⟨m1, m2⟩ := hf.mults j hj'
    have e := hg j hj'
    show K.D.is ((dualZ K.D s.pts s.mults).getD j 0) = true ∧ (dualZ K.D s.pts s.mults).getD j 0 ≠ 0
    rw [e]
    refine ⟨K.is_inv _, ?_⟩
    have := K.inv_one_le (K.is_dpZ s.pts j _ m1 s.pts.length) (K.dpZ_ne s.pts j _ m1 m2 hj' hf.pts hf.inj _ (Nat.le_refl _))
    omega
theorem all_of_getD (f : Int → Bool) (l : List Int) (h : ∀ j, j < l.length → f (l.getD j 0) = true) : l.all f = true := by
  rw [List.all_eq_true]
  intro x hx
  obtain ⟨j, hj, e⟩ := List.getElem_of_mem hx
  have := h j hj
  rwa [List.getD_eq_getElem?_getD, List.getElem?_eq_getElem hj, Option.getD_some, e] at this
theorem open_of_fit (s : GD) (K : FD) (hf : s.fit K) (hk : fieldOk s.P s.M s.Mod = true) (hD : s.D = K.D) : s.open = 0 := by
  have h0 := hf.k0
  have h1 := hf.k1
  have h2 := hf.pl
  have h3 := hf.p1
  have h4 := hf.ml
  unfold GD.open
  rw [if_neg (by rw [hk]; decide), if_neg (by omega), if_neg (by omega), hD, if_neg (by rw [all_of_getD _ _ (fun j _ => hf.pts j)]; decide), if_neg (by rw [all_of_getD _ _ (fun j hj => (hf.mults j (by omega)).1)]; decide), if_neg ?_, if_neg ?_, if_neg (by omega), if_neg (by omega)]
  · intro hm
    obtain ⟨j, hj, e⟩ := List.getElem_of_mem hm
    refine (hf.mults j (by omega)).2 ?_
    rw [List.getD_eq_getElem?_getD, List.getElem?_eq_getElem hj, Option.getD_some, e]
  · refine fun hn => hn (List.pairwise_iff_getElem.2 fun i j hi hj hij e => ?_)
    have := hf.inj i j hi hj (by rw [List.getD_eq_getElem?_getD, List.getD_eq_getElem?_getD, List.getElem?_eq_getElem hi, List.getElem?_eq_getElem hj, Option.getD_some, Option.getD_some, e])
    omega
theorem dual_open (s : GD) (K : FD) (hf : s.fit K) (ho : s.open = 0) (hD : s.D = K.D) : (s.dual K.D).open = 0 :=
  open_of_fit _ K (dual_fit s K hf) (open_factsP s ho).1 hD

theorem results85t {fn : Func} {p u : Tmp} (h : fn.results = #[.cell p 85, .tmp u]) {a : Act} {w : World} {b : Nat} {v0 v1 : Value} (hp : a.tmps.getD p undef = .pointer (some ⟨b, 0, none⟩)) (hb : w.heap[b]? = some (.cells #[v0, v1] 85 (0, 0))) {R : Ending → World → Prop} (hd : a.defers = [])
    (hR : R (.returned (.tuple #[.agg #[v0, v1], a.tmps.getD u undef])) w) : bodyPost Try.prog fn R .ret a w := by
  have c0 := blk_cell hb 0
  have c1 := blk_cell hb 1
  simp at c0 c1
  refine bodyPost_ret (v := .tuple #[.agg #[v0, v1], a.tmps.getD u undef]) ?_ hd hR
  rw [results_cell_tmp h, hp]
  go_simp

set_option maxHeartbeats 8000000 in
set_option maxRecDepth 100000 in
theorem Generator_any {w : World} {v : Value} {s : GD} (h : GArg w v s) (K : FD) (hf : s.fit K) (ho : s.open = 0) (hD : s.D = K.D) (kn : Nat) (hk : s.K = kn) :
    Calls Try.prog 50 #[v] w fun e w' => ∃ u, e = .returned (.tuple #[.agg #[.int .i64 s.pts.length, u], .int .i64 0]) ∧ NR w' w.heap.size u (rowsZ K.D s.pts s.mults kn) ∧ Below w.heap.size w w' := by
  have HOp1 := Aside0.mk (fun (w2 : World) (hb : Below w.heap.size w w2) => open_any (h.below hb))
  have HGn1 := Aside0.mk (fun (w2 : World) (hb : Below w.heap.size w w2) (g : Nat) (hg : GFat w2 g K.D) => generator2_any (h.below hb) K hf hg kn hk)
  rw [ho] at HOp1
  have HOr : Aside0 (∀ (w2 : World) (b : Nat) (pv : Value), OpenRes w2 b pv s → ∃ g, pv = .pointer (some ⟨g, 0, none⟩) ∧ GFat w2 g K.D ∧ b ≤ g) := ⟨fun w2 b pv hr => by
    rcases hr with hh | hh
    · exact absurd ho hh.1
    · rw [hD] at hh; exact hh.2⟩
  obtain ⟨R, hR⟩ : ∃ R, rowsZ K.D s.pts s.mults kn = R := ⟨_, rfl⟩
  rw [hR] at HGn1 ⊢
  clear ho hD hf hk hR
  obtain ⟨A1, c1, A2, c2, A3, c3, rfl, -⟩ := h.out
  have hS0 := SAt.new w s A1 c1 A2 c2 A3 c3
  obtain ⟨w0, hw0⟩ : ∃ w0, w.alloc (.cells #[.int .i64 s.P, .int .i64 s.M, .slice A1 s.Mod.length c1, .int .i64 s.K, .slice A2 s.pts.length c2, .slice A3 s.mults.length c3] 29) = w0 := ⟨_, rfl⟩
  have hB0 : Below w.heap.size w w0 := by rw [← hw0]; exact below_alloc (Below.refl _ _) _
  rw [hw0] at hS0
  obtain ⟨w1, hw1⟩ : ∃ w1, w0.alloc (.cells #[.int .i64 0, .slice none 0 0] 85) = w1 := ⟨_, rfl⟩
  have hB1 : Below w0.heap.size w0 w1 := by rw [← hw1]; exact below_alloc (Below.refl _ _) _
  have hz0 : w0.heap.size = w.heap.size + 1 := by rw [← hw0]; simp
  have hz : w1.heap[w0.heap.size]? = some (.cells #[.int .i64 0, .slice none 0 0] 85 (0, 0)) := by rw [← hw1]; exact blk_new _ _
  rw [hz0] at hz
  have HB1 := Aside0.mk (below_later hB0 hB0.size hB1)
  have HS := Aside0.mk (hS0.below hB1)
  have HZb := Aside0.mk hz
  have HW0 := Aside0.mk hw0
  have HW1 := Aside0.mk hw1
  have HOp := Aside0.mk (HOp1.out w1 HB1.out)
  have HGn := Aside0.mk (fun (w2 : World) (hb : Below w1.heap.size w1 w2) => HGn1.out w2 (below_later HB1.out HB1.out.size hb))
  clear h hS0 hB0 hB1 hw0 hw1 hz hz0 HOp1 HGn1
  obtain ⟨cP, cM, cD, cK, cS, cU⟩ := HS.out
  go_enter Try.func50, Try.ntmps50
  go_upto_region 1 with (fail)
  rw [HW0.out, HW1.out]
  go_wp2_with (first
    | (go_at_call 62; (with_reducible refine Calls.mono HOp.out ?_); rintro e w2 ⟨pv, rfl, hr, hB⟩; obtain ⟨g, rfl, hgf, hgb⟩ := HOr.out _ _ _ hr; have HB2 := Aside0.mk hB; have HG2 := Aside0.mk hgf; obtain ⟨cP2, cM2, cD2, cK2, cS2, cU2⟩ := HS.out.below hB; clear hr hB hgf)
    | (go_at_call 82; (with_reducible refine Calls.mono (HGn.out _ HB2.out _ HG2.out) ?_); rintro e w3 ⟨u, rfl, hN, hB⟩; obtain ⟨AR, cR, rfl, -, -⟩ := hN.slice; have HN := Aside0.mk hN; have HB3 := Aside0.mk (below_later HB2.out HB2.out.size hB); have HZ3 := Aside0.mk (blk_below HZb.out HB3.out); have z0 := blk_cell HZ3.out 0; have z1 := blk_cell HZ3.out 1; have f0 := blk_frozen HZ3.out 0; have f1 := blk_frozen HZ3.out 1; simp at z0 z1; clear hN hB))
  have hb := blk_set (blk_set HZ3.out 0 (.int .i64 (s.pts.length : Int))) 1 (.slice AR R.length cR)
  refine results85t rfl rfl hb rfl ?_
  have hlt1 := blk_lt HZb.out
  have hlt : w.heap.size + 1 < w2.heap.size := by have := HB2.out.size; omega
  have hle : w.heap.size ≤ w.heap.size + 1 := Nat.le_succ _
  have hN := (HN.out.far (p := ⟨w.heap.size + 1, 0, none⟩) hlt (.int .i64 (s.pts.length : Int))).far (p := ⟨w.heap.size + 1, 1, none⟩) hlt (.slice AR R.length cR)
  exact ⟨_, rfl, hN.lower (by omega), ((below_later HB1.out HB1.out.size HB3.out).setCell (p := ⟨w.heap.size + 1, 0, none⟩) hle (.int .i64 (s.pts.length : Int))).setCell (p := ⟨w.heap.size + 1, 1, none⟩) hle (.slice AR R.length cR)⟩
end Go.Proofs.Yticgblagimmlfaa
end
