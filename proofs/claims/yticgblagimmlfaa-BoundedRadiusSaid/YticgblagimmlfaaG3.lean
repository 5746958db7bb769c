/- combine, the product, Sub. -/
import Derived.Test.YticgblagimmlfaaG2
import Derived.Test.YticgblagimmlfaaQT
namespace Go.Proofs.Yticgblagimmlfaa
open Go.RowKit Go.Proofs.YticgblagimmlfaaW.PrintWords Go.Proofs.YticgblagimmlfaaW.PrintLast Go.Proofs.YticgblagimmlfaaW.PrintMore
attribute [local go_sem] max2_int min2_int max_two min_two max_three min_three max_four min_four
set_option linter.unusedVariables false
set_option linter.unusedSimpArgs false

set_option maxRecDepth 100000 in
theorem combine_any {g : Nat} {D : GFD} {w : World} (h : GFat w g D) (hD : D.ok) {A B : Option Addr} {c d : Nat} {p q : List Int} (hp : Kd.C (Kd.int .i64) w A p.length p) (hq : Kd.C (Kd.int .i64) w B q.length q) (x : Int)
    (hbp : p.length ≤ 35184372088832) (hbq : q.length ≤ 35184372088832) :
    Calls Try.prog 137 #[.pointer (some ⟨g, 0, none⟩), .slice A p.length c, .int .i64 x, .slice B q.length d] w fun e w' => ∃ v, e = .returned v ∧ Own w' w.heap.size v (D.combine p x q) ∧ Below w.heap.size w w' := by
  have H := Aside0.mk h
  have HP := Aside0.mk hp
  have HQ := Aside0.mk hq
  clear h hp hq
  obtain ⟨n, hn, hcase⟩ : ∃ n, max p.length q.length = n ∧ ((p.length < q.length ∧ q.length = n) ∨ (¬ p.length < q.length ∧ p.length = n)) := ⟨_, rfl, by omega⟩
  have hnp : p.length ≤ n := by omega
  have hnq : q.length ≤ n := by omega
  obtain ⟨Z, hZ⟩ : ∃ Z : List Int, Z = List.replicate n 0 := ⟨_, rfl⟩
  obtain ⟨F, hF⟩ : ∃ F : Int → Int → Int, F = (fun _ c => D.add c 0) := ⟨_, rfl⟩
  obtain ⟨G, hG⟩ : ∃ G : Int → Int → Int, G = (fun o c => D.add o (D.mul x c)) := ⟨_, rfl⟩
  have hc : D.combine p x q = trimZ (updZ G (updZ F Z p) q) := by rw [hF, hG, hZ, ← hn]; rfl
  have hZl : Z.length = n := by rw [hZ]; simp
  rw [hc]
  have HF := Aside0.mk hF
  have HGf := Aside0.mk hG
  have HZ := Aside0.mk hZ
  have HZl := Aside0.mk hZl
  obtain ⟨Y, hY⟩ : ∃ Y, updZ F Z p = Y := ⟨_, rfl⟩
  have hYl : Y.length = n := by rw [← hY, updZ_length]; exact hZl
  rw [hY]
  have HY := Aside0.mk hY
  have HYl := Aside0.mk hYl
  clear hc hF hG hZ hZl hn hY hYl
  rcases hcase with ⟨hlt, rfl⟩ | ⟨hlt, rfl⟩
  all_goals
    go_enter Try.func137, Try.ntmps137
    go_wp2_with ((with_reducible refine gate_dst (N := 19) rfl ?_); refine make_own rfl (N := 19) rfl _ _ rfl _ rfl rfl (by first | exact hbp | exact hbq) ?_; intro v w1 hO hB; rw [← HZ.out] at hO; have HO := Aside0.mk hO; clear hO)
    go_loopw [22] (fun v22 w' => ∃ k : Nat, v22 = .int .i64 k ∧ k ≤ p.length ∧ Aside0 (Own w' w.heap.size v (updZ F Z (p.take k))) ∧ Below w.heap.size w w') (fun v22 _ => p.length - (intOf v22).toNat)
    case atStart => exact ⟨0, rfl, by omega, ⟨by simpa [updZ_nil] using HO.out⟩, hB⟩
    case round =>
      clear HO hB
      obtain ⟨k, rfl, hk, HO, hB⟩ := hrel
      have hlen : (updZ F Z (p.take k)).length = Z.length := by rw [updZ_length]
      rw [HZl.out] at hlen
      by_cases hlk : k < p.length
      · obtain ⟨ad, e, hx⟩ := C_nat (Kd.C_below HP.out hB) k hlk
        cases e
        obtain ⟨y, hy⟩ : ∃ y, p.getD k 0 = y := ⟨_, rfl⟩
        rw [hy] at hx
        have hstep := updZ_set F 0 k Z p hlk (by rw [HZl.out]; omega)
        rw [hy, show F (Z.getD k 0) y = D.add y 0 from by rw [HF.out]] at hstep
        obtain ⟨gb, cap, e, hg1, hg2⟩ := HO.out.form (by omega)
        rw [hlen] at e
        subst e
        have HO2 := Aside0.mk (HO.out.set hlen.symm k (D.add y 0))
        rw [hstep] at HO2
        obtain ⟨hcl, hfz⟩ := HO.out.cell' hlen.symm k (by omega)
        have HG := Aside0.mk (H.out.below hB)
        have hkn := Nat.lt_of_lt_of_le hlk hnp
        clear hstep hlen HO hy
        go_wp2_with (go_at_call 83; (with_reducible refine (add_any ?side1 hD _ _).mono ?_); (case side1 => exact HG.out.drawn (by repeat (first | exact Drawn0.refl _ | apply Drawn0.step))); rintro e w' ⟨rfl, ⟨n, rfl⟩⟩)
        go_roundw
        case rel => exact ⟨k + 1, by go_num, by omega, ⟨HO2.out.drewN _⟩, pw_below_drewN (hB.setCell hg1 _) _⟩
        case measure => simp [intOf]; omega
      · obtain rfl : k = p.length := by omega
        rw [List.take_length, HY.out] at HO
        clear hlen HY
        go_wp2
        go_loopw [36] (fun v36 w' => ∃ k : Nat, v36 = .int .i64 k ∧ k ≤ q.length ∧ Aside0 (Own w' w.heap.size v (updZ G Y (q.take k))) ∧ Below w.heap.size w w') (fun v36 _ => q.length - (intOf v36).toNat)
        case atStart => exact ⟨0, rfl, by omega, ⟨by simpa [updZ_nil] using HO.out⟩, hB⟩
        case round =>
          clear HO hB
          obtain ⟨k, rfl, hk, HO, hB⟩ := hrel
          have hlen : (updZ G Y (q.take k)).length = Y.length := by rw [updZ_length]
          rw [HYl.out] at hlen
          by_cases hlk : k < q.length
          · obtain ⟨ad, e, hx⟩ := C_nat (Kd.C_below HQ.out hB) k hlk
            cases e
            obtain ⟨y, hy⟩ : ∃ y, q.getD k 0 = y := ⟨_, rfl⟩
            rw [hy] at hx
            have hstep := updZ_set G 0 k Y q hlk (by rw [HYl.out]; omega)
            have hget := updZ_get G 0 k Y q
            obtain ⟨o, ho⟩ : ∃ o, Y.getD k 0 = o := ⟨_, rfl⟩
            rw [ho] at hget hstep
            rw [hy, show G o y = D.add o (D.mul x y) from by rw [HGf.out]] at hstep
            obtain ⟨gb, cap, e, hg1, hg2⟩ := HO.out.form (by omega)
            rw [hlen] at e
            subst e
            have HO2 := Aside0.mk (HO.out.set hlen.symm k (D.add o (D.mul x y)))
            rw [hstep] at HO2
            obtain ⟨hcl, hfz⟩ := HO.out.cell' hlen.symm k (by omega)
            rw [hget] at hcl
            have HG := Aside0.mk (H.out.below hB)
            have hkn := Nat.lt_of_lt_of_le hlk hnq
            clear hstep hlen HO hy ho hget
            go_wp2
            refine wp_region_quiet_tail 13 (by kernel_rfl) (by kernel_rfl) ?_
            simp only [List.take_succ_cons, List.take_zero, List.drop_succ_cons, List.drop_zero]
            repeat (first | go_big_quiet_step (first | (go_at_call 79; exact quiet_d (mul_any (HG.out.drewN _) hD _ _)) | (go_at_call 83; exact quiet_d (add_any (HG.out.drewN _) hD _ _))) | quiet_step (first | (go_at_call 79; exact quiet_d (mul_any (HG.out.drewN _) hD _ _)) | (go_at_call 83; exact quiet_d (add_any (HG.out.drewN _) hD _ _))))
            refine wpQuiet_nil ?_
            intro _ hw'
            obtain ⟨nq, hw''⟩ := hw'
            subst hw''
            go_wp2
            go_roundw
            case rel => exact ⟨k + 1, by go_num, by omega, ⟨HO2.out.drewN _⟩, pw_below_drewN (hB.setCell hg1 _) _⟩
            case measure => simp [intOf]; omega
          · obtain rfl : k = q.length := by omega
            rw [List.take_length] at HO
            obtain ⟨A', c', e, hc', hC⟩ := HO.out.slice
            subst e
            have HT := Aside0.mk (HO.out.trim)
            have HCC := Aside0.mk hC
            clear hlen hC HO
            go_wp2_with (go_at_call 122; refine (trim_any HCC.out hc').mono ?_; rintro e w' ⟨rfl, ⟨n, rfl⟩⟩)
            go_ret
            exact ⟨_, rfl, HT.out.drewN _, pw_below_drewN hB _⟩
end Go.Proofs.Yticgblagimmlfaa
