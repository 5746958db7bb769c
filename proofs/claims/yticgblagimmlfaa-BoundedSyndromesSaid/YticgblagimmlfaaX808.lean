/- The reference: Order, Is, Elements, few. The reference: Received. The reference: prime, digits. The reference: divides. The reference: irreducible. The reference: the field's Check. The reference: Check of a description. -/
import Derived.Test.YticgblagimmlfaaX806
import Derived.Test.YticgblagimmlfaaX803
import Derived.Test.YticgblagimmlfaaX804
namespace Go.Proofs.Yticgblagimmlfaa
open Go.RowKit Go.Proofs.YticgblagimmlfaaW.PrintWords Go.Proofs.YticgblagimmlfaaW.PrintLast Go.Proofs.YticgblagimmlfaaW.PrintMore
set_option linter.unusedVariables false
set_option linter.unusedSimpArgs false

set_option maxRecDepth 100000 in
theorem refOrder_any {w : World} {A : Option Addr} {n c : Nat} (P M : Int) :
    Calls Try.prog 70 #[.agg #[.int .i64 P, .int .i64 M, .slice A n c]] w fun e w' => e = .returned (.int .i64 (orderZ P M)) ∧ Below w.heap.size w w' := by
  have hF0 := FAt.new w P M A n c
  obtain ⟨w0, hw0⟩ : ∃ w0, w.alloc (.cells #[.int .i64 P, .int .i64 M, .slice A n c] 27) = w0 := ⟨_, rfl⟩
  have hB0 : Below w.heap.size w w0 := by rw [← hw0]; exact below_alloc (Below.refl _ _) _
  rw [hw0] at hF0
  have HB0 := Aside0.mk hB0
  have HW := Aside0.mk hw0
  have HF := Aside0.mk hF0
  clear hF0 hB0 hw0
  by_cases hb : P < 2 ∨ M < 1 ∨ M > 8
  · have e : orderZ P M = 0 := by unfold orderZ; rw [if_pos (by omega)]
    rw [e]
    clear e
    by_cases h1 : P < 2
    · clear hb
      go_enter Try.func70, Try.ntmps70
      go_upto_region 1 with (fail)
      rw [HW.out]
      have cP := HF.out.p
      have cM := HF.out.m
      go_wp2
      go_ret
      exact ⟨rfl, HB0.out⟩
    · by_cases h3 : M < 1
      · clear hb
        go_enter Try.func70, Try.ntmps70
        go_upto_region 1 with (fail)
        rw [HW.out]
        have cP := HF.out.p
        have cM := HF.out.m
        go_wp2
        go_ret
        exact ⟨rfl, HB0.out⟩
      · have h4 : 8 < M := by omega
        clear hb
        go_enter Try.func70, Try.ntmps70
        go_upto_region 1 with (fail)
        rw [HW.out]
        have cP := HF.out.p
        have cM := HF.out.m
        go_wp2
        go_ret
        exact ⟨rfl, HB0.out⟩
  · have h1 : 2 ≤ P := by omega
    have h3 : 1 ≤ M := by omega
    have h4 : M ≤ 8 := by omega
    obtain ⟨m, hn⟩ := Int.eq_ofNat_of_zero_le (by omega : 0 ≤ M)
    have e := orderZ_loop P M h1 m hn (by omega) (by omega)
    subst hn
    obtain ⟨R, hR⟩ : ∃ R, ordLoop P m 1 = R := ⟨_, rfl⟩
    rw [e, hR]
    have HR := Aside0.mk hR
    have hPz : (P == 0) = false := by simp only [beq_eq_false_iff_ne]; omega
    obtain ⟨t, ht⟩ : ∃ t, (256 : Int) / P = t := ⟨_, rfl⟩
    have ht0 : 0 ≤ t := by rw [← ht]; exact Int.ediv_nonneg (by omega) (by omega)
    have ht1 : t ≤ 128 := by rw [← ht]; exact Int.le_trans (Int.ediv_le_of_le_mul (by omega) (by omega : (256 : Int) ≤ 128 * P)) (Int.le_refl _)
    have e2 : Int.tdiv 256 P = t := by rw [← ht]; exact Int.tdiv_eq_ediv_of_nonneg (by omega)
    have HTq : Aside0 (∀ q : Int, q > t ↔ q * P > 256) := ⟨fun q => by
      rw [← ht]
      constructor
      · intro h
        have := (Int.ediv_lt_iff_lt_mul (by omega : 0 < P)).1 h
        exact this
      · intro h
        exact (Int.ediv_lt_iff_lt_mul (by omega : 0 < P)).2 h⟩
    clear e hb hR ht
    go_enter Try.func70, Try.ntmps70
    go_upto_region 1 with (fail)
    rw [HW.out]
    have cP := HF.out.p
    have cM := HF.out.m
    go_wp2
    go_loop [3, 4] (fun v3 v4 => ∃ (k : Nat) (q : Int), v4 = .int .i64 k ∧ v3 = .int .i64 q ∧ k ≤ m ∧ 1 ≤ q ∧ q ≤ 256 ∧ Aside0 (ordLoop P (m - k) q = R)) (fun _ v4 => m - (intOf v4).toNat)
    case atStart => exact ⟨0, 1, rfl, rfl, by omega, by omega, by omega, HR⟩
    case round =>
      clear HR
      obtain ⟨k, q, rfl, rfl, hk, hq1, hq2, HR⟩ := hrel
      by_cases hlt : k < m
      · have hr := HR.out
        rw [show m - k = (m - (k + 1)) + 1 from by omega] at hr
        simp only [ordLoop] at hr
        have hm2 : 1 * 1 ≤ q * P := Int.mul_le_mul hq1 (by omega) (by omega) (by omega)
        have htq := HTq.out q
        by_cases hc : q > t
        · rw [if_pos (htq.1 hc)] at hr
          subst hr
          clear HR htq
          go_wp2
          go_ret
          exact ⟨rfl, HB0.out⟩
        · have hle : q * P ≤ 256 := by
            have : ¬ q * P > 256 := fun h => hc (htq.2 h)
            omega
          rw [if_neg (by omega)] at hr
          have HR2 := Aside0.mk hr
          clear hr HR htq
          go_wp2
          go_round
          case rel => exact ⟨k + 1, q * P, by go_num, by go_num, by omega, by omega, by omega, HR2⟩
          case measure => simp [intOf]; omega
      · obtain rfl : k = m := by omega
        have hr := HR.out
        rw [Nat.sub_self] at hr
        simp only [ordLoop] at hr
        subst hr
        clear HR
        go_wp2
        go_ret
        exact ⟨rfl, HB0.out⟩

set_option maxRecDepth 100000 in
theorem refIs_any {w : World} {A : Option Addr} {n c : Nat} (P M x : Int) :
    Calls Try.prog 43 #[.agg #[.int .i64 P, .int .i64 M, .slice A n c], .int .i64 x] w fun e w' => e = .returned (.bool (isR P M x)) ∧ Below w.heap.size w w' := by
  have hF0 := FAt.new w P M A n c
  obtain ⟨w0, hw0⟩ : ∃ w0, w.alloc (.cells #[.int .i64 P, .int .i64 M, .slice A n c] 27) = w0 := ⟨_, rfl⟩
  have hB0 : Below w.heap.size w w0 := by rw [← hw0]; exact below_alloc (Below.refl _ _) _
  rw [hw0] at hF0
  have HB0 := Aside0.mk hB0
  have HW := Aside0.mk hw0
  have HF := Aside0.mk hF0
  have HO := fun (w1 : World) => Aside0.mk (refOrder_any (w := w1) (A := A) (n := n) (c := c) P M)
  obtain ⟨q, hq⟩ : ∃ q, orderZ P M = q := ⟨_, rfl⟩
  obtain ⟨R, hR⟩ : ∃ R, isR P M x = R := ⟨_, rfl⟩
  rw [hR]
  unfold isR at hR
  rw [hq] at HO hR
  have HO := Aside0.mk HO
  clear hF0 hB0 hw0 hq
  by_cases h0 : 0 ≤ x
  · by_cases h1 : x < q
    · have : true = R := by rw [← hR]; exact (decide_eq_true ⟨h0, h1⟩).symm
      subst this
      clear hR
      go_enter Try.func43, Try.ntmps43
      go_upto_region 1 with (fail)
      rw [HW.out]
      have cP := HF.out.p
      have cM := HF.out.m
      have cD := HF.out.mod
      go_wp2_with (go_at_call 70; refine (HO.out _).out.mono ?_; rintro e w1 ⟨rfl, hB⟩; have HB1 := Aside0.mk (below_later HB0.out HB0.out.size hB); clear hB)
      go_ret
      exact ⟨by first | rfl | (simp; done) | (simp; omega), HB1.out⟩
    · have : false = R := by rw [← hR]; exact (decide_eq_false (fun h => h1 h.2)).symm
      subst this
      clear hR
      go_enter Try.func43, Try.ntmps43
      go_upto_region 1 with (fail)
      rw [HW.out]
      have cP := HF.out.p
      have cM := HF.out.m
      have cD := HF.out.mod
      go_wp2_with (go_at_call 70; refine (HO.out _).out.mono ?_; rintro e w1 ⟨rfl, hB⟩; have HB1 := Aside0.mk (below_later HB0.out HB0.out.size hB); clear hB)
      go_ret
      exact ⟨by first | rfl | (simp; done) | (simp; omega), HB1.out⟩
  · have : false = R := by rw [← hR]; exact (decide_eq_false (fun h => h0 h.1)).symm
    subst this
    clear hR
    go_enter Try.func43, Try.ntmps43
    go_upto_region 1 with (fail)
    rw [HW.out]
    have cP := HF.out.p
    have cM := HF.out.m
    have cD := HF.out.mod
    go_wp2_with (go_at_call 70; refine (HO.out _).out.mono ?_; rintro e w1 ⟨rfl, hB⟩; have HB1 := Aside0.mk (below_later HB0.out HB0.out.size hB); clear hB)
    go_ret
    exact ⟨by first | rfl | (simp; done) | (simp; omega), HB0.out⟩

set_option maxHeartbeats 4000000 in
set_option maxRecDepth 100000 in
theorem refElements_any {w : World} {A B : Option Addr} {n c d : Nat} (P M : Int) {l : List Int} (hl : Kd.C (Kd.int .i64) w B l.length l) (m : Nat) (hm : m ≤ 9223372036854775807) (len : Int) :
    Calls Try.prog 19 #[.agg #[.int .i64 P, .int .i64 M, .slice A n c], .slice B l.length d, .int .i64 m, .int .i64 len] w fun e w' => e = .returned (.int .i64 (elemsZ (isR P M) l m len)) ∧ Below w.heap.size w w' := by
  have hF0 := FAt.new w P M A n c
  obtain ⟨w0, hw0⟩ : ∃ w0, w.alloc (.cells #[.int .i64 P, .int .i64 M, .slice A n c] 27) = w0 := ⟨_, rfl⟩
  have hB0 : Below w.heap.size w w0 := by rw [← hw0]; exact below_alloc (Below.refl _ _) _
  rw [hw0] at hF0
  have HB0 := Aside0.mk hB0
  have HW := Aside0.mk hw0
  have HF := Aside0.mk hF0
  have HL := Aside0.mk (Kd.C_below hl hB0)
  have hmx := Kd.C_max hl
  have HI := Aside0.mk (fun (w1 : World) (x : Int) => refIs_any (w := w1) (A := A) (n := n) (c := c) P M x)
  obtain ⟨f, hf⟩ : ∃ f, isR P M = f := ⟨_, rfl⟩
  rw [hf] at HI ⊢
  obtain ⟨R, hR⟩ : ∃ R, elemsZ f l m len = R := ⟨_, rfl⟩
  rw [hR]
  unfold elemsZ at hR
  clear hF0 hB0 hw0 hf hl
  by_cases h1 : l.length ≠ m
  · rw [if_pos h1] at hR
    subst hR
    have hb : ((l.length : Int) != (m : Int)) = true := by simp only [bne_iff_ne, ne_eq]; omega
    clear h1
    go_enter Try.func19, Try.ntmps19
    go_upto_region 1 with (fail)
    rw [HW.out]
    go_wp2
    go_ret
    exact ⟨rfl, HB0.out⟩
  · rw [if_neg h1] at hR
    have h1' : l.length = m := Classical.not_not.1 h1
    have hb : ((l.length : Int) != (m : Int)) = false := by simp [h1']
    have HR := Aside0.mk hR
    have HN := Aside0.mk h1'
    have HBz := Aside0.mk (Below.refl w0.heap.size w0)
    clear hR h1 h1'
    go_enter Try.func19, Try.ntmps19
    go_upto_region 1 with (fail)
    rw [HW.out]
    go_wp2
    go_loopw [9] (fun v9 w' => ∃ k : Nat, v9 = .int .i64 k ∧ k ≤ m ∧ Aside0 ((l.take k).all f = true) ∧ Aside0 (Below w0.heap.size w0 w')) (fun v9 _ => m - (intOf v9).toNat)
    case atStart => exact ⟨0, rfl, by omega, ⟨rfl⟩, HBz⟩
    case round =>
      clear HBz
      obtain ⟨k, rfl, hk, HT, HB⟩ := hrel
      by_cases hlk : k < m
      · have hlk2 : k < l.length := by rw [HN.out]; exact hlk
        obtain ⟨ad, e, hx⟩ := C_nat (Kd.C_below HL.out HB.out) k hlk2
        cases e
        have hs := all_take_succ f l k hlk2
        obtain ⟨x, hx'⟩ : ∃ x, l.getD k 0 = x := ⟨_, rfl⟩
        rw [hx'] at hx hs
        rw [HT.out, Bool.true_and] at hs
        have hF1 := HF.out.below HB.out
        have cP := hF1.p
        have cM := hF1.m
        have cD := hF1.mod
        cases hb : f x with
        | true =>
          have HI1 := Aside0.mk (fun (w1 : World) => by have q := HI.out w1 x; rw [hb] at q; exact q)
          rw [hb] at hs
          have HT2 := Aside0.mk hs
          clear hx' hs HT hb hF1
          go_wp2
          go_region_held3 (fun w' => w'.cell? ⟨w.heap.size, 0, none⟩ = some (.int .i64 P) ∧ w'.cell? ⟨w.heap.size, 1, none⟩ = some (.int .i64 M) ∧ w'.cell? ⟨w.heap.size, 2, none⟩ = some (.slice A n c) ∧ w'.cell? (ad.add k) = some (.int .i64 x)) (first | exact ⟨‹_›, ‹_›, ‹_›, ‹_›⟩ | go_keep)
            (first
              | (go_at_call 43; refine (HI1.out _).mono ?_; rintro e w1 ⟨rfl, hB0⟩; have hB : Below wr.heap.size wr w1 := (by first | exact hB0 | exact Below.trans (below_drew (Below.refl _ _)) hB0); have HB1 := Aside0.mk (below_later HB.out HB.out.size hB); have cP1 := pw_cell_below hB cP; have cM1 := pw_cell_below hB cM; have cD1 := pw_cell_below hB cD; have hx1 := pw_cell_below hB hx; clear hB hB0))
          all_goals go_wp2
          all_goals go_roundw
          all_goals first
            | exact ⟨k + 1, by go_num, by omega, HT2, HB1⟩
            | (simp [intOf]; omega)
        | false =>
          have HI1 := Aside0.mk (fun (w1 : World) => by have q := HI.out w1 x; rw [hb] at q; exact q)
          rw [hb] at hs
          have hff := all_of_take f l (k + 1) hs
          have hRf : (2 : Int) = R := by rw [← HR.out, if_pos hff]
          subst hRf
          clear hx' hs HT hb hff HR hF1
          go_wp2
          go_region_held3 (fun w' => w'.cell? ⟨w.heap.size, 0, none⟩ = some (.int .i64 P) ∧ w'.cell? ⟨w.heap.size, 1, none⟩ = some (.int .i64 M) ∧ w'.cell? ⟨w.heap.size, 2, none⟩ = some (.slice A n c) ∧ w'.cell? (ad.add k) = some (.int .i64 x)) (first | exact ⟨‹_›, ‹_›, ‹_›, ‹_›⟩ | go_keep)
            (first
              | (go_at_call 43; refine (HI1.out _).mono ?_; rintro e w1 ⟨rfl, hB0⟩; have hB : Below wr.heap.size wr w1 := (by first | exact hB0 | exact Below.trans (below_drew (Below.refl _ _)) hB0); have HB1 := Aside0.mk (below_later HB.out HB.out.size hB); have cP1 := pw_cell_below hB cP; have cM1 := pw_cell_below hB cM; have cD1 := pw_cell_below hB cD; have hx1 := pw_cell_below hB hx; clear hB hB0))
          all_goals go_wp2
          all_goals go_ret
          all_goals exact ⟨rfl, below_later HB0.out HB0.out.size HB1.out⟩
      · obtain rfl : k = m := by omega
        rw [← HN.out, List.take_length] at HT
        have hR2 := HR.out
        rw [if_neg (by rw [HT.out]; simp)] at hR2
        subst hR2
        clear HR HT
        go_wp2
        go_ret
        exact ⟨rfl, below_later HB0.out HB0.out.size HB.out⟩
end Go.Proofs.Yticgblagimmlfaa

namespace Go.Proofs.Yticgblagimmlfaa
open Go.RowKit Go.Proofs.YticgblagimmlfaaW.PrintWords Go.Proofs.YticgblagimmlfaaW.PrintLast Go.Proofs.YticgblagimmlfaaW.PrintMore
set_option linter.unusedVariables false
set_option linter.unusedSimpArgs false

end Go.Proofs.Yticgblagimmlfaa

namespace Go.Proofs.Yticgblagimmlfaa
open Go.RowKit Go.Proofs.YticgblagimmlfaaW.PrintWords Go.Proofs.YticgblagimmlfaaW.PrintLast Go.Proofs.YticgblagimmlfaaW.PrintMore
set_option linter.unusedVariables false
set_option linter.unusedSimpArgs false

theorem refPrime_any (n : Int) (hn0 : 2 ≤ n) (hn1 : n ≤ 256) (w : World) : Calls Try.prog 71 #[.int .i64 n] w fun e w' => e = .returned (.bool (primeR n)) ∧ w = w' := by
  obtain ⟨R, hR⟩ : ∃ R, primeR n = R := ⟨_, rfl⟩
  rw [hR]
  have HR := Aside0.mk (show noDiv n (n - 2).toNat 2 = R from hR)
  clear hR
  go_enter Try.func71, Try.ntmps71
  go_wp2
  go_loop [3] (fun v3 => ∃ (d : Int) (k : Nat), v3 = .int .i64 d ∧ 2 ≤ d ∧ d ≤ n ∧ Aside0 (d + k = n) ∧ Aside0 (noDiv n k d = R)) (fun v3 => (n - intOf v3).toNat)
  case atStart => exact ⟨2, _, rfl, by omega, hn0, ⟨by omega⟩, HR⟩
  case round =>
    clear HR
    obtain ⟨d, k, rfl, hd1, hd2, hdk, HR⟩ := hrel
    have hr := HR.out
    by_cases hlt : d < n
    · obtain ⟨j, hj⟩ : ∃ j, k = j + 1 := ⟨k - 1, by have := hdk.out; omega⟩
      subst hj
      simp only [noDiv] at hr
      obtain ⟨md, hmd⟩ : ∃ x, n % d = x := ⟨_, rfl⟩
      have e2 : n.tmod d = md := by rw [← hmd]; exact Int.tmod_eq_emod_of_nonneg (by omega)
      have e3 : (d == 0) = false := by simp only [beq_eq_false_iff_ne]; omega
      rw [hmd] at hr
      by_cases hz : md = 0
      · rw [if_pos hz] at hr
        subst hr hz
        clear hmd HR
        go_wp2
        go_ret
        exact ⟨rfl, rfl⟩
      · rw [if_neg hz] at hr
        have HR2 := Aside0.mk hr
        have hzb : (md == 0) = false := by simp [hz]
        clear hmd HR hr
        go_wp2
        go_round
        case rel => exact ⟨d + 1, j, by go_num, by omega, by omega, ⟨by have := hdk.out; omega⟩, HR2⟩
        case measure => simp [intOf]; omega
    · obtain rfl : d = n := by omega
      have hk0 : k = 0 := by have := hdk.out; omega
      subst hk0
      simp only [noDiv] at hr
      subst hr
      clear HR
      go_wp2
      go_ret
      exact ⟨rfl, rfl⟩

theorem refDigits_any (x P : Int) (M : Nat) (hx0 : 0 ≤ x) (hx1 : x ≤ 1000000) (hP : 2 ≤ P) (hM : M ≤ 1000) (w : World) :
    Calls Try.prog 109 #[.int .i64 x, .int .i64 P, .int .i64 M] w fun e w' => ∃ v, e = .returned v ∧ Own w' w.heap.size v (digs P M x) ∧ Below w.heap.size w w' := by
  obtain ⟨R, hR⟩ : ∃ R, digs P M x = R := ⟨_, rfl⟩
  have hRl := digs_length P M x
  rw [hR] at hRl
  rw [hR]
  have HR := Aside0.mk hR
  have HRl := Aside0.mk hRl
  have hPz : (P == 0) = false := by simp only [beq_eq_false_iff_ne]; omega
  clear hR hRl
  go_enter Try.func109, Try.ntmps109
  go_wp2_with ((with_reducible refine gate_dst (N := 10) rfl ?_); refine make_own (n := M) rfl (N := 10) rfl _ _ rfl rfl rfl (by omega) ?_; intro v w1 hO hB; obtain ⟨A1, c1, rfl, hc1, hC1⟩ := hO.slice; have HO := Aside0.mk hO; have HBl := Aside0.mk hB; clear hO hB hC1)
  go_loopw [0, 8] (fun v0 v13 w' => ∃ (k : Nat) (y : Int) (dn : List Int), v13 = .int .i64 k ∧ v0 = .int .i64 y ∧ k ≤ M ∧ 0 ≤ y ∧ y ≤ 1000000 ∧ Aside0 (dn.length = k) ∧ Aside0 (dn ++ digs P (M - k) y = R) ∧ Aside0 (Own w' w.heap.size (.slice A1 M c1) (dn ++ List.replicate (M - k) 0)) ∧ Aside0 (Below w.heap.size w w')) (fun _ v13 _ => M - (intOf v13).toNat)
  case atStart => exact ⟨0, x, [], rfl, rfl, by omega, hx0, hx1, ⟨rfl⟩, HR, ⟨by simpa using HO.out⟩, HBl⟩
  case round =>
    clear HO HBl HR
    obtain ⟨k, y, dn, rfl, rfl, hk, hy0, hy1, Hdl, HR, HO, HB⟩ := hrel
    have hol : (dn ++ List.replicate (M - k) (0 : Int)).length = M := by rw [List.length_append, Hdl.out, List.length_replicate]; omega
    by_cases hlt : k < M
    · have hr := HR.out
      obtain ⟨m, hm⟩ : ∃ m, M - k = m + 1 := ⟨M - k - 1, by omega⟩
      have hm2 : M - (k + 1) = m := by omega
      rw [hm] at hr HO hol
      simp only [digs] at hr
      have hdiv : y / P ≤ y := Int.ediv_le_self _ hy0
      have hdiv0 : 0 ≤ y / P := Int.ediv_nonneg hy0 (by omega)
      have hr2 : (dn ++ [y % P]) ++ digs P (M - (k + 1)) (y / P) = R := by rw [hm2, List.append_assoc]; exact hr
      have HR2 := Aside0.mk hr2
      have Hdl2 : Aside0 ((dn ++ [y % P]).length = k + 1) := ⟨by rw [List.length_append, Hdl.out]; rfl⟩
      obtain ⟨g, cap, eg, hg1, hg2⟩ := HO.out.form (by omega)
      rw [hol] at eg
      cases eg
      obtain ⟨hcl, hfz⟩ := HO.out.cell' hol.symm k hlt
      have HO2 := Aside0.mk (HO.out.set hol.symm k (y % P))
      have hsn := snoc_set_replicate dn m (y % P)
      rw [Hdl.out] at hsn
      rw [hsn, ← hm2] at HO2
      clear hr hr2 hm hm2 hol HO hsn HR Hdl
      go_wp2
      go_roundw
      case rel => exact ⟨k + 1, y / P, _, by go_num, rfl, by omega, hdiv0, by omega, Hdl2, HR2, HO2, ⟨HB.out.setCell (p := ⟨g, k, none⟩) hg1 _⟩⟩
      case measure => simp [intOf]; omega
    · obtain rfl : k = M := by omega
      rw [Nat.sub_self] at HR HO
      have hr := HR.out
      simp only [digs, List.append_nil] at hr
      subst hr
      simp only [List.replicate_zero, List.append_nil] at HO
      clear HR hol
      go_wp2
      go_ret
      exact ⟨_, rfl, HO.out, HB.out⟩
end Go.Proofs.Yticgblagimmlfaa

namespace Go.Proofs.Yticgblagimmlfaa
open Go.RowKit Go.Proofs.YticgblagimmlfaaW.PrintWords Go.Proofs.YticgblagimmlfaaW.PrintLast Go.Proofs.YticgblagimmlfaaW.PrintMore
set_option linter.unusedVariables false
set_option linter.unusedSimpArgs false

section
variable {ops : Array Oper} {rest : List Oper} {o : Oper} {a : Act} {Q : Exit → Act → World → Prop}
/-- append(own row, a list that is read). -/
theorem append_list {w0 W : World} (hgd : o.guard = none) (s x : Operand) (ho : o.op = .call { callee := .builtin .append, args := #[s, x], argTypes := #[25, 25] })
    {base : Nat} {v : Value} {xs ys : List Int} {A : Option Addr} {c : Nat} (hs : a.eval s = v) (hx : a.eval x = .slice A ys.length c) (HO : Own W base v xs) (hbase : base ≤ W.heap.size) (HR : Kd.C (Kd.int .i64) W A ys.length ys) (HB : Below base w0 W) (hl : xs.length + ys.length ≤ 1000000000000)
    (h : ∀ v1 w1, Own w1 base v1 (xs ++ ys) → Below base w0 w1 → wpList Try.prog ops Q rest (a.put o.dst v1) w1) :
    wpList Try.prog ops Q (o :: rest) a W := by
  refine Kd.R_append_rows (Kd.int .i64) (w0 := w0) base hgd s x 25 3 (.int .i64 0) 8 ho Try.underlying25 info3 rfl (by decide) (by omega) v xs ys A ys.length c (fun _ => True) (fun _ => False) hs hx HO.out HR (fun x cs hK => hK) (fun _ hk => hk.elim) (fun _ _ => trivial) HB hbase (by omega) ?_
  intro v1 w1 h1 h2 _ _
  exact h v1 w1 ⟨h1⟩ h2
end

set_option maxHeartbeats 4000000 in
set_option maxRecDepth 100000 in
theorem refDivides_any {w : World} {A B : Option Addr} {c d : Nat} (P : Int) (hP : 2 ≤ P) (hP2 : P ≤ 256) {low mod : List Int} (ha : Kd.C (Kd.int .i64) w A low.length low) (hb : Kd.C (Kd.int .i64) w B mod.length mod) (h1 : low.length ≤ 1000) (h2 : mod.length ≤ 1000)
    (hm1 : ∀ d ∈ low, 0 ≤ d ∧ d < P) (hm2 : ∀ d ∈ mod, 0 ≤ d ∧ d < P) :
    Calls Try.prog 108 #[.slice A low.length c, .slice B mod.length d, .int .i64 P] w fun e w' => e = .returned (.bool (dividesZ P low mod)) ∧ Below w.heap.size w w' := by
  have HA := Aside0.mk ha
  have HBm := Aside0.mk hb
  have HM1 := Aside0.mk hm1
  have HM2 := Aside0.mk hm2
  have HB0 := Aside0.mk (Below.refl w.heap.size w)
  have HLit := Aside0.mk (own_lit0 w)
  have HC := Aside0.mk (Kd.C_below hb (below_alloc (Below.refl _ _) (.cells #[] 3)))
  have HBa := Aside0.mk (below_alloc (Below.refl w.heap.size w) (.cells #[] 3))
  obtain ⟨R, hR⟩ : ∃ R, dividesZ P low mod = R := ⟨_, rfl⟩
  rw [hR]
  unfold dividesZ at hR
  have HR := Aside0.mk hR
  have hPz : (P == 0) = false := by simp only [beq_eq_false_iff_ne]; omega
  clear hR ha hb hm1 hm2
  go_enter Try.func108, Try.ntmps108
  go_wp2_with (first
    | ((with_reducible refine gate_builtin (b := .append) (xs := #[.tmp 15, .tmp 16]) rfl ?_); at_builtin; refine append_list (w0 := w) (base := w.heap.size) rfl (.tmp 15) (.tmp 16) rfl rfl rfl HLit.out HBa.out.size HC.out HBa.out (by simp; omega) ?_; intro v5 w5 h5 hb5; rw [List.nil_append] at h5; obtain ⟨A5, c5, rfl, -, -⟩ := h5.slice; have HO5 := Aside0.mk h5; have HB5 := Aside0.mk hb5; clear h5 hb5)
    | ((with_reducible refine gate_builtin (b := .append) (xs := #[.tmp 18, .tmp 19]) rfl ?_); at_builtin; refine append_own (w0 := w5) w.heap.size rfl (.tmp 18) (.tmp 19) rfl (v := .slice A5 mod.length c5) (xs := mod) 1 rfl rfl HO5.out (Below.refl _ _) HB5.out.size (by omega) ?_; intro v6 w6 h6 hb6 _; obtain ⟨A6, c6, e6, -, -⟩ := h6.slice; rw [show (mod ++ [(1 : Int)]).length = mod.length + 1 from by simp] at e6; subst e6; have HO6 := Aside0.mk h6; have HB6 := Aside0.mk (Below.trans HB5.out hb6); clear h6 hb6))
  have hr0 : ∀ d ∈ mod ++ [(1 : Int)], 0 ≤ d ∧ d < P := by
    intro d hd
    rcases List.mem_append.1 hd with hd | hd
    · exact HM2.out d hd
    · simp only [List.mem_singleton] at hd; omega
  have Hr0 := Aside0.mk hr0
  have HRl : Aside0 ((mod ++ [(1 : Int)]).length = mod.length + 1) := ⟨by simp⟩
  obtain ⟨F, hF⟩ : ∃ F, divRun P low (mod.length + 1 - low.length) (mod ++ [1]) = F := ⟨_, rfl⟩
  rw [hF] at HR
  have HF : Aside0 (divRun P low ((mod.length : Int) + 1 - low.length).toNat (mod ++ [1]) = F) := ⟨by rw [show ((mod.length : Int) + 1 - low.length).toNat = mod.length + 1 - low.length from by omega]; exact hF⟩
  obtain ⟨r0, hr0e⟩ : ∃ r0, mod ++ [(1 : Int)] = r0 := ⟨_, rfl⟩
  rw [hr0e] at HF Hr0 HRl HO6
  clear hr0 hF hr0e HLit HBa HC HB0 HO5
  go_loopw [9] (fun v9 w' => ∃ (i : Int) (r : List Int), v9 = .int .i64 i ∧ -1 ≤ i ∧ i ≤ mod.length ∧ Aside0 (r.length = mod.length + 1) ∧ Aside0 (∀ d ∈ r, 0 ≤ d ∧ d < P) ∧ Aside0 (divRun P low (i + 1 - low.length).toNat r = F) ∧
    Aside0 (Own w' w.heap.size (.slice A6 (mod.length + 1) c6) r) ∧ Aside0 (Below w.heap.size w w')) (fun v9 _ => (intOf v9 + 1).toNat)
  case atStart => exact ⟨mod.length, r0, by go_num, by omega, by omega, HRl, Hr0, HF, HO6, HB6⟩
  case round =>
    clear HRl Hr0 HF HO6 HB6
    obtain ⟨i, r, rfl, hi1, hi2, Hrl, Hr, HF, HO, HB⟩ := hrel
    by_cases hlt : (low.length : Int) ≤ i
    · obtain ⟨iN, rfl⟩ := Int.eq_ofNat_of_zero_le (by omega : 0 ≤ i)
      obtain ⟨kk, hkk⟩ : ∃ kk, iN = low.length + kk := ⟨iN - low.length, by omega⟩
      have hf := HF.out
      rw [show ((iN : Int) + 1 - low.length).toNat = kk + 1 from by omega] at hf
      simp only [divRun] at hf
      rw [← hkk] at hf
      have hiR : iN < r.length := by have := Hrl.out; omega
      have hcr := getD_range P hP r Hr.out iN
      have hmemS := divStep_mem P hP low r iN Hr.out
      have hlenS := divStep_length P low r iN
      obtain ⟨cc, hcc⟩ : ∃ cc, r.getD iN 0 = cc := ⟨_, rfl⟩
      have hds : divStep P low r iN = (updAt (fun o b => (o + (P - cc) * b) % P) kk r low).set iN 0 := by unfold divStep; rw [hcc, show iN - low.length = kk from by omega]
      obtain ⟨G, hG⟩ : ∃ G : Int → Int → Int, (fun o b => (o + (P - cc) * b) % P) = G := ⟨_, rfl⟩
      rw [hG] at hds
      rw [hds] at hf hmemS hlenS
      obtain ⟨gb, cap, eg, hg1, hg2⟩ := HO.out.form (by omega)
      rw [Hrl.out] at eg
      cases eg
      obtain ⟨hcl, hfz⟩ := HO.out.cell' Hrl.out.symm iN (by omega)
      rw [hcc] at hcl hcr
      have Hf2 : Aside0 (divRun P low ((iN : Int) - 1 + 1 - low.length).toNat ((updAt G kk r low).set iN 0) = F) := ⟨by rw [show ((iN : Int) - 1 + 1 - low.length).toNat = kk from by omega]; exact hf⟩
      have HmS := Aside0.mk hmemS
      have HlS := Aside0.mk hlenS
      have HG := Aside0.mk hG
      have HKK := Aside0.mk hkk
      clear hf hmemS hlenS hds hG hcc HF hkk
      go_wp2
      obtain ⟨wo, hwo⟩ : ∃ wo : World, wr = wo := ⟨_, rfl⟩
      subst hwo
      go_loopw [11] (fun v11 w' => ∃ (j : Nat), v11 = .int .i64 j ∧ j ≤ low.length ∧ Aside0 (Own w' w.heap.size (.slice (some ⟨gb, 0, none⟩) (mod.length + 1) c6) (updAt G kk r (low.take j))) ∧ Aside0 (Below w.heap.size w w')) (fun v11 _ => low.length - (intOf v11).toNat)
      case atStart => exact ⟨0, rfl, by omega, ⟨by simpa [updAt_nil] using HO.out⟩, HB⟩
      case round =>
        clear HO HB hcl hfz
        obtain ⟨j, rfl, hj, HO, HB⟩ := hrel
        have hlen : (updAt G kk r (low.take j)).length = mod.length + 1 := by rw [updAt_length]; exact Hrl.out
        by_cases hlj : j < low.length
        · have hkj : kk + j < mod.length + 1 := by have := HKK.out; omega
          obtain ⟨ad2, e, hx2⟩ := C_nat (Kd.C_below HA.out HB.out) j hlj
          cases e
          have hzr := getD_range P hP low HM1.out j
          obtain ⟨z, hz⟩ : ∃ z, low.getD j 0 = z := ⟨_, rfl⟩
          rw [hz] at hx2 hzr
          have hstep := updAt_set G 0 kk j r low hlj (by rw [Hrl.out]; omega)
          have hget := updAt_get G 0 kk j r low (by rw [Hrl.out]; omega)
          have hor := getD_range P hP r Hr.out (kk + j)
          obtain ⟨o, ho⟩ : ∃ o, r.getD (kk + j) 0 = o := ⟨_, rfl⟩
          rw [ho] at hget hstep hor
          obtain ⟨pr, hpr⟩ : ∃ pr, (P - cc) * z = pr := ⟨_, rfl⟩
          have hpr0 : 0 ≤ pr := by rw [← hpr]; exact Int.mul_nonneg (by omega) (by omega)
          have hpr1 : pr ≤ 256 * 256 := by rw [← hpr]; exact Int.mul_le_mul (by omega) (by omega) (by omega) (by omega)
          rw [hz, show G o z = (o + (P - cc) * z) % P from by rw [← HG.out], hpr] at hstep
          obtain ⟨u, hu⟩ : ∃ u, (o + pr) % P = u := ⟨_, rfl⟩
          rw [hu] at hstep
          have HO2 := Aside0.mk (HO.out.set hlen.symm (kk + j) u)
          rw [hstep] at HO2
          obtain ⟨hcl, hfz⟩ := HO.out.cell' hlen.symm (kk + j) hkj
          rw [hget] at hcl
          have e1 : IntKind.i64.wrap ((iN : Int) - (low.length : Int)) = (kk : Int) := by rw [w64 _ (by omega) (by omega)]; have := HKK.out; omega
          have e2 : IntKind.i64.wrap ((kk : Int) + (j : Int)) = (kk : Int) + (j : Int) := w64 _ (by omega) (by omega)
          have e3 : ((kk : Int) + (j : Int)).toNat = kk + j := by omega
          have e4 : 0 ≤ (kk : Int) + (j : Int) := by omega
          have e5 : (kk : Int) + (j : Int) < ((mod.length + 1 : Nat) : Int) := by omega
          have e6 : IntKind.i64.wrap (P - cc) = P - cc := w64 _ (by omega) (by omega)
          have e7 : IntKind.i64.wrap ((P - cc) * z) = pr := by rw [hpr]; exact w64 _ (by omega) (by omega)
          have e8 : IntKind.i64.wrap (o + pr) = o + pr := w64 _ (by omega) (by omega)
          have e9 : Int.tmod (o + pr) P = u := by rw [Int.tmod_eq_emod_of_nonneg (by omega)]; exact hu
          clear hstep hlen HO hz ho hget hpr hu
          go_wp2
          refine wp_region_quiet_tail 26 (by kernel_rfl) (by kernel_rfl) ?_
          simp only [List.take_succ_cons, List.take_zero, List.drop_succ_cons, List.drop_zero]
          repeat (first | go_big_quiet_step (fail) | quiet_step (fail))
          refine wpQuiet_nil ?_
          intro _ hw'
          obtain ⟨nq, hw''⟩ := hw'
          subst hw''
          go_wp2
          go_roundw
          case rel => exact ⟨j + 1, by go_num, by omega, ⟨HO2.out.drewN _⟩, ⟨pw_below_drewN (HB.out.setCell (p := ⟨gb, kk + j, none⟩) hg1 _) _⟩⟩
          case measure => simp [intOf]; omega
        · obtain rfl : j = low.length := by omega
          rw [List.take_length] at HO hlen
          obtain ⟨hcl, hfz⟩ := HO.out.cell' hlen.symm iN (by omega)
          have HO2 := Aside0.mk (HO.out.set hlen.symm iN 0)
          have HlS2 : Aside0 (((updAt G kk r low).set iN 0).length = mod.length + 1) := ⟨by rw [HlS.out]; exact Hrl.out⟩
          clear hlen HO
          go_wp2
          go_roundw
          case rel => exact ⟨(iN : Int) - 1, _, by go_num, by omega, by omega, HlS2, HmS, Hf2, HO2, ⟨HB.out.setCell (p := ⟨gb, iN, none⟩) hg1 _⟩⟩
          case measure => first | (simp [intOf]; done) | (simp [intOf]; omega)
    · have hf := HF.out
      rw [show (i + 1 - low.length).toNat = 0 from by omega] at hf
      simp only [divRun] at hf
      subst hf
      obtain ⟨A7, c7, e7, hc7, hC7⟩ := HO.out.slice
      rw [Hrl.out] at e7
      cases e7
      have HC7 := Aside0.mk hC7
      clear hC7 HF
      go_wp2
      go_loop [12] (fun v12 => ∃ k : Nat, v12 = .int .i64 k ∧ k ≤ mod.length + 1 ∧ Aside0 ((r.take k).all (fun x => decide (x = 0)) = true)) (fun v12 => mod.length + 1 - (intOf v12).toNat)
      case atStart => exact ⟨0, rfl, by omega, ⟨rfl⟩⟩
      case round =>
        obtain ⟨k, rfl, hk, HT⟩ := hrel
        by_cases hlk : k < mod.length + 1
        · have hlk2 : k < r.length := by rw [Hrl.out]; exact hlk
          obtain ⟨ad, e, hx⟩ := C_nat HC7.out k hlk2
          cases e
          have hs := all_take_succ (fun x => decide (x = 0)) r k hlk2
          obtain ⟨x, hx'⟩ : ∃ x, r.getD k 0 = x := ⟨_, rfl⟩
          rw [hx'] at hx hs
          rw [HT.out, Bool.true_and] at hs
          by_cases hz : x = 0
          · have hxb : (x != 0) = false := by simp [hz]
            rw [show decide (x = 0) = true from decide_eq_true hz] at hs
            have HT2 := Aside0.mk hs
            clear hx' hs HT hz
            go_wp2
            go_round
            case rel => exact ⟨k + 1, by go_num, by omega, HT2⟩
            case measure => simp [intOf]; omega
          · have hxb : (x != 0) = true := by simp [hz]
            rw [show decide (x = 0) = false from decide_eq_false hz] at hs
            have hff := all_of_take _ r (k + 1) hs
            have hRf : false = R := by rw [← HR.out]; exact hff.symm
            subst hRf
            clear hx' hs HT hz hff HR
            go_wp2
            go_ret
            exact ⟨rfl, HB.out⟩
        · obtain rfl : k = mod.length + 1 := by omega
          rw [← Hrl.out, List.take_length] at HT
          have hRt : true = R := by rw [← HR.out]; exact HT.out.symm
          subst hRt
          clear HT HR
          go_wp2
          go_ret
          exact ⟨rfl, HB.out⟩
end Go.Proofs.Yticgblagimmlfaa

namespace Go.Proofs.Yticgblagimmlfaa
open Go.RowKit Go.Proofs.YticgblagimmlfaaW.PrintWords Go.Proofs.YticgblagimmlfaaW.PrintLast Go.Proofs.YticgblagimmlfaaW.PrintMore
set_option linter.unusedVariables false
set_option linter.unusedSimpArgs false

set_option maxHeartbeats 4000000 in
set_option maxRecDepth 100000 in
theorem refIrr_any {w : World} {B : Option Addr} {d : Nat} (P : Int) (hP : 2 ≤ P) (hP2 : P ≤ 256) {mod : List Int} (hb : Kd.C (Kd.int .i64) w B mod.length mod) (h2 : mod.length ≤ 8) (hpw : P ^ mod.length ≤ 256) (hm2 : ∀ d ∈ mod, 0 ≤ d ∧ d < P) :
    Calls Try.prog 72 #[.slice B mod.length d, .int .i64 P] w fun e w' => e = .returned (.bool (irrZ P mod)) ∧ Below w.heap.size w w' := by
  have HBm := Aside0.mk hb
  have HM2 := Aside0.mk hm2
  have HPw := Aside0.mk hpw
  have HB0 := Aside0.mk (Below.refl w.heap.size w)
  obtain ⟨R, hR⟩ : ∃ R, irrZ P mod = R := ⟨_, rfl⟩
  rw [hR]
  unfold irrZ at hR
  have HR := Aside0.mk hR
  have H1 : Aside0 ((1 : Int) = P ^ 0) := ⟨by rw [Int.pow_zero]⟩
  clear hR hb hm2 hpw
  go_enter Try.func72, Try.ntmps72
  go_wp2
  go_loopw [5, 6] (fun v5 v6 w' => ∃ (k : Nat) (cnt : Int), v6 = .int .i64 ((k : Int) + 1) ∧ v5 = .int .i64 cnt ∧ k ≤ mod.length / 2 ∧ 1 ≤ cnt ∧ cnt ≤ 256 ∧ Aside0 (cnt = P ^ k) ∧ Aside0 ((List.range k).all (fun i => irrD P mod (i + 1)) = true) ∧ Aside0 (Below w.heap.size w w')) (fun _ v6 _ => (20 - intOf v6).toNat)
  case atStart => exact ⟨0, 1, rfl, rfl, by omega, by omega, by omega, H1, ⟨rfl⟩, HB0⟩
  case round =>
    clear HB0 H1
    obtain ⟨k, cnt, rfl, rfl, hk, hc1, hc2, HC, HT, HB⟩ := hrel
    by_cases hlt : 2 * ((k : Int) + 1) ≤ mod.length
    · have hk1 : k + 1 ≤ mod.length / 2 := by omega
      have hpk : P ^ (k + 1) ≤ 256 := Int.le_trans (pow_le_pow P hP (k + 1) mod.length (by omega)) HPw.out
      obtain ⟨c2, hc2'⟩ : ∃ c2, cnt * P = c2 := ⟨_, rfl⟩
      have hcp : c2 = P ^ (k + 1) := by rw [← hc2', HC.out, Int.pow_succ]
      have hc21 : c2 ≤ 256 := by rw [hcp]; exact hpk
      have hc20 : 1 * 1 ≤ cnt * P := Int.mul_le_mul hc1 (by omega) (by omega) (by omega)
      rw [hc2'] at hc20
      have e1 : wrap64 (cnt * P) = c2 := by rw [hc2']; exact wr64 _ (by omega) (by omega)
      have hsucc := range_all_succ (fun i => irrD P mod (i + 1)) k
      rw [HT.out, Bool.true_and] at hsucc
      have hirr : irrD P mod (k + 1) = (List.range c2.toNat).all fun v => !dividesZ P (digs P (k + 1) (v : Nat)) mod := by unfold irrD; rw [← hcp]
      rw [hirr] at hsucc
      have HSu := Aside0.mk hsucc
      have HCp := Aside0.mk hcp
      have HDig := Aside0.mk (fun (v : Nat) (hv : (v : Int) < 256) (w1 : World) => refDigits_any (v : Int) P (k + 1) (by omega) (by omega) hP (by omega) w1)
      have HDl := Aside0.mk (fun (v : Nat) => digs_length P (k + 1) (v : Int))
      have HDm := Aside0.mk (fun (v : Nat) => digs_mem P hP (k + 1) (v : Int))
      obtain ⟨dg, hdg⟩ : ∃ dg : Nat → List Int, (fun v : Nat => digs P (k + 1) (v : Int)) = dg := ⟨_, rfl⟩
      have hdgv : ∀ v : Nat, digs P (k + 1) (v : Int) = dg v := fun v => by rw [← hdg]
      simp only [hdgv] at HSu HDig HDl HDm
      have HE1 := Aside0.mk e1
      clear hsucc hcp hc2' hirr hpk HC HT hdg hdgv e1
      go_wp2
      rw [HE1.out]
      go_loopw [7] (fun v7 w' => ∃ (v : Nat), v7 = .int .i64 v ∧ (v : Int) ≤ c2 ∧ Aside0 ((List.range v).all (fun v => !dividesZ P (dg v) mod) = true) ∧ Aside0 (Below w.heap.size w w')) (fun v7 _ => (c2 - intOf v7).toNat)
      case atStart => exact ⟨0, rfl, by omega, ⟨rfl⟩, HB⟩
      case round =>
        clear HB
        obtain ⟨v, rfl, hv, HT, HB⟩ := hrel
        by_cases hvc : (v : Int) < c2
        · have hsv := range_all_succ (fun v => !dividesZ P (dg v) mod) v
          rw [HT.out, Bool.true_and] at hsv
          have HD1 := Aside0.mk (HDig.out v (by omega))
          have HDl1 := Aside0.mk (HDl.out v)
          have HDm1 := Aside0.mk (HDm.out v)
          obtain ⟨lw, hlw⟩ : ∃ lw, dg v = lw := ⟨_, rfl⟩
          rw [hlw] at HD1 HDl1 HDm1 hsv
          cases hdv : dividesZ P lw mod with
          | true =>
            rw [hdv] at hsv
            have hf1 := range_all_of _ (v + 1) c2.toNat hsv (by omega)
            have hf2 := HSu.out
            rw [hf1] at hf2
            have hf3 := range_all_of _ (k + 1) (mod.length / 2) hf2 hk1
            have hRf : false = R := by rw [← HR.out]; exact hf3.symm
            subst hRf
            have HDv := Aside0.mk hdv
            clear hsv hlw hdv hf1 hf2 hf3 HR HT HSu
            go_wp2_with (first
              | (go_at_call 109; refine (HD1.out _).mono ?_; rintro e w1 ⟨v1, rfl, hO, hB1⟩; obtain ⟨A1, c1, rfl, hc1', hC1⟩ := hO.slice; have HC1 := Aside0.mk hC1; have HB1 := Aside0.mk (below_later HB.out HB.out.size hB1); clear hO hB1 hC1)
              | (go_at_call 108; refine (refDivides_any P hP hP2 HC1.out (Kd.C_below HBm.out HB1.out) (by rw [HDl1.out]; omega) (by omega) HDm1.out HM2.out).mono ?_; rw [HDv.out]; rintro e w2 ⟨rfl, hB2⟩; have HB2 := Aside0.mk (below_later HB1.out HB1.out.size hB2); clear hB2))
            go_ret
            exact ⟨rfl, HB2.out⟩
          | false =>
            rw [hdv] at hsv
            have HT2 : Aside0 ((List.range (v + 1)).all (fun v => !dividesZ P (dg v) mod) = true) := ⟨hsv⟩
            have HDv := Aside0.mk hdv
            clear hsv hlw hdv HT
            go_wp2_with (first
              | (go_at_call 109; refine (HD1.out _).mono ?_; rintro e w1 ⟨v1, rfl, hO, hB1⟩; obtain ⟨A1, c1, rfl, hc1', hC1⟩ := hO.slice; have HC1 := Aside0.mk hC1; have HB1 := Aside0.mk (below_later HB.out HB.out.size hB1); clear hO hB1 hC1)
              | (go_at_call 108; refine (refDivides_any P hP hP2 HC1.out (Kd.C_below HBm.out HB1.out) (by rw [HDl1.out]; omega) (by omega) HDm1.out HM2.out).mono ?_; rw [HDv.out]; rintro e w2 ⟨rfl, hB2⟩; have HB2 := Aside0.mk (below_later HB1.out HB1.out.size hB2); clear hB2))
            go_roundw
            case rel => exact ⟨v + 1, by go_num, by omega, HT2, HB2⟩
            case measure => simp [intOf]; omega
        · have hvn : c2.toNat = v := by omega
          have hs := HSu.out
          rw [hvn, HT.out] at hs
          have HT3 := Aside0.mk hs
          clear hs hvn HT HSu
          go_wp2
          go_roundw
          case rel => exact ⟨k + 1, c2, by go_num, rfl, hk1, by omega, by omega, HCp, HT3, HB⟩
          case measure => simp [intOf]; omega
    · have hkn : k = mod.length / 2 := by omega
      have hRt : true = R := by rw [← HR.out, ← hkn]; exact HT.out.symm
      subst hRt
      clear HR HT hkn
      go_wp2
      go_ret
      exact ⟨rfl, HB.out⟩
end Go.Proofs.Yticgblagimmlfaa

namespace Go.Proofs.Yticgblagimmlfaa
open Go.RowKit Go.Proofs.YticgblagimmlfaaW.PrintWords Go.Proofs.YticgblagimmlfaaW.PrintLast Go.Proofs.YticgblagimmlfaaW.PrintMore
set_option linter.unusedVariables false
set_option linter.unusedSimpArgs false

set_option maxHeartbeats 4000000 in
set_option maxRecDepth 100000 in
theorem refFCheck_any {w : World} {A : Option Addr} {c : Nat} (P M : Int) {Mod : List Int} (hl : Kd.C (Kd.int .i64) w A Mod.length Mod) :
    Calls Try.prog 42 #[.agg #[.int .i64 P, .int .i64 M, .slice A Mod.length c]] w fun e w' => e = .returned (.int .i64 (fcheckR P M Mod)) ∧ Below w.heap.size w w' := by
  have hF0 := FAt.new w P M A Mod.length c
  obtain ⟨w0, hw0⟩ : ∃ w0, w.alloc (.cells #[.int .i64 P, .int .i64 M, .slice A Mod.length c] 27) = w0 := ⟨_, rfl⟩
  have hB0 : Below w.heap.size w w0 := by rw [← hw0]; exact below_alloc (Below.refl _ _) _
  rw [hw0] at hF0
  have HB0 := Aside0.mk hB0
  have HW := Aside0.mk hw0
  have HF := Aside0.mk hF0
  have HL := Aside0.mk (Kd.C_below hl hB0)
  have hmx := Kd.C_max hl
  have HO := Aside0.mk (fun (w1 : World) => refOrder_any (w := w1) (A := A) (n := Mod.length) (c := c) P M)
  obtain ⟨R, hR⟩ : ∃ R, fcheckR P M Mod = R := ⟨_, rfl⟩
  rw [hR]
  unfold fcheckR at hR
  by_cases h1 : orderZ P M = 0
  · rw [if_pos h1] at hR
    subst hR
    rw [h1] at HO
    clear hF0 hB0 hw0 hl h1
    go_enter Try.func42, Try.ntmps42
    go_upto_region 1 with (fail)
    rw [HW.out]
    have cP := HF.out.p
    have cM := HF.out.m
    have cD := HF.out.mod
    go_wp2_with (go_at_call 70; refine (HO.out _).mono ?_; rintro e w1 ⟨rfl, hB⟩; have HB1 := Aside0.mk (below_later HB0.out HB0.out.size hB); clear hB)
    go_ret
    exact ⟨rfl, HB1.out⟩
  rw [if_neg h1] at hR
  obtain ⟨p1, p2, p3, p4⟩ := orderZ_range P M h1
  obtain ⟨p5, p6⟩ := orderZ_pow P M h1
  obtain ⟨q, hq⟩ : ∃ q, orderZ P M = q := ⟨_, rfl⟩
  rw [hq] at HO h1
  have hqb : (q == 0) = false := by simp [h1]
  have HPr := Aside0.mk (fun (w1 : World) => refPrime_any P p1 p2 w1)
  obtain ⟨pr, hpr⟩ : ∃ pr, primeR P = pr := ⟨_, rfl⟩
  rw [hpr] at HPr hR
  have HP6 := Aside0.mk p6
  clear hq p5 p6 hpr h1 hF0 hB0 hw0 hl
  cases pr with
  | false =>
    rw [if_pos rfl] at hR
    subst hR
    go_enter Try.func42, Try.ntmps42
    go_upto_region 1 with (fail)
    rw [HW.out]
    have cP := HF.out.p
    have cM := HF.out.m
    have cD := HF.out.mod
    go_wp2_with (first
      | (go_at_call 70; refine (HO.out _).mono ?_; rintro e w1 ⟨rfl, hB⟩; have HB1 := Aside0.mk (below_later HB0.out HB0.out.size hB); have hF1 := HF.out.below hB; have cP1 := hF1.p; have cM1 := hF1.m; have cD1 := hF1.mod; clear hB hF1)
      | (go_at_call 71; refine (HPr.out _).mono ?_; rintro e w2 ⟨rfl, rfl⟩))
    go_ret
    exact ⟨rfl, HB1.out⟩
  | true =>
    rw [if_neg (by simp)] at hR
    by_cases hM : M = 1
    · rw [if_pos hM] at hR
      subst hM
      by_cases hz : Mod.length ≠ 0
      · rw [if_pos hz] at hR
        subst hR
        have hzb : ((Mod.length : Int) != 0) = true := by simp only [bne_iff_ne, ne_eq]; omega
        clear hz
        go_enter Try.func42, Try.ntmps42
        go_upto_region 1 with (fail)
        rw [HW.out]
        have cP := HF.out.p
        have cM := HF.out.m
        have cD := HF.out.mod
        go_wp2_with (first
          | (go_at_call 70; refine (HO.out _).mono ?_; rintro e w1 ⟨rfl, hB⟩; have HB1 := Aside0.mk (below_later HB0.out HB0.out.size hB); have hF1 := HF.out.below hB; have cP1 := hF1.p; have cM1 := hF1.m; have cD1 := hF1.mod; clear hB hF1)
          | (go_at_call 71; refine (HPr.out _).mono ?_; rintro e w2 ⟨rfl, rfl⟩))
        go_ret
        exact ⟨rfl, HB1.out⟩
      · rw [if_neg hz] at hR
        subst hR
        have hzb : ((Mod.length : Int) != 0) = false := by simp only [bne_eq_false_iff_eq]; omega
        clear hz
        go_enter Try.func42, Try.ntmps42
        go_upto_region 1 with (fail)
        rw [HW.out]
        have cP := HF.out.p
        have cM := HF.out.m
        have cD := HF.out.mod
        go_wp2_with (first
          | (go_at_call 70; refine (HO.out _).mono ?_; rintro e w1 ⟨rfl, hB⟩; have HB1 := Aside0.mk (below_later HB0.out HB0.out.size hB); have hF1 := HF.out.below hB; have cP1 := hF1.p; have cM1 := hF1.m; have cD1 := hF1.mod; clear hB hF1)
          | (go_at_call 71; refine (HPr.out _).mono ?_; rintro e w2 ⟨rfl, rfl⟩))
        go_ret
        exact ⟨rfl, HB1.out⟩
    · rw [if_neg hM] at hR
      have hMb : (M == 1) = false := by simp [hM]
      by_cases hz : (Mod.length : Int) ≠ M
      · rw [if_pos hz] at hR
        subst hR
        have hzb : ((Mod.length : Int) != M) = true := by simp only [bne_iff_ne, ne_eq]; exact hz
        clear hz hM
        go_enter Try.func42, Try.ntmps42
        go_upto_region 1 with (fail)
        rw [HW.out]
        have cP := HF.out.p
        have cM := HF.out.m
        have cD := HF.out.mod
        go_wp2_with (first
          | (go_at_call 70; refine (HO.out _).mono ?_; rintro e w1 ⟨rfl, hB⟩; have HB1 := Aside0.mk (below_later HB0.out HB0.out.size hB); have hF1 := HF.out.below hB; have cP1 := hF1.p; have cM1 := hF1.m; have cD1 := hF1.mod; clear hB hF1)
          | (go_at_call 71; refine (HPr.out _).mono ?_; rintro e w2 ⟨rfl, rfl⟩))
        go_ret
        exact ⟨rfl, HB1.out⟩
      · rw [if_neg hz] at hR
        have hz' : (Mod.length : Int) = M := Classical.not_not.1 hz
        have hzb : ((Mod.length : Int) != M) = false := by simp only [bne_eq_false_iff_eq]; exact hz'
        have hpw : P ^ Mod.length ≤ 256 := by have := HP6.out; rwa [show M.toNat = Mod.length from by omega] at this
        have HPw := Aside0.mk hpw
        have HZ := Aside0.mk hz'
        have HR := Aside0.mk hR
        have hl8 : Mod.length ≤ 8 := by omega
        clear hz hM hz' hpw hR HP6
        go_enter Try.func42, Try.ntmps42
        go_upto_region 1 with (fail)
        rw [HW.out]
        have cP := HF.out.p
        have cM := HF.out.m
        have cD := HF.out.mod
        go_wp2_with (first
          | (go_at_call 70; refine (HO.out _).mono ?_; rintro e w1 ⟨rfl, hB⟩; have HB1 := Aside0.mk (below_later HB0.out HB0.out.size hB); have HL1 := Aside0.mk (Kd.C_below HL.out hB); have hF1 := HF.out.below hB; have cP1 := hF1.p; have cM1 := hF1.m; have cD1 := hF1.mod; clear hB hF1 cP cM cD)
          | (go_at_call 71; refine (HPr.out _).mono ?_; rintro e w2 ⟨rfl, rfl⟩))
        have HD0 := Aside0.mk (Drawn0.refl w1)
        have HF1 : Aside0 (FAt w1 w.heap.size P M A Mod.length c) := ⟨⟨cP1, cM1, cD1⟩⟩
        clear cP1 cM1 cD1
        go_loopw [3] (fun v3 w' => ∃ k : Nat, v3 = .int .i64 k ∧ k ≤ Mod.length ∧ Aside0 (inRange P (Mod.take k) = true) ∧ Aside0 (Drawn0 w1 w')) (fun v3 _ => Mod.length - (intOf v3).toNat)
        case atStart => exact ⟨0, rfl, by omega, ⟨rfl⟩, HD0⟩
        case round =>
          clear HD0
          obtain ⟨k, rfl, hk, HT, HD⟩ := hrel
          have hF2 := HF1.out.below HD.out.below
          have cP := hF2.p
          have cM := hF2.m
          have cD := hF2.mod
          by_cases hlk : k < Mod.length
          · obtain ⟨ad, e, hx⟩ := C_nat (Kd.C_below HL1.out HD.out.below) k hlk
            cases e
            have hs := inRange_take_succ P Mod k hlk
            obtain ⟨x, hx'⟩ : ∃ x, Mod.getD k 0 = x := ⟨_, rfl⟩
            rw [hx'] at hx hs
            rw [HT.out, Bool.true_and] at hs
            have hkM : (k : Int) < M := by have := HZ.out; omega
            by_cases hp : 0 ≤ x ∧ x < P
            · rw [decide_eq_true hp] at hs
              have HT2 := Aside0.mk hs
              obtain ⟨hp1, hp2⟩ := hp
              clear hx' hs HT hF2
              go_wp2
              go_quiet (fail)
              go_wp2
              go_roundw
              case rel => exact ⟨k + 1, by go_num, by omega, HT2, ⟨Drawn0.trans HD.out ⟨_, rfl⟩⟩⟩
              case measure => simp [intOf]; omega
            · rw [decide_eq_false hp] at hs
              have hff := inRange_mono P Mod (k + 1) hs
              have hRf : (1 : Int) = R := by rw [← HR.out, if_pos hff]
              subst hRf
              clear hx' hs HT hff HR hF2
              by_cases hx0 : x < 0
              · clear hp
                go_wp2
                go_quiet (fail)
                go_wp2
                go_ret
                exact ⟨rfl, pw_below_drewN (HB1.out.trans (HD.out.below.mono HB1.out.size)) _⟩
              · have hx1 : P ≤ x := by omega
                clear hp
                go_wp2
                go_quiet (fail)
                go_wp2
                go_ret
                exact ⟨rfl, pw_below_drewN (HB1.out.trans (HD.out.below.mono HB1.out.size)) _⟩
          · obtain rfl : k = Mod.length := by omega
            rw [List.take_length] at HT
            have hkM : ¬ ((Mod.length : Int) < M) := by have := HZ.out; omega
            have hr := HR.out
            rw [if_neg (by rw [HT.out]; simp)] at hr
            have hmem : ∀ d ∈ Mod, 0 ≤ d ∧ d < P := fun d hd => of_decide_eq_true (List.all_eq_true.1 HT.out d hd)
            have HI := Aside0.mk (refIrr_any (d := c) P p1 p2 (Kd.C_below HL1.out HD.out.below) hl8 HPw.out hmem)
            obtain ⟨b, hb⟩ : ∃ b, irrZ P Mod = b := ⟨_, rfl⟩
            rw [hb] at HI hr
            clear hmem HT HR hb hF2
            cases b with
            | true =>
              rw [if_neg (by simp)] at hr
              subst hr
              go_wp2_with (go_at_call 72; refine HI.out.mono ?_; rintro e w3 ⟨rfl, hB⟩; have HB3 := Aside0.mk hB; clear hB)
              go_ret
              exact ⟨rfl, (HB1.out.trans (HD.out.below.mono HB1.out.size)).trans (HB3.out.mono (HB1.out.trans (HD.out.below.mono HB1.out.size)).size)⟩
            | false =>
              rw [if_pos rfl] at hr
              subst hr
              go_wp2_with (go_at_call 72; refine HI.out.mono ?_; rintro e w3 ⟨rfl, hB⟩; have HB3 := Aside0.mk hB; clear hB)
              go_ret
              exact ⟨rfl, (HB1.out.trans (HD.out.below.mono HB1.out.size)).trans (HB3.out.mono (HB1.out.trans (HD.out.below.mono HB1.out.size)).size)⟩
end Go.Proofs.Yticgblagimmlfaa

namespace Go.Proofs.Yticgblagimmlfaa
open Go.RowKit Go.Proofs.YticgblagimmlfaaW.PrintWords Go.Proofs.YticgblagimmlfaaW.PrintLast Go.Proofs.YticgblagimmlfaaW.PrintMore
set_option linter.unusedVariables false
set_option linter.unusedSimpArgs false

set_option maxHeartbeats 4000000 in
set_option maxRecDepth 100000 in
theorem refCheck_any {w : World} {v : Value} {s : GD} (h : GArg w v s) :
    Calls Try.prog 16 #[v] w fun e w' => e = .returned (.int .i64 (checkR s)) ∧ Below w.heap.size w w' := by
  obtain ⟨A1, c1, A2, c2, A3, c3, rfl, g1, l1, g2, l2, g3, l3⟩ := h.out
  have hmx := Kd.C_max g2
  have hmx3 := Kd.C_max g3
  have hS0 := SAt.new w s A1 c1 A2 c2 A3 c3
  obtain ⟨w0, hw0⟩ : ∃ w0, w.alloc (.cells #[.int .i64 s.P, .int .i64 s.M, .slice A1 s.Mod.length c1, .int .i64 s.K, .slice A2 s.pts.length c2, .slice A3 s.mults.length c3] 29) = w0 := ⟨_, rfl⟩
  have hB0 : Below w.heap.size w w0 := by rw [← hw0]; exact below_alloc (Below.refl _ _) _
  rw [hw0] at hS0
  have HS := Aside0.mk hS0
  have HB0 := Aside0.mk hB0
  have HW := Aside0.mk hw0
  have HP := Aside0.mk (Kd.C_below g2 hB0)
  have HMu := Aside0.mk (Kd.C_below g3 hB0)
  have HFc := Aside0.mk (refFCheck_any (c := c1) s.P s.M (Kd.C_below g1 hB0))
  obtain ⟨R, hR⟩ : ∃ R, checkR s = R := ⟨_, rfl⟩
  rw [hR]
  unfold checkR at hR
  obtain ⟨fc, hfc⟩ : ∃ fc, fcheckR s.P s.M s.Mod = fc := ⟨_, rfl⟩
  rw [hfc] at HFc hR
  clear hfc h g1 g2 g3 hS0 hB0 hw0
  by_cases h1 : fc ≠ 0
  · rw [if_pos h1] at hR
    subst hR
    have hob : (fc == 0) = false := by simp [h1]
    have hob2 : (fc != 0) = true := by simp [h1]
    clear h1
    go_enter Try.func16, Try.ntmps16
    go_upto_region 1 with (fail)
    rw [HW.out]
    have cP := HS.out.p
    have cM := HS.out.m
    have cMod := HS.out.mod
    have cPts := HS.out.pts
    go_wp2_with (go_at_call 42; refine HFc.out.mono ?_; rintro e w1 ⟨rfl, hB⟩; have HB1 := Aside0.mk (below_later HB0.out HB0.out.size hB); clear hB)
    go_ret
    exact ⟨rfl, HB1.out⟩
  rw [if_neg h1] at hR
  have h0 : fc = 0 := Classical.not_not.1 h1
  subst h0
  clear h1
  by_cases h2 : s.pts.length < 1 ∨ 64 < s.pts.length
  · rw [if_pos h2] at hR
    subst hR
    by_cases h3 : s.pts.length < 1
    · clear h2
      have h3i : (s.pts.length : Int) < 1 := by omega
      go_enter Try.func16, Try.ntmps16
      go_upto_region 1 with (fail)
      rw [HW.out]
      have cP := HS.out.p
      have cM := HS.out.m
      have cMod := HS.out.mod
      have cPts := HS.out.pts
      go_wp2_with (go_at_call 42; refine HFc.out.mono ?_; rintro e w1 ⟨rfl, hB⟩; have HB1 := Aside0.mk (below_later HB0.out HB0.out.size hB); clear hB)
      go_ret
      exact ⟨rfl, HB1.out⟩
    · have h3i : ¬ (s.pts.length : Int) < 1 := by omega
      have h4i : (64 : Int) < s.pts.length := by omega
      clear h2 h3
      go_enter Try.func16, Try.ntmps16
      go_upto_region 1 with (fail)
      rw [HW.out]
      have cP := HS.out.p
      have cM := HS.out.m
      have cMod := HS.out.mod
      have cPts := HS.out.pts
      go_wp2_with (go_at_call 42; refine HFc.out.mono ?_; rintro e w1 ⟨rfl, hB⟩; have HB1 := Aside0.mk (below_later HB0.out HB0.out.size hB); clear hB)
      go_ret
      exact ⟨rfl, HB1.out⟩
  rw [if_neg h2] at hR
  have hn1 : 1 ≤ s.pts.length := by omega
  have hn2 : s.pts.length ≤ 64 := by omega
  clear h2
  by_cases h3 : s.mults.length ≠ s.pts.length
  · rw [if_pos h3] at hR
    subst hR
    have hb3 : ((s.mults.length : Int) != (s.pts.length : Int)) = true := by simp only [bne_iff_ne, ne_eq]; omega
    clear h3
    go_enter Try.func16, Try.ntmps16
    go_upto_region 1 with (fail)
    rw [HW.out]
    have cP := HS.out.p
    have cM := HS.out.m
    have cMod := HS.out.mod
    have cPts := HS.out.pts
    have cMul := HS.out.mults
    go_wp2_with (go_at_call 42; refine HFc.out.mono ?_; rintro e w1 ⟨rfl, hB⟩; have HB1 := Aside0.mk (below_later HB0.out HB0.out.size hB); have cMul1 := (HS.out.below hB).mults; clear hB)
    go_ret
    exact ⟨rfl, HB1.out⟩
  rw [if_neg h3] at hR
  have h3' : s.mults.length = s.pts.length := Classical.not_not.1 h3
  have hb3 : ((s.mults.length : Int) != (s.pts.length : Int)) = false := by simp [h3']
  have HM3 := Aside0.mk h3'
  have HR := Aside0.mk hR
  clear h3 h3' hR
  have HI := Aside0.mk (fun (w1 : World) (x : Int) => refIs_any (w := w1) (A := A1) (n := s.Mod.length) (c := c1) s.P s.M x)
  have hR := HR.out
  unfold tailR at hR
  obtain ⟨f, hf⟩ : ∃ f, isR s.P s.M = f := ⟨_, rfl⟩
  rw [hf] at HI hR
  have HR := Aside0.mk hR
  have hBz := Below.refl w0.heap.size w0
  have HBz := Aside0.mk hBz
  clear hf hR hBz
  go_enter Try.func16, Try.ntmps16
  go_upto_region 1 with (fail)
  rw [HW.out]
  have cP := HS.out.p
  have cM := HS.out.m
  have cMod := HS.out.mod
  have cPts := HS.out.pts
  have cMul := HS.out.mults
  go_wp2_with (go_at_call 42; refine HFc.out.mono ?_; rintro e w1 ⟨rfl, hB⟩; have HB1 := Aside0.mk hB; have cMul1 := (HS.out.below hB).mults; clear hB cP cM cMod cPts cMul)
  clear cMul1 HBz
  go_loopw [4] (fun v4 w' => ∃ k : Nat, v4 = .int .i64 k ∧ k ≤ s.pts.length ∧ Aside0 (bothIs f s.pts s.mults k = true) ∧ Aside0 (Below w0.heap.size w0 w')) (fun v4 _ => s.pts.length - (intOf v4).toNat)
  case atStart => exact ⟨0, rfl, by omega, ⟨rfl⟩, HB1⟩
  case round =>
    clear HB1
    obtain ⟨k, rfl, hk, HT, HB⟩ := hrel
    have hS1 := HS.out.below HB.out
    have cP := hS1.p
    have cM := hS1.m
    have cD := hS1.mod
    have cS := hS1.pts
    have cU := hS1.mults
    have cK := hS1.k
    by_cases hlk : k < s.pts.length
    · obtain ⟨ad, e, hx⟩ := C_nat (Kd.C_below HP.out HB.out) k hlk
      cases e
      have hlk3 : k < s.mults.length := by rw [HM3.out]; exact hlk
      obtain ⟨ad2, e, hy⟩ := C_nat (Kd.C_below HMu.out HB.out) k hlk3
      cases e
      have hs := range_all_succ (fun i => f (s.pts.getD i 0) && f (s.mults.getD i 0)) k
      have hT := HT.out
      unfold bothIs at hT
      obtain ⟨x, hx'⟩ : ∃ x, s.pts.getD k 0 = x := ⟨_, rfl⟩
      obtain ⟨y, hy'⟩ : ∃ x, s.mults.getD k 0 = x := ⟨_, rfl⟩
      simp only [hT, Bool.true_and, hx', hy'] at hs
      rw [hx'] at hx
      rw [hy'] at hy
      clear hx' hy' hT HT hS1
      have hcx : ∀ j : Ext wr, j.wd.cell? (ad.add k) = some (.int .i64 x) := fun j => j.cell hx
      have hcy : ∀ j : Ext wr, j.wd.cell? (ad2.add k) = some (.int .i64 y) := fun j => j.cell hy
      have hcP : ∀ j : Ext wr, j.wd.cell? ⟨w.heap.size, 0, none⟩ = some (.int .i64 s.P) := fun j => j.cell cP
      have hcM : ∀ j : Ext wr, j.wd.cell? ⟨w.heap.size, 1, none⟩ = some (.int .i64 s.M) := fun j => j.cell cM
      have hcD : ∀ j : Ext wr, j.wd.cell? ⟨w.heap.size, 2, none⟩ = some (.slice A1 s.Mod.length c1) := fun j => j.cell cD
      have hcS : ∀ j : Ext wr, j.wd.cell? ⟨w.heap.size, 4, none⟩ = some (.slice (some ad) s.pts.length c2) := fun j => j.cell cS
      have hcU : ∀ j : Ext wr, j.wd.cell? ⟨w.heap.size, 5, none⟩ = some (.slice (some ad2) s.mults.length c3) := fun j => j.cell cU
      have e0 : (0 : Int) ≤ (k : Int) := by omega
      have e1 : (k : Int) < s.pts.length := by omega
      have e2 : (k : Int) < s.mults.length := by omega
      clear cP cM cD cS cU hx hy
      cases hfx : f x with
      | true =>
        cases hfy : f y with
        | true =>
          have HI1 := Aside0.mk (fun (w1 : World) => by have q := HI.out w1 x; rw [hfx] at q; exact q)
          have HI2 := Aside0.mk (fun (w1 : World) => by have q := HI.out w1 y; rw [hfy] at q; exact q)
          rw [hfx, hfy] at hs
          have HT2 : Aside0 (bothIs f s.pts s.mults (k + 1) = true) := ⟨hs⟩
          clear hs hfx hfy
          go_wp2
          refine wp_region_ext (by kernel_rfl) (by kernel_rfl) ?_
          repeat (go_big_quiet_step ((go_at_call 43; first | (with_reducible exact Ext.call _ (HI1.out _)) | (with_reducible exact Ext.call _ (HI2.out _)))))
          refine wpQuiet_nil ?_
          intro w1 hB1
          have HB1 := Aside0.mk (below_later HB.out HB.out.size hB1)
          clear hcx hcy hcP hcM hcD hcS hcU hB1
          go_wp2
          go_roundw
          case rel => exact ⟨k + 1, by go_num, by omega, HT2, HB1⟩
          case measure => simp [intOf]; omega
        | false =>
          have HI1 := Aside0.mk (fun (w1 : World) => by have q := HI.out w1 x; rw [hfx] at q; exact q)
          have HI2 := Aside0.mk (fun (w1 : World) => by have q := HI.out w1 y; rw [hfy] at q; exact q)
          rw [hfx, hfy] at hs
          have hff := range_all_of _ (k + 1) s.pts.length hs (by omega)
          have hRf : (2 : Int) = R := by rw [← HR.out, if_pos (show bothIs f s.pts s.mults s.pts.length = false from hff)]
          subst hRf
          clear hs hfx hfy hff HR
          go_wp2
          refine wp_region_ext (by kernel_rfl) (by kernel_rfl) ?_
          repeat (go_big_quiet_step ((go_at_call 43; first | (with_reducible exact Ext.call _ (HI1.out _)) | (with_reducible exact Ext.call _ (HI2.out _)))))
          refine wpQuiet_nil ?_
          intro w1 hB1
          have HB1 := Aside0.mk (below_later HB.out HB.out.size hB1)
          clear hcx hcy hcP hcM hcD hcS hcU hB1
          go_wp2
          go_ret
          exact ⟨rfl, below_later HB0.out HB0.out.size HB1.out⟩
      | false =>
        have HI1 := Aside0.mk (fun (w1 : World) => by have q := HI.out w1 x; rw [hfx] at q; exact q)
        rw [hfx, Bool.false_and] at hs
        have hff := range_all_of _ (k + 1) s.pts.length hs (by omega)
        have hRf : (2 : Int) = R := by rw [← HR.out, if_pos (show bothIs f s.pts s.mults s.pts.length = false from hff)]
        subst hRf
        clear hs hfx hff HR
        go_wp2
        refine wp_region_ext (by kernel_rfl) (by kernel_rfl) ?_
        repeat (go_big_quiet_step ((go_at_call 43; (with_reducible exact Ext.call _ (HI1.out _)))))
        refine wpQuiet_nil ?_
        intro w1 hB1
        have HB1 := Aside0.mk (below_later HB.out HB.out.size hB1)
        clear hcx hcy hcP hcM hcD hcS hcU hB1
        go_wp2
        go_ret
        exact ⟨rfl, below_later HB0.out HB0.out.size HB1.out⟩
    · obtain rfl : k = s.pts.length := by omega
      have hR2 := HR.out
      rw [if_neg (by rw [HT.out]; simp)] at hR2
      have HR2 := Aside0.mk hR2
      have HBw := HB
      have HD0 := Aside0.mk (Drawn0.refl wr)
      clear HR hR2 HT hS1 cP cM cD
      obtain ⟨wo, hwo⟩ : ∃ wo : World, wo = wr := ⟨_, rfl⟩
      subst hwo
      go_wp2
      go_loopw [5] (fun v5 w' => ∃ k : Nat, v5 = .int .i64 k ∧ k ≤ s.pts.length ∧ Aside0 ((s.pts.take k).Nodup) ∧ Aside0 (Drawn0 wo w')) (fun v5 _ => s.pts.length - (intOf v5).toNat)
      case atStart => exact ⟨0, rfl, by omega, ⟨List.nodup_nil⟩, HD0⟩
      case round =>
        clear HD0
        obtain ⟨k, rfl, hk, HT, HD⟩ := hrel
        by_cases hlk : k < s.pts.length
        · have hx0 := C_nat (Kd.C_below HP.out HBw.out) k hlk
          obtain ⟨x, hx'⟩ : ∃ x, s.pts.getD k 0 = x := ⟨_, rfl⟩
          rw [hx'] at hx0
          have HX := Aside0.mk hx'
          have HX0 := Aside0.mk hx0
          clear hx' hx0
          go_wp2
          go_loopw [6] (fun v6 w' => ∃ j : Nat, v6 = .int .i64 j ∧ j ≤ k ∧ Aside0 (x ∉ s.pts.take j) ∧ Aside0 (Drawn0 wo w')) (fun v6 _ => k - (intOf v6).toNat)
          case atStart => exact ⟨0, rfl, by omega, ⟨by simp⟩, HD⟩
          case round =>
            clear HD
            obtain ⟨j, rfl, hj, HN, HD⟩ := hrel
            by_cases hlj : j < k
            · obtain ⟨ad, e, hx⟩ := HX0.out
              obtain ⟨ad2, e2, hy⟩ := C_nat (Kd.C_below HP.out HBw.out) j (by omega)
              have hS2 := HS.out.below (HBw.out.trans (HD.out.below.mono HBw.out.size))
              have cS := hS2.pts
              rw [e] at e2 cS
              cases e2
              have hx := pw_cell_below HD.out.below hx
              have hy := pw_cell_below HD.out.below hy
              obtain ⟨y, hy'⟩ : ∃ y, s.pts.getD j 0 = y := ⟨_, rfl⟩
              rw [hy'] at hy
              have e0 : (0 : Int) ≤ (k : Int) := by omega
              have e1 : (k : Int) < s.pts.length := by omega
              have e2 : (0 : Int) ≤ (j : Int) := by omega
              have e3 : (j : Int) < s.pts.length := by omega
              by_cases hxy : x = y
              · have hmem : x ∈ s.pts.take k := by rw [hxy, ← hy']; exact mem_take_getD s.pts k j hlj hk
                have hnn : ¬ s.pts.Nodup := nodup_of_take s.pts (k + 1) (by rw [nodup_take_succ_iff s.pts k hlk, HX.out]; exact fun h => h.2 hmem)
                have hRt : (18 : Int) = R := by rw [← HR2.out]; simp [hnn]
                have hxb : (x == y) = true := by simp [hxy]
                subst hRt
                clear hy' hmem hnn HR2 HN hxy hS2 e
                go_wp2
                go_quiet (fail)
                go_wp2
                go_ret
                exact ⟨rfl, pw_below_drewN (below_later HB0.out HB0.out.size (HBw.out.trans (HD.out.below.mono HBw.out.size))) _⟩
              · have hxb : (x == y) = false := by simp [hxy]
                have HN2 : Aside0 (x ∉ s.pts.take (j + 1)) := ⟨by
                  rw [take_succ_rd s.pts j (by omega), hy']
                  simp only [List.mem_append, List.mem_singleton, not_or]
                  exact ⟨HN.out, hxy⟩⟩
                clear hy' hxy HN hS2 e
                go_wp2
                go_quiet (fail)
                go_wp2
                go_roundw
                case rel => exact ⟨j + 1, by go_num, by omega, HN2, ⟨Drawn0.trans HD.out ⟨_, rfl⟩⟩⟩
                case measure => simp [intOf]; omega
            · obtain rfl : j = k := by omega
              have HT2 : Aside0 ((s.pts.take (j + 1)).Nodup) := ⟨by rw [nodup_take_succ_iff s.pts j hlk, HX.out]; exact ⟨HT.out, HN.out⟩⟩
              clear HN
              go_wp2
              go_roundw
              case rel => exact ⟨j + 1, by go_num, by omega, HT2, HD⟩
              case measure => simp [intOf]; omega
        · obtain rfl : k = s.pts.length := by omega
          rw [List.take_length] at HT
          have hR3 := HR2.out
          rw [if_neg (by simp [HT.out])] at hR3
          have HR3 := Aside0.mk hR3
          have HB3 := Aside0.mk (HBw.out.trans (HD.out.below.mono HBw.out.size))
          clear HR2 hR3 HT HD
          obtain ⟨w3, hw3⟩ : ∃ w3 : World, w3 = wr := ⟨_, rfl⟩
          subst hw3
          have HD3 := Aside0.mk (Drawn0.refl w3)
          go_wp2
          go_loopw [7] (fun v7 w' => ∃ k : Nat, v7 = .int .i64 k ∧ k ≤ s.pts.length ∧ Aside0 ((List.range k).all (fun i => decide (s.mults.getD i 0 ≠ 0)) = true) ∧ Aside0 (Drawn0 w3 w')) (fun v7 _ => s.pts.length - (intOf v7).toNat)
          case atStart => exact ⟨0, rfl, by omega, ⟨rfl⟩, HD3⟩
          case round =>
            clear HD3
            obtain ⟨k, rfl, hk, HT, HD⟩ := hrel
            have hS2 := HS.out.below (HB3.out.trans (HD.out.below.mono HB3.out.size))
            have cU := hS2.mults
            have cK := hS2.k
            by_cases hlk : k < s.pts.length
            · have hlk3 : k < s.mults.length := by rw [HM3.out]; exact hlk
              obtain ⟨ad2, e, hy⟩ := C_nat (Kd.C_below (Kd.C_below HMu.out HB3.out) HD.out.below) k hlk3
              cases e
              have hs := range_all_succ (fun i => decide (s.mults.getD i 0 ≠ 0)) k
              rw [HT.out, Bool.true_and] at hs
              obtain ⟨y, hy'⟩ : ∃ x, s.mults.getD k 0 = x := ⟨_, rfl⟩
              rw [hy'] at hy hs
              have e2 : (k : Int) < s.mults.length := by omega
              by_cases hy0 : y = 0
              · subst hy0
                rw [show decide ((0 : Int) ≠ 0) = false from rfl] at hs
                have hff := range_all_of _ (k + 1) s.pts.length hs (by omega)
                have hRf : (7 : Int) = R := by rw [← HR3.out, if_pos hff]
                subst hRf
                clear hy' hs hff HT HR3 hS2
                go_wp2
                go_ret
                exact ⟨rfl, below_later HB0.out HB0.out.size (HB3.out.trans (HD.out.below.mono HB3.out.size))⟩
              · rw [decide_eq_true hy0] at hs
                have HT2 := Aside0.mk hs
                have hyb : (y == 0) = false := by simp [hy0]
                clear hy' hs HT hS2 hy0
                go_wp2
                go_roundw
                case rel => exact ⟨k + 1, by go_num, by omega, HT2, HD⟩
                case measure => simp [intOf]; omega
            · obtain rfl : k = s.pts.length := by omega
              have hR4 := HR3.out
              rw [if_neg (by rw [HT.out]; simp)] at hR4
              clear HT HR3 hS2
              have HBe := Aside0.mk (below_later HB0.out HB0.out.size (HB3.out.trans (HD.out.below.mono HB3.out.size)))
              by_cases hK1 : s.K < 0
              · rw [if_pos (.inl hK1)] at hR4
                subst hR4
                go_wp2
                go_ret
                exact ⟨rfl, HBe.out⟩
              · by_cases hK2 : s.K > s.pts.length
                · rw [if_pos (.inr hK2)] at hR4
                  subst hR4
                  go_wp2
                  go_ret
                  exact ⟨rfl, HBe.out⟩
                · rw [if_neg (by omega)] at hR4
                  subst hR4
                  go_wp2
                  go_ret
                  exact ⟨rfl, HBe.out⟩
end Go.Proofs.Yticgblagimmlfaa
