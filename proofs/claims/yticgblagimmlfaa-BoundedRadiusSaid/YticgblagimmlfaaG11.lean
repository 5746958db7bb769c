/- order, isPrime, digitsOf, valueOf. -/
import Derived.Test.YticgblagimmlfaaG10
namespace Go.Proofs.Yticgblagimmlfaa
open Go.RowKit Go.Proofs.YticgblagimmlfaaW.PrintWords Go.Proofs.YticgblagimmlfaaW.PrintLast Go.Proofs.YticgblagimmlfaaW.PrintMore
set_option linter.unusedVariables false
set_option linter.unusedSimpArgs false

theorem order_fn (P M : Int) (w : World) : Calls Try.prog 64 #[.int .i64 P, .int .i64 M] w fun e w' => e = .returned (.int .i64 (orderZ P M)) ∧ w = w' := by
  by_cases hb : P < 2 ∨ P > 256 ∨ M < 1 ∨ M > 8
  · have e : orderZ P M = 0 := by unfold orderZ; rw [if_pos hb]
    rw [e]
    clear e
    by_cases h1 : P < 2
    · clear hb
      go_enter Try.func64, Try.ntmps64
      go_wp2
      go_ret
      exact ⟨rfl, rfl⟩
    · by_cases h2 : 256 < P
      · clear hb
        go_enter Try.func64, Try.ntmps64
        go_wp2
        go_ret
        exact ⟨rfl, rfl⟩
      · by_cases h3 : M < 1
        · clear hb
          go_enter Try.func64, Try.ntmps64
          go_wp2
          go_ret
          exact ⟨rfl, rfl⟩
        · have h4 : 8 < M := by omega
          clear hb
          go_enter Try.func64, Try.ntmps64
          go_wp2
          go_ret
          exact ⟨rfl, rfl⟩
  · have h1 : 2 ≤ P := by omega
    have h2 : P ≤ 256 := by omega
    have h3 : 1 ≤ M := by omega
    have h4 : M ≤ 8 := by omega
    obtain ⟨n, hn⟩ := Int.eq_ofNat_of_zero_le (by omega : 0 ≤ M)
    have e : orderZ P M = ordLoop P n 1 := by unfold orderZ; rw [if_neg hb, hn]; rfl
    subst hn
    obtain ⟨R, hR⟩ : ∃ R, ordLoop P n 1 = R := ⟨_, rfl⟩
    rw [e, hR]
    have HR := Aside0.mk hR
    clear e hb hR
    go_enter Try.func64, Try.ntmps64
    go_wp2
    go_loop [5, 21] (fun v5 v21 => ∃ (k : Nat) (q : Int), v21 = .int .i64 k ∧ v5 = .int .i64 q ∧ k ≤ n ∧ 1 ≤ q ∧ q ≤ 256 ∧ Aside0 (ordLoop P (n - k) q = R)) (fun _ v21 => n - (intOf v21).toNat)
    case atStart => exact ⟨0, 1, rfl, rfl, by omega, by omega, by omega, HR⟩
    case round =>
      clear HR
      obtain ⟨k, q, rfl, rfl, hk, hq1, hq2, HR⟩ := hrel
      by_cases hlt : k < n
      · have hr := HR.out
        rw [show n - k = (n - (k + 1)) + 1 from by omega] at hr
        simp only [ordLoop] at hr
        have hm1 : q * P ≤ 256 * 256 := Int.mul_le_mul hq2 h2 (by omega) (by omega)
        have hm2 : 1 * 1 ≤ q * P := Int.mul_le_mul hq1 (by omega) (by omega) (by omega)
        obtain ⟨qP, hqP⟩ : ∃ x, q * P = x := ⟨_, rfl⟩
        have e1 : IntKind.i64.wrap (q * P) = qP := by rw [← hqP]; exact w64 _ (by omega) (by omega)
        have e2 : wrap64 (q * P) = qP := by rw [← i64_w]; exact e1
        rw [hqP] at hr hm1 hm2
        clear hqP HR
        by_cases hg : qP > 256
        · rw [if_pos hg] at hr
          subst hr
          have hg' : 256 < qP := hg
          go_wp2
          go_ret
          exact ⟨rfl, rfl⟩
        · rw [if_neg hg] at hr
          have HR := Aside0.mk hr
          have hg' : ¬ 256 < qP := hg
          clear hr
          go_wp2
          go_round
          case rel => exact ⟨k + 1, qP, by go_num, rfl, by omega, by omega, by omega, HR⟩
          case measure => simp [intOf]; omega
      · obtain rfl : k = n := by omega
        have hr := HR.out
        rw [Nat.sub_self] at hr
        simp only [ordLoop] at hr
        subst hr
        clear HR
        go_wp2
        go_ret
        exact ⟨rfl, rfl⟩

theorem isPrime_fn (n : Int) (hn0 : 2 ≤ n) (hn1 : n ≤ 256) (w : World) : Calls Try.prog 100 #[.int .i64 n] w fun e w' => e = .returned (.bool (primeZ n)) ∧ w = w' := by
  obtain ⟨R, hR⟩ : ∃ R, primeZ n = R := ⟨_, rfl⟩
  rw [hR]
  have HR := Aside0.mk (show primeLoop n 20 2 = R from hR)
  clear hR
  go_enter Try.func100, Try.ntmps100
  go_wp2
  go_loop [3] (fun v3 => ∃ (d : Int) (k : Nat), v3 = .int .i64 d ∧ 2 ≤ d ∧ d ≤ 17 ∧ d + k = 22 ∧ Aside0 (primeLoop n k d = R)) (fun v3 => (100 - intOf v3).toNat)
  case atStart => exact ⟨2, 20, rfl, by omega, by omega, by omega, HR⟩
  case round =>
    clear HR
    obtain ⟨d, k, rfl, hd1, hd2, hdk, HR⟩ := hrel
    have HDK := Aside0.mk hdk
    have hm1 : 2 * 2 ≤ d * d := Int.mul_le_mul hd1 hd1 (by omega) (by omega)
    have hm2 : d * d ≤ 17 * 17 := Int.mul_le_mul hd2 hd2 (by omega) (by omega)
    have hr := HR.out
    obtain ⟨j, hj⟩ : ∃ j, k = j + 1 := ⟨k - 1, by omega⟩
    subst hj
    simp only [primeLoop] at hr
    obtain ⟨dd, hdd⟩ : ∃ x, d * d = x := ⟨_, rfl⟩
    have hd17 : dd ≤ n → d ≤ 16 := by
      intro h
      rw [← hdd] at h
      by_cases hc : d ≤ 16
      · exact hc
      · have : 17 * 17 ≤ d * d := Int.mul_le_mul (by omega) (by omega) (by omega) (by omega)
        omega
    have e1 : wrap64 (d * d) = dd := by rw [← hdd, ← i64_w]; exact w64 _ (by omega) (by omega)
    rw [hdd] at hr hm1 hm2
    clear hdd HR hdk
    by_cases hle : dd ≤ n
    · rw [if_pos hle] at hr
      have hd16 := hd17 hle
      clear hd17
      obtain ⟨md, hmd⟩ : ∃ x, n % d = x := ⟨_, rfl⟩
      have e2 : n.tmod d = md := by rw [← hmd]; exact Int.tmod_eq_emod_of_nonneg (by omega)
      have e3 : (d == 0) = false := by simp only [beq_eq_false_iff_ne]; omega
      rw [hmd] at hr
      by_cases hz : md = 0
      · rw [if_pos hz] at hr
        subst hr hz
        go_wp2
        go_ret
        exact ⟨rfl, rfl⟩
      · rw [if_neg hz] at hr
        have HR := Aside0.mk hr
        have hzb : (md == 0) = false := by simp [hz]
        clear hr hz hmd
        go_wp2
        go_round
        case rel => exact ⟨d + 1, j, by go_num, by omega, by omega, by have := HDK.out; omega, HR⟩
        case measure => simp [intOf]; omega
    · rw [if_neg hle] at hr
      have hr' : true = R := by rw [← hr]; simp [hn0]
      subst hr'
      clear hr hd17
      go_wp2
      go_ret
      exact ⟨rfl, rfl⟩

theorem digitsOf_any (x P : Int) (M : Nat) (hx0 : 0 ≤ x) (hx1 : x ≤ 1000000) (hP : 2 ≤ P) (hM : M ≤ 1000) (w : World) :
    Calls Try.prog 135 #[.int .i64 x, .int .i64 P, .int .i64 M] w fun e w' => ∃ v, e = .returned v ∧ Own w' w.heap.size v (digs P M x) ∧ Below w.heap.size w w' := by
  obtain ⟨R, hR⟩ : ∃ R, digs P M x = R := ⟨_, rfl⟩
  have hRl := digs_length P M x
  rw [hR] at hRl
  rw [hR]
  have HR := Aside0.mk hR
  have HRl := Aside0.mk hRl
  have hPz : (P == 0) = false := by simp only [beq_eq_false_iff_ne]; omega
  clear hR hRl
  go_enter Try.func135, Try.ntmps135
  go_wp2_with ((with_reducible refine gate_dst (N := 10) rfl ?_); refine make_own (n := M) rfl (N := 10) rfl _ _ rfl rfl rfl (by omega) ?_; intro v w1 hO hB; obtain ⟨A1, c1, rfl, hc1, hC1⟩ := hO.slice; have HO := Aside0.mk hO; have HBl := Aside0.mk hB; clear hO hB hC1)
  go_loopw [0, 13] (fun v0 v13 w' => ∃ (k : Nat) (y : Int) (dn : List Int), v13 = .int .i64 k ∧ v0 = .int .i64 y ∧ k ≤ M ∧ 0 ≤ y ∧ y ≤ 1000000 ∧ Aside0 (dn.length = k) ∧ Aside0 (dn ++ digs P (M - k) y = R) ∧ Aside0 (Own w' w.heap.size (.slice A1 M c1) (dn ++ List.replicate (M - k) 0)) ∧ Aside0 (Below w.heap.size w w')) (fun _ v13 _ => M - (intOf v13).toNat)
  case atStart => exact ⟨0, x, [], rfl, rfl, by omega, hx0, hx1, ⟨rfl⟩, HR, ⟨by simpa using HO.out⟩, HBl⟩
  case round =>
    clear HO HBl HR
    obtain ⟨k, y, dn, rfl, rfl, hk, hy0, hy1, Hdl, HR, HO, HB⟩ := hrel
    have hol : (dn ++ List.replicate (M - k) (0 : Int)).length = M := by rw [List.length_append, Hdl.out, List.length_replicate]; omega
    by_cases hlt : k < M
    · have hr := HR.out
      obtain ⟨m, hm⟩ : ∃ m, M - k = m + 1 := ⟨M - k - 1, by omega⟩
      have hm2 : M - (k + 1) = m := by omega
      rw [hm] at hr HO hol
      simp only [digs] at hr
      have hdiv : y / P ≤ y := Int.ediv_le_self _ hy0
      have hdiv0 : 0 ≤ y / P := Int.ediv_nonneg hy0 (by omega)
      have hr2 : (dn ++ [y % P]) ++ digs P (M - (k + 1)) (y / P) = R := by rw [hm2, List.append_assoc]; exact hr
      have HR2 := Aside0.mk hr2
      have Hdl2 : Aside0 ((dn ++ [y % P]).length = k + 1) := ⟨by rw [List.length_append, Hdl.out]; rfl⟩
      obtain ⟨g, cap, eg, hg1, hg2⟩ := HO.out.form (by omega)
      rw [hol] at eg
      cases eg
      obtain ⟨hcl, hfz⟩ := HO.out.cell' hol.symm k hlt
      have HO2 := Aside0.mk (HO.out.set hol.symm k (y % P))
      have hsn := snoc_set_replicate dn m (y % P)
      rw [Hdl.out] at hsn
      rw [hsn, ← hm2] at HO2
      clear hr hr2 hm hm2 hol HO hsn HR Hdl
      go_wp2
      go_roundw
      case rel => exact ⟨k + 1, y / P, _, by go_num, rfl, by omega, hdiv0, by omega, Hdl2, HR2, HO2, ⟨HB.out.setCell (p := ⟨g, k, none⟩) hg1 _⟩⟩
      case measure => simp [intOf]; omega
    · obtain rfl : k = M := by omega
      rw [Nat.sub_self] at HR HO
      have hr := HR.out
      simp only [digs, List.append_nil] at hr
      subst hr
      simp only [List.replicate_zero, List.append_nil] at HO
      clear HR hol
      go_wp2
      go_ret
      exact ⟨_, rfl, HO.out, HB.out⟩

theorem valueOf_any {w : World} {A : Option Addr} {c : Nat} {l : List Int} (hl : Kd.C (Kd.int .i64) w A l.length l) (P : Int) (hP : 2 ≤ P) (hP2 : P ≤ 256) (hm : ∀ d ∈ l, 0 ≤ d ∧ d < P) (hb : P ^ l.length ≤ 256) :
    Calls Try.prog 136 #[.slice A l.length c, .int .i64 P] w fun e w' => e = .returned (.int .i64 (val P l)) ∧ Drawn0 w w' := by
  have HL := Aside0.mk hl
  have hmx := Kd.C_max hl
  have HM := Aside0.mk hm
  have HBd := Aside0.mk hb
  clear hl hm hb
  go_enter Try.func136, Try.ntmps136
  go_wp2
  go_loopw [5, 6] (fun v5 v6 w' => ∃ (k : Nat) (y : Int), v6 = .int .i64 ((k : Int) - 1) ∧ v5 = .int .i64 y ∧ k ≤ l.length ∧ Aside0 (y = val P (l.drop k)) ∧ Drawn0 w w') (fun _ v6 _ => (intOf v6 + 1).toNat)
  case atStart => exact ⟨l.length, 0, rfl, rfl, Nat.le_refl _, ⟨by simp [val]⟩, Drawn0.refl _⟩
  case round =>
    obtain ⟨k, y, rfl, rfl, hk, HY, hd⟩ := hrel
    by_cases h0 : 0 < k
    · obtain ⟨j, rfl⟩ : ∃ j, k = j + 1 := ⟨k - 1, by omega⟩
      have hstep := val_drop P l j (by omega)
      rw [← HY.out] at hstep
      obtain ⟨hy1, hy2⟩ := val_drop_bound P hP l HM.out HBd.out (j + 1)
      rw [← HY.out] at hy1 hy2
      obtain ⟨hs1, hs2⟩ := val_drop_bound P hP l HM.out HBd.out j
      obtain ⟨ad, e, hx⟩ := C_nat (Kd.C_below HL.out hd.below) j (by omega)
      cases e
      obtain ⟨z, hz⟩ : ∃ z, l.getD j 0 = z := ⟨_, rfl⟩
      rw [hz] at hx hstep
      obtain ⟨T, hT⟩ : ∃ T, val P (l.drop j) = T := ⟨_, rfl⟩
      rw [hT] at hstep hs1 hs2
      have HT := Aside0.mk hT.symm
      obtain ⟨m, hm⟩ : ∃ m, y * P = m := ⟨_, rfl⟩
      have hm1 : m ≤ 256 * 256 := by rw [← hm]; exact Int.mul_le_mul hy2 hP2 (by omega) (by omega)
      have hm0 : 0 ≤ m := by rw [← hm]; exact Int.mul_nonneg hy1 (by omega)
      rw [Int.mul_comm P y, hm] at hstep
      have e1 : wrap64 (y * P) = m := by rw [hm, ← i64_w]; exact w64 _ (by omega) (by omega)
      have e2 : wrap64 (m + z) = T := by rw [hstep, ← i64_w, Int.add_comm]; exact w64 _ (by omega) (by omega)
      have e3 : IntKind.i64.wrap (m + z) = T := by rw [i64_w]; exact e2
      clear hz hstep hT hm HY
      go_wp2
      go_roundw
      case rel => exact ⟨j, _, by go_num, rfl, by omega, HT, hd⟩
      case measure => simp [intOf]
    · obtain rfl : k = 0 := by omega
      rw [List.drop_zero] at HY
      go_wp2
      go_ret
      exact ⟨by rw [HY.out]; rfl, hd⟩
end Go.Proofs.Yticgblagimmlfaa
