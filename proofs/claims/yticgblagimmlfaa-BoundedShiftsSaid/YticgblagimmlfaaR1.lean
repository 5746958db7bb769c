/- The reference: In, Digits, Value, Add, Neg, Sub. -/
import Derived.Test.YticgblagimmlfaaMR
import Derived.Test.YticgblagimmlfaaSp4
namespace Go.Proofs.Yticgblagimmlfaa
open Go.RowKit Go.Proofs.YticgblagimmlfaaW.PrintWords Go.Proofs.YticgblagimmlfaaW.PrintLast Go.Proofs.YticgblagimmlfaaW.PrintMore
set_option linter.unusedVariables false
set_option linter.unusedSimpArgs false

theorem Own.setFar {w : World} {base : Nat} {v : Value} {l : List Int} (h : Own w base v l) {p : Addr} (hne : v.ownBlock ≠ some p.block) (u : Value) : Own (w.setCell p u) base v l :=
  h.keep fun j hj => Below.heap_setCell w p u j (fun e => hne (by rw [hj, e]))
theorem Own.setFar' {w : World} {base g n c g' k : Nat} {l : List Int} (h : Own w base (.slice (some ⟨g, 0, none⟩) n c) l) (hne : g ≠ g') (u : Value) : Own (w.setCell ⟨g', k, none⟩ u) base (.slice (some ⟨g, 0, none⟩) n c) l :=
  h.setFar (p := ⟨g', k, none⟩) (fun e => hne (Option.some.inj (show some g = some g' from e))) u

set_option maxRecDepth 100000 in
theorem refIn_any {w : World} {A : Option Addr} {n c : Nat} (P M x : Int) :
    Calls Try.prog 116 #[.agg #[.int .i64 P, .int .i64 M, .slice A n c], .int .i64 x] w fun e w' => e = .returned (.int .i64 (inR P M x)) ∧ Below w.heap.size w w' := by
  have hF0 := FAt.new w P M A n c
  obtain ⟨w0, hw0⟩ : ∃ w0, w.alloc (.cells #[.int .i64 P, .int .i64 M, .slice A n c] 27) = w0 := ⟨_, rfl⟩
  have hB0 : Below w.heap.size w w0 := by rw [← hw0]; exact below_alloc (Below.refl _ _) _
  rw [hw0] at hF0
  have HB0 := Aside0.mk hB0
  have HW := Aside0.mk hw0
  have HF := Aside0.mk hF0
  have HI := fun (w1 : World) => Aside0.mk (refIs_any (w := w1) (A := A) (n := n) (c := c) P M x)
  obtain ⟨b, hb⟩ : ∃ b, isR P M x = b := ⟨_, rfl⟩
  have hR : inR P M x = if b = true then x else 0 := by unfold inR; rw [hb]
  rw [hR]
  rw [hb] at HI
  have HI := Aside0.mk HI
  clear hF0 hB0 hw0 hb hR
  cases b with
  | true =>
    simp only [if_true]
    go_enter Try.func116, Try.ntmps116
    go_upto_region 1 with (fail)
    rw [HW.out]
    have cP := HF.out.p
    have cM := HF.out.m
    have cD := HF.out.mod
    go_wp2_with (go_at_call 43; refine (HI.out _).out.mono ?_; rintro e w1 ⟨rfl, hB⟩; have HB1 := Aside0.mk (below_later HB0.out HB0.out.size hB); clear hB)
    go_ret
    exact ⟨rfl, HB1.out⟩
  | false =>
    rw [if_neg (by simp)]
    go_enter Try.func116, Try.ntmps116
    go_upto_region 1 with (fail)
    rw [HW.out]
    have cP := HF.out.p
    have cM := HF.out.m
    have cD := HF.out.mod
    go_wp2_with (go_at_call 43; refine (HI.out _).out.mono ?_; rintro e w1 ⟨rfl, hB⟩; have HB1 := Aside0.mk (below_later HB0.out HB0.out.size hB); clear hB)
    go_ret
    exact ⟨rfl, HB1.out⟩

set_option maxRecDepth 100000 in
theorem refDig_any {w : World} {A : Option Addr} {n c : Nat} {P : Int} {m : Nat} (hf : FOK P m) (x : Int) :
    Calls Try.prog 76 #[.agg #[.int .i64 P, .int .i64 (m : Int), .slice A n c], .int .i64 x] w fun e w' => ∃ v, e = .returned v ∧ Own w' w.heap.size v (digs P m (inR P m x)) ∧ Below w.heap.size w w' := by
  obtain ⟨hP, hP2, hm1, hm8, hq, ho⟩ := hf.facts
  have hF0 := FAt.new w P (m : Int) A n c
  obtain ⟨w0, hw0⟩ : ∃ w0, w.alloc (.cells #[.int .i64 P, .int .i64 (m : Int), .slice A n c] 27) = w0 := ⟨_, rfl⟩
  have hB0 : Below w.heap.size w w0 := by rw [← hw0]; exact below_alloc (Below.refl _ _) _
  rw [hw0] at hF0
  have HB0 := Aside0.mk hB0
  have HW := Aside0.mk hw0
  have HF := Aside0.mk hF0
  have HI := Aside0.mk (fun (w1 : World) => refIn_any (w := w1) (A := A) (n := n) (c := c) P (m : Int) x)
  have hy := inR_range hf x
  obtain ⟨y, hy'⟩ : ∃ y, inR P m x = y := ⟨_, rfl⟩
  rw [hy'] at HI hy
  rw [hy']
  have HD := Aside0.mk (fun (w1 : World) => refDigits_any y P m (by omega) (by omega) hP (by omega) w1)
  obtain ⟨L, hL⟩ : ∃ L, digs P m y = L := ⟨_, rfl⟩
  rw [hL] at HD
  rw [hL]
  clear hF0 hB0 hw0 hy' hL hq ho
  go_enter Try.func76, Try.ntmps76
  go_upto_region 1 with (fail)
  rw [HW.out]
  have hcP : ∀ j : Ext w0, j.wd.cell? ⟨w.heap.size, 0, none⟩ = some (.int .i64 P) := fun j => j.cell HF.out.p
  have hcM : ∀ j : Ext w0, j.wd.cell? ⟨w.heap.size, 1, none⟩ = some (.int .i64 (m : Int)) := fun j => j.cell HF.out.m
  have hcD : ∀ j : Ext w0, j.wd.cell? ⟨w.heap.size, 2, none⟩ = some (.slice A n c) := fun j => j.cell HF.out.mod
  refine wp_region_ext_tail 7 (by kernel_rfl) (by kernel_rfl) ?_
  simp only [List.take_succ_cons, List.take_zero, List.drop_succ_cons, List.drop_zero]
  repeat (go_big_quiet_step ((go_at_call 116; with_reducible exact Ext.call _ (HI.out _))))
  refine wpQuiet_nil ?_
  intro w1 hB1
  have HB1 := Aside0.mk (below_later HB0.out HB0.out.size hB1)
  clear hcP hcM hcD hB1
  go_wp2_with (go_at_call 109; refine (HD.out _).mono ?_; rintro e w2 ⟨v, rfl, hO, hB⟩; have HO := Aside0.mk hO; have HB2 := Aside0.mk hB; clear hO hB)
  go_ret
  exact ⟨_, rfl, HO.out.lower HB1.out.size, below_later HB1.out HB1.out.size HB2.out⟩

set_option maxHeartbeats 1000000 in
set_option maxRecDepth 100000 in
theorem refValue_any {w : World} {A B : Option Addr} {n c d : Nat} (P M : Int) {l : List Int} (hl : Kd.C (Kd.int .i64) w B l.length l) (hP : 2 ≤ P) (hP2 : P ≤ 256) (hm : ∀ d ∈ l, 0 ≤ d ∧ d < P) (hb : P ^ l.length ≤ 256) :
    Calls Try.prog 77 #[.agg #[.int .i64 P, .int .i64 M, .slice A n c], .slice B l.length d] w fun e w' => e = .returned (.int .i64 (val P l)) ∧ Below w.heap.size w w' := by
  have hF0 := FAt.new w P M A n c
  obtain ⟨w0, hw0⟩ : ∃ w0, w.alloc (.cells #[.int .i64 P, .int .i64 M, .slice A n c] 27) = w0 := ⟨_, rfl⟩
  have hB0 : Below w.heap.size w w0 := by rw [← hw0]; exact below_alloc (Below.refl _ _) _
  rw [hw0] at hF0
  have HB0 := Aside0.mk hB0
  have HW := Aside0.mk hw0
  have HF := Aside0.mk hF0
  have HL := Aside0.mk (Kd.C_below hl hB0)
  have hmx := Kd.C_max hl
  have HM := Aside0.mk hm
  have HBd := Aside0.mk hb
  have HD0 := Aside0.mk (Drawn0.refl w0)
  clear hl hm hb hF0 hB0 hw0
  go_enter Try.func77, Try.ntmps77
  go_upto_region 1 with (fail)
  rw [HW.out]
  go_wp2
  go_loopw [5, 6] (fun v5 v6 w' => ∃ (k : Nat) (y : Int), v6 = .int .i64 ((k : Int) - 1) ∧ v5 = .int .i64 y ∧ k ≤ l.length ∧ Aside0 (y = val P (l.drop k)) ∧ Aside0 (Drawn0 w0 w')) (fun _ v6 _ => (intOf v6 + 1).toNat)
  case atStart => exact ⟨l.length, 0, rfl, rfl, Nat.le_refl _, ⟨by simp [val]⟩, HD0⟩
  case round =>
    clear HD0
    obtain ⟨k, y, rfl, rfl, hk, HY, hd⟩ := hrel
    by_cases h0 : 0 < k
    · obtain ⟨j, rfl⟩ : ∃ j, k = j + 1 := ⟨k - 1, by omega⟩
      have hstep := val_drop P l j (by omega)
      rw [← HY.out] at hstep
      obtain ⟨hy1, hy2⟩ := val_drop_bound P hP l HM.out HBd.out (j + 1)
      rw [← HY.out] at hy1 hy2
      obtain ⟨hs1, hs2⟩ := val_drop_bound P hP l HM.out HBd.out j
      obtain ⟨ad, e, hx⟩ := C_nat (Kd.C_below HL.out hd.out.below) j (by omega)
      cases e
      obtain ⟨z, hz⟩ : ∃ z, l.getD j 0 = z := ⟨_, rfl⟩
      rw [hz] at hx hstep
      obtain ⟨T, hT⟩ : ∃ T, val P (l.drop j) = T := ⟨_, rfl⟩
      rw [hT] at hstep hs1 hs2
      have HT := Aside0.mk hT.symm
      obtain ⟨m, hm⟩ : ∃ m, y * P = m := ⟨_, rfl⟩
      have hm1 : m ≤ 256 * 256 := by rw [← hm]; exact Int.mul_le_mul hy2 hP2 (by omega) (by omega)
      have hm0 : 0 ≤ m := by rw [← hm]; exact Int.mul_nonneg hy1 (by omega)
      rw [Int.mul_comm P y, hm] at hstep
      have e1 : IntKind.i64.wrap (y * P) = m := by rw [hm]; exact w64 _ (by omega) (by omega)
      have e2 : IntKind.i64.wrap (m + z) = T := by rw [hstep, Int.add_comm]; exact w64 _ (by omega) (by omega)
      have cP := (HF.out.below hd.out.below).p
      have i0 : (0 : Int) ≤ (j : Int) := by omega
      have i1 : (j : Int) < (l.length : Int) := by omega
      clear hz hstep hT hm HY
      go_wp2
      go_quiet (fail)
      go_wp2
      go_roundw
      case rel => exact ⟨j, _, by go_num, rfl, by omega, HT, ⟨Drawn0.trans hd.out ⟨_, rfl⟩⟩⟩
      case measure => simp [intOf]
    · obtain rfl : k = 0 := by omega
      rw [List.drop_zero] at HY
      go_wp2
      go_ret
      exact ⟨by rw [HY.out]; rfl, HB0.out.below'' hd.out⟩

set_option maxHeartbeats 1000000 in
set_option maxRecDepth 100000 in
theorem refAdd_any {w : World} {A : Option Addr} {n c : Nat} {P : Int} {m : Nat} (hf : FOK P m) (x y : Int) :
    Calls Try.prog 48 #[.agg #[.int .i64 P, .int .i64 (m : Int), .slice A n c], .int .i64 x, .int .i64 y] w fun e w' => e = .returned (.int .i64 (addR P m x y)) ∧ Below w.heap.size w w' := by
  obtain ⟨hP, hP2, hm1, hm8, hq, ho⟩ := hf.facts
  have hF0 := FAt.new w P (m : Int) A n c
  obtain ⟨w0, hw0⟩ : ∃ w0, w.alloc (.cells #[.int .i64 P, .int .i64 (m : Int), .slice A n c] 27) = w0 := ⟨_, rfl⟩
  have hB0 : Below w.heap.size w w0 := by rw [← hw0]; exact below_alloc (Below.refl _ _) _
  rw [hw0] at hF0
  have HB0 := Aside0.mk hB0
  have HW := Aside0.mk hw0
  have HF := Aside0.mk hF0
  have HDx := Aside0.mk (fun (w1 : World) => refDig_any (w := w1) (A := A) (n := n) (c := c) hf x)
  have HDy := Aside0.mk (fun (w1 : World) => refDig_any (w := w1) (A := A) (n := n) (c := c) hf y)
  have hxl := digs_length P m (inR P m x)
  have hyl := digs_length P m (inR P m y)
  have hxm := digs_mem P hP m (inR P m x)
  have hym := digs_mem P hP m (inR P m y)
  have hR : addR P m x y = val P (updZ (fun o c => (o + c) % P) (digs P m (inR P m x)) (digs P m (inR P m y))) := rfl
  rw [hR]
  obtain ⟨a, ha⟩ : ∃ a, digs P m (inR P m x) = a := ⟨_, rfl⟩
  obtain ⟨b, hb⟩ : ∃ b, digs P m (inR P m y) = b := ⟨_, rfl⟩
  rw [ha] at HDx hxl hxm ⊢
  rw [hb] at HDy hyl hym ⊢
  obtain ⟨F, hF⟩ : ∃ F : Int → Int → Int, (fun o c => (o + c) % P) = F := ⟨_, rfl⟩
  rw [hF]
  have hFm : ∀ (k : Nat), ∀ d ∈ updZ F a (b.take k), 0 ≤ d ∧ d < P := fun k => updZ_mem' F (fun d => 0 ≤ d ∧ d < P) (fun o t => by rw [← hF]; exact ⟨Int.emod_nonneg _ (by omega), Int.emod_lt_of_pos _ (by omega)⟩) a _ hxm
  have HFm := Aside0.mk hFm
  have HFe := Aside0.mk hF
  have Hxl := Aside0.mk hxl
  have Hyl := Aside0.mk hyl
  have Hxm := Aside0.mk hxm
  have Hym := Aside0.mk hym
  have HQ := Aside0.mk hq
  have HVal := Aside0.mk (fun (w1 : World) (l : List Int) (B : Option Addr) (d : Nat) (hl : Kd.C (Kd.int .i64) w1 B l.length l) (hm : ∀ d ∈ l, 0 ≤ d ∧ d < P) (hb : P ^ l.length ≤ 256) => refValue_any (A := A) (n := n) (c := c) (d := d) P (m : Int) hl hP hP2 hm hb)
  clear hF0 hB0 hw0 ha hb hxl hyl hxm hym hR hF hFm hq ho
  go_enter Try.func48, Try.ntmps48
  go_upto_region 1 with (fail)
  rw [HW.out]
  have cP := HF.out.p
  have cM := HF.out.m
  have cD := HF.out.mod
  go_wp2_with (first
    | (go_at_call 76; (with_reducible refine Calls.mono (HDx.out _) ?_); rintro e w1 ⟨v1, rfl, hO, hB⟩; have HO1 := Aside0.mk hO; have HB1 := Aside0.mk hB; obtain ⟨cP1, cM1, cD1⟩ := HF.out.below hB; clear hO hB)
    | (go_at_call 76; (with_reducible refine Calls.mono (HDy.out _) ?_); rintro e w2 ⟨v2, rfl, hO, hB⟩; have HO2 := Aside0.mk hO; have HO1b := Aside0.mk (HO1.out.below hB); have HB2 := Aside0.mk (below_later HB1.out HB1.out.size hB); obtain ⟨cP2, cM2, cD2⟩ := HF.out.below HB2.out; clear hO hB))
  obtain ⟨g1, c1, e1, h11, h12⟩ := HO1.out.form (by rw [Hxl.out]; omega)
  obtain ⟨g2, c2, e2, h21, h22⟩ := HO2.out.form (by rw [Hyl.out]; omega)
  rw [Hxl.out] at e1
  rw [Hyl.out] at e2
  subst e1 e2
  have hgg : g2 ≠ g1 := by omega
  have H0 : Aside0 (Own w2 w0.heap.size (.slice (some ⟨g1, 0, none⟩) m c1) (updZ F a (b.take 0))) := ⟨by simpa [updZ_nil] using HO1b.out⟩
  have HS1 := HB1.out.size
  have H2 : Aside0 (Own w2 w0.heap.size (.slice (some ⟨g2, 0, none⟩) m c2) b) := ⟨HO2.out.lower HS1⟩
  have HGG := Aside0.mk hgg
  have HG1 := h11
  clear cP cM cD cP1 cM1 cD1 cP2 cM2 cD2 HO1 HO1b HO2 hgg h11 h12 h21 h22 HS1
  go_wp2
  go_loopw [9] (fun v9 w' => ∃ k : Nat, v9 = .int .i64 k ∧ k ≤ m ∧ Aside0 (Own w' w0.heap.size (.slice (some ⟨g1, 0, none⟩) m c1) (updZ F a (b.take k))) ∧ Aside0 (Below w0.heap.size w0 w') ∧ Aside0 (Own w' w0.heap.size (.slice (some ⟨g2, 0, none⟩) m c2) b)) (fun v9 _ => m - (intOf v9).toNat)
  case atStart => exact ⟨0, rfl, by omega, H0, HB2, H2⟩
  case round =>
    clear H0 H2
    obtain ⟨k, rfl, hk, HOa, HB, HOb⟩ := hrel
    have hlen : (updZ F a (b.take k)).length = m := by rw [updZ_length]; exact Hxl.out
    have cP := (HF.out.below HB.out).p
    have cM := (HF.out.below HB.out).m
    have cD := (HF.out.below HB.out).mod
    by_cases hlk : k < m
    · obtain ⟨hcl, hfz⟩ := HOa.out.cell' hlen.symm k hlk
      obtain ⟨hcb, -⟩ := HOb.out.cell' Hyl.out.symm k hlk
      have hget := updZ_get F 0 k a b
      have hstep := updZ_set F 0 k a b (by rw [Hyl.out]; exact hlk) (by rw [Hxl.out]; exact hlk)
      have hor := getD_range P hP a Hxm.out k
      have hzr := getD_range P hP b Hym.out k
      obtain ⟨o, ho⟩ : ∃ o, a.getD k 0 = o := ⟨_, rfl⟩
      obtain ⟨z, hz⟩ : ∃ z, b.getD k 0 = z := ⟨_, rfl⟩
      rw [hget, ho] at hcl
      rw [hz] at hcb
      rw [ho] at hor
      rw [hz] at hzr
      rw [ho, hz, ← HFe.out] at hstep
      obtain ⟨u, hu⟩ : ∃ u, (o + z) % P = u := ⟨_, rfl⟩
      simp only [hu] at hstep
      rw [HFe.out] at hstep
      have e1 : IntKind.i64.wrap (o + z) = o + z := w64 _ (by omega) (by omega)
      have e2 : Int.tmod (o + z) P = u := by rw [Int.tmod_eq_emod_of_nonneg (by omega)]; exact hu
      have e3 : (P == 0) = false := by simp only [beq_eq_false_iff_ne]; omega
      have HO2 := Aside0.mk (HOa.out.set hlen.symm k u)
      rw [hstep] at HO2
      have HOb2 := Aside0.mk (HOb.out.setFar' (k := k) HGG.out (.int .i64 u))
      have i0 : (0 : Int) ≤ (k : Int) := by omega
      have i1 : (k : Int) < (m : Int) := by omega
      clear hget hstep ho hz hu HOa HOb hlen
      go_wp2
      refine wp_region_quiet_tail 14 (by kernel_rfl) (by kernel_rfl) ?_
      simp only [List.take_succ_cons, List.take_zero, List.drop_succ_cons, List.drop_zero]
      repeat (first | go_big_quiet_step (fail) | quiet_step (fail))
      refine wpQuiet_nil ?_
      intro _ hw'
      obtain ⟨nq, hw''⟩ := hw'
      subst hw''
      go_wp2
      go_roundw
      case rel => exact ⟨k + 1, by go_num, by omega, ⟨HO2.out.drewN _⟩, ⟨pw_below_drewN (HB.out.setCell (p := ⟨g1, k, none⟩) HG1 _) _⟩, ⟨HOb2.out.drewN _⟩⟩
      case measure => simp [intOf]; omega
    · obtain rfl : k = m := by omega
      have HFm1 := HFm.out k
      rw [← Hyl.out, List.take_length] at HOa hlen HFm1
      obtain ⟨A7, c7, e7, hc7, hC7⟩ := HOa.out.slice
      rw [hlen, Hyl.out] at e7
      have hC8 := hC7
      rw [hlen, Hyl.out] at hC7
      cases e7
      have HV := Aside0.mk (HVal.out wr _ _ c1 hC8 HFm1 (by rw [hlen, Hyl.out]; exact HQ.out))
      have hl8 : Aside0 ((updZ F a b).length = k) := ⟨by rw [hlen, Hyl.out]⟩
      rw [hl8.out] at HV
      clear hC7 hC8 HFm1 hlen HOa
      go_wp2_with (go_at_call 77; refine HV.out.mono ?_; rintro e w5 ⟨rfl, hB⟩; have HB5 := Aside0.mk (below_later HB.out HB.out.size hB); clear hB)
      go_ret
      exact ⟨rfl, below_later HB0.out HB0.out.size HB5.out⟩

set_option maxHeartbeats 1000000 in
set_option maxRecDepth 100000 in
theorem refNeg_any {w : World} {A : Option Addr} {n c : Nat} {P : Int} {m : Nat} (hf : FOK P m) (x : Int) :
    Calls Try.prog 84 #[.agg #[.int .i64 P, .int .i64 (m : Int), .slice A n c], .int .i64 x] w fun e w' => e = .returned (.int .i64 (negR P m x)) ∧ Below w.heap.size w w' := by
  obtain ⟨hP, hP2, hm1, hm8, hq, ho⟩ := hf.facts
  have hF0 := FAt.new w P (m : Int) A n c
  obtain ⟨w0, hw0⟩ : ∃ w0, w.alloc (.cells #[.int .i64 P, .int .i64 (m : Int), .slice A n c] 27) = w0 := ⟨_, rfl⟩
  have hB0 : Below w.heap.size w w0 := by rw [← hw0]; exact below_alloc (Below.refl _ _) _
  rw [hw0] at hF0
  have HB0 := Aside0.mk hB0
  have HW := Aside0.mk hw0
  have HF := Aside0.mk hF0
  have HDx := Aside0.mk (fun (w1 : World) => refDig_any (w := w1) (A := A) (n := n) (c := c) hf x)
  have hxl := digs_length P m (inR P m x)
  have hxm := digs_mem P hP m (inR P m x)
  have hR : negR P m x = val P ((digs P m (inR P m x)).map fun d => (P - d) % P) := rfl
  rw [hR]
  obtain ⟨a, ha⟩ : ∃ a, digs P m (inR P m x) = a := ⟨_, rfl⟩
  rw [ha] at HDx hxl hxm ⊢
  obtain ⟨F, hF⟩ : ∃ F : Int → Int, (fun d => (P - d) % P) = F := ⟨_, rfl⟩
  rw [hF]
  have hFm : ∀ d ∈ a.map F, 0 ≤ d ∧ d < P := fun d hd => by
    obtain ⟨y, -, rfl⟩ := List.mem_map.1 hd
    rw [← hF]; exact ⟨Int.emod_nonneg _ (by omega), Int.emod_lt_of_pos _ (by omega)⟩
  have HFm := Aside0.mk hFm
  have HFe := Aside0.mk hF
  have Hxl := Aside0.mk hxl
  have Hxm := Aside0.mk hxm
  have HQ := Aside0.mk hq
  have HVal := Aside0.mk (fun (w1 : World) (l : List Int) (B : Option Addr) (d : Nat) (hl : Kd.C (Kd.int .i64) w1 B l.length l) (hm : ∀ d ∈ l, 0 ≤ d ∧ d < P) (hb : P ^ l.length ≤ 256) => refValue_any (A := A) (n := n) (c := c) (d := d) P (m : Int) hl hP hP2 hm hb)
  clear hF0 hB0 hw0 ha hxl hxm hR hF hFm hq ho
  go_enter Try.func84, Try.ntmps84
  go_upto_region 1 with (fail)
  rw [HW.out]
  have cP := HF.out.p
  have cM := HF.out.m
  have cD := HF.out.mod
  go_wp2_with (go_at_call 76; (with_reducible refine Calls.mono (HDx.out _) ?_); rintro e w1 ⟨v1, rfl, hO, hB⟩; have HO1 := Aside0.mk hO; have HB1 := Aside0.mk hB; obtain ⟨cP1, cM1, cD1⟩ := HF.out.below hB; clear hO hB)
  obtain ⟨g1, c1, e1, h11, h12⟩ := HO1.out.form (by rw [Hxl.out]; omega)
  rw [Hxl.out] at e1
  subst e1
  have H0 : Aside0 (Own w1 w0.heap.size (.slice (some ⟨g1, 0, none⟩) m c1) (mapPre F a 0)) := ⟨by simpa [mapPre_zero] using HO1.out⟩
  have HG1 := h11
  clear cP cM cD cP1 cM1 cD1 HO1 h11 h12
  go_wp2
  go_loopw [6] (fun v6 w' => ∃ k : Nat, v6 = .int .i64 k ∧ k ≤ m ∧ Aside0 (Own w' w0.heap.size (.slice (some ⟨g1, 0, none⟩) m c1) (mapPre F a k)) ∧ Aside0 (Below w0.heap.size w0 w')) (fun v6 _ => m - (intOf v6).toNat)
  case atStart => exact ⟨0, rfl, by omega, H0, HB1⟩
  case round =>
    clear H0
    obtain ⟨k, rfl, hk, HOa, HB⟩ := hrel
    have hlen : (mapPre F a k).length = m := by rw [mapPre_length]; exact Hxl.out
    have cP := (HF.out.below HB.out).p
    have cM := (HF.out.below HB.out).m
    have cD := (HF.out.below HB.out).mod
    by_cases hlk : k < m
    · obtain ⟨hcl, hfz⟩ := HOa.out.cell' hlen.symm k hlk
      have hget := mapPre_get F a k (by rw [Hxl.out]; exact hlk)
      have hstep := mapPre_set F a k (by rw [Hxl.out]; exact hlk)
      have hor := getD_range P hP a Hxm.out k
      obtain ⟨o, ho⟩ : ∃ o, a.getD k 0 = o := ⟨_, rfl⟩
      rw [hget, ho] at hcl
      rw [ho] at hor
      rw [ho, ← HFe.out] at hstep
      obtain ⟨u, hu⟩ : ∃ u, (P - o) % P = u := ⟨_, rfl⟩
      simp only [hu] at hstep
      rw [HFe.out] at hstep
      have e1 : IntKind.i64.wrap (P - o) = P - o := w64 _ (by omega) (by omega)
      have e2 : Int.tmod (P - o) P = u := by rw [Int.tmod_eq_emod_of_nonneg (by omega)]; exact hu
      have e3 : (P == 0) = false := by simp only [beq_eq_false_iff_ne]; omega
      have HO2 := Aside0.mk (HOa.out.set hlen.symm k u)
      rw [hstep] at HO2
      have i0 : (0 : Int) ≤ (k : Int) := by omega
      have i1 : (k : Int) < (m : Int) := by omega
      clear hget hstep ho hu HOa hlen
      go_wp2
      refine wp_region_quiet_tail 12 (by kernel_rfl) (by kernel_rfl) ?_
      simp only [List.take_succ_cons, List.take_zero, List.drop_succ_cons, List.drop_zero]
      repeat (first | go_big_quiet_step (fail) | quiet_step (fail))
      refine wpQuiet_nil ?_
      intro _ hw'
      obtain ⟨nq, hw''⟩ := hw'
      subst hw''
      go_wp2
      go_roundw
      case rel => exact ⟨k + 1, by go_num, by omega, ⟨HO2.out.drewN _⟩, ⟨pw_below_drewN (HB.out.setCell (p := ⟨g1, k, none⟩) HG1 _) _⟩⟩
      case measure => simp [intOf]; omega
    · obtain rfl : k = m := by omega
      have HFm1 := HFm.out
      have hall := mapPre_all F a
      rw [Hxl.out] at hall
      rw [hall] at HOa hlen
      obtain ⟨A7, c7, e7, hc7, hC7⟩ := HOa.out.slice
      rw [hlen] at e7
      have hC8 := hC7
      cases e7
      have HV := Aside0.mk (HVal.out wr _ _ c1 hC8 HFm1 (by rw [hlen]; exact HQ.out))
      rw [hlen] at HV
      clear hC7 hC8 HFm1 hlen HOa hall
      go_wp2_with (go_at_call 77; refine HV.out.mono ?_; rintro e w5 ⟨rfl, hB⟩; have HB5 := Aside0.mk (below_later HB.out HB.out.size hB); clear hB)
      go_ret
      exact ⟨rfl, below_later HB0.out HB0.out.size HB5.out⟩

set_option maxRecDepth 100000 in
theorem refSub_any {w : World} {A : Option Addr} {n c : Nat} {P : Int} {m : Nat} (hf : FOK P m) (x y : Int) :
    Calls Try.prog 53 #[.agg #[.int .i64 P, .int .i64 (m : Int), .slice A n c], .int .i64 x, .int .i64 y] w fun e w' => e = .returned (.int .i64 (subR P m x y)) ∧ Below w.heap.size w w' := by
  have hF0 := FAt.new w P (m : Int) A n c
  obtain ⟨w0, hw0⟩ : ∃ w0, w.alloc (.cells #[.int .i64 P, .int .i64 (m : Int), .slice A n c] 27) = w0 := ⟨_, rfl⟩
  have hB0 : Below w.heap.size w w0 := by rw [← hw0]; exact below_alloc (Below.refl _ _) _
  rw [hw0] at hF0
  have HB0 := Aside0.mk hB0
  have HW := Aside0.mk hw0
  have HF := Aside0.mk hF0
  have HN := Aside0.mk (fun (w1 : World) => refNeg_any (w := w1) (A := A) (n := n) (c := c) hf y)
  have HA := Aside0.mk (fun (w1 : World) => refAdd_any (w := w1) (A := A) (n := n) (c := c) hf x (negR P m y))
  have hR : subR P m x y = addR P m x (negR P m y) := rfl
  rw [hR]
  obtain ⟨ny, hny⟩ : ∃ ny, negR P m y = ny := ⟨_, rfl⟩
  rw [hny] at HN HA ⊢
  obtain ⟨R, hRR⟩ : ∃ R, addR P m x ny = R := ⟨_, rfl⟩
  rw [hRR] at HA ⊢
  clear hF0 hB0 hw0 hny hR hRR
  go_enter Try.func53, Try.ntmps53
  go_upto_region 1 with (fail)
  rw [HW.out]
  have hcP : ∀ j : Ext w0, j.wd.cell? ⟨w.heap.size, 0, none⟩ = some (.int .i64 P) := fun j => j.cell HF.out.p
  have hcM : ∀ j : Ext w0, j.wd.cell? ⟨w.heap.size, 1, none⟩ = some (.int .i64 (m : Int)) := fun j => j.cell HF.out.m
  have hcD : ∀ j : Ext w0, j.wd.cell? ⟨w.heap.size, 2, none⟩ = some (.slice A n c) := fun j => j.cell HF.out.mod
  refine wp_region_ext (by kernel_rfl) (by kernel_rfl) ?_
  repeat (go_big_quiet_step (first | (go_at_call 84; with_reducible exact Ext.call _ (HN.out _)) | (go_at_call 48; with_reducible exact Ext.call _ (HA.out _))))
  refine wpQuiet_nil ?_
  intro w1 hB1
  have HB1 := Aside0.mk (below_later HB0.out HB0.out.size hB1)
  clear hcP hcM hcD hB1
  go_wp2
  go_ret
  exact ⟨rfl, HB1.out⟩
end Go.Proofs.Yticgblagimmlfaa
