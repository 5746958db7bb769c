/- DivMod. -/
import Derived.Test.YticgblagimmlfaaG6
namespace Go.Proofs.Yticgblagimmlfaa
open Go.RowKit Go.Proofs.YticgblagimmlfaaW.PrintWords Go.Proofs.YticgblagimmlfaaW.PrintLast Go.Proofs.YticgblagimmlfaaW.PrintMore
attribute [local go_sem] max2_int min2_int max_two min_two max_three min_three max_four min_four
set_option linter.unusedVariables false
set_option linter.unusedSimpArgs false

theorem Own.keep {w w1 : World} {base : Nat} {v : Value} {l : List Int} (h : Own w base v l) (hk : ∀ k, v.ownBlock = some k → w1.heap[k]? = w.heap[k]?) : Own w1 base v l := by
  have h1 : Kd.R (Kd.int .i64) 3 w base (fun k => v.ownBlock = some k) v l := ⟨fun k hk => hk, by
    obtain ⟨_, inner, ho, hr⟩ := h.out
    exact ⟨inner, ho, hr.imp_ (fun _ _ hp => hp)⟩⟩
  exact ⟨Kd.R_mono (Kd.R_step h1 (fun k hk' _ => hk k hk')) (fun _ _ => trivial)⟩
theorem Own.base_le {w : World} {base : Nat} {v : Value} {l : List Int} (h : Own w base v l) (k : Nat) (hk : v.ownBlock = some k) : base ≤ k := Kd.R_base h.out k hk
/-- A store into an elder block. -/
theorem Own.far {w : World} {base : Nat} {v : Value} {l : List Int} (h : Own w base v l) {p : Addr} (hp : p.block < base) (u : Value) : Own (w.setCell p u) base v l :=
  h.keep fun k hk => Below.heap_setCell w p u k (by have := h.base_le k hk; omega)
/-- A store into another block. -/
theorem Own.other {w : World} {base g n c : Nat} {l : List Int} (h : Own w base (.slice (some ⟨g, 0, none⟩) n c) l) {p : Addr} (hp : g ≠ p.block) (u : Value) : Own (w.setCell p u) base (.slice (some ⟨g, 0, none⟩) n c) l :=
  h.keep fun k hk => Below.heap_setCell w p u k (by
    have : g = k := by simpa [Value.ownBlock] using hk
    omega)
theorem Own.le_size {w : World} {base : Nat} {v : Value} {l : List Int} (h : Own w base v l) (hp : 0 < l.length) : base ≤ w.heap.size := by
  obtain ⟨g, c, e, h1, h2⟩ := h.form hp
  omega

theorem trim_n {w : World} {A : Option Addr} {n c : Nat} {l : List Int} (hn : Aside0 (n = l.length)) (h : Kd.C (Kd.int .i64) w A l.length l) (hc : l.length ≤ c) :
    Calls Try.prog 122 #[.slice A n c] w fun e w' => e = .returned (.slice A (trimZ l).length c) ∧ Drawn0 w w' := by
  have hn := hn.out
  subst hn
  exact trim_any h hc
theorem divLoop_length (D : GFD) (q : List Int) (inv : Int) : ∀ (n : Nat) (rem quo : List Int), (D.divLoop q inv n rem quo).1.length = quo.length ∧ (D.divLoop q inv n rem quo).2.length = rem.length
  | 0, rem, quo => ⟨rfl, rfl⟩
  | n + 1, rem, quo => by
    have h := divLoop_length D q inv n (updAt (fun o c => D.sub o (D.mul (D.mul (rem.getD (n + q.length - 1) 0) inv) c)) n rem q) (quo.set n (D.mul (rem.getD (n + q.length - 1) 0) inv))
    rw [updAt_length, List.length_set] at h
    exact h

theorem divMod_zero {g : Nat} {D : GFD} {w : World} (h : GFat w g D) {A B : Option Addr} {c d : Nat} {p q : List Int} (hp : Kd.C (Kd.int .i64) w A p.length p) (hq : Kd.C (Kd.int .i64) w B q.length q)
    (hbp : p.length ≤ 35184372088000) (hbq : q.length ≤ 35184372088000) (hz : D.canon q = []) :
    Calls Try.prog 106 #[.pointer (some ⟨g, 0, none⟩), .slice A p.length c, .slice B q.length d] w fun e w' => e = .returned (.tuple #[.slice none 0 0, .slice none 0 0, .int .i64 7]) ∧ Below w.heap.size w w' := by
  have H := Aside0.mk h
  have HP := Aside0.mk hp
  have HQ := Aside0.mk hq
  clear h hp hq
  have C1 := fun (w1 : World) (h1 : Below w.heap.size w w1) => Aside0.mk (canon_any (c := c) (H.out.below h1) (Kd.C_below HP.out h1) (by omega))
  have C2 := fun (w1 : World) (h1 : Below w.heap.size w w1) => Aside0.mk (canon_any (c := d) (H.out.below h1) (Kd.C_below HQ.out h1) (by omega))
  rw [hz] at C2
  clear hz
  have B0 := Below.refl w.heap.size w
  go_enter Try.func106, Try.ntmps106
  go_wp2_with (first | (go_at_call 120; refine (C1 _ B0).out.mono ?_; rintro e w1 ⟨v1, rfl, hO1, hB1⟩; obtain ⟨A1, c1, rfl, hc1, hC1⟩ := hO1.slice; have HB1 := Aside0.mk hB1; clear hO1 hB1 C1 hC1) | (go_at_call 120; refine (C2 _ HB1.out).out.mono ?_; rintro e w2 ⟨v2, rfl, hO2, hB2⟩; obtain ⟨A2, c2, rfl, hc2, hC2⟩ := hO2.slice; have HB2 := Aside0.mk (below_later HB1.out HB1.out.size hB2); clear hO2 hB2 C2 hC2))
  go_ret3
  exact ⟨rfl, HB2.out⟩

set_option maxRecDepth 100000 in
theorem divMod_some {g : Nat} {D : GFD} {w : World} (h : GFat w g D) (hD : D.ok) {A B : Option Addr} {c d : Nat} {p q : List Int} (hp : Kd.C (Kd.int .i64) w A p.length p) (hq : Kd.C (Kd.int .i64) w B q.length q)
    (hbp : p.length ≤ 35184372088000) (hbq : q.length ≤ 35184372088000) (hz : D.canon q ≠ []) :
    Calls Try.prog 106 #[.pointer (some ⟨g, 0, none⟩), .slice A p.length c, .slice B q.length d] w fun e w' => ∃ v1 v2, e = .returned (.tuple #[v1, v2, .int .i64 0]) ∧
      Own w' w.heap.size v1 (D.divC (D.canon p) (D.canon q)).1 ∧ Own w' w.heap.size v2 (D.divC (D.canon p) (D.canon q)).2 ∧ Below w.heap.size w w' := by
  have H := Aside0.mk h
  have HP := Aside0.mk hp
  have HQ := Aside0.mk hq
  clear h hp hq
  have lp := canon_length_le D p
  have lq := canon_length_le D q
  obtain ⟨P, hP⟩ : ∃ P, D.canon p = P := ⟨_, rfl⟩
  obtain ⟨Q, hQ⟩ : ∃ Q, D.canon q = Q := ⟨_, rfl⟩
  rw [hP] at lp
  rw [hQ] at lq hz
  rw [hP, hQ]
  have C1 := fun (w1 : World) (h1 : Below w.heap.size w w1) => Aside0.mk (canon_any (c := c) (H.out.below h1) (Kd.C_below HP.out h1) (by omega))
  have C2 := fun (w1 : World) (h1 : Below w.heap.size w w1) => Aside0.mk (canon_any (c := d) (H.out.below h1) (Kd.C_below HQ.out h1) (by omega))
  simp only [hP] at C1
  simp only [hQ] at C2
  have hQ0 : ¬ Q.length = 0 := fun h => hz (List.eq_nil_of_length_eq_zero h)
  have hQ1 : 1 ≤ Q.length := by omega
  have hQb : ((Q.length : Int) == 0) = false := by simp only [beq_eq_false_iff_ne]; omega
  clear hP hQ hQ0 hz
  have B0 := Below.refl w.heap.size w
  obtain ⟨last, hlast⟩ : ∃ x, Q.getD (Q.length - 1) 0 = x := ⟨_, rfl⟩
  obtain ⟨inv, hinv⟩ : ∃ x, D.inv last = x := ⟨_, rfl⟩
  obtain ⟨N, hN⟩ : ∃ N, P.length + 1 - Q.length = N := ⟨_, rfl⟩
  obtain ⟨R, hR⟩ : ∃ R, D.divLoop Q inv N P (List.replicate N 0) = R := ⟨_, rfl⟩
  have hdiv : D.divC P Q = (trimZ R.1, trimZ R.2) := by unfold GFD.divC; rw [hlast, hinv, hN, hR]
  have hRl := divLoop_length D Q inv N P (List.replicate N 0)
  rw [hR, List.length_replicate] at hRl
  rw [hdiv]
  have HLast := Aside0.mk hlast
  have HInv := Aside0.mk hinv
  have HR := Aside0.mk hR
  have HRl := Aside0.mk hRl
  have hcase : (Q.length ≤ P.length ∧ N + Q.length ≤ P.length + 1 ∧ P.length + 1 ≤ N + Q.length) ∨ (P.length < Q.length ∧ N ≤ 0) := by omega
  have hNb : N ≤ 35184372088000 := by omega
  clear hlast hinv hN hR hdiv hRl
  rcases hcase with ⟨hle, hNa, hNc⟩ | ⟨hle, hNa⟩
  · go_enter Try.func106, Try.ntmps106
    go_wp2_with (first | (go_at_call 120; refine (C1 _ B0).out.mono ?_; rintro e w1 ⟨v1, rfl, hO1, hB1⟩; obtain ⟨r, c1, er, hr1, hr2⟩ := hO1.form (by omega); subst er; have HB1 := Aside0.mk hB1; have HO1 := Aside0.mk hO1; clear hO1 hB1 C1) | (go_at_call 120; refine (C2 _ HB1.out).out.mono ?_; rintro e w2 ⟨v2, rfl, hO2, hB2⟩; obtain ⟨b2, c2, e2, hb1, hb2⟩ := hO2.form (by omega); subst e2; have HB2 := Aside0.mk (below_later HB1.out HB1.out.size hB2); replace HO1 := Aside0.mk (HO1.out.below hB2); have HO2 := Aside0.mk hO2; obtain ⟨hx2, hx3⟩ := hO2.cell (Q.length - 1) (by omega); rw [HLast.out] at hx2; clear hO2 hB2 C2 hx3) | (go_at_call 81; (with_reducible refine (inv_any (H.out.below HB2.out) hD last).mono ?_); rw [HInv.out]; rintro e w3 ⟨rfl, hd3⟩; have hb3 := Nat.lt_of_lt_of_le hb2 hd3.below.size; clear hx2; replace HB2 := Aside0.mk (HB2.out.below'' hd3); replace HO1 := Aside0.mk (HO1.out.below hd3.below); replace HO2 := Aside0.mk (HO2.out.below hd3.below); clear hd3) | ((with_reducible refine gate_dst (N := 42) rfl ?_); refine make_ownI (n := N) rfl (N := 42) rfl _ _ rfl ⟨by omega⟩ rfl rfl (by omega) ?_; intro v w4 hO3 hB3; have HO3 := Aside0.mk hO3; replace HO1 := Aside0.mk (HO1.out.below hB3); replace HO2 := Aside0.mk (HO2.out.below hB3); have HB := Aside0.mk (below_later HB2.out HB2.out.size hB3); clear hO3 hB3))
    have HRl2 := Aside0.mk HRl.out
    go_loopw [11] (fun v11 w' => ∃ (t : Int) (rem quo : List Int), v11 = .int .i64 t ∧ -1 ≤ t ∧ t < N ∧ Aside0 (D.divLoop Q inv (t + 1).toNat rem quo = R) ∧ Aside0 (rem.length = P.length) ∧ Aside0 (quo.length = N) ∧
      Aside0 (Own w' w.heap.size (.slice (some ⟨r, 0, none⟩) P.length c1) rem) ∧ Aside0 (Own w' w3.heap.size v quo) ∧ Aside0 (Own w' w1.heap.size (.slice (some ⟨b2, 0, none⟩) Q.length c2) Q) ∧ Aside0 (Below w.heap.size w w')) (fun v11 _ => (intOf v11 + 1).toNat)
    case atStart => exact ⟨_, P, _, rfl, by omega, by omega, ⟨by rw [show ((P.length : Int) - (Q.length : Int) + 1).toNat = N from by omega]; exact HR.out⟩, ⟨rfl⟩, ⟨List.length_replicate⟩, HO1, HO3, HO2, HB⟩
    case round =>
      clear HR HO1 HO3 HO2 HB HP HQ HB1
      obtain ⟨t, rem, quo, rfl, ht1, ht2, HR, Hrl, Hql, HO1, HO3, HO2, HB⟩ := hrel
      by_cases ht : 0 ≤ t
      · obtain ⟨m, rfl⟩ := Int.eq_ofNat_of_zero_le ht
        obtain ⟨s, cs, es, hs1, hs2⟩ := HO3.out.form (by have := Hql.out; omega)
        rw [Hql.out] at es
        subst es
        obtain ⟨hcs, hfs⟩ := HO3.out.cell' Hql.out.symm m (by omega)
        have hmq : m + Q.length - 1 < P.length := by omega
        obtain ⟨hcr, hfr⟩ := HO1.out.cell' Hrl.out.symm (m + Q.length - 1) hmq
        obtain ⟨y, hy⟩ : ∃ y, rem.getD (m + Q.length - 1) 0 = y := ⟨_, rfl⟩
        rw [hy] at hcr
        obtain ⟨a, ha⟩ : ∃ a, D.mul y inv = a := ⟨_, rfl⟩
        obtain ⟨F, hF⟩ : ∃ F : Int → Int → Int, F = (fun o c => D.sub o (D.mul a c)) := ⟨_, rfl⟩
        have hr := HR.out
        rw [show ((m : Int) + 1).toNat = m + 1 from by omega] at hr
        have hr2 : D.divLoop Q inv m (updAt F m rem Q) (quo.set m a) = R := by
          rw [hF, ← ha, ← hy]; exact hr
        have HR2 := Aside0.mk hr2
        have HF := Aside0.mk hF
        have HA := Aside0.mk ha
        have HG := Aside0.mk (H.out.below HB.out)
        have hlo : 0 ≤ (m : Int) + (Q.length : Int) - 1 := by omega
        clear hr hr2 hF ha hy HR
        go_wp2_with (go_at_call 79; (with_reducible refine (mul_any ?side1 hD y inv).mono ?_); (case side1 => exact HG.out.drawn (by repeat (first | exact Drawn0.refl _ | apply Drawn0.step))); rw [HA.out]; rintro e w' ⟨rfl, ⟨n1, rfl⟩⟩)
        have HO1b := Aside0.mk ((HO1.out.drewN n1).other (p := ⟨s, m, none⟩) (by show r ≠ s; omega) (.int .i64 a))
        have HO2b := Aside0.mk ((HO2.out.drewN n1).other (p := ⟨s, m, none⟩) (by show b2 ≠ s; omega) (.int .i64 a))
        have HO3b := Aside0.mk ((HO3.out.drewN n1).set Hql.out.symm m a)
        have HBb := Aside0.mk ((pw_below_drewN HB.out n1).setCell (p := ⟨s, m, none⟩) (Nat.le_trans HB2.out.size hs1) (.int .i64 a))
        have Hql2 : Aside0 ((quo.set m a).length = N) := ⟨by rw [List.length_set]; exact Hql.out⟩
        clear hcs hfs hcr hfr HG HO1 HO2 HO3 HB Hql
        obtain ⟨wo, hwo⟩ : ∃ wo : World, (wr.drewN n1).setCell ⟨s, m, none⟩ (.int .i64 a) = wo := ⟨_, rfl⟩
        rw [hwo] at HO1b HO2b HO3b HBb ⊢
        clear hwo
        go_loopw [69] (fun v69 w' => ∃ (j : Nat), v69 = .int .i64 j ∧ j ≤ Q.length ∧ Aside0 (Own w' w.heap.size (.slice (some ⟨r, 0, none⟩) P.length c1) (updAt F m rem (Q.take j))) ∧ Aside0 (Own w' w3.heap.size (.slice (some ⟨s, 0, none⟩) N cs) (quo.set m a)) ∧ Aside0 (Own w' w1.heap.size (.slice (some ⟨b2, 0, none⟩) Q.length c2) Q) ∧ Aside0 (Below w.heap.size w w')) (fun v69 _ => Q.length - (intOf v69).toNat)
        case atStart => exact ⟨0, rfl, by omega, ⟨by simpa [updAt_nil] using HO1b.out⟩, HO3b, HO2b, HBb⟩
        case round =>
          clear HO1b HO2b HO3b HBb
          obtain ⟨j, rfl, hj, HO1, HO3, HO2, HB⟩ := hrel
          have hlen : (updAt F m rem (Q.take j)).length = P.length := by rw [updAt_length]; exact Hrl.out
          by_cases hlj : j < Q.length
          · have hkj : m + j < P.length := by omega
            obtain ⟨hx2, hx3⟩ := HO2.out.cell j hlj
            obtain ⟨z, hz⟩ : ∃ z, Q.getD j 0 = z := ⟨_, rfl⟩
            rw [hz] at hx2
            have hstep := updAt_set F 0 m j rem Q hlj (by rw [Hrl.out]; omega)
            have hget := updAt_get F 0 m j rem Q (by rw [Hrl.out]; omega)
            obtain ⟨o, ho⟩ : ∃ o, rem.getD (m + j) 0 = o := ⟨_, rfl⟩
            rw [ho] at hget hstep
            rw [hz, show F o z = D.sub o (D.mul a z) from by rw [HF.out]] at hstep
            have HO1c := Aside0.mk (HO1.out.set hlen.symm (m + j) (D.sub o (D.mul a z)))
            rw [hstep] at HO1c
            obtain ⟨hcl, hfz⟩ := HO1.out.cell' hlen.symm (m + j) hkj
            rw [hget] at hcl
            have HO2c := Aside0.mk (HO2.out.other (p := ⟨r, m + j, none⟩) (by show b2 ≠ r; omega) (.int .i64 (D.sub o (D.mul a z))))
            have HO3c := Aside0.mk (HO3.out.other (p := ⟨r, m + j, none⟩) (by show s ≠ r; omega) (.int .i64 (D.sub o (D.mul a z))))
            have HBc := Aside0.mk (HB.out.setCell (p := ⟨r, m + j, none⟩) hr1 (.int .i64 (D.sub o (D.mul a z))))
            have HG := Aside0.mk (H.out.below HB.out)
            have e1 : IntKind.i64.wrap ((m : Int) + (j : Int)) = (m : Int) + (j : Int) := w64 _ (by omega) (by omega)
            have e2 : ((m : Int) + (j : Int)).toNat = m + j := by omega
            have e3 : 0 ≤ (m : Int) + (j : Int) := by omega
            have e4 : (m : Int) + (j : Int) < (P.length : Int) := by omega
            clear hstep hlen HO1 HO2 HO3 HB hz ho hget hx3
            go_wp2
            refine wp_region_quiet_tail 17 (by kernel_rfl) (by kernel_rfl) ?_
            simp only [List.take_succ_cons, List.take_zero, List.drop_succ_cons, List.drop_zero]
            repeat (first | go_big_quiet_step (first | (go_at_call 79; exact quiet_d (mul_any (HG.out.drewN _) hD _ _)) | (go_at_call 80; exact quiet_d (sub_any (HG.out.drewN _) hD _ _))) | quiet_step (first | (go_at_call 79; exact quiet_d (mul_any (HG.out.drewN _) hD _ _)) | (go_at_call 80; exact quiet_d (sub_any (HG.out.drewN _) hD _ _))))
            refine wpQuiet_nil ?_
            intro _ hw'
            obtain ⟨nq, hw''⟩ := hw'
            subst hw''
            go_wp2
            go_roundw
            case rel => exact ⟨j + 1, by go_num, by omega, ⟨HO1c.out.drewN _⟩, ⟨HO3c.out.drewN _⟩, ⟨HO2c.out.drewN _⟩, ⟨pw_below_drewN HBc.out _⟩⟩
            case measure => simp [intOf]; omega
          · obtain rfl : j = Q.length := by omega
            rw [List.take_length] at HO1 hlen
            have Hlen := Aside0.mk hlen
            clear hlen
            go_wp2
            go_roundw
            case rel => exact ⟨(m : Int) - 1, _, _, by go_num, by omega, by omega, ⟨by rw [show ((m : Int) - 1 + 1).toNat = m from by omega]; exact HR2.out⟩, Hlen, Hql2, HO1, HO3, HO2, HB⟩
            case measure => simp [intOf]
      · have hr := HR.out
        rw [show (t + 1).toNat = 0 from by omega] at hr
        have hr' : (quo, rem) = R := hr
        have HRR := Aside0.mk hr'
        obtain ⟨A6, c6, rfl, hc6, hC6⟩ := HO3.out.slice
        have HT3 := Aside0.mk HO3.out.trim
        have HT1 := Aside0.mk HO1.out.trim
        have HC6 := Aside0.mk hC6
        obtain ⟨he7, hc7, hC7⟩ := HO1.out.reads
        have HC7 := Aside0.mk hC7
        have HEl := Aside0.mk he7
        clear hr hr' HR HO1 HO3 HO2 hC6 hC7 he7 Hql
        go_wp2_with (first | (go_at_call 122; (with_reducible refine (trim_any HC6.out hc6).mono ?_); rintro e w' ⟨rfl, ⟨n1, rfl⟩⟩) | (go_at_call 122; (with_reducible refine (trim_n (l := rem) HEl (Kd.C_drewN HC7.out _) hc7).mono ?_); rintro e w' ⟨rfl, ⟨n2, rfl⟩⟩))
        go_ret3
        obtain rfl := HRR.out
        exact ⟨_, _, rfl, (HT3.out.drewN _).lower HB2.out.size, HT1.out.drewN _, pw_below_drewN HB.out _⟩
  · obtain rfl : N = 0 := by omega
    have hr := HR.out
    have hr' : (([] : List Int), P) = R := hr
    have HRR := Aside0.mk hr'
    clear hr hr' HR HRl hNa hNb
    go_enter Try.func106, Try.ntmps106
    go_wp2_with (first | (go_at_call 120; refine (C1 _ B0).out.mono ?_; rintro e w1 ⟨v1, rfl, hO1, hB1⟩; obtain ⟨A1, c1, rfl, hc1, hC1⟩ := hO1.slice; have HB1 := Aside0.mk hB1; have HO1 := Aside0.mk hO1; clear hO1 hB1 C1 hC1) | (go_at_call 120; refine (C2 _ HB1.out).out.mono ?_; rintro e w2 ⟨v2, rfl, hO2, hB2⟩; obtain ⟨b2, c2, e2, hb1, hb2⟩ := hO2.form (by omega); subst e2; have HB2 := Aside0.mk (below_later HB1.out HB1.out.size hB2); replace HO1 := Aside0.mk (HO1.out.below hB2); have HO2 := Aside0.mk hO2; obtain ⟨hx2, hx3⟩ := hO2.cell (Q.length - 1) (by omega); rw [HLast.out] at hx2; clear hO2 hB2 C2 hx3) | (go_at_call 81; (with_reducible refine (inv_any (H.out.below HB2.out) hD last).mono ?_); rw [HInv.out]; rintro e w3 ⟨rfl, hd3⟩; have hb3 := Nat.lt_of_lt_of_le hb2 hd3.below.size; clear hx2; replace HB2 := Aside0.mk (HB2.out.below'' hd3); replace HO1 := Aside0.mk (HO1.out.below hd3.below); replace HO2 := Aside0.mk (HO2.out.below hd3.below); clear hd3) | ((with_reducible refine gate_dst (N := 42) rfl ?_); refine make_ownI (n := 0) rfl (N := 42) rfl _ _ rfl ⟨by omega⟩ rfl rfl (by omega) ?_; intro v w4 hO3 hB3; have HO3 := Aside0.mk hO3; replace HO1 := Aside0.mk (HO1.out.below hB3); replace HO2 := Aside0.mk (HO2.out.below hB3); have HB := Aside0.mk (below_later HB2.out HB2.out.size hB3); clear hO3 hB3))
    obtain ⟨wo, rfl⟩ : ∃ wo : World, wo = w4 := ⟨_, rfl⟩
    go_loopw [11] (fun v11 w' => v11 = .int .i64 ((P.length : Int) - (Q.length : Int)) ∧ Aside0 (Own w' w.heap.size (.slice A1 P.length c1) P) ∧ Aside0 (Own w' w3.heap.size v []) ∧ Aside0 (Below w.heap.size w w')) (fun _ _ => 0)
    case atStart => exact ⟨rfl, HO1, HO3, HB⟩
    case round =>
      clear HO1 HO3 HO2 HB HP HQ HB1
      obtain ⟨rfl, HO1, HO3, HB⟩ := hrel
      obtain ⟨A6, c6, rfl, hc6, hC6⟩ := HO3.out.slice
      have HT3 := Aside0.mk HO3.out.trim
      have HT1 := Aside0.mk HO1.out.trim
      have HC6 := Aside0.mk hC6
      obtain ⟨he7, hc7, hC7⟩ := HO1.out.reads
      have HC7 := Aside0.mk hC7
      clear HO1 HO3 hC6 hC7 he7
      go_wp2_with (first | (go_at_call 122; (with_reducible refine (trim_n (n := 0) (l := []) ⟨rfl⟩ HC6.out hc6).mono ?_); rintro e w' ⟨rfl, ⟨n1, rfl⟩⟩) | (go_at_call 122; (with_reducible refine (trim_any (Kd.C_drewN HC7.out _) hc7).mono ?_); rintro e w' ⟨rfl, ⟨n2, rfl⟩⟩))
      go_ret3
      obtain rfl := HRR.out
      exact ⟨_, _, rfl, (HT3.out.drewN _).lower HB2.out.size, HT1.out.drewN _, pw_below_drewN HB.out _⟩
end Go.Proofs.Yticgblagimmlfaa
