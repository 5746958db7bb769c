/- Gao's algorithm. -/
import Derived.Test.YticgblagimmlfaaG9
namespace Go.Proofs.Yticgblagimmlfaa
open Go.RowKit Go.Proofs.YticgblagimmlfaaW.PrintWords Go.Proofs.YticgblagimmlfaaW.PrintLast Go.Proofs.YticgblagimmlfaaW.PrintMore
set_option linter.unusedVariables false
set_option linter.unusedSimpArgs false

/-- Nothing, with this error; or numbers in new memory, without one. -/
def OrErr (w : World) (base : Nat) (v : Value) (r : List Int × Int) (e : Int) : Prop := (r.2 = e ∧ v = .slice none 0 0) ∨ (r.2 = 0 ∧ Own w base v r.1)
theorem OrErr.err {w : World} {base : Nat} {r : List Int × Int} {e : Int} (h : r.2 = e) : OrErr w base (.slice none 0 0) r e := .inl ⟨h, rfl⟩
theorem OrErr.val {w : World} {base : Nat} {v : Value} {r : List Int × Int} {e : Int} (h : r.2 = 0) (ho : Own w base v r.1) : OrErr w base v r e := .inr ⟨h, ho⟩

theorem gao_any {g : Nat} {D : GFD} {w : World} (h : GFat w g D) (hD : D.ok) {A B : Option Addr} {c d : Nat} {xs ys : List Int} (hp : Kd.C (Kd.int .i64) w A xs.length xs) (hq : Kd.C (Kd.int .i64) w B ys.length ys)
    (hb : xs.length ≤ 1000) (hlen : ys.length = xs.length) (hnd : (xs.map D.inn).Nodup) (k : Nat) (hk : k ≤ xs.length) (fuel : Nat) (hfu : fuel ≤ 1000000) {R : List Int × List Int}
    (hR : D.euclid ((xs.length : Int) + (k : Int)) fuel (D.fromRoots xs) (D.inter xs ys xs.length).1 [] [1] = some R) :
    Calls Try.prog 68 #[.pointer (some ⟨g, 0, none⟩), .slice A xs.length c, .slice B ys.length d, .int .i64 k] w fun e w' => ∃ v, e = .returned (.tuple #[v, .int .i64 (D.gao xs ys k R).2]) ∧
      OrErr w' w.heap.size v (D.gao xs ys k R) 12 ∧ Below w.heap.size w w' := by
  have H := Aside0.mk h
  have HP := Aside0.mk hp
  have HQ := Aside0.mk hq
  have Hlen := Aside0.mk hlen
  have HR := Aside0.mk hR
  have hIn := fun (w1 : World) (h1 : Below w.heap.size w w1) => Aside0.mk (interpolate_ok (c := c) (d := d) (H.out.below h1) hD (Kd.C_below HP.out h1) (Kd.C_below HQ.out h1) (by omega) hlen hnd)
  have hFr := fun (w1 : World) (h1 : Below w.heap.size w w1) => Aside0.mk (fromRoots_any (c := c) (H.out.below h1) hD (Kd.C_below HP.out h1) (by omega))
  have l1 := fromRoots_length D xs
  have l2 := (D.inter_length xs ys xs.length (Nat.le_refl _) (by omega)).1
  clear h hp hq hlen hR
  have hB0 := Below.refl w.heap.size w
  by_cases hz : D.canon R.2 = []
  · have e : D.gao xs ys k R = ([], 12) := by unfold GFD.gao; rw [if_pos hz]
    rw [e]
    have Hz := Aside0.mk hz
    clear e hz
    go_enter Try.func68, Try.ntmps68
    go_wp2_with (first
      | (go_at_call 103; refine (hIn _ hB0).out.mono ?_; rintro e w1 ⟨v1, rfl, hO1, hB⟩; have HT1 := Aside0.mk hO1.rd; have HB1 := Aside0.mk hB; clear hO1 hB)
      | (go_at_call 105; refine (hFr _ HB1.out).out.mono ?_; rintro e w2 ⟨v2, rfl, hO2, hB⟩; have HF2 := Aside0.mk hO2.rd; have HT2 := Aside0.mk (HT1.out.below hB); have HB2 := Aside0.mk (below_later HB1.out HB1.out.size hB); clear hO2 hB)
      | (go_at_call 104; refine (euclid_any (H.out.below HB2.out) hD HF2.out HT2.out _ (by omega) (by omega) fuel hfu (by omega) (by omega) HR.out).mono ?_; rintro e w3 ⟨v3, v4, rfl, hE1, hE2, hl1, hl2, hB⟩; obtain ⟨A3, c3, rfl, hc3, hC3⟩ := hE1.out; obtain ⟨A4, c4, rfl, hc4, hC4⟩ := hE2.out; have HC3 := Aside0.mk hC3; have HC4 := Aside0.mk hC4; have HB3 := Aside0.mk (below_later HB2.out HB2.out.size hB); clear hE1 hE2 hB hC3 hC4)
      | (go_at_call 106; refine (divMod_zero (H.out.below HB3.out)  HC3.out HC4.out (by omega) (by omega) Hz.out).mono ?_; rintro e w4 ⟨rfl, hB⟩; have HB4 := Aside0.mk (below_later HB3.out HB3.out.size hB); clear hB))
    go_ret2
    exact ⟨_, rfl, OrErr.err rfl, HB4.out⟩
  · have Hz := Aside0.mk hz
    obtain ⟨m, hm⟩ : ∃ m, (D.divC (D.canon R.1) (D.canon R.2)).1 = m := ⟨_, rfl⟩
    obtain ⟨r, hr⟩ : ∃ r, (D.divC (D.canon R.1) (D.canon R.2)).2 = r := ⟨_, rfl⟩
    have hg : D.gao xs ys k R = if r ≠ [] then ([], 12) else if m.length > k then ([], 12) else if D.wrong m xs ys xs.length > (xs.length - k) / 2 then ([], 12) else (m, 0) := by
      unfold GFD.gao; rw [if_neg hz, hm, hr]
    rw [hg]
    have Hm := Aside0.mk hm
    have Hr := Aside0.mk hr
    clear hg hz hm hr
    by_cases hr0 : r ≠ []
    · rw [if_pos hr0]
      have hrl : 0 < r.length := List.length_pos_iff.2 hr0
      clear hr0
      go_enter Try.func68, Try.ntmps68
      go_wp2_with (first
      | (go_at_call 103; refine (hIn _ hB0).out.mono ?_; rintro e w1 ⟨v1, rfl, hO1, hB⟩; have HT1 := Aside0.mk hO1.rd; have HB1 := Aside0.mk hB; clear hO1 hB)
      | (go_at_call 105; refine (hFr _ HB1.out).out.mono ?_; rintro e w2 ⟨v2, rfl, hO2, hB⟩; have HF2 := Aside0.mk hO2.rd; have HT2 := Aside0.mk (HT1.out.below hB); have HB2 := Aside0.mk (below_later HB1.out HB1.out.size hB); clear hO2 hB)
      | (go_at_call 104; refine (euclid_any (H.out.below HB2.out) hD HF2.out HT2.out _ (by omega) (by omega) fuel hfu (by omega) (by omega) HR.out).mono ?_; rintro e w3 ⟨v3, v4, rfl, hE1, hE2, hl1, hl2, hB⟩; obtain ⟨A3, c3, rfl, hc3, hC3⟩ := hE1.out; obtain ⟨A4, c4, rfl, hc4, hC4⟩ := hE2.out; have HC3 := Aside0.mk hC3; have HC4 := Aside0.mk hC4; have HB3 := Aside0.mk (below_later HB2.out HB2.out.size hB); clear hE1 hE2 hB hC3 hC4)
      | (go_at_call 106; refine (divMod_some (H.out.below HB3.out) hD HC3.out HC4.out (by omega) (by omega) Hz.out).mono ?_; rw [Hm.out, Hr.out]; rintro e w4 ⟨v5, v6, rfl, hO5, hO6, hB⟩; obtain ⟨A5, c5, rfl, hc5, hC5⟩ := hO5.slice; obtain ⟨A6, c6, rfl, hc6, hC6⟩ := hO6.slice; have HC5 := Aside0.mk hC5; have HO5 := Aside0.mk hO5; have HB4 := Aside0.mk (below_later HB3.out HB3.out.size hB); clear hB hO5 hO6 hC5 hC6))
      go_ret2
      exact ⟨_, rfl, OrErr.err rfl, HB4.out⟩
    · rw [if_neg hr0]
      have hrl : ¬ 0 < r.length := fun h => hr0 (List.length_pos_iff.1 h)
      clear hr0
      by_cases hmk : m.length > k
      · rw [if_pos hmk]
        have hmk' : (k : Int) < (m.length : Int) := by omega
        go_enter Try.func68, Try.ntmps68
        go_wp2_with (first
      | (go_at_call 103; refine (hIn _ hB0).out.mono ?_; rintro e w1 ⟨v1, rfl, hO1, hB⟩; have HT1 := Aside0.mk hO1.rd; have HB1 := Aside0.mk hB; clear hO1 hB)
      | (go_at_call 105; refine (hFr _ HB1.out).out.mono ?_; rintro e w2 ⟨v2, rfl, hO2, hB⟩; have HF2 := Aside0.mk hO2.rd; have HT2 := Aside0.mk (HT1.out.below hB); have HB2 := Aside0.mk (below_later HB1.out HB1.out.size hB); clear hO2 hB)
      | (go_at_call 104; refine (euclid_any (H.out.below HB2.out) hD HF2.out HT2.out _ (by omega) (by omega) fuel hfu (by omega) (by omega) HR.out).mono ?_; rintro e w3 ⟨v3, v4, rfl, hE1, hE2, hl1, hl2, hB⟩; obtain ⟨A3, c3, rfl, hc3, hC3⟩ := hE1.out; obtain ⟨A4, c4, rfl, hc4, hC4⟩ := hE2.out; have HC3 := Aside0.mk hC3; have HC4 := Aside0.mk hC4; have HB3 := Aside0.mk (below_later HB2.out HB2.out.size hB); clear hE1 hE2 hB hC3 hC4)
      | (go_at_call 106; refine (divMod_some (H.out.below HB3.out) hD HC3.out HC4.out (by omega) (by omega) Hz.out).mono ?_; rw [Hm.out, Hr.out]; rintro e w4 ⟨v5, v6, rfl, hO5, hO6, hB⟩; obtain ⟨A5, c5, rfl, hc5, hC5⟩ := hO5.slice; obtain ⟨A6, c6, rfl, hc6, hC6⟩ := hO6.slice; have HC5 := Aside0.mk hC5; have HO5 := Aside0.mk hO5; have HB4 := Aside0.mk (below_later HB3.out HB3.out.size hB); clear hB hO5 hO6 hC5 hC6))
        go_ret2
        exact ⟨_, rfl, OrErr.err rfl, HB4.out⟩
      · rw [if_neg hmk]
        obtain ⟨W, hW⟩ : ∃ W, D.wrong m xs ys xs.length = W := ⟨_, rfl⟩
        rw [hW]
        have HW := Aside0.mk hW
        obtain ⟨res, hres⟩ : ∃ res : List Int × Int, (if W > (xs.length - k) / 2 then ([], 12) else (m, 0)) = res := ⟨_, rfl⟩
        rw [hres]
        have HRes := Aside0.mk hres
        clear hW hres
        go_enter Try.func68, Try.ntmps68
        go_wp2_with (first
      | (go_at_call 103; refine (hIn _ hB0).out.mono ?_; rintro e w1 ⟨v1, rfl, hO1, hB⟩; have HT1 := Aside0.mk hO1.rd; have HB1 := Aside0.mk hB; clear hO1 hB)
      | (go_at_call 105; refine (hFr _ HB1.out).out.mono ?_; rintro e w2 ⟨v2, rfl, hO2, hB⟩; have HF2 := Aside0.mk hO2.rd; have HT2 := Aside0.mk (HT1.out.below hB); have HB2 := Aside0.mk (below_later HB1.out HB1.out.size hB); clear hO2 hB)
      | (go_at_call 104; refine (euclid_any (H.out.below HB2.out) hD HF2.out HT2.out _ (by omega) (by omega) fuel hfu (by omega) (by omega) HR.out).mono ?_; rintro e w3 ⟨v3, v4, rfl, hE1, hE2, hl1, hl2, hB⟩; obtain ⟨A3, c3, rfl, hc3, hC3⟩ := hE1.out; obtain ⟨A4, c4, rfl, hc4, hC4⟩ := hE2.out; have HC3 := Aside0.mk hC3; have HC4 := Aside0.mk hC4; have HB3 := Aside0.mk (below_later HB2.out HB2.out.size hB); clear hE1 hE2 hB hC3 hC4)
      | (go_at_call 106; refine (divMod_some (H.out.below HB3.out) hD HC3.out HC4.out (by omega) (by omega) Hz.out).mono ?_; rw [Hm.out, Hr.out]; rintro e w4 ⟨v5, v6, rfl, hO5, hO6, hB⟩; obtain ⟨A5, c5, rfl, hc5, hC5⟩ := hO5.slice; obtain ⟨A6, c6, rfl, hc6, hC6⟩ := hO6.slice; have HC5 := Aside0.mk hC5; have HO5 := Aside0.mk hO5; have HB4 := Aside0.mk (below_later HB3.out HB3.out.size hB); clear hB hO5 hO6 hC5 hC6))
        have hB5 := Aside0.mk HB4.out
        go_loopw [17, 74] (fun v17 v74 w' => ∃ (j c : Nat), v74 = .int .i64 j ∧ v17 = .int .i64 c ∧ j ≤ xs.length ∧ c ≤ j ∧ Aside0 (D.wrong m xs ys j = c) ∧ Aside0 (Own w' w.heap.size (.slice A5 m.length c5) m) ∧ Aside0 (Below w.heap.size w w')) (fun _ v74 _ => xs.length - (intOf v74).toNat)
        case atStart => exact ⟨0, 0, rfl, rfl, by omega, by omega, ⟨rfl⟩, ⟨HO5.out.lower HB3.out.size⟩, HB4⟩
        case round =>
          clear HO5 hB5 HB4
          obtain ⟨j, cn, rfl, rfl, hj, hcn, HWj, HO5, HB4⟩ := hrel
          by_cases hlj : j < xs.length
          · obtain ⟨ad, e, hx⟩ := C_nat (Kd.C_below HP.out HB4.out) j hlj
            cases e
            obtain ⟨x, hx'⟩ : ∃ x, xs.getD j 0 = x := ⟨_, rfl⟩
            rw [hx'] at hx
            have hljy : j < ys.length := by have := Hlen.out; omega
            obtain ⟨ad2, e, hy⟩ := C_nat (Kd.C_below HQ.out HB4.out) j hljy
            cases e
            obtain ⟨y, hy'⟩ : ∃ y, ys.getD j 0 = y := ⟨_, rfl⟩
            rw [hy'] at hy
            have hsucc := D.wrong_succ m xs ys j hlj hljy
            rw [HWj.out, hx', hy'] at hsucc
            have HG := Aside0.mk (H.out.below HB4.out)
            have HCm := Aside0.mk HO5.out.reads.2.2
            clear hx' hy' HWj
            by_cases hne : D.eval m x ≠ D.add y 0
            · rw [if_pos hne] at hsucc
              have HS := Aside0.mk hsucc
              have hb : (D.eval m x != D.add y 0) = true := by simp [hne]
              clear hsucc hne
              go_wp2
              go_quiet (first | (go_at_call 92; exact quiet_d (eval_any (HG.out.drewN _) hD (Kd.C_drewN HCm.out _) _)) | (go_at_call 83; exact quiet_d (add_any (HG.out.drewN _) hD _ _)))
              go_wp2
              go_roundw
              case rel => exact ⟨j + 1, cn + 1, by go_num, by go_num, by omega, by omega, HS, ⟨HO5.out.drewN _⟩, ⟨pw_below_drewN HB4.out _⟩⟩
              case measure => simp [intOf]; omega
            · rw [if_neg hne] at hsucc
              have HS := Aside0.mk hsucc
              have hb : (D.eval m x != D.add y 0) = false := by simpa using hne
              clear hsucc hne
              go_wp2
              go_quiet (first | (go_at_call 92; exact quiet_d (eval_any (HG.out.drewN _) hD (Kd.C_drewN HCm.out _) _)) | (go_at_call 83; exact quiet_d (add_any (HG.out.drewN _) hD _ _)))
              go_wp2
              go_roundw
              case rel => exact ⟨j + 1, cn, by go_num, by go_num, by omega, by omega, HS, ⟨HO5.out.drewN _⟩, ⟨pw_below_drewN HB4.out _⟩⟩
              case measure => simp [intOf]; omega
          · obtain rfl : j = xs.length := by omega
            have hW : W = cn := by rw [← HW.out]; exact HWj.out
            subst hW
            clear HWj HW
            by_cases hgt : W > (xs.length - k) / 2
            · obtain rfl : res = ([], 12) := by rw [← HRes.out, if_pos hgt]
              have hgt' : ((xs.length : Int) - (k : Int)) / 2 < (W : Int) := by omega
              go_wp2
              go_ret2
              exact ⟨_, rfl, OrErr.err rfl, HB4.out⟩
            · obtain rfl : res = (m, 0) := by rw [← HRes.out, if_neg hgt]
              have hgt' : ¬ ((xs.length : Int) - (k : Int)) / 2 < (W : Int) := by omega
              go_wp2
              go_ret2
              exact ⟨_, rfl, OrErr.val rfl HO5.out, HB4.out⟩
end Go.Proofs.Yticgblagimmlfaa
