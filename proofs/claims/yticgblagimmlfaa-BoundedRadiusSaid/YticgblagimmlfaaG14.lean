/- generator. -/
import Derived.Test.YticgblagimmlfaaG13
namespace Go.Proofs.Yticgblagimmlfaa
open Go.RowKit Go.Proofs.YticgblagimmlfaaW.PrintWords Go.Proofs.YticgblagimmlfaaW.PrintLast Go.Proofs.YticgblagimmlfaaW.PrintMore
set_option linter.unusedVariables false
set_option linter.unusedSimpArgs false

/-- Nothing at all where the list is empty; else numbers in new memory. -/
def NilOr (w : World) (base : Nat) (v : Value) (l : List Int) : Prop := (l = [] ∧ v = .slice none 0 0) ∨ (l ≠ [] ∧ Own w base v l)

theorem generator_any {w : World} {A : Option Addr} {c : Nat} (P : Int) (M : Nat) {Mod : List Int} (hl : Kd.C (Kd.int .i64) w A Mod.length Mod) (hP : 2 ≤ P) (hP2 : P ≤ 256) (hM : 1 ≤ M) (hM2 : M ≤ 8) (hq : P ^ M ≤ 256)
    (hMod : 1 < M → Mod.length = M) (hm : ∀ d ∈ Mod, 0 ≤ d ∧ d < P) (q : Int) (hqe : q = P ^ M) :
    Calls Try.prog 65 #[.agg #[.int .i64 P, .int .i64 M, .slice A Mod.length c], .int .i64 q] w fun e w' => ∃ v, e = .returned v ∧ NilOr w' w.heap.size v (genZ P M Mod q) ∧ Below w.heap.size w w' := by
  have hq256 : q ≤ 256 := by omega
  have hq2 : 2 ≤ q := by
    have := pow_le_pow P hP 1 M hM
    rw [Int.pow_one] at this
    omega
  have hpw := fun (x : Int) (h0 : 0 ≤ x) (h1 : x < q) (w1 : World) (hb1 : Below w.heap.size w w1) =>
    Aside0.mk (powers_any (c := c) P M (Kd.C_below hl hb1) hP hP2 hM hM2 hq hMod hm q hqe x h0 h1 ((P ^ M).toNat + 1) (by omega) (powersT_eq P hP M hM Mod hq x h0 (by omega)))
  have hmu := fun (y x : Int) (h0 : 0 ≤ x) (h1 : x < q) (h2 : 0 ≤ y) (h3 : y < q) (w1 : World) (hb1 : Below w.heap.size w w1) =>
    Aside0.mk (multiply_any (c := c) P M (Kd.C_below hl hb1) hP hP2 hM hM2 hq hMod hm y x h2 (by omega) h0 (by omega))
  have hrg := fun (x : Int) (h0 : 0 ≤ x) (h1 : x < q) => powersT_range P hP M hM Mod hq x h0 (by omega)
  rw [← hqe] at hpw hrg
  obtain ⟨R, hR⟩ : ∃ R, genZ P M Mod q = R := ⟨_, rfl⟩
  rw [hR]
  have HR := Aside0.mk (show genLoop P M Mod q (q - 1).toNat 1 = R from hR)
  have Hrg := Aside0.mk hrg
  have hF0 := FAt.new w P M A Mod.length c
  obtain ⟨w0, hw0⟩ : ∃ w0, w.alloc (.cells #[.int .i64 P, .int .i64 M, .slice A Mod.length c] 27) = w0 := ⟨_, rfl⟩
  have hB0 : Below w.heap.size w w0 := by rw [← hw0]; exact below_alloc (Below.refl _ _) _
  rw [hw0] at hF0
  have HF := Aside0.mk hF0
  have HB0 := Aside0.mk hB0
  have HW := Aside0.mk hw0
  have HPW := Aside0.mk hpw
  have HMU := Aside0.mk hmu
  clear hl hMod hm hq hqe hR hF0 hB0 hw0 hpw hmu hrg
  go_enter Try.func65, Try.ntmps65
  go_wp2
  rw [HW.out]
  obtain ⟨b, hb⟩ : ∃ b, w.heap.size = b := ⟨_, rfl⟩
  have Hb := Aside0.mk hb
  rw [hb] at HF ⊢
  clear hb
  have HBs := Aside0.mk (Below.refl w0.heap.size w0)
  go_loopw [5] (fun v5 w' => ∃ (x : Int), v5 = .int .i64 x ∧ 1 ≤ x ∧ x ≤ q ∧ Aside0 (genLoop P M Mod q (q - x).toNat x = R) ∧ Aside0 (Below w0.heap.size w0 w')) (fun v5 _ => (q - intOf v5).toNat)
  case atStart => exact ⟨1, rfl, by omega, by omega, HR, HBs⟩
  case round =>
    clear HR HBs
    obtain ⟨x, rfl, hx1, hx2, HR, HB⟩ := hrel
    have cP := (HF.out.below HB.out).p
    have cM := (HF.out.below HB.out).m
    have cMod := (HF.out.below HB.out).mod
    have hBw := below_later HB0.out HB0.out.size HB.out
    have HBw := Aside0.mk hBw
    clear hBw
    by_cases hxq : x < q
    · have hr := HR.out
      obtain ⟨n, hn⟩ : ∃ n, (q - x).toNat = n + 1 := ⟨(q - x).toNat - 1, by omega⟩
      have hn2 : (q - (x + 1)).toNat = n := by omega
      rw [hn] at hr
      simp only [genLoop] at hr
      obtain ⟨p, hp⟩ : ∃ p, powersT P M Mod q x = p := ⟨_, rfl⟩
      have hpw := (HPW.out x (by omega) hxq wr HBw.out).out
      have hrg := Hrg.out x (by omega) hxq
      rw [hp] at hr hpw hrg
      rw [← hn2] at hr
      have HPw := Aside0.mk hpw
      have Hrg2 := Aside0.mk hrg
      clear hp hpw hrg hn hn2 HR
      by_cases hlen : (p.length : Int) = q - 1
      · have hlb : ((p.length : Int) == q - 1) = true := by simp [hlen]
        obtain ⟨j, hj⟩ := Int.eq_ofNat_of_zero_le (by omega : 0 ≤ q - 2)
        have hjp : j < p.length := by omega
        rw [show (q - 2).toNat = j from by omega] at hr
        obtain ⟨pe, hpe⟩ : ∃ y, p.getD j 0 = y := ⟨_, rfl⟩
        have hpm : pe ∈ p := by rw [← hpe, List.getD_eq_getElem?_getD, List.getElem?_eq_getElem hjp]; exact List.getElem_mem hjp
        obtain ⟨hpe1, hpe2⟩ := Hrg2.out pe hpm
        rw [hpe] at hr
        have HPE := Aside0.mk hpe
        have HMu := fun (w1 : World) (hb1 : Below w.heap.size w w1) => Aside0.mk (HMU.out pe x (by omega) hxq hpe1 hpe2 w1 hb1).out
        obtain ⟨mm, hmm⟩ : ∃ y, mulZ P M Mod pe x = y := ⟨_, rfl⟩
        simp only [hmm] at HMu hr
        have hne : p ≠ [] := fun e => by rw [e] at hjp; simp at hjp
        have HLen := Aside0.mk hlen
        have HJ := Aside0.mk hj
        have w1 : IntKind.i64.wrap (q - 1) = q - 1 := w64 _ (by omega) (by omega)
        have w2 : IntKind.i64.wrap (q - 2) = (j : Int) := by rw [hj]; exact w64 _ (by omega) (by omega)
        clear hpe hpm hlen hj hmm
        go_wp2_with (go_at_call 101; refine HPw.out.mono ?_; rintro e w3 ⟨v3, rfl, hO3, hB3⟩; obtain ⟨A3, c3, rfl, hc3, hC3⟩ := hO3.slice; obtain ⟨ad3, ea3, hx3⟩ := C_nat hC3 j hjp; cases ea3; rw [HPE.out] at hx3; have HO3 := Aside0.mk hO3; have HB3 := Aside0.mk (below_later HB.out HB.out.size hB3); have cP3 := (HF.out.below HB3.out).p; have cM3 := (HF.out.below HB3.out).m; have cMod3 := (HF.out.below HB3.out).mod; have HBw3 := Aside0.mk (below_later HBw.out HBw.out.size hB3); clear hO3 hB3 hC3)
        refine wp_region_quiet_tail 13 (by kernel_rfl) (by kernel_rfl) ?_
        simp only [List.take_succ_cons, List.take_zero, List.drop_succ_cons, List.drop_zero]
        repeat (first | go_big_quiet_step (fail) | quiet_step (fail))
        refine wpQuiet_nil ?_
        intro _ hw'
        obtain ⟨nq, hw''⟩ := hw'
        subst hw''
        have hBq := Aside0.mk (pw_below_drewN HBw3.out nq)
        by_cases hm1 : mm = 1
        · rw [if_pos ⟨HLen.out, hm1⟩] at hr
          subst hr hm1
          go_wp2_with (go_at_call 102; refine (HMu _ hBq.out).out.mono ?_; rintro e w6 ⟨rfl, hB6⟩; have hB6' := hB6; have HB6 := Aside0.mk hB6; clear hB6 hB6')
          go_ret
          have q3 : Own w6 w.heap.size (.slice (some ad3) p.length c3) p := ((HO3.out.drewN nq).below HB6.out).lower HBw.out.size
          exact ⟨_, rfl, .inr ⟨hne, q3⟩, below_later hBq.out hBq.out.size HB6.out⟩
        · rw [if_neg (fun h => hm1 h.2)] at hr
          have hmb : (mm == 1) = false := by simp [hm1]
          have HR2 := Aside0.mk hr
          clear hr hm1
          go_wp2_with (go_at_call 102; refine (HMu _ hBq.out).out.mono ?_; rintro e w6 ⟨rfl, hB6⟩; have HB6 := Aside0.mk hB6; clear hB6)
          go_roundw
          case rel => exact ⟨x + 1, rfl, by omega, by omega, HR2, ⟨below_later (pw_below_drewN HB3.out nq) (pw_below_drewN HB3.out nq).size HB6.out⟩⟩
          case measure => simp [intOf]; omega
      · rw [if_neg (fun h => hlen h.1)] at hr
        have hlb : ((p.length : Int) == q - 1) = false := by simp [hlen]
        have HR2 := Aside0.mk hr
        have w1 : IntKind.i64.wrap (q - 1) = q - 1 := w64 _ (by omega) (by omega)
        clear hlen hr
        go_wp2_with (go_at_call 101; refine HPw.out.mono ?_; rintro e w3 ⟨v3, rfl, hO3, hB3⟩; obtain ⟨A3, c3, rfl, hc3, hC3⟩ := hO3.slice; have HB3 := Aside0.mk (below_later HB.out HB.out.size hB3); clear hO3 hB3 hC3)
        go_quiet (fail)
        go_wp2
        go_roundw
        case rel => exact ⟨x + 1, rfl, by omega, by omega, HR2, ⟨pw_below_drewN HB3.out _⟩⟩
        case measure => simp [intOf]; omega
    · obtain rfl : x = q := by omega
      have hr := HR.out
      rw [Int.sub_self] at hr
      have hr' : ([] : List Int) = R := hr
      subst hr'
      clear hr HR
      go_wp2
      go_ret
      exact ⟨_, rfl, .inl ⟨rfl, rfl⟩, HBw.out⟩
end Go.Proofs.Yticgblagimmlfaa
