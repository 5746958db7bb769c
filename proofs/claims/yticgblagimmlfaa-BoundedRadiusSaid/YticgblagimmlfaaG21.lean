/- bounded.word, bounded.marks, bounded.Radius. -/
import Derived.Test.YticgblagimmlfaaG20
import Derived.Test.YticgblagimmlfaaSp2
namespace Go.Proofs.Yticgblagimmlfaa
open Go.RowKit Go.Proofs.YticgblagimmlfaaW.PrintWords Go.Proofs.YticgblagimmlfaaW.PrintLast Go.Proofs.YticgblagimmlfaaW.PrintMore
set_option linter.unusedVariables false
set_option linter.unusedSimpArgs false

theorem word_any {g : Nat} {D : GFD} {w : World} (h : GFat w g D) {A B : Option Addr} {c d : Nat} {l er : List Int} (n : Nat) (hn : n ≤ 1000) (hl : Kd.C (Kd.int .i64) w A l.length l) (he : Kd.C (Kd.int .i64) w B er.length er) :
    Calls Try.prog 38 #[.pointer (some ⟨g, 0, none⟩), .slice A l.length c, .int .i64 n, .slice B er.length d] w fun e w' => e = .returned (.int .i64 (wordZ D l n er)) ∧ Below w.heap.size w w' := by
  have H := Aside0.mk h
  have HL := Aside0.mk hl
  have HE := Aside0.mk he
  have hm := Kd.C_max hl
  have hm2 := Kd.C_max he
  obtain ⟨R, hR⟩ : ∃ R, wordZ D l n er = R := ⟨_, rfl⟩
  rw [hR]
  unfold wordZ at hR
  by_cases h1 : l.length ≠ n
  · rw [if_pos h1] at hR
    subst hR
    have hb : ((l.length : Int) != (n : Int)) = true := by simp only [bne_iff_ne, ne_eq]; omega
    have hB := Below.refl w.heap.size w
    clear h hl he
    go_enter Try.func38, Try.ntmps38
    go_wp2
    go_ret
    exact ⟨rfl, hB⟩
  rw [if_neg h1] at hR
  have h1' : l.length = n := Classical.not_not.1 h1
  have hb : ((l.length : Int) != (n : Int)) = false := by simp [h1']
  have HR := Aside0.mk hR
  have HN := Aside0.mk h1'
  clear h hl he hR h1 h1'
  go_enter Try.func38, Try.ntmps38
  go_wp2
  go_loopw [22] (fun v22 w' => ∃ k : Nat, v22 = .int .i64 k ∧ k ≤ l.length ∧ Aside0 ((l.take k).all D.is = true) ∧ Drawn0 w w') (fun v22 _ => l.length - (intOf v22).toNat)
  case atStart => exact ⟨0, rfl, by omega, ⟨rfl⟩, Drawn0.refl _⟩
  case round =>
    obtain ⟨k, rfl, hk, HT, hd⟩ := hrel
    by_cases hlk : k < l.length
    · obtain ⟨ad, e, hx⟩ := C_nat (Kd.C_below HL.out hd.below) k hlk
      cases e
      have hs := all_take_succ D.is l k hlk
      obtain ⟨x, hx'⟩ : ∃ x, l.getD k 0 = x := ⟨_, rfl⟩
      rw [hx'] at hx hs
      rw [HT.out, Bool.true_and] at hs
      have HI := fun (w1 : World) (h1 : Drawn0 wr w1) => Aside0.mk (is_any (H.out.drawn (Drawn0.trans hd h1)) x)
      cases hb : D.is x with
      | true =>
        rw [hb] at HI hs
        have HT2 := Aside0.mk hs
        clear hx' hs HT hb
        go_wp2_with (go_at_call 66; refine (HI _ ?side1).out.mono ?_; (case side1 => repeat (first | exact Drawn0.refl _ | apply Drawn0.step)); rintro e w' ⟨rfl, ⟨n, rfl⟩⟩)
        go_roundw
        case rel => exact ⟨k + 1, by go_num, by omega, HT2, hd.step _⟩
        case measure => simp [intOf]; omega
      | false =>
        rw [hb] at HI hs
        have hf := all_of_take D.is l (k + 1) hs
        have hRf : (2 : Int) = R := by rw [← HR.out, if_pos hf]
        subst hRf
        clear hx' hs HT hb hf HR
        go_wp2_with (go_at_call 66; refine (HI _ ?side1).out.mono ?_; (case side1 => repeat (first | exact Drawn0.refl _ | apply Drawn0.step)); rintro e w' ⟨rfl, ⟨n, rfl⟩⟩)
        go_ret
        exact ⟨rfl, (hd.step _).below⟩
    · obtain rfl : k = l.length := by omega
      rw [List.take_length] at HT
      have hR2 := HR.out
      rw [if_neg (by rw [HT.out]; simp)] at hR2
      have HB := Aside0.mk hd.below
      have HR2 := Aside0.mk hR2
      clear HR hR2 HT hd
      go_wp2
      go_loop [33] (fun v33 => ∃ k : Nat, v33 = .int .i64 k ∧ k ≤ er.length ∧ Aside0 ((er.take k).all (posB n) = true)) (fun v33 => er.length - (intOf v33).toNat)
      case atStart => exact ⟨0, rfl, by omega, ⟨rfl⟩⟩
      case round =>
        obtain ⟨k, rfl, hk, HT⟩ := hrel
        by_cases hlk : k < er.length
        · obtain ⟨ad, e, hx⟩ := C_nat (Kd.C_below HE.out HB.out) k hlk
          cases e
          have hs := all_take_succ (posB n) er k hlk
          obtain ⟨x, hx'⟩ : ∃ x, er.getD k 0 = x := ⟨_, rfl⟩
          rw [hx'] at hx hs
          rw [HT.out, Bool.true_and] at hs
          by_cases hp : 0 ≤ x ∧ x < n
          · have hq : posB n x = true := by unfold posB; rw [decide_eq_true hp]
            rw [hq] at hs
            have HT2 := Aside0.mk hs
            obtain ⟨hp1, hp2⟩ := hp
            clear hx' hs HT hq
            go_wp2
            go_round
            case rel => exact ⟨k + 1, by go_num, by omega, HT2⟩
            case measure => simp [intOf]; omega
          · have hq : posB n x = false := by unfold posB; rw [decide_eq_false hp]
            rw [hq] at hs
            have hf := all_of_take _ er (k + 1) hs
            have hRf : (6 : Int) = R := by rw [← HR2.out, if_pos hf]
            subst hRf
            clear hx' hs HT hq hf HR2
            by_cases hx0 : x < 0
            · clear hp
              go_wp2
              go_ret
              exact ⟨rfl, HB.out⟩
            · have hx1 : (n : Int) ≤ x := by omega
              clear hp
              go_wp2
              go_ret
              exact ⟨rfl, HB.out⟩
        · obtain rfl : k = er.length := by omega
          rw [List.take_length] at HT
          have hR3 := HR2.out
          rw [if_neg (by rw [HT.out]; simp)] at hR3
          have HR3 := Aside0.mk hR3
          clear HR2 hR3
          go_wp2_with ((with_reducible refine gate_dst (N := 46) rfl ?_); refine make_ownb (n := n) rfl (N := 46) rfl _ _ rfl rfl rfl (by omega) ?_; intro v w2 hO hB; have HO := Aside0.mk (hO.lower HB.out.size); have HB2 := Aside0.mk (below_later HB.out HB.out.size hB); clear hO hB)
          go_loopw [49] (fun v49 w' => ∃ (k : Nat) (S : List Bool), v49 = .int .i64 k ∧ k ≤ er.length ∧ Aside0 (SeenIs S n (er.take k)) ∧ Aside0 ((er.take k).Nodup) ∧ Aside0 (OwnB w' w.heap.size v S) ∧ Aside0 (Below w.heap.size w w')) (fun v49 _ => er.length - (intOf v49).toNat)
          case atStart => exact ⟨0, _, rfl, by omega, ⟨SeenIs.start n⟩, ⟨List.nodup_nil⟩, HO, HB2⟩
          case round =>
            clear HO HB2 HB
            obtain ⟨k, S, rfl, hk, HS, HNd, HO, HB⟩ := hrel
            by_cases hlk : k < er.length
            · obtain ⟨ad, e, hx⟩ := C_nat (Kd.C_below HE.out HB.out) k hlk
              cases e
              have hpos : posB n (er.getD k 0) = true := by
                refine List.all_eq_true.1 HT.out _ ?_
                rw [List.getD_eq_getElem?_getD, List.getElem?_eq_getElem hlk]
                exact List.getElem_mem hlk
              have hns := nodup_take_succ_iff er k hlk
              have hts := take_succ_rd er k hlk
              obtain ⟨z, hx'⟩ : ∃ x, er.getD k 0 = x := ⟨_, rfl⟩
              rw [hx'] at hx hpos hns hts
              obtain ⟨hp1, hp2⟩ := of_decide_eq_true hpos
              obtain ⟨y, rfl⟩ := Int.eq_ofNat_of_zero_le hp1
              have hyn : y < n := by omega
              have hSl := HS.out.1
              obtain ⟨s, cs, es, hs1, hs2⟩ := HO.out.form (by omega)
              rw [hSl] at es
              subst es
              obtain ⟨hcs, hfs⟩ := HO.out.cell' hSl.symm y hyn
              by_cases hin : (y : Int) ∈ er.take k
              · have hnn : ¬ er.Nodup := nodup_of_take er (k + 1) (by rw [hns]; exact fun h => h.2 hin)
                have hRf : (18 : Int) = R := by rw [← HR3.out, if_pos hnn]
                subst hRf
                have hrd : S.getD y false = true := (HS.out.2 y hyn).2 hin
                rw [hrd] at hcs
                clear hx' hpos hns hts hin hnn HR3 hrd HS hp1 hp2 hSl
                go_wp2
                go_ret
                exact ⟨rfl, HB.out⟩
              · have hrd : S.getD y false = false := HS.out.no y hyn hin
                rw [hrd] at hcs
                have HO2 := Aside0.mk (HO.out.set hSl.symm y true)
                have hnew := HS.out.step y hyn
                rw [← hts] at hnew
                have HS2 := Aside0.mk hnew
                have HN2 := Aside0.mk (hns.2 ⟨HNd.out, hin⟩)
                clear hx' hpos hns hts hin hrd HS hp1 hp2 hSl hnew HO HNd
                go_wp2
                go_roundw
                case rel => exact ⟨k + 1, _, by go_num, by omega, HS2, HN2, HO2, ⟨HB.out.setCell (p := ⟨s, y, none⟩) hs1 _⟩⟩
                case measure => simp [intOf]; omega
            · obtain rfl : k = er.length := by omega
              rw [List.take_length] at HNd
              have hR4 := HR3.out
              rw [if_neg (fun h => h HNd.out)] at hR4
              subst hR4
              clear HS HNd HO HR3
              go_wp2
              go_ret
              exact ⟨rfl, HB.out⟩

theorem marks_eq {S : List Bool} {n : Nat} {er : List Int} (h : SeenIs S n er) : S = marksZ n er := by
  refine List.ext_getElem (by rw [h.1, marksZ_length]) (fun i h1 h2 => ?_)
  have h3 := h.2 i (by rw [← h.1]; exact h1)
  have h4 := marksZ_getD n er i (by rw [← h.1]; exact h1)
  rw [List.getD_eq_getElem?_getD, List.getElem?_eq_getElem h1] at h3
  rw [List.getD_eq_getElem?_getD, List.getElem?_eq_getElem h2] at h4
  simp only [Option.getD_some] at h3 h4
  rw [h4]
  cases e : S[i] with
  | true => rw [e] at h3; simp [h3.1 rfl]
  | false =>
    rw [e] at h3
    exact (decide_eq_false (fun hm => by have := h3.2 hm; cases this)).symm
theorem marks_any {w : World} {B : Option Addr} {d : Nat} {er : List Int} (n : Nat) (hn : n ≤ 1000) (he : Kd.C (Kd.int .i64) w B er.length er) (hp : er.all (posB n) = true) :
    Calls Try.prog 40 #[.int .i64 n, .slice B er.length d] w fun e w' => ∃ v, e = .returned v ∧ OwnB w' w.heap.size v (marksZ n er) ∧ Below w.heap.size w w' := by
  have HE := Aside0.mk he
  have hm2 := Kd.C_max he
  have HT := Aside0.mk hp
  have HB := Aside0.mk (Below.refl w.heap.size w)
  obtain ⟨R, hR⟩ : ∃ R, marksZ n er = R := ⟨_, rfl⟩
  rw [hR]
  have HR := Aside0.mk hR
  clear hR he hp
  go_enter Try.func40, Try.ntmps40
  go_wp2_with ((with_reducible refine gate_dst (N := 9) rfl ?_); refine make_ownb (n := n) rfl (N := 9) rfl _ _ rfl rfl rfl (by omega) ?_; intro v w2 hO hB; have HO := Aside0.mk (hO.lower HB.out.size); have HB2 := Aside0.mk (below_later HB.out HB.out.size hB); clear hO hB)
  go_loopw [12] (fun v49 w' => ∃ (k : Nat) (S : List Bool), v49 = .int .i64 k ∧ k ≤ er.length ∧ Aside0 (SeenIs S n (er.take k)) ∧ Aside0 (OwnB w' w.heap.size v S) ∧ Aside0 (Below w.heap.size w w')) (fun v49 _ => er.length - (intOf v49).toNat)
  case atStart => exact ⟨0, _, rfl, by omega, ⟨SeenIs.start n⟩, HO, HB2⟩
  case round =>
    clear HO HB2 HB
    obtain ⟨k, S, rfl, hk, HS, HO, HB⟩ := hrel
    by_cases hlk : k < er.length
    · obtain ⟨ad, e, hx⟩ := C_nat (Kd.C_below HE.out HB.out) k hlk
      cases e
      have hpos : posB n (er.getD k 0) = true := by
        refine List.all_eq_true.1 HT.out _ ?_
        rw [List.getD_eq_getElem?_getD, List.getElem?_eq_getElem hlk]
        exact List.getElem_mem hlk
      have hts := take_succ_rd er k hlk
      obtain ⟨z, hx'⟩ : ∃ x, er.getD k 0 = x := ⟨_, rfl⟩
      rw [hx'] at hx hpos hts
      obtain ⟨hp1, hp2⟩ := of_decide_eq_true hpos
      obtain ⟨y, rfl⟩ := Int.eq_ofNat_of_zero_le hp1
      have hyn : y < n := by omega
      have hSl := HS.out.1
      obtain ⟨s, cs, es, hs1, hs2⟩ := HO.out.form (by omega)
      rw [hSl] at es
      subst es
      obtain ⟨hcs, hfs⟩ := HO.out.cell' hSl.symm y hyn
      have HO2 := Aside0.mk (HO.out.set hSl.symm y true)
      have hnew := HS.out.step y hyn
      rw [← hts] at hnew
      have HS2 := Aside0.mk hnew
      clear hx' hpos hts HS hp1 hp2 hSl hnew HO
      go_wp2
      go_roundw
      case rel => exact ⟨k + 1, _, by go_num, by omega, HS2, HO2, ⟨HB.out.setCell (p := ⟨s, y, none⟩) hs1 _⟩⟩
      case measure => simp [intOf]; omega
    · obtain rfl : k = er.length := by omega
      rw [List.take_length] at HS
      have hSR : S = R := by rw [← HR.out]; exact marks_eq HS.out
      subst hSR
      clear HS HR
      go_wp2
      go_ret
      exact ⟨_, rfl, HO.out, HB.out⟩

/-- The radius, as the machine counts it. -/
def radiusW (a0 a1 : Int) : Int := if a0 < 1 then (-1) else (if a1 < 0 then (-1) else (if a1 > (wrap64 (a0 - 1)) then (-1) else (wrap64 (Int.tdiv (wrap64 ((wrap64 (a0 - 1)) - a1)) 2))))
set_option maxHeartbeats 8000000 in
set_option maxRecDepth 100000 in
theorem radius_any (a0 a1 : Int) (w : World) :
    Calls Try.prog 12 #[.int .i64 a0, .int .i64 a1] w fun e w' => e = .returned (.int .i64 (radiusW a0 a1)) ∧ Drawn0 w w' := by
  obtain ⟨r, hr⟩ : ∃ r, radiusW a0 a1 = r := ⟨_, rfl⟩
  rw [hr]
  unfold radiusW at hr
  by_cases c3 : a0 < 1
  · rw [if_pos c3] at hr
    have c3b0 : decide (a0 < 1) = true := decide_eq_true c3
    clear c3
    subst hr
    go_enter Try.func12, Try.ntmps12
    go_wp2
    go_ret
    exact ⟨by first | rfl | (simp; done) | (simp [*]; done), by repeat (first | exact Drawn0.refl _ | apply Drawn0.step)⟩
  · rw [if_neg c3] at hr
    have c3b0 : decide (a0 < 1) = false := decide_eq_false c3
    clear c3
    by_cases c4 : a1 < 0
    · rw [if_pos c4] at hr
      have c4b0 : decide (a1 < 0) = true := decide_eq_true c4
      clear c4
      subst hr
      go_enter Try.func12, Try.ntmps12
      go_wp2
      go_ret
      exact ⟨by first | rfl | (simp; done) | (simp [*]; done), by repeat (first | exact Drawn0.refl _ | apply Drawn0.step)⟩
    · rw [if_neg c4] at hr
      have c4b0 : decide (a1 < 0) = false := decide_eq_false c4
      clear c4
      by_cases c5 : a1 > (wrap64 (a0 - 1))
      · rw [if_pos c5] at hr
        have c5b0 : decide ((wrap64 (a0 - 1)) < a1) = true := decide_eq_true c5
        clear c5
        subst hr
        go_enter Try.func12, Try.ntmps12
        go_wp2
        go_ret
        exact ⟨by first | rfl | (simp; done) | (simp [*]; done), by repeat (first | exact Drawn0.refl _ | apply Drawn0.step)⟩
      · rw [if_neg c5] at hr
        have c5b0 : decide ((wrap64 (a0 - 1)) < a1) = false := decide_eq_false c5
        clear c5
        subst hr
        go_enter Try.func12, Try.ntmps12
        go_wp2
        go_ret
        exact ⟨by first | rfl | (simp; done) | (simp [*]; done), by repeat (first | exact Drawn0.refl _ | apply Drawn0.step)⟩
set_option maxHeartbeats 8000000 in
set_option maxRecDepth 100000 in
theorem refRadius_any (a0 a1 : Int) (w : World) :
    Calls Try.prog 13 #[.int .i64 a0, .int .i64 a1] w fun e w' => e = .returned (.int .i64 (radiusW a0 a1)) ∧ Drawn0 w w' := by
  obtain ⟨r, hr⟩ : ∃ r, radiusW a0 a1 = r := ⟨_, rfl⟩
  rw [hr]
  unfold radiusW at hr
  by_cases c3 : a0 < 1
  · rw [if_pos c3] at hr
    have c3b0 : decide (a0 < 1) = true := decide_eq_true c3
    clear c3
    subst hr
    go_enter Try.func13, Try.ntmps13
    go_wp2
    go_ret
    exact ⟨by first | rfl | (simp; done) | (simp [*]; done), by repeat (first | exact Drawn0.refl _ | apply Drawn0.step)⟩
  · rw [if_neg c3] at hr
    have c3b0 : decide (a0 < 1) = false := decide_eq_false c3
    clear c3
    by_cases c4 : a1 < 0
    · rw [if_pos c4] at hr
      have c4b0 : decide (a1 < 0) = true := decide_eq_true c4
      clear c4
      subst hr
      go_enter Try.func13, Try.ntmps13
      go_wp2
      go_ret
      exact ⟨by first | rfl | (simp; done) | (simp [*]; done), by repeat (first | exact Drawn0.refl _ | apply Drawn0.step)⟩
    · rw [if_neg c4] at hr
      have c4b0 : decide (a1 < 0) = false := decide_eq_false c4
      clear c4
      by_cases c5 : a1 > (wrap64 (a0 - 1))
      · rw [if_pos c5] at hr
        have c5b0 : decide ((wrap64 (a0 - 1)) < a1) = true := decide_eq_true c5
        clear c5
        subst hr
        go_enter Try.func13, Try.ntmps13
        go_wp2
        go_ret
        exact ⟨by first | rfl | (simp; done) | (simp [*]; done), by repeat (first | exact Drawn0.refl _ | apply Drawn0.step)⟩
      · rw [if_neg c5] at hr
        have c5b0 : decide ((wrap64 (a0 - 1)) < a1) = false := decide_eq_false c5
        clear c5
        subst hr
        go_enter Try.func13, Try.ntmps13
        go_wp2
        go_ret
        exact ⟨by first | rfl | (simp; done) | (simp [*]; done), by repeat (first | exact Drawn0.refl _ | apply Drawn0.step)⟩
theorem wr64 (x : Int) (h1 : -9223372036854775808 ≤ x) (h2 : x ≤ 9223372036854775807) : wrap64 x = x := by unfold wrap64; omega
theorem radiusW_eq (d f : Int) (h1 : -1000000 ≤ d) (h2 : d ≤ 1000000) (h3 : 0 ≤ f) (h4 : f ≤ 1000000000) : radiusW d f = radiusZ d f := by
  unfold radiusW radiusZ
  rw [wr64 (d - 1) (by omega) (by omega)]
  by_cases c1 : d < 1
  · rw [if_pos c1, if_pos (Or.inl c1)]
  · rw [if_neg c1, if_neg (by omega)]
    by_cases c2 : f > d - 1
    · rw [if_pos c2, if_pos (by omega)]
    · rw [if_neg c2, if_neg (by omega), wr64 (d - 1 - f) (by omega) (by omega), wr64 _ ?_ ?_]
      · rw [Int.tdiv_eq_ediv_of_nonneg (by omega)]; omega
      · rw [Int.tdiv_eq_ediv_of_nonneg (by omega)]; omega
end Go.Proofs.Yticgblagimmlfaa
