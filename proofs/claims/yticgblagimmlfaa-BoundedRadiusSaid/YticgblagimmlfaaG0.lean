/- The field's methods that only read: what they return, as functions of the tables in memory. -/
import Derived.Test.YticgblagimmlfaaProg
import Derived.Test.YticgblagimmlfaaWMore
import Derived.Test.YticgblagimmlfaaWKept
import Derived.Test.YticgblagimmlfaaSp
namespace Go.Proofs.Yticgblagimmlfaa
open Go.RowKit Go.Proofs.YticgblagimmlfaaW.PrintWords Go.Proofs.YticgblagimmlfaaW.PrintLast Go.Proofs.YticgblagimmlfaaW.PrintMore
set_option linter.unusedVariables false
set_option linter.unusedSimpArgs false

/-- The field at block g of w. -/
structure GFat (w : World) (g : Nat) (D : GFD) : Prop where mk ::
  out : ∃ A2 c2 A4 c4 A5 c5, w.heap[g]? = some (.cells #[.int .i64 D.P, .int .i64 D.M, .slice A2 D.Mod.length c2, .int .i64 D.q, .slice A4 D.exp.length c4, .slice A5 D.log.length c5] 107 (0, 0)) ∧
    Kd.C (Kd.int .i64) w A2 D.Mod.length D.Mod ∧ D.Mod.length ≤ c2 ∧ Kd.C (Kd.int .i64) w A4 D.exp.length D.exp ∧ Kd.C (Kd.int .i64) w A5 D.log.length D.log

theorem GFat.below {w w1 : World} {g : Nat} {D : GFD} (h : GFat w g D) (hb : Below w.heap.size w w1) : GFat w1 g D := by
  obtain ⟨A2, c2, A4, c4, A5, c5, h0, h2, hc2, h4, h5⟩ := h.out
  exact ⟨A2, c2, A4, c4, A5, c5, by rw [hb.block g (blk_lt h0)]; exact h0, Kd.C_below h2 hb, hc2, Kd.C_below h4 hb, Kd.C_below h5 hb⟩
theorem GFat.drawn {w w1 : World} {g : Nat} {D : GFD} (h : GFat w g D) (hb : Drawn0 w w1) : GFat w1 g D := h.below hb.below

theorem at_rdz {w : World} {A : Option Addr} {n : Nat} {l : List Int} (h : Kd.C (Kd.int .i64) w A n l) (i : Int) (h0 : 0 ≤ i) (h1 : i < n) :
    ∃ ad, A = some ad ∧ w.cell? (ad.add i.toNat) = some (.int .i64 (rdz l i)) := Kd.at_int h i h0 h1
theorem C_nat {w : World} {A : Option Addr} {l : List Int} (h : Kd.C (Kd.int .i64) w A l.length l) (k : Nat) (hk : k < l.length) :
    ∃ ad, A = some ad ∧ w.cell? (ad.add k) = some (.int .i64 (l.getD k 0)) := by
  obtain ⟨ad, e, hx⟩ := Kd.at_int h (k : Int) (by omega) (by omega)
  exact ⟨ad, e, by simpa [rd] using hx⟩
theorem bits_xor (a b : Int) (h1 : 0 ≤ a) (h2 : a < 256) (h3 : 0 ≤ b) (h4 : b < 256) : bits .xor .i64 a b = addD 2 8 a b := by
  obtain ⟨a, rfl⟩ := Int.eq_ofNat_of_zero_le h1
  obtain ⟨b, rfl⟩ := Int.eq_ofNat_of_zero_le h3
  rw [← xor_addD 8 a b (by omega) (by omega)]
  have hx : a ^^^ b < 2 ^ 8 := Nat.xor_lt_two_pow (by omega) (by omega)
  show IntKind.i64.wrap ((BitVec.ofInt 64 (a : Int) ^^^ BitVec.ofInt 64 (b : Int)).toNat : Int) = _
  have e1 : (BitVec.ofInt 64 (a : Int)).toNat = a := by rw [BitVec.toNat_ofInt]; omega
  have e2 : (BitVec.ofInt 64 (b : Int)).toNat = b := by rw [BitVec.toNat_ofInt]; omega
  rw [BitVec.toNat_xor, e1, e2, i64_w]
  unfold wrap64
  omega

theorem w64 (x : Int) (h1 : -9223372036854775808 ≤ x) (h2 : x ≤ 9223372036854775807) : IntKind.i64.wrap x = x := by
  rw [i64_w]; unfold wrap64; omega

theorem is_any {g : Nat} {D : GFD} {w : World} (h : GFat w g D) (x : Int) :
    Calls Try.prog 66 #[.pointer (some ⟨g, 0, none⟩), .int .i64 x] w fun e w' => e = .returned (.bool (D.is x)) ∧ Drawn0 w w' := by
  obtain ⟨A2, c2, A4, c4, A5, c5, h0, -⟩ := h.out
  have hc : w.cell? ⟨g, 3, none⟩ = some (.int .i64 D.q) := (blk_cell h0 3).trans rfl
  clear h h0
  by_cases h1 : 0 ≤ x
  · by_cases h2 : x < D.q
    · have e : D.is x = true := by simp [GFD.is, h1, h2]
      rw [e]; clear e
      go_enter Try.func66, Try.ntmps66
      go_wp2
      go_ret
      exact ⟨rfl, Drawn0.refl _⟩
    · have e : D.is x = false := by simp [GFD.is, h2]
      rw [e]; clear e
      go_enter Try.func66, Try.ntmps66
      go_wp2
      go_ret
      exact ⟨by simp, Drawn0.refl _⟩
  · have e : D.is x = false := by simp [GFD.is, h1]
    rw [e]; clear e
    go_enter Try.func66, Try.ntmps66
    go_wp2
    go_ret
    exact ⟨rfl, Drawn0.refl _⟩

theorem in_any {g : Nat} {D : GFD} {w : World} (h : GFat w g D) (x : Int) :
    Calls Try.prog 118 #[.pointer (some ⟨g, 0, none⟩), .int .i64 x] w fun e w' => e = .returned (.int .i64 (D.inn x)) ∧ Drawn0 w w' := by
  have H := Aside0.mk h
  clear h
  by_cases h1 : 0 ≤ x ∧ x < D.q
  · have e1 : D.is x = true := by simp [GFD.is, h1]
    have e2 : D.inn x = x := by simp [GFD.inn, h1]
    rw [e2]
    have E1 := Aside0.mk e1
    clear e1 e2 h1
    go_enter Try.func118, Try.ntmps118
    go_wp2_with (go_at_call 66; refine (is_any H.out x).mono ?_; rw [E1.out]; rintro e w' ⟨rfl, ⟨n, rfl⟩⟩)
    go_ret
    exact ⟨rfl, Drawn0.step (Drawn0.refl _) _⟩
  · have e1 : D.is x = false := by simp [GFD.is]; omega
    have e2 : D.inn x = 0 := by simp [GFD.inn]; omega
    rw [e2]
    have E1 := Aside0.mk e1
    clear e1 e2 h1
    go_enter Try.func118, Try.ntmps118
    go_wp2_with (go_at_call 66; refine (is_any H.out x).mono ?_; rw [E1.out]; rintro e w' ⟨rfl, ⟨n, rfl⟩⟩)
    go_ret
    exact ⟨rfl, Drawn0.step (Drawn0.refl _) _⟩

theorem in_eq {g : Nat} {D : GFD} {w : World} (h : GFat w g D) (x : Int) {a : Int} (ha : Aside0 (D.inn x = a)) :
    Calls Try.prog 118 #[.pointer (some ⟨g, 0, none⟩), .int .i64 x] w fun e w' => e = .returned (.int .i64 a) ∧ Drawn0 w w' := by
  rw [← ha.out]; exact in_any h x

theorem mul_any {g : Nat} {D : GFD} {w : World} (h : GFat w g D) (hD : D.ok) (x y : Int) :
    Calls Try.prog 79 #[.pointer (some ⟨g, 0, none⟩), .int .i64 x, .int .i64 y] w fun e w' => e = .returned (.int .i64 (D.mul x y)) ∧ Drawn0 w w' := by
  obtain ⟨hx1, hx2⟩ := D.inn_lt hD x
  obtain ⟨hy1, hy2⟩ := D.inn_lt hD y
  have hmul : D.mul x y = if D.inn x = 0 ∨ D.inn y = 0 then 0 else rdz D.exp ((rdz D.log (D.inn x) + rdz D.log (D.inn y)) % (D.q - 1)) := rfl
  rw [hmul]
  clear hmul
  have H := Aside0.mk h
  obtain ⟨A2, c2, A4, c4, A5, c5, h0, g2, gc2, g4, g5⟩ := h.out
  clear h
  have HX : ∃ a, D.inn x = a := ⟨_, rfl⟩
  have HY : ∃ b, D.inn y = b := ⟨_, rfl⟩
  obtain ⟨a, ha⟩ := HX
  obtain ⟨b, hb⟩ := HY
  rw [ha, hb]
  rw [ha] at hx1 hx2
  rw [hb] at hy1 hy2
  have HA := Aside0.mk ha
  have HB := Aside0.mk hb
  clear ha hb
  by_cases hx : a = 0
  · subst hx
    simp only [true_or, if_true]
    go_enter Try.func79, Try.ntmps79
    go_wp2_with (first | (go_at_call 118; (with_reducible refine (in_eq ?side1 _ HA).mono ?_); (case side1 => exact H.out.drawn (by repeat (first | exact Drawn0.refl _ | apply Drawn0.step))); rintro e w' ⟨rfl, ⟨n, rfl⟩⟩) | (go_at_call 118; (with_reducible refine (in_eq ?side1 _ HB).mono ?_); (case side1 => exact H.out.drawn (by repeat (first | exact Drawn0.refl _ | apply Drawn0.step))); rintro e w' ⟨rfl, ⟨n, rfl⟩⟩))
    go_ret
    exact ⟨rfl, by repeat (first | exact Drawn0.refl _ | apply Drawn0.step)⟩
  · have hxb : (a == 0) = false := by simp [hx]
    by_cases hy : b = 0
    · subst hy
      simp only [or_true, if_true]
      go_enter Try.func79, Try.ntmps79
      go_wp2_with (first | (go_at_call 118; (with_reducible refine (in_eq ?side1 _ HA).mono ?_); (case side1 => exact H.out.drawn (by repeat (first | exact Drawn0.refl _ | apply Drawn0.step))); rintro e w' ⟨rfl, ⟨n, rfl⟩⟩) | (go_at_call 118; (with_reducible refine (in_eq ?side1 _ HB).mono ?_); (case side1 => exact H.out.drawn (by repeat (first | exact Drawn0.refl _ | apply Drawn0.step))); rintro e w' ⟨rfl, ⟨n, rfl⟩⟩))
      go_ret
      exact ⟨rfl, by repeat (first | exact Drawn0.refl _ | apply Drawn0.step)⟩
    · have hyb : (b == 0) = false := by simp [hy]
      rw [if_neg (by omega)]
      clear hx hy
      have cq : w.cell? ⟨g, 3, none⟩ = some (.int .i64 D.q) := (blk_cell h0 3).trans rfl
      have ce : w.cell? ⟨g, 4, none⟩ = some (.slice A4 D.exp.length c4) := (blk_cell h0 4).trans rfl
      have cl : w.cell? ⟨g, 5, none⟩ = some (.slice A5 D.log.length c5) := (blk_cell h0 5).trans rfl
      have hl := hD.loglen
      have he := hD.explen
      have hq2 := hD.q2
      have hq3 := hD.q256
      obtain ⟨la1, la2⟩ := hD.log0 a
      obtain ⟨lb1, lb2⟩ := hD.log0 b
      obtain ⟨ad5, rfl, ha5⟩ := at_rdz g5 a hx1 (by omega)
      obtain ⟨ad5', e5, hb5⟩ := at_rdz g5 b hy1 (by omega)
      cases e5
      have hm1 : 0 ≤ (rdz D.log a + rdz D.log b) % (D.q - 1) := Int.emod_nonneg _ (by omega)
      have hm2 : (rdz D.log a + rdz D.log b) % (D.q - 1) < D.q - 1 := Int.emod_lt_of_pos _ (by omega)
      obtain ⟨ad4, rfl, ha4⟩ := at_rdz g4 ((rdz D.log a + rdz D.log b) % (D.q - 1)) hm1 (by omega)
      have ia : a < (D.log.length : Int) := by omega
      have ib : b < (D.log.length : Int) := by omega
      have im : (rdz D.log a + rdz D.log b) % (D.q - 1) < (D.exp.length : Int) := by omega
      clear hl he h0 g2 gc2 g4 g5 hm2
      go_enter Try.func79, Try.ntmps79
      go_wp2_with (first | (go_at_call 118; (with_reducible refine (in_eq ?side1 _ HA).mono ?_); (case side1 => exact H.out.drawn (by repeat (first | exact Drawn0.refl _ | apply Drawn0.step))); rintro e w' ⟨rfl, ⟨n, rfl⟩⟩) | (go_at_call 118; (with_reducible refine (in_eq ?side1 _ HB).mono ?_); (case side1 => exact H.out.drawn (by repeat (first | exact Drawn0.refl _ | apply Drawn0.step))); rintro e w' ⟨rfl, ⟨n, rfl⟩⟩))
      go_quiet (fail)
      go_wp2
      go_ret
      exact ⟨rfl, by repeat (first | exact Drawn0.refl _ | apply Drawn0.step)⟩

theorem inv_any {g : Nat} {D : GFD} {w : World} (h : GFat w g D) (hD : D.ok) (x : Int) :
    Calls Try.prog 81 #[.pointer (some ⟨g, 0, none⟩), .int .i64 x] w fun e w' => e = .returned (.tuple #[.int .i64 (D.inv x), .int .i64 (D.invE x)]) ∧ Drawn0 w w' := by
  obtain ⟨hx1, hx2⟩ := D.inn_lt hD x
  have hmul : D.inv x = if D.inn x = 0 then 0 else rdz D.exp ((D.q - 1 - rdz D.log (D.inn x)) % (D.q - 1)) := rfl
  have hmul2 : D.invE x = if D.inn x = 0 then 7 else 0 := rfl
  rw [hmul, hmul2]
  clear hmul hmul2
  have H := Aside0.mk h
  obtain ⟨A2, c2, A4, c4, A5, c5, h0, g2, gc2, g4, g5⟩ := h.out
  clear h
  obtain ⟨a, ha⟩ : ∃ a, D.inn x = a := ⟨_, rfl⟩
  rw [ha]
  rw [ha] at hx1 hx2
  have HA := Aside0.mk ha
  clear ha
  by_cases hx : a = 0
  · subst hx
    simp only [if_true]
    go_enter Try.func81, Try.ntmps81
    go_wp2_with (go_at_call 118; (with_reducible refine (in_eq ?side1 _ HA).mono ?_); (case side1 => exact H.out.drawn (by repeat (first | exact Drawn0.refl _ | apply Drawn0.step))); rintro e w' ⟨rfl, ⟨n, rfl⟩⟩)
    go_ret2
    exact ⟨rfl, by repeat (first | exact Drawn0.refl _ | apply Drawn0.step)⟩
  · have hxb : (a == 0) = false := by simp [hx]
    rw [if_neg hx, if_neg hx]
    clear hx
    have cq : w.cell? ⟨g, 3, none⟩ = some (.int .i64 D.q) := (blk_cell h0 3).trans rfl
    have ce : w.cell? ⟨g, 4, none⟩ = some (.slice A4 D.exp.length c4) := (blk_cell h0 4).trans rfl
    have cl : w.cell? ⟨g, 5, none⟩ = some (.slice A5 D.log.length c5) := (blk_cell h0 5).trans rfl
    have hl := hD.loglen
    have he := hD.explen
    have hq2 := hD.q2
    have hq3 := hD.q256
    obtain ⟨la1, la2⟩ := hD.log0 a
    obtain ⟨ad5, rfl, ha5⟩ := at_rdz g5 a hx1 (by omega)
    have w1 : IntKind.i64.wrap (D.q - 1) = D.q - 1 := w64 _ (by omega) (by omega)
    have w2 : IntKind.i64.wrap (D.q - 1 - rdz D.log a) = D.q - 1 - rdz D.log a := w64 _ (by omega) (by omega)
    have w3 : Int.tmod (D.q - 1 - rdz D.log a) (D.q - 1) = (D.q - 1 - rdz D.log a) % (D.q - 1) := Int.tmod_eq_emod_of_nonneg (by omega)
    have hm1 : 0 ≤ (D.q - 1 - rdz D.log a) % (D.q - 1) := Int.emod_nonneg _ (by omega)
    have hm2 : (D.q - 1 - rdz D.log a) % (D.q - 1) < D.q - 1 := Int.emod_lt_of_pos _ (by omega)
    obtain ⟨u, hu⟩ : ∃ u, (D.q - 1 - rdz D.log a) % (D.q - 1) = u := ⟨_, rfl⟩
    rw [hu] at hm1 hm2 w3 ⊢
    obtain ⟨t, ht⟩ : ∃ t, D.q - 1 - rdz D.log a = t := ⟨_, rfl⟩
    rw [ht] at w2 w3
    have w2' : IntKind.i64.wrap (D.q - 1 - rdz D.log a) = t := by rw [ht]; exact w2
    obtain ⟨ad4, rfl, ha4⟩ := at_rdz g4 u hm1 (by omega)
    have ia : a < (D.log.length : Int) := by omega
    have im : u < (D.exp.length : Int) := by omega
    have w4 : (D.q - 1 == 0) = false := by simp only [beq_eq_false_iff_ne]; omega
    clear hl he h0 g2 gc2 g4 g5 hm2 hu ht w2
    go_enter Try.func81, Try.ntmps81
    go_wp2_with (go_at_call 118; (with_reducible refine (in_eq ?side1 _ HA).mono ?_); (case side1 => exact H.out.drawn (by repeat (first | exact Drawn0.refl _ | apply Drawn0.step))); rintro e w' ⟨rfl, ⟨n, rfl⟩⟩)
    go_quiet (fail)
    go_wp2
    go_ret2
    exact ⟨rfl, by repeat (first | exact Drawn0.refl _ | apply Drawn0.step)⟩

theorem div_any {g : Nat} {D : GFD} {w : World} (h : GFat w g D) (hD : D.ok) (x y : Int) :
    Calls Try.prog 67 #[.pointer (some ⟨g, 0, none⟩), .int .i64 x, .int .i64 y] w fun e w' => e = .returned (.tuple #[.int .i64 (D.div x y), .int .i64 (D.invE y)]) ∧ Drawn0 w w' := by
  have H := Aside0.mk h
  clear h
  have HC := fun (w1 : World) (hd : Drawn0 w w1) => Aside0.mk (inv_any (H.out.drawn hd) hD y)
  by_cases hy : D.inn y = 0
  · have e1 : D.inv y = 0 := by simp [GFD.inv, hy]
    have e2 : D.invE y = 7 := by simp [GFD.invE, hy]
    have e3 : D.div x y = 0 := by simp [GFD.div, hy]
    rw [e3, e2]
    rw [e1, e2] at HC
    clear e1 e2 e3 hy
    go_enter Try.func67, Try.ntmps67
    go_wp2_with (go_at_call 81; refine (HC _ ?side1).out.mono ?_; (case side1 => repeat (first | exact Drawn0.refl _ | apply Drawn0.step)); rintro e w' ⟨rfl, ⟨n, rfl⟩⟩)
    go_ret2
    exact ⟨rfl, by repeat (first | exact Drawn0.refl _ | apply Drawn0.step)⟩
  · have e2 : D.invE y = 0 := by simp [GFD.invE, hy]
    have e3 : D.div x y = D.mul x (D.inv y) := by simp [GFD.div, hy]
    rw [e3, e2]
    rw [e2] at HC
    clear e2 e3 hy
    go_enter Try.func67, Try.ntmps67
    go_wp2_with (first | (go_at_call 81; refine (HC _ ?side1).out.mono ?_; (case side1 => repeat (first | exact Drawn0.refl _ | apply Drawn0.step)); rintro e w' ⟨rfl, ⟨n, rfl⟩⟩) | (go_at_call 79; (with_reducible refine (mul_any ?side2 hD _ _).mono ?_); (case side2 => exact H.out.drawn (by repeat (first | exact Drawn0.refl _ | apply Drawn0.step))); rintro e w' ⟨rfl, ⟨n, rfl⟩⟩))
    go_ret2
    exact ⟨rfl, by repeat (first | exact Drawn0.refl _ | apply Drawn0.step)⟩

theorem add_any {g : Nat} {D : GFD} {w : World} (h : GFat w g D) (hD : D.ok) (x y : Int) :
    Calls Try.prog 83 #[.pointer (some ⟨g, 0, none⟩), .int .i64 x, .int .i64 y] w fun e w' => e = .returned (.int .i64 (D.add x y)) ∧ Drawn0 w w' := by
  obtain ⟨hx1, hx2⟩ := D.inn_lt hD x
  obtain ⟨hy1, hy2⟩ := D.inn_lt hD y
  have H := Aside0.mk h
  obtain ⟨A2, c2, A4, c4, A5, c5, h0, g2, gc2, g4, g5⟩ := h.out
  clear h
  obtain ⟨a, ha⟩ : ∃ a, D.inn x = a := ⟨_, rfl⟩
  obtain ⟨b, hb⟩ : ∃ b, D.inn y = b := ⟨_, rfl⟩
  obtain ⟨T, hT⟩ : ∃ T, addD D.P 8 a b = T := ⟨_, rfl⟩
  have e : D.add x y = T := by rw [← hT, ← ha, ← hb]; rfl
  rw [e]
  rw [ha] at hx1 hx2
  rw [hb] at hy1 hy2
  have HA := Aside0.mk ha
  have HB := Aside0.mk hb
  have cp : w.cell? ⟨g, 0, none⟩ = some (.int .i64 D.P) := (blk_cell h0 0).trans rfl
  have hP2 := hD.p2
  have hP3 := hD.p256
  have hq3 := hD.q256
  clear ha hb e h0 g2 gc2 g4 g5
  obtain ⟨P, hP⟩ : ∃ P, D.P = P := ⟨_, rfl⟩
  rw [hP] at cp hP2 hP3 hT
  clear hP
  by_cases h2 : P = 2
  · subst h2
    have hx := bits_xor a b hx1 (by omega) hy1 (by omega)
    rw [hT] at hx
    clear hT
    go_enter Try.func83, Try.ntmps83
    go_wp2_with (first | (go_at_call 118; (with_reducible refine (in_eq ?side1 _ HA).mono ?_); (case side1 => exact H.out.drawn (by repeat (first | exact Drawn0.refl _ | apply Drawn0.step))); rintro e w' ⟨rfl, ⟨n, rfl⟩⟩) | (go_at_call 118; (with_reducible refine (in_eq ?side1 _ HB).mono ?_); (case side1 => exact H.out.drawn (by repeat (first | exact Drawn0.refl _ | apply Drawn0.step))); rintro e w' ⟨rfl, ⟨n, rfl⟩⟩))
    go_ret
    exact ⟨rfl, by repeat (first | exact Drawn0.refl _ | apply Drawn0.step)⟩
  · have h2b : (P == 2) = false := by simp [h2]
    have I0 : AddInv P T 8 a b 0 1 := ⟨hx1, hy1, by omega, by omega, by omega, by omega, by omega, by omega, by omega, by omega⟩
    have I := Aside0.mk I0
    clear h2 I0 hT
    go_enter Try.func83, Try.ntmps83
    go_wp2_with (first | (go_at_call 118; (with_reducible refine (in_eq ?side1 _ HA).mono ?_); (case side1 => exact H.out.drawn (by repeat (first | exact Drawn0.refl _ | apply Drawn0.step))); rintro e w' ⟨rfl, ⟨n, rfl⟩⟩) | (go_at_call 118; (with_reducible refine (in_eq ?side1 _ HB).mono ?_); (case side1 => exact H.out.drawn (by repeat (first | exact Drawn0.refl _ | apply Drawn0.step))); rintro e w' ⟨rfl, ⟨n, rfl⟩⟩))
    clear HA HB
    go_loopw [1, 2, 7, 8] (fun v1 v2 v7 v8 w' => ∃ (n : Nat) (a b s p : Int), v1 = .int .i64 a ∧ v2 = .int .i64 b ∧ v7 = .int .i64 s ∧ v8 = .int .i64 p ∧ Aside0 (AddInv P T n a b s p) ∧ Drawn0 w w') (fun v1 v2 _ _ _ => (intOf v1 + intOf v2).toNat)
    case atStart => exact ⟨8, a, b, 0, 1, rfl, rfl, rfl, rfl, I, by repeat (first | exact Drawn0.refl _ | apply Drawn0.step)⟩
    case round =>
      clear I hx1 hx2 hy1 hy2
      obtain ⟨n, a, b, s, p, rfl, rfl, rfl, rfl, I, ⟨m, rfl⟩⟩ := hrel
      have ha0 := I.out.a0
      have hb0 := I.out.b0
      have ha5 := I.out.a255
      have hb5 := I.out.b255
      have hPn : (P == 0) = false := by simp only [beq_eq_false_iff_ne]; omega
      by_cases hg : 0 < a ∨ 0 < b
      · obtain ⟨m', I', q1, q2, q3, q4, q5, q6, q7, q8, q9, q10, q11, q12, q13, q14⟩ := I.out.step hP2 hg
        have hsm := I.out.small hg
        have hPp : P * p ≤ 65280 := by
          have : P * p ≤ 256 * p := Int.mul_le_mul_of_nonneg_right (by omega) (by omega)
          omega
        have hpc : p * P = P * p := Int.mul_comm _ _
        have I2 := Aside0.mk I'
        have e1 : Int.tmod a P = a % P := Int.tmod_eq_emod_of_nonneg ha0
        have e2 : Int.tmod b P = b % P := Int.tmod_eq_emod_of_nonneg hb0
        clear I' I
        obtain ⟨da, hda⟩ : ∃ da, a % P = da := ⟨_, rfl⟩
        obtain ⟨db, hdb⟩ : ∃ db, b % P = db := ⟨_, rfl⟩
        rw [hda] at e1 q1 q2 q5 q6 q7 q8
        rw [hdb] at e2 q3 q4 q5 q6 q7 q8
        rw [hda, hdb] at I2
        obtain ⟨d, hd⟩ : ∃ d, (da + db) % P = d := ⟨_, rfl⟩
        have e3 : IntKind.i64.wrap (da + db) = da + db := w64 _ (by omega) (by omega)
        have e4 : Int.tmod (da + db) P = d := by rw [Int.tmod_eq_emod_of_nonneg (by omega)]; exact hd
        rw [hd] at q5 q6 q7 q8 I2
        obtain ⟨dp, hdp⟩ : ∃ dp, d * p = dp := ⟨_, rfl⟩
        rw [hdp] at q7 q8 I2
        have e5 : IntKind.i64.wrap (d * p) = dp := by rw [hdp]; exact w64 _ (by omega) (by omega)
        have e6 : IntKind.i64.wrap (s + dp) = s + dp := w64 _ (by omega) (by omega)
        have e7 : IntKind.i64.wrap (p * P) = p * P := w64 _ (by omega) (by omega)
        clear hda hdb hd hdp hpc
        by_cases hga : 0 < a
        · clear hg
          go_wp2
          go_quiet (fail)
          go_wp2
          go_roundw
          case rel => exact ⟨m', a / P, b / P, s + dp, p * P, by go_num, by go_num, rfl, rfl, I2, by repeat (first | exact Drawn0.refl _ | apply Drawn0.step)⟩
          case measure => simp [intOf]; omega
        · have hgb : 0 < b := by omega
          clear hg
          go_wp2
          go_quiet (fail)
          go_wp2
          go_roundw
          case rel => exact ⟨m', a / P, b / P, s + dp, p * P, by go_num, by go_num, rfl, rfl, I2, by repeat (first | exact Drawn0.refl _ | apply Drawn0.step)⟩
          case measure => simp [intOf]; omega
      · have hd := I.out.done (by omega) (by omega)
        subst hd
        have h1 : ¬ 0 < a := by omega
        have h2 : ¬ 0 < b := by omega
        clear hg I
        go_wp2
        go_ret
        exact ⟨rfl, by repeat (first | exact Drawn0.refl _ | apply Drawn0.step)⟩

theorem neg_any {g : Nat} {D : GFD} {w : World} (h : GFat w g D) (hD : D.ok) (x : Int) :
    Calls Try.prog 119 #[.pointer (some ⟨g, 0, none⟩), .int .i64 x] w fun e w' => e = .returned (.int .i64 (D.neg x)) ∧ Drawn0 w w' := by
  obtain ⟨hx1, hx2⟩ := D.inn_lt hD x
  have H := Aside0.mk h
  obtain ⟨A2, c2, A4, c4, A5, c5, h0, g2, gc2, g4, g5⟩ := h.out
  clear h
  obtain ⟨a, ha⟩ : ∃ a, D.inn x = a := ⟨_, rfl⟩
  obtain ⟨T, hT⟩ : ∃ T, negD D.P 8 a = T := ⟨_, rfl⟩
  have e : D.neg x = T := by rw [← hT, ← ha]; rfl
  rw [e]
  rw [ha] at hx1 hx2
  have HA := Aside0.mk ha
  have cp : w.cell? ⟨g, 0, none⟩ = some (.int .i64 D.P) := (blk_cell h0 0).trans rfl
  have hP2 := hD.p2
  have hP3 := hD.p256
  have hq3 := hD.q256
  clear ha e h0 g2 gc2 g4 g5
  obtain ⟨P, hP⟩ : ∃ P, D.P = P := ⟨_, rfl⟩
  rw [hP] at cp hP2 hP3 hT
  clear hP
  have I0 : NegInv P T 8 a 0 1 := ⟨hx1, by omega, by omega, by omega, by omega, by omega, by omega⟩
  have I := Aside0.mk I0
  clear I0 hT
  go_enter Try.func119, Try.ntmps119
  go_wp2_with (go_at_call 118; (with_reducible refine (in_eq ?side1 _ HA).mono ?_); (case side1 => exact H.out.drawn (by repeat (first | exact Drawn0.refl _ | apply Drawn0.step))); rintro e w' ⟨rfl, ⟨n, rfl⟩⟩)
  clear HA
  go_loopw [1, 5, 6] (fun v1 v5 v6 w' => ∃ (n : Nat) (a s p : Int), v1 = .int .i64 a ∧ v5 = .int .i64 s ∧ v6 = .int .i64 p ∧ Aside0 (NegInv P T n a s p) ∧ Drawn0 w w') (fun v1 _ _ _ => (intOf v1).toNat)
  case atStart => exact ⟨8, a, 0, 1, rfl, rfl, rfl, I, by repeat (first | exact Drawn0.refl _ | apply Drawn0.step)⟩
  case round =>
    clear I hx1 hx2
    obtain ⟨n, a, s, p, rfl, rfl, rfl, I, ⟨m, rfl⟩⟩ := hrel
    have ha0 := I.out.a0
    have ha5 := I.out.a255
    have hPn : (P == 0) = false := by simp only [beq_eq_false_iff_ne]; omega
    by_cases hg : 0 < a
    · obtain ⟨m', I', q1, q2, q5, q6, q7, q8, q9, q10, q11, q12, q14⟩ := I.out.step hP2 hg
      have hsm := I.out.small hg
      have hPp : P * p ≤ 65280 := by
        have : P * p ≤ 256 * p := Int.mul_le_mul_of_nonneg_right (by omega) (by omega)
        omega
      have hpc : p * P = P * p := Int.mul_comm _ _
      have I2 := Aside0.mk I'
      have e1 : Int.tmod a P = a % P := Int.tmod_eq_emod_of_nonneg ha0
      clear I' I
      obtain ⟨da, hda⟩ : ∃ da, a % P = da := ⟨_, rfl⟩
      rw [hda] at e1 q1 q2 q5 q6 q7 q8 I2
      obtain ⟨d, hd⟩ : ∃ d, (P - da) % P = d := ⟨_, rfl⟩
      have e3 : IntKind.i64.wrap (P - da) = P - da := w64 _ (by omega) (by omega)
      have e4 : Int.tmod (P - da) P = d := by rw [Int.tmod_eq_emod_of_nonneg (by omega)]; exact hd
      rw [hd] at q5 q6 q7 q8 I2
      obtain ⟨dp, hdp⟩ : ∃ dp, d * p = dp := ⟨_, rfl⟩
      rw [hdp] at q7 q8 I2
      have e5 : IntKind.i64.wrap (d * p) = dp := by rw [hdp]; exact w64 _ (by omega) (by omega)
      have e6 : IntKind.i64.wrap (s + dp) = s + dp := w64 _ (by omega) (by omega)
      have e7 : IntKind.i64.wrap (p * P) = p * P := w64 _ (by omega) (by omega)
      clear hda hd hdp hpc
      go_wp2
      go_quiet (fail)
      go_wp2
      go_roundw
      case rel => exact ⟨m', a / P, s + dp, p * P, by go_num, rfl, rfl, I2, by repeat (first | exact Drawn0.refl _ | apply Drawn0.step)⟩
      case measure => simp [intOf]; omega
    · have hd := I.out.done (by omega)
      subst hd
      clear I
      go_wp2
      go_ret
      exact ⟨rfl, by repeat (first | exact Drawn0.refl _ | apply Drawn0.step)⟩

theorem sub_any {g : Nat} {D : GFD} {w : World} (h : GFat w g D) (hD : D.ok) (x y : Int) :
    Calls Try.prog 80 #[.pointer (some ⟨g, 0, none⟩), .int .i64 x, .int .i64 y] w fun e w' => e = .returned (.int .i64 (D.sub x y)) ∧ Drawn0 w w' := by
  have H := Aside0.mk h
  clear h
  go_enter Try.func80, Try.ntmps80
  go_wp2_with (first | (go_at_call 119; (with_reducible refine (neg_any ?side1 hD _).mono ?_); (case side1 => exact H.out.drawn (by repeat (first | exact Drawn0.refl _ | apply Drawn0.step))); rintro e w' ⟨rfl, ⟨n, rfl⟩⟩) | (go_at_call 83; (with_reducible refine (add_any ?side1 hD _ _).mono ?_); (case side1 => exact H.out.drawn (by repeat (first | exact Drawn0.refl _ | apply Drawn0.step))); rintro e w' ⟨rfl, ⟨n, rfl⟩⟩))
  go_ret
  exact ⟨rfl, by repeat (first | exact Drawn0.refl _ | apply Drawn0.step)⟩

theorem order_any {g : Nat} {D : GFD} {w : World} (h : GFat w g D) :
    Calls Try.prog 91 #[.pointer (some ⟨g, 0, none⟩)] w fun e w' => e = .returned (.int .i64 D.q) ∧ Drawn0 w w' := by
  obtain ⟨A2, c2, A4, c4, A5, c5, h0, -⟩ := h.out
  have hc : w.cell? ⟨g, 3, none⟩ = some (.int .i64 D.q) := (blk_cell h0 3).trans rfl
  clear h h0
  go_enter Try.func91, Try.ntmps91
  go_wp2
  go_ret
  exact ⟨rfl, Drawn0.refl _⟩
end Go.Proofs.Yticgblagimmlfaa
