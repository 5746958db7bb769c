/- The reference's arithmetic is the program's; plain Lean. -/
import Derived.Test.YticgblagimmlfaaA9
import Derived.Test.YticgblagimmlfaaSp4
namespace Go.Proofs.Yticgblagimmlfaa
open CW CW.PS
set_option linter.unusedVariables false
set_option linter.unusedSimpArgs false

namespace SD
variable (K : SD)
theorem toS_at (l : List Int) (i : Nat) : K.toS l i = K.zm (l.getD i 0) := rfl
theorem toS_updAt (ax : Int) (n : Nat) (c b : List Int) (h : n + b.length ≤ c.length) : K.toS (updAt (fun o t => (o + ax * t) % K.P) n c b) = K.toS c + C (K.zm ax) * (mon n * K.toS b) := by
  funext i
  rw [add_at, C_mul_at, mon_mul_at, toS_at]
  by_cases hi : i < c.length
  · rw [updAt_getD _ _ _ _ _ hi]
    by_cases h1 : i < n
    · rw [if_neg (by omega), if_pos h1, mul_zero, add_zero]; rfl
    · rw [if_neg h1]
      by_cases h2 : i < n + b.length
      · rw [if_pos (by omega), zm_emod, zm_add, zm_mul]; rfl
      · rw [if_neg (by omega), K.Dg_toS b _ (by omega), mul_zero, add_zero]; rfl
  · rw [updAt_out _ _ _ _ _ (by omega), if_neg (by omega), K.Dg_toS b _ (by omega), mul_zero, add_zero]
    show _ = K.zm (c.getD i 0)
    rw [getD_out c i (by omega)]
theorem toS_take (l : List Int) (n i : Nat) : K.toS (l.take n) i = if i < n then K.toS l i else 0 := by
  rw [toS_at]
  by_cases h : i < n
  · rw [if_pos h, List.getD_eq_getElem?_getD, List.getElem?_take_of_lt h, ← List.getD_eq_getElem?_getD]; rfl
  · rw [if_neg h, getD_out _ i (by rw [List.length_take]; omega)]; rfl
theorem toS_take_succ (l : List Int) (n : Nat) : K.toS (l.take (n + 1)) = K.toS (l.take n) + C (K.zm (l.getD n 0)) * mon n := by
  funext i
  rw [add_at, C_mul_at, mon_at, toS_take, toS_take]
  by_cases h : i < n
  · rw [if_pos (by omega), if_pos h, if_neg (by omega), mul_zero, add_zero]
  · rw [if_neg h]
    by_cases e : i = n
    · subst e; rw [if_pos (by omega), if_pos rfl, mul_one, zero_add]; rfl
    · rw [if_neg (by omega), if_neg e, mul_zero, add_zero]
theorem toS_convTo (a b c0 : List Int) (hl : ∀ k, k < a.length → k + b.length ≤ c0.length) : ∀ k, k ≤ a.length → K.toS (convTo K.P a b c0 k) = K.toS c0 + K.toS (a.take k) * K.toS b
  | 0, _ => by rw [List.take_zero, toS_nil, zero_mul, add_zero]; rfl
  | k + 1, h => by
    rw [convTo, K.toS_updAt _ _ _ _ (by rw [convTo_length]; exact hl k (by omega)), toS_convTo a b c0 hl k (by omega), toS_take_succ]
    exact ring_id [K.toS c0, K.toS (a.take k), K.toS b, C (K.zm (a.getD k 0)), mon k] (x0 + x1 * x2 + x3 * (x4 * x2)) (x0 + (x1 + x3 * x4) * x2) rfl
theorem toS_redRun (h1 : 1 < K.m) : ∀ (n : Nat) (c : List Int), K.m + n ≤ c.length → Cg K.f (K.toS ((redRun K.P K.m K.Mod n c).take K.m)) (K.toS (c.take (K.m + n)))
  | 0, c, _ => Cg.refl _ _
  | n + 1, c, h => by
    rw [redRun]
    have hl := K.len h1
    obtain ⟨v, hv⟩ : ∃ v, c.getD (K.m + n) 0 = v := ⟨_, rfl⟩
    rw [hv]
    obtain ⟨c', hc'⟩ : ∃ c', updAt (fun o t => (o + (K.P - v) * t) % K.P) n c K.Mod = c' := ⟨_, rfl⟩
    have hs := K.toS_updAt (K.P - v) n c K.Mod (by rw [hl]; omega)
    rw [hc', zm_sub, zm_P] at hs
    rw [hc']
    refine (toS_redRun h1 n c' (by rw [← hc', updAt_length]; omega)).trans ?_
    have e1 : K.toS (c'.take (K.m + n)) = K.toS (c.take (K.m + n)) - C (K.zm v) * (mon n * K.toS K.Mod) := by
      funext i
      rw [sub_at, toS_take, toS_take, hs, add_at, C_mul_at, C_mul_at]
      by_cases hi : i < K.m + n
      · rw [if_pos hi, if_pos hi]
        exact ring_id [K.toS c i, K.zm v, ((mon n : PS K.Z) * K.toS K.Mod) i] (x0 + (0 - x1) * x2) (x0 - x1 * x2) rfl
      · rw [if_neg hi, if_neg hi, mon_mul_at, if_neg (by omega), K.Dg_toS K.Mod _ (by rw [hl]; omega), mul_zero, sub_zero]
    have hf : K.f = K.toS K.Mod + mon K.m := by
      unfold f
      congr 1
      funext i
      show K.zm (lowZ K.m K.Mod i) = K.zm (K.Mod.getD i 0)
      unfold lowZ
      rw [if_pos h1]
    have e2 : K.toS (c.take (K.m + (n + 1))) = K.toS (c.take (K.m + n)) + C (K.zm v) * mon (K.m + n) := by
      rw [← Nat.add_assoc, toS_take_succ, hv]
    rw [e1, e2]
    refine Cg.symm ⟨C (K.zm v) * mon n, n + 1, (Dg.mon n).C_mul _, ?_⟩
    rw [hf, Nat.add_comm K.m n, mon_add]
    exact ring_id [K.toS (c.take (n + K.m)), C (K.zm v), mon n, mon K.m, K.toS K.Mod] (x0 + x1 * (x2 * x3) - (x0 - x1 * (x2 * x4))) (x1 * x2 * (x4 + x3)) rfl
theorem take_all (l : List Int) (n : Nat) (h : l.length ≤ n) : l.take n = l := List.take_of_length_le h
theorem prod_cg (a b : List Int) (ha : a.length = K.m) (hb : b.length = K.m) :
    Cg K.f (K.toS ((redRun K.P K.m K.Mod (K.m - 1) (convTo K.P a b (List.replicate (2 * K.m - 1) 0) K.m)).take K.m)) (K.toS a * K.toS b) := by
  have hm1 := K.m1
  have h1 := K.toS_convTo a b (List.replicate (2 * K.m - 1) 0) (fun k hk => by rw [List.length_replicate]; omega) K.m (by omega)
  rw [toS_replicate, zero_add, take_all a _ (by omega)] at h1
  have hcl := convTo_length K.P a b (List.replicate (2 * K.m - 1) 0) K.m
  rw [List.length_replicate] at hcl
  by_cases hm : K.m = 1
  · rw [show K.m - 1 = 0 from by omega, redRun, take_all _ _ (by rw [hcl]; omega), h1]
    exact Cg.refl _ _
  · have h2 := K.toS_redRun (by omega) (K.m - 1) _ (show K.m + (K.m - 1) ≤ _ by rw [hcl]; omega)
    rw [take_all _ (K.m + (K.m - 1)) (by rw [hcl]; omega), h1] at h2
    exact h2
end SD
namespace FD
variable (K : FD)
theorem ord : orderZ K.P K.m = K.P ^ K.m := by
  have h := K.fok
  unfold fieldOk at h
  rw [Bool.and_eq_true] at h
  obtain ⟨-, -, -, -, p5, -⟩ := shapeZ_true _ _ _ h.1
  rw [Int.toNat_natCast] at p5
  exact p5
theorem FOK : FOK K.P K.m := ⟨by rw [K.ord]; have := K.q_pos; omega⟩
theorem isR_eq (x : Int) : isR K.P K.m x = K.D.is x := by
  unfold isR GFD.is
  rw [K.ord]; rfl
theorem inR_eq (x : Int) : inR K.P K.m x = K.D.inn x := by
  unfold inR isR GFD.inn
  rw [K.ord]
  by_cases h : 0 ≤ x ∧ x < K.P ^ K.m
  · rw [if_pos (decide_eq_true h)]
    show _ = if 0 ≤ x ∧ x < K.P ^ K.m then x else 0
    rw [if_pos h]
  · rw [if_neg (by rw [decide_eq_false h]; simp)]
    show _ = if 0 ≤ x ∧ x < K.P ^ K.m then x else 0
    rw [if_neg h]
/-- A value of digits. -/
theorem val_eq {l : List Int} (hl : l.length = K.m) (hm : ∀ d ∈ l, 0 ≤ d ∧ d < K.P) (e : K.E) (h : Cg K.f (K.toSD.toS l) (K.pol e.1)) : val K.P l = e.1 := by
  have hb := val_bound K.P K.two l hm
  rw [hl] at hb
  refine K.pol_inj hb e.2 (Cg.uniq K.Dg_f K.f_top (K.Dg_pol _) (K.Dg_pol _) ?_)
  rw [K.pol_val hl hm]
  exact h
theorem addR_eq (x y : Int) : addR K.P K.m x y = K.D.add x y := by
  have hP := K.two
  unfold addR
  rw [K.inR_eq, K.inR_eq]
  refine K.val_eq ?_ ?_ (K.el x + K.el y) (Cg.of_eq ?_)
  · rw [updZ_length, digs_length]
  · exact updZ_mem' _ (fun d => 0 ≤ d ∧ d < K.P) (fun o t => ⟨Int.emod_nonneg _ (by omega), Int.emod_lt_of_pos _ (by omega)⟩) _ _ (digs_mem K.P K.two _ _)
  · show _ = K.pol (addD K.P 8 _ _)
    rw [K.pol_add 8 K.m8]
    funext i
    rw [add_at, SD.toS_at]
    by_cases hi : i < K.m
    · rw [updZ_getD _ _ _ _ (by rw [digs_length]; exact hi), if_pos (by rw [digs_length]; exact hi), SD.zm_emod, SD.zm_add]; rfl
    · rw [getD_out _ i (by rw [updZ_length, digs_length]; omega), K.Dg_pol _ i (by omega), K.Dg_pol _ i (by omega), add_zero]; rfl
theorem negR_eq (x : Int) : negR K.P K.m x = K.D.neg x := by
  have hP := K.two
  unfold negR
  rw [K.inR_eq]
  refine K.val_eq ?_ ?_ (- K.el x) (Cg.of_eq ?_)
  · rw [List.length_map, digs_length]
  · intro d hd
    obtain ⟨y, -, rfl⟩ := List.mem_map.1 hd
    exact ⟨Int.emod_nonneg _ (by omega), Int.emod_lt_of_pos _ (by omega)⟩
  · show _ = K.pol (negD K.P 8 _)
    rw [K.pol_neg 8 K.m8]
    funext i
    rw [neg_at, SD.toS_at]
    by_cases hi : i < K.m
    · have e : ((digs K.P K.m (K.D.inn x)).map fun d => (K.P - d) % K.P).getD i 0 = (K.P - (digs K.P K.m (K.D.inn x)).getD i 0) % K.P := by
        rw [List.getD_eq_getElem?_getD, List.getElem?_map, List.getElem?_eq_getElem (by rw [digs_length]; exact hi), List.getD_eq_getElem?_getD, List.getElem?_eq_getElem (by rw [digs_length]; exact hi)]; rfl
      rw [e, SD.zm_emod, SD.zm_sub, SD.zm_P, zero_sub]; rfl
    · rw [getD_out _ i (by rw [List.length_map, digs_length]; omega), K.Dg_pol _ i (by omega), neg_zero]; rfl
theorem subR_eq (x y : Int) : subR K.P K.m x y = K.D.sub x y := by
  unfold subR GFD.sub
  rw [addR_eq, negR_eq]
theorem mulR_eq (x y : Int) : mulR K.P K.m K.Mod x y = K.D.mul x y := by
  have hP := K.two
  rw [K.mul_eq']
  unfold mulR prodR
  rw [K.inR_eq, K.inR_eq]
  have hm1 := K.m1
  refine K.val_eq ?_ ?_ (K.el x * K.el y) ?_
  · rw [List.length_take, redRun_length, convTo_length, List.length_replicate]; omega
  · intro d hd
    exact redRun_mem K.P K.two K.m K.Mod _ _ (convTo_mem K.P K.two _ _ _ (fun d hd => by rw [List.eq_of_mem_replicate hd]; omega) _) d (List.mem_of_mem_take hd)
  · exact (K.prod_cg _ _ (digs_length _ _ _) (digs_length _ _ _)).trans (K.pol_mul _ _).symm
end FD
end Go.Proofs.Yticgblagimmlfaa
namespace Go.Proofs.Yticgblagimmlfaa
open CW CW.PS
set_option linter.unusedVariables false
set_option linter.unusedSimpArgs false
/-- The reference's value of a polynomial. -/
def pwZ (D : GFD) (x : Int) : Nat → Int
  | 0 => 1
  | k + 1 => D.mul (pwZ D x k) x
def evZ (D : GFD) (p : List Int) (x : Int) : Nat → Int
  | 0 => 0
  | k + 1 => D.add (evZ D p x k) (D.mul (p.getD k 0) (pwZ D x k))
namespace FD
variable (K : FD)
theorem el_pwZ (x : Int) : ∀ k, K.el (pwZ K.D x k) = pw (K.el x) k
  | 0 => K.el_one
  | k + 1 => by rw [pwZ, el_mul, el_pwZ x k]; rfl
theorem toP_take_succ (p : List Int) (k : Nat) : K.toP (p.take (k + 1)) = K.toP (p.take k) + C (K.el (p.getD k 0)) * mon k := by
  funext i
  rw [add_at, C_mul_at, mon_at]
  show K.el _ = K.el _ + _
  by_cases h : i < k
  · rw [if_neg (by omega), mul_zero, add_zero, List.getD_eq_getElem?_getD, List.getD_eq_getElem?_getD, List.getElem?_take_of_lt (by omega), List.getElem?_take_of_lt h]
  · rw [getD_out (p.take k) i (by rw [List.length_take]; omega), el_zero, zero_add]
    by_cases e : i = k
    · subst e; rw [if_pos rfl, mul_one, List.getD_eq_getElem?_getD, List.getElem?_take_of_lt (by omega), ← List.getD_eq_getElem?_getD]
    · rw [if_neg e, mul_zero, getD_out _ i (by rw [List.length_take]; omega), el_zero]
theorem el_evZ (p : List Int) (x : Int) : ∀ k, K.el (evZ K.D p x k) = pv (K.toP (p.take k)) (K.el x)
  | 0 => by rw [List.take_zero, toP_nil, pv_zero]; exact K.el_zero
  | k + 1 => by
    rw [evZ, el_add, el_mul, el_evZ p x k, el_pwZ, toP_take_succ, pv_add (K.Dg_toP _) ((Dg.mon k).C_mul _), pv_C_mul (Dg.mon k), pv_mon]
theorem is_evZ (p : List Int) (x : Int) (k : Nat) : K.D.is (evZ K.D p x k) = true := by
  cases k with
  | zero => exact K.is_zero
  | succ k => exact K.is_add _ _
theorem evZ_eq (p : List Int) (x : Int) : evZ K.D p x p.length = K.D.eval p x :=
  K.el_inj (K.is_evZ _ _ _) (K.is_eval _ _) (by rw [el_evZ, el_eval, List.take_length])
end FD
/-- The sum of two words. -/
def plusZ (D : GFD) (a b : List Int) : List Int := (List.range a.length).map fun i => D.add (a.getD i 0) (b.getD i 0)
theorem plusZ_length (D : GFD) (a b : List Int) : (plusZ D a b).length = a.length := by simp [plusZ]
theorem plusZ_getD (D : GFD) (a b : List Int) (i : Nat) (h : i < a.length) : (plusZ D a b).getD i 0 = D.add (a.getD i 0) (b.getD i 0) := range_map_getD _ _ _ h
end Go.Proofs.Yticgblagimmlfaa
