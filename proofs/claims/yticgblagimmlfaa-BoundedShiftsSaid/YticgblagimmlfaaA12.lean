/- A codeword added to the received word is added to the result; plain Lean. -/
import Derived.Test.YticgblagimmlfaaA11
namespace Go.Proofs.Yticgblagimmlfaa
open CW CW.PS
set_option linter.unusedVariables false
set_option linter.unusedSimpArgs false

def minusZ (D : GFD) (a b : List Int) : List Int := (List.range a.length).map fun i => D.sub (a.getD i 0) (b.getD i 0)
theorem minusZ_length (D : GFD) (a b : List Int) : (minusZ D a b).length = a.length := by simp [minusZ]
theorem minusZ_getD (D : GFD) (a b : List Int) (i : Nat) (h : i < a.length) : (minusZ D a b).getD i 0 = D.sub (a.getD i 0) (b.getD i 0) := range_map_getD _ _ _ h
theorem diffZ_same (c w c' w' : List Int) (er : List Bool) (n : Nat) (h : ∀ i, i < n → (c.getD i 0 ≠ w.getD i 0 ↔ c'.getD i 0 ≠ w'.getD i 0)) : diffZ c w er n = diffZ c' w' er n := by
  have e : (List.range n).filter (fun i => !er.getD i false && (c.getD i 0 != w.getD i 0)) = (List.range n).filter (fun i => !er.getD i false && (c'.getD i 0 != w'.getD i 0)) := by
    refine List.filter_congr fun i hi => ?_
    rw [List.mem_range] at hi
    have h1 : (c.getD i 0 != w.getD i 0) = (c'.getD i 0 != w'.getD i 0) := by rw [Bool.eq_iff_iff, bne_iff_ne, bne_iff_ne]; exact h i hi
    rw [h1]
  unfold diffZ
  rw [e]
namespace FD
variable (K : FD)
theorem toP_plusZ (a b : List Int) (h : a.length = b.length) : K.toP (plusZ K.D a b) = K.toP a + K.toP b := by
  funext i
  rw [add_at]
  show K.el _ = K.el (a.getD i 0) + K.el (b.getD i 0)
  by_cases hi : i < a.length
  · rw [plusZ_getD _ _ _ _ hi, el_add]
  · rw [getD_out _ i (by rw [plusZ_length]; omega), getD_out a i (by omega), getD_out b i (by omega), el_zero, add_zero]
theorem toP_minusZ (a b : List Int) (h : a.length = b.length) : K.toP (minusZ K.D a b) = K.toP a - K.toP b := by
  funext i
  rw [sub_at]
  show K.el _ = K.el (a.getD i 0) - K.el (b.getD i 0)
  by_cases hi : i < a.length
  · rw [minusZ_getD _ _ _ _ hi, el_sub]
  · rw [getD_out _ i (by rw [minusZ_length]; omega), getD_out a i (by omega), getD_out b i (by omega), el_zero, sub_zero]
theorem plusZ_all (a b : List Int) : (plusZ K.D a b).all K.D.is = true := by
  rw [List.all_eq_true]
  intro x hx
  obtain ⟨i, -, rfl⟩ := List.mem_map.1 hx
  exact K.is_add _ _
theorem minusZ_all (a b : List Int) : (minusZ K.D a b).all K.D.is = true := by
  rw [List.all_eq_true]
  intro x hx
  obtain ⟨i, -, rfl⟩ := List.mem_map.1 hx
  exact K.is_sub _ _
theorem encZ_all (pts mults msg : List Int) : (encZ K.D pts mults msg).all K.D.is = true := by
  rw [List.all_eq_true]
  intro x hx
  obtain ⟨t, -, rfl⟩ := List.mem_map.1 hx
  exact K.is_mul _ _
theorem el_encZ (pts mults msg : List Int) (i : Nat) (h1 : i < pts.length) (h2 : i < mults.length) : K.el ((encZ K.D pts mults msg).getD i 0) = K.el (mults.getD i 0) * pv (K.toP msg) (K.el (pts.getD i 0)) := by
  rw [encZ_getD _ _ _ _ _ h1 h2, el_mul, el_eval]
theorem is_encZ (pts mults msg : List Int) (i : Nat) : K.D.is ((encZ K.D pts mults msg).getD i 0) = true := by
  by_cases h : i < (encZ K.D pts mults msg).length
  · exact all_getD _ _ (K.encZ_all _ _ _) i h
  · rw [getD_out _ i (by omega)]; exact K.is_zero
/-- The codewords are linear in the messages. -/
theorem encZ_plus (pts mults a b : List Int) (h : a.length = b.length) (hm : mults.length = pts.length) : encZ K.D pts mults (plusZ K.D a b) = plusZ K.D (encZ K.D pts mults a) (encZ K.D pts mults b) := by
  have l1 := encZ_len K.D pts mults (plusZ K.D a b) hm
  have l2 := encZ_len K.D pts mults a hm
  refine List.ext_getElem (by rw [plusZ_length, l1, l2]) fun i h1 h2 => ?_
  have e1 : (encZ K.D pts mults (plusZ K.D a b))[i] = (encZ K.D pts mults (plusZ K.D a b)).getD i 0 := by rw [List.getD_eq_getElem?_getD, List.getElem?_eq_getElem h1]; rfl
  have e2 : (plusZ K.D (encZ K.D pts mults a) (encZ K.D pts mults b))[i] = (plusZ K.D (encZ K.D pts mults a) (encZ K.D pts mults b)).getD i 0 := by rw [List.getD_eq_getElem?_getD, List.getElem?_eq_getElem h2]; rfl
  rw [l1] at h1
  rw [e1, e2, plusZ_getD _ _ _ _ (by omega)]
  refine K.el_inj (K.is_encZ _ _ _ _) (K.is_add _ _) ?_
  rw [K.el_encZ _ _ _ _ h1 (by omega), el_add, K.el_encZ _ _ _ _ h1 (by omega), K.el_encZ _ _ _ _ h1 (by omega), K.toP_plusZ a b h, pv_add (K.Dg_toP _) (K.Dg_toP _), mul_add]
theorem el_encZ_minus (pts mults a b : List Int) (h : a.length = b.length) (i : Nat) (h1 : i < pts.length) (h2 : i < mults.length) :
    K.el ((encZ K.D pts mults (minusZ K.D a b)).getD i 0) = K.el ((encZ K.D pts mults a).getD i 0) - K.el ((encZ K.D pts mults b).getD i 0) := by
  rw [K.el_encZ _ _ _ _ h1 h2, K.el_encZ _ _ _ _ h1 h2, K.el_encZ _ _ _ _ h1 h2, K.toP_minusZ a b h, pv_sub (K.Dg_toP _) (K.Dg_toP _)]
  exact ring_id [K.el (mults.getD i 0), pv (K.toP a) (K.el (pts.getD i 0)), pv (K.toP b) (K.el (pts.getD i 0))] (x0 * (x1 - x2)) (x0 * x1 - x0 * x2) rfl
end FD
theorem radius_bound (n K e : Int) (t : Nat) (he : 0 ≤ e) (hK : K ≤ n) (h : (t : Int) ≤ radiusZ (n - K + 1) e) : 2 * (t : Int) + e + K ≤ n := by
  unfold radiusZ at h
  by_cases hc : n - K + 1 < 1 ∨ e < 0 ∨ e > n - K + 1 - 1
  · rw [if_pos hc] at h; omega
  · rw [if_neg hc, Int.tdiv_eq_ediv_of_nonneg (by omega)] at h
    omega
theorem decode_err (s : GD) (l er : List Int) (h0 : s.open = 0) (hw : wordZ s.D l s.pts.length er = 0) : (s.decode l er).2.2 = 0 ∨ (s.decode l er).2.2 = 12 := by
  unfold GD.decode
  rw [if_neg (fun h => h h0), if_neg (fun h => h hw)]
  generalize s.codeword l (marksZ s.pts.length er) = T
  by_cases hc : T.2 ≠ 0
  · rw [if_pos hc]; exact .inr rfl
  · rw [if_neg hc]
    unfold resultZ
    by_cases h : ((diffZ T.1 l (marksZ s.pts.length er) T.1.length).length : Int) > radiusZ (s.pts.length - s.K + 1) er.length
    · rw [if_pos h]; exact .inr rfl
    · rw [if_neg h]; exact .inl rfl
theorem recvZ_zero' (f : Int → Bool) (l : List Int) (n : Nat) (er : List Int) (h : recvZ f l n er = 0) : l.length = n ∧ l.all f = true ∧ er.all (posB n) = true ∧ er.Nodup := by
  unfold recvZ at h
  by_cases h1 : l.length ≠ n
  · rw [if_pos h1] at h; cases h
  rw [if_neg h1] at h
  by_cases h2 : l.all f = false
  · rw [if_pos h2] at h; cases h
  rw [if_neg h2] at h
  by_cases h3 : er.all (posB n) = false
  · rw [if_pos h3] at h; cases h
  rw [if_neg h3] at h
  by_cases h4 : ¬ er.Nodup
  · rw [if_pos h4] at h; cases h
  exact ⟨by omega, by simpa using h2, by simpa using h3, Classical.not_not.1 h4⟩
theorem recvZ_of' (f : Int → Bool) (l : List Int) (n : Nat) (er : List Int) (h1 : l.length = n) (h2 : l.all f = true) (h3 : er.all (posB n) = true) (h4 : er.Nodup) : recvZ f l n er = 0 := by
  unfold recvZ
  rw [if_neg (by omega), if_neg (by rw [h2]; simp), if_neg (by rw [h3]; simp), if_neg (fun h => h h4)]
/-- The law Shifts. -/
theorem shifts (s : GD) (msg l er : List Int) (kn : Nat) (hk : s.K = kn) (hc : checkR s = 0) (hm : elemsZ (isR s.P s.M) msg kn 3 = 0) (hr : recvZ (isR s.P s.M) l s.pts.length er = 0) (c : List Int) (hce : encZ s.D s.pts s.mults msg = c) :
    ((s.decode l er).2.2 ≠ 0 → (s.decode (plusZ s.D l c) er).2.2 = (s.decode l er).2.2) ∧
    ((s.decode l er).2.2 = 0 → (s.decode (plusZ s.D l c) er).2.2 = 0 ∧ (s.decode l er).1.length = c.length ∧ (s.decode (plusZ s.D l c) er).1 = plusZ s.D (s.decode l er).1 c ∧ (s.decode l er).2.1 = (s.decode (plusZ s.D l c) er).2.1) := by
  rw [checkR_open] at hc
  obtain ⟨m1, m2⟩ := elems_msg s hc msg kn hk hm
  obtain ⟨f1, f2, f3, f4, f5, f6, f7, f8, f9, f10⟩ := open_factsP s hc
  obtain ⟨K, e1, e2, e3, e4⟩ := exists_K s f1
  have hw : wordZ s.D l s.pts.length er = 0 := by rw [wordZ_open s hc]; exact hr
  obtain ⟨w1, w2, w3, w4⟩ := recvZ_zero' s.D.is l s.pts.length er hw
  have hcl : c.length = s.pts.length := by rw [← hce]; exact encZ_len _ _ _ _ f4
  have hl' : (plusZ s.D l c).length = s.pts.length := by rw [plusZ_length]; exact w1
  have hw' : wordZ s.D (plusZ s.D l c) s.pts.length er = 0 := recvZ_of' _ _ _ _ hl' (by rw [e4]; exact K.plusZ_all _ _) w3 w4
  have isl : ∀ i, i < s.pts.length → K.D.is (l.getD i 0) = true := fun i hi => by rw [← e4]; exact all_getD _ _ w2 _ (by omega)
  have isc : ∀ i, K.D.is (c.getD i 0) = true := fun i => by rw [← hce, e4]; exact K.is_encZ _ _ _ _
  have hpl : ∀ i, i < s.pts.length → K.el ((plusZ s.D l c).getD i 0) = K.el (l.getD i 0) + K.el (c.getD i 0) := fun i hi => by rw [plusZ_getD _ _ _ _ (by omega), e4, K.el_add]
  have ispl : ∀ i, i < s.pts.length → K.D.is ((plusZ s.D l c).getD i 0) = true := fun i hi => by rw [plusZ_getD _ _ _ _ (by omega), e4]; exact K.is_add _ _
  refine ⟨fun hne => ?_, fun h0 => ?_⟩
  · have h12 : (s.decode l er).2.2 = 12 := (decode_err s l er hc hw).resolve_left hne
    rw [h12]
    refine (decode_err s _ er hc hw').resolve_left fun hz => ?_
    obtain ⟨-, -, m3, k1, k2, k3, k4, k5⟩ := decode_some s _ er hz
    rw [k4] at k5
    have hb := radius_bound s.pts.length s.K er.length _ (by omega) f10 k5
    have hlen : m3.length = msg.length := by omega
    refine hne ?_
    have hd : diffZ (encZ s.D s.pts s.mults (minusZ s.D m3 msg)) l (marksZ s.pts.length er) s.pts.length = diffZ (encZ s.D s.pts s.mults m3) (plusZ s.D l c) (marksZ s.pts.length er) s.pts.length := by
      refine diffZ_same _ _ _ _ _ _ fun i hi => not_congr ?_
      have h3 := K.el_encZ_minus s.pts s.mults m3 msg hlen i hi (by omega)
      rw [e4] at hce ⊢
      rw [hce] at h3
      rw [e4] at hpl ispl
      constructor
      · intro e
        refine K.el_inj (K.is_encZ _ _ _ _) (ispl i hi) ?_
        rw [hpl i hi, ← e, h3]
        exact ring_id [K.el ((encZ K.D s.pts s.mults m3).getD i 0), K.el (c.getD i 0)] x0 (x0 - x1 + x1) rfl
      · intro e
        refine K.el_inj (K.is_encZ _ _ _ _) (isl i hi) ?_
        rw [h3, e, hpl i hi]
        exact ring_id [K.el (l.getD i 0), K.el (c.getD i 0)] (x0 + x1 - x1) x0 rfl
    rw [decode_finds s hc l er (minusZ s.D m3 msg) hw (by rw [minusZ_length]; exact k1) (by rw [e4]; exact K.minusZ_all _ _) (by rw [hd]; exact hb)]
  · obtain ⟨-, -, m3, k1, k2, k3, k4, k5⟩ := decode_some s l er h0
    rw [k4] at k5
    have hb := radius_bound s.pts.length s.K er.length _ (by omega) f10 k5
    have hlen : m3.length = msg.length := by omega
    have he : encZ s.D s.pts s.mults (plusZ s.D m3 msg) = plusZ s.D (encZ s.D s.pts s.mults m3) c := by
      rw [← hce, e4]
      exact K.encZ_plus s.pts s.mults m3 msg hlen f4
    have h3l : (encZ s.D s.pts s.mults m3).length = s.pts.length := encZ_len _ _ _ _ f4
    have hd : diffZ (encZ s.D s.pts s.mults (plusZ s.D m3 msg)) (plusZ s.D l c) (marksZ s.pts.length er) s.pts.length = diffZ (encZ s.D s.pts s.mults m3) l (marksZ s.pts.length er) s.pts.length := by
      rw [he]
      refine diffZ_same _ _ _ _ _ _ fun i hi => not_congr ?_
      rw [plusZ_getD _ _ _ _ (by omega), plusZ_getD _ _ _ _ (by omega), e4]
      constructor
      · intro e
        refine K.el_inj (K.is_encZ _ _ _ _) (isl i hi) ?_
        have := congrArg K.el e
        rw [K.el_add, K.el_add] at this
        exact add_right_cancel this
      · intro e; rw [e]
    have hfin := decode_finds s hc (plusZ s.D l c) er (plusZ s.D m3 msg) hw' (by rw [plusZ_length]; exact k1) (by rw [e4]; exact K.plusZ_all _ _) (by rw [hd]; exact hb)
    rw [hfin]
    refine ⟨rfl, by rw [k3, h3l, hcl], by simp only; rw [he, k3], by simp only; rw [hd, k4]⟩
end Go.Proofs.Yticgblagimmlfaa
