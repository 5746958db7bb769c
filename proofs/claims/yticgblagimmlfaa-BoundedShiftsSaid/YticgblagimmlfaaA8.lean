/- Interpolation and Gao's algorithm: what it finds; plain Lean. -/
import Derived.Test.YticgblagimmlfaaA7
namespace Go.Proofs.Yticgblagimmlfaa
open CW CW.PS
set_option linter.unusedVariables false
set_option linter.unusedSimpArgs false

namespace FD
variable (K : FD)
/-- Of the first k points. -/
def xsE (xs : List Int) : List K.E := xs.map K.el
theorem xsE_at (xs : List Int) (k : Nat) (h : k < xs.length) : (K.xsE xs)[k]? = some (K.el (xs.getD k 0)) := by
  unfold xsE
  rw [List.getElem?_map, List.getElem?_eq_getElem h, List.getD_eq_getElem?_getD, List.getElem?_eq_getElem h]; rfl
theorem mem_take_xsE (xs : List Int) (k : Nat) (h : k < xs.length) (hn : (K.xsE xs).Nodup) : K.el (xs.getD k 0) ∉ (K.xsE xs).take k := by
  intro hm
  obtain ⟨j, hj, e⟩ := List.mem_take_iff_getElem.1 hm
  have h1 : (K.xsE xs)[j]? = (K.xsE xs)[k]? := by
    rw [K.xsE_at xs k h, List.getElem?_eq_getElem (by omega), e]
  have := (List.getElem?_inj (by omega) hn).1 h1
  omega
theorem take_xsE_succ (xs : List Int) (k : Nat) (h : k < xs.length) : (K.xsE xs).take (k + 1) = (K.xsE xs).take k ++ [K.el (xs.getD k 0)] := by
  unfold xsE
  rw [← List.map_take, take_succ_rd xs k h, List.map_append, List.map_take]; rfl
/-- Interpolation's two polynomials behind k points. -/
theorem inter_spec (xs ys : List Int) (hl : xs.length = ys.length) (hn : (K.xsE xs).Nodup) : ∀ k, k ≤ xs.length →
    K.toP (K.D.inter xs ys k).2 = rootsP ((K.xsE xs).take k).reverse ∧ Dg (K.toP (K.D.inter xs ys k).1) k ∧ ∀ j, j < k → pv (K.toP (K.D.inter xs ys k).1) (K.el (xs.getD j 0)) = K.el (ys.getD j 0)
  | 0, _ => by
    refine ⟨?_, ?_, fun j h => by omega⟩
    · show K.toP [1] = rootsP []
      exact K.toP_one
    · show Dg (K.toP []) 0
      rw [toP_nil]; exact Dg.zero 0
  | k + 1, h => by
    obtain ⟨h1, h2, h3⟩ := inter_spec xs ys hl hn k (by omega)
    have hk : k < xs.length := by omega
    rw [K.D.inter_succ xs ys k hk (by omega)]
    obtain ⟨s, hs⟩ : ∃ s, K.D.inter xs ys k = s := ⟨_, rfl⟩
    rw [hs] at h1 h2 h3 ⊢
    have hz : pv (K.toP s.2) (K.el (xs.getD k 0)) ≠ 0 := by
      rw [h1]
      exact pv_rootsP_ne _ _ (fun hm => K.mem_take_xsE xs k hk hn (List.mem_reverse.1 hm))
    have hzd : Dg (K.toP s.2) (k + 1) := by
      rw [h1]
      have := Dg_rootsP ((K.xsE xs).take k).reverse
      rw [List.length_reverse, List.length_take] at this
      exact this.mono (by omega)
    have e1 : K.toP (K.D.interStep s (xs.getD k 0, ys.getD k 0)).1 = K.toP s.1 + C ((K.el (ys.getD k 0) - pv (K.toP s.1) (K.el (xs.getD k 0))) * finv (pv (K.toP s.2) (K.el (xs.getD k 0)))) * K.toP s.2 := by
      simp only [GFD.interStep]
      rw [toP_combine, el_div, el_sub, el_eval, el_eval]
    have e2 : K.toP (K.D.interStep s (xs.getD k 0, ys.getD k 0)).2 = K.toP s.2 * (X - C (K.el (xs.getD k 0))) := by
      simp only [GFD.interStep]
      rw [toP_product, toP_lin]
    refine ⟨?_, ?_, fun j hj => ?_⟩
    · rw [e2, K.take_xsE_succ xs k hk, List.reverse_append, h1]; rfl
    · rw [e1]
      exact (h2.mono (by omega)).add (hzd.C_mul _)
    · rw [e1, pv_add h2 (hzd.C_mul _), pv_C_mul hzd]
      by_cases hjk : j = k
      · subst hjk
        rw [mul_assoc, finv_mul hz, mul_one]
        exact ring_id [pv (K.toP s.1) (K.el (xs.getD j 0)), K.el (ys.getD j 0)] (x0 + (x1 - x0)) x1 rfl
      · have h0 : pv (K.toP s.2) (K.el (xs.getD j 0)) = 0 := by
          rw [h1]
          refine pv_rootsP_zero _ _ (List.mem_reverse.2 ?_)
          refine List.mem_take_iff_getElem.2 ⟨j, by unfold xsE; rw [List.length_map]; omega, ?_⟩
          have := K.xsE_at xs j (by omega)
          rw [List.getElem?_eq_getElem (by unfold xsE; rw [List.length_map]; omega)] at this
          exact Option.some.inj this
        rw [h0, mul_zero, add_zero, h3 j (by omega)]

/-- What Euclid's algorithm keeps: with the error's polynomials. -/
structure EInv (xs ys : List Int) (g0 : PS K.E) (k : Nat) (a b old t : List Int) : Prop where
  va : ∀ j, j < xs.length → pv (K.toP a) (K.el (xs.getD j 0)) = pv (K.toP old) (K.el (xs.getD j 0)) * K.el (ys.getD j 0)
  vb : ∀ j, j < xs.length → pv (K.toP b) (K.el (xs.getD j 0)) = pv (K.toP t) (K.el (xs.getD j 0)) * K.el (ys.getD j 0)
  det : K.toP a * K.toP t - K.toP b * K.toP old = g0 ∨ K.toP a * K.toP t - K.toP b * K.toP old = - g0
  la : (K.D.canon a).length ≤ xs.length + 1
  lb : (K.D.canon b).length < (K.D.canon a).length
  dt : Dg (K.toP t) (xs.length + 2 - (K.D.canon a).length)
  dold : Dg (K.toP old) (xs.length + 1 - (K.D.canon a).length)
  big : xs.length + k ≤ 2 * ((K.D.canon a).length - 1)
theorem EInv.step {K : FD} {xs ys : List Int} {g0 : PS K.E} {k : Nat} {a b old t : List Int} (h : K.EInv xs ys g0 k a b old t) (hn : K.D.canon b ≠ []) (hb : xs.length + k ≤ 2 * ((K.D.canon b).length - 1)) :
    K.EInv xs ys g0 k b (K.D.divMod a b).2.1 t (K.D.subP old (K.D.product (K.D.product [1] (K.D.divMod a b).1) t)) := by
  have hdiv := K.toP_divMod a b hn
  have hla := h.la
  have hlb := h.lb
  have hlb1 := List.length_pos_iff.2 hn
  have hquo : (K.D.divMod a b).1.length ≤ (K.D.canon a).length + 1 - (K.D.canon b).length := by
    unfold GFD.divMod
    rw [if_neg hn]
    exact K.divC_quo_len _ _
  have hrem : (K.D.canon (K.D.divMod a b).2.1).length < (K.D.canon b).length := Nat.lt_of_le_of_lt (canon_length_le K.D _) (divMod_rem K.D K.full a b hn)
  obtain ⟨quo, hq⟩ : ∃ quo, (K.D.divMod a b).1 = quo := ⟨_, rfl⟩
  obtain ⟨rem, hr⟩ : ∃ rem, (K.D.divMod a b).2.1 = rem := ⟨_, rfl⟩
  rw [hq] at hdiv hquo ⊢
  rw [hr] at hdiv hrem ⊢
  have et : K.toP (K.D.subP old (K.D.product (K.D.product [1] quo) t)) = K.toP old - K.toP quo * K.toP t := by
    rw [toP_subP, toP_product, toP_product, toP_one, one_mul]
  have er : K.toP rem = K.toP a - K.toP quo * K.toP b := by
    rw [← hdiv]
    exact ring_id [K.toP quo, K.toP b, K.toP rem] x2 (x0 * x1 + x2 - x0 * x1) rfl
  have dq := K.Dg_toP quo
  have da := K.Dg_toP a
  have db := K.Dg_toP b
  have dt' := h.dt
  refine ⟨h.vb, fun j hj => ?_, ?_, by omega, hrem, ?_, h.dt.mono (by omega), hb⟩
  · rw [er, et, pv_sub da (dq.mul' db), pv_sub h.dold (dq.mul' dt'), pv_mul dq db, pv_mul dq dt', h.va j hj, h.vb j hj]
    exact ring_id [pv (K.toP old) (K.el (xs.getD j 0)), K.el (ys.getD j 0), pv (K.toP quo) (K.el (xs.getD j 0)), pv (K.toP t) (K.el (xs.getD j 0))] (x0 * x1 - x2 * (x3 * x1)) ((x0 - x2 * x3) * x1) rfl
  · have e : K.toP b * K.toP (K.D.subP old (K.D.product (K.D.product [1] quo) t)) - K.toP rem * K.toP t = - (K.toP a * K.toP t - K.toP b * K.toP old) := by
      rw [et, er]
      exact ring_id [K.toP a, K.toP b, K.toP old, K.toP t, K.toP quo] (x1 * (x2 - x4 * x3) - (x0 - x4 * x1) * x3) (-(x0 * x3 - x1 * x2)) rfl
    rw [e]
    rcases h.det with hd | hd
    · right; rw [hd]
    · left; rw [hd, neg_neg]
  · rw [et]
    obtain ⟨d, hd⟩ : ∃ d, xs.length + 2 - (K.D.canon a).length = d + 1 := ⟨xs.length + 1 - (K.D.canon a).length, by omega⟩
    rw [hd] at dt'
    refine (h.dold.mono (by omega)).sub ((Dg.mul _ d (dq.mono hquo) dt').mono (by omega))
/-- What stands at its end. -/
structure EEnd (xs ys : List Int) (g0 : PS K.E) (k : Nat) (b t : List Int) : Prop where
  vb : ∀ j, j < xs.length → pv (K.toP b) (K.el (xs.getD j 0)) = pv (K.toP t) (K.el (xs.getD j 0)) * K.el (ys.getD j 0)
  small : 2 * (((K.D.canon b).length : Int) - 1) < xs.length + k
  dt : ∃ T, 2 * T + k ≤ xs.length ∧ Dg (K.toP t) (T + 1)
  ne : K.toP t ≠ 0
theorem euclid_end (xs ys : List Int) (g0 : PS K.E) (hg0 : g0 xs.length = 1) (k : Nat) : ∀ (n : Nat) (a b old t : List Int) (R : List Int × List Int), K.EInv xs ys g0 k a b old t → K.D.euclid ((xs.length : Int) + k) n a b old t = some R → K.EEnd xs ys g0 k R.1 R.2
  | 0, _, _, _, _, _, _, h => by simp [GFD.euclid] at h
  | n + 1, a, b, old, t, R, hi, h => by
    simp only [GFD.euclid] at h
    by_cases hc : 2 * (((K.D.canon b).length : Int) - 1) ≥ (xs.length : Int) + k
    · rw [if_pos hc] at h
      have hn : K.D.canon b ≠ [] := fun e => by rw [e] at hc; simp only [List.length_nil] at hc; omega
      exact euclid_end xs ys g0 hg0 k n _ _ _ _ R (hi.step hn (by omega)) h
    · rw [if_neg hc] at h
      obtain rfl := Option.some.inj h
      have hla := hi.la
      have hlb := hi.lb
      have hbig := hi.big
      refine ⟨hi.vb, by show 2 * (((K.D.canon b).length : Int) - 1) < _; omega, ⟨xs.length + 1 - (K.D.canon a).length, by omega, hi.dt.mono (by omega)⟩, fun e0 => ?_⟩
      have e0' : K.toP t = 0 := e0
      have hdet := hi.det
      rw [e0', mul_zero, zero_sub] at hdet
      have hd : Dg (K.toP b * K.toP old) xs.length := by
        obtain ⟨d, hd⟩ : ∃ d, (K.D.canon b).length = d ∧ d < (K.D.canon a).length := ⟨_, rfl, hlb⟩
        exact ((K.Dg_canon b).mul' hi.dold).mono (by omega)
      have hz := hd xs.length (Nat.le_refl _)
      rcases hdet with e | e
      · have := congrFun e xs.length
        rw [neg_at, hz, neg_zero, hg0] at this
        exact one_ne_zero this.symm
      · have := congrFun e xs.length
        rw [neg_at, neg_at, hz, hg0] at this
        have h2 := congrArg (fun z => -z) this
        simp only [neg_neg, neg_zero] at h2
        exact one_ne_zero h2.symm
/-- The points where a polynomial has another value. -/
def wrongE (m xs ys : List Int) : List Nat := (List.range xs.length).filter fun j => decide (K.el (K.D.eval m (xs.getD j 0)) ≠ K.el (ys.getD j 0))
theorem countP_range (f : Nat → Bool) (n : Nat) (l : List (Int × Int)) (g : Int × Int → Bool) (hl : l.length = n) (h : ∀ j (hj : j < n), g (l[j]'(by omega)) = f j) : l.countP g = ((List.range n).filter f).length := by
  induction n generalizing l with
  | zero => have := List.eq_nil_of_length_eq_zero hl; subst this; rfl
  | succ n ih =>
    have hne : l ≠ [] := fun e => by rw [e] at hl; simp at hl
    rw [List.range_succ, List.filter_append, List.length_append]
    have e : l = l.dropLast ++ [l.getLast hne] := (List.dropLast_concat_getLast hne).symm
    have h1 := ih l.dropLast (by rw [List.length_dropLast]; omega) (fun j hj => by
      rw [List.getElem_dropLast]; exact h j (by omega))
    conv => lhs; rw [e]
    rw [List.countP_append, h1]
    congr 1
    have h2 : g (l.getLast hne) = f n := by
      have := h n (by omega)
      rw [List.getLast_eq_getElem]
      rw [← this]
      congr 2
      omega
    cases hb : f n with
    | true => rw [hb] at h2; simp [h2, hb]
    | false => rw [hb] at h2; simp [h2, hb]
theorem wrong_eq (m xs ys : List Int) (hl : xs.length = ys.length) : K.D.wrong m xs ys xs.length = (K.wrongE m xs ys).length := by
  unfold GFD.wrong wrongE
  refine countP_range _ _ _ _ (by simp; omega) fun j hj => ?_
  simp only [List.getElem_take, List.getElem_zip]
  have e1 : xs.getD j 0 = xs[j] := by rw [List.getD_eq_getElem?_getD, List.getElem?_eq_getElem hj]; rfl
  have e2 : ys.getD j 0 = ys[j]'(by omega) := by rw [List.getD_eq_getElem?_getD, List.getElem?_eq_getElem (by omega)]; rfl
  rw [e1, e2]
  congr 1
  have e3 : K.D.add (ys[j]'(by omega)) 0 = (K.el (ys[j]'(by omega))).1 := by rw [add_eq, el_zero, add_zero]
  rw [e3]
  refine propext ⟨fun h e => h ?_, fun h e => h ?_⟩
  · rw [← K.val_el (K.is_eval m xs[j]), e]
  · rw [e, K.el_val]
theorem filter_range_nodup (p : Nat → Bool) (n : Nat) : ((List.range n).filter p).Nodup := List.nodup_range.filter _
/-- **Gao's algorithm finds a polynomial with few errors.** -/
theorem gao_finds (xs ys : List Int) (k : Nat) (hl : xs.length = ys.length) (hk : k ≤ xs.length) (hn : (K.xsE xs).Nodup) (m0 : List Int) (hm0 : m0.length ≤ k) (hw : 2 * (K.wrongE m0 xs ys).length + k ≤ xs.length)
    (n : Nat) (R : List Int × List Int) (hR : K.D.euclid ((xs.length : Int) + k) n (K.D.fromRoots xs) (K.D.inter xs ys xs.length).1 [] [1] = some R) :
    (K.D.gao xs ys k R).2 = 0 ∧ K.toP (K.D.gao xs ys k R).1 = K.toP m0 := by
  have hg0e : K.toP (K.D.fromRoots xs) = rootsP (K.xsE xs).reverse := K.toP_fromRoots xs
  have hxl : (K.xsE xs).reverse.length = xs.length := by unfold xsE; simp
  have hgd : Dg (K.toP (K.D.fromRoots xs)) (xs.length + 1) := by rw [hg0e]; have := Dg_rootsP (K.xsE xs).reverse; rwa [hxl] at this
  have hgt : K.toP (K.D.fromRoots xs) xs.length = 1 := by rw [hg0e]; have := rootsP_top (K.xsE xs).reverse; rwa [hxl] at this
  have hmem : ∀ j, j < xs.length → K.el (xs.getD j 0) ∈ (K.xsE xs) := fun j hj => by
    have := K.xsE_at xs j hj
    exact List.mem_of_getElem? this
  obtain ⟨-, i2, i3⟩ := K.inter_spec xs ys hl hn xs.length (Nat.le_refl _)
  have hcl : (K.D.canon (K.D.fromRoots xs)).length = xs.length + 1 := by
    have h1 := K.canon_len_le _ _ hgd
    have h2 : ¬ (K.D.canon (K.D.fromRoots xs)).length ≤ xs.length := fun h => by
      have := K.Dg_canon (K.D.fromRoots xs) xs.length h
      rw [hgt] at this
      exact one_ne_zero this
    omega
  have hinit : K.EInv xs ys (K.toP (K.D.fromRoots xs)) k (K.D.fromRoots xs) (K.D.inter xs ys xs.length).1 [] [1] := by
    refine ⟨fun j hj => ?_, fun j hj => ?_, .inl ?_, by omega, ?_, ?_, ?_, by omega⟩
    · rw [toP_nil, pv_zero, zero_mul, hg0e]
      exact pv_rootsP_zero _ _ (List.mem_reverse.2 (hmem j hj))
    · rw [toP_one, pv_one, one_mul, i3 j hj]
    · rw [toP_nil, toP_one, mul_one, mul_zero, sub_zero]
    · have := K.canon_len_le _ _ i2; omega
    · rw [toP_one]; exact Dg.one.mono (by omega)
    · rw [toP_nil]; exact Dg.zero _
  have hE := K.euclid_end xs ys _ hgt k n _ _ _ _ R hinit hR
  obtain ⟨b, t⟩ := R
  obtain ⟨T, hT1, hT2⟩ := hE.dt
  -- the locator
  obtain ⟨W, hW⟩ : ∃ W, K.wrongE m0 xs ys = W := ⟨_, rfl⟩
  rw [hW] at hw
  obtain ⟨e, he⟩ : ∃ e, rootsP (W.map fun j => K.el (xs.getD j 0)) = e := ⟨_, rfl⟩
  have hed : Dg e (W.length + 1) := by rw [← he]; have := Dg_rootsP (W.map fun j => K.el (xs.getD j 0)); rwa [List.length_map] at this
  have hene : e ≠ 0 := by rw [← he]; exact rootsP_ne _
  have hm0d : Dg (K.toP m0) k := (K.Dg_toP m0).mono hm0
  have hbd := K.Dg_canon b
  have hbl := hE.small
  have hvb := hE.vb
  simp only at hbl hvb
  obtain ⟨B, hB⟩ : ∃ B, (K.D.canon b).length = B := ⟨_, rfl⟩
  rw [hB] at hbd hbl
  have hdt : Dg (K.toP t) (T + 1) := hT2
  have h1 : Dg (K.toP b * e) xs.length := (Dg.mul B W.length hbd hed).mono (by omega)
  have h2 : Dg (K.toP m0 * e * K.toP t) xs.length := (Dg.mul _ T (Dg.mul k W.length hm0d hed) hdt).mono (by omega)
  have hzero : K.toP b * e - K.toP m0 * e * K.toP t = 0 := by
    refine zero_of_roots xs.length (K.xsE xs) (h1.sub h2) hn (by unfold xsE; simp) fun x hx => ?_
    obtain ⟨i, hi, rfl⟩ := List.mem_map.1 hx
    obtain ⟨j, hj, rfl⟩ := List.getElem_of_mem hi
    have ej : xs[j] = xs.getD j 0 := by rw [List.getD_eq_getElem?_getD, List.getElem?_eq_getElem hj]; rfl
    rw [ej, pv_sub h1 h2, pv_mul hbd hed, pv_mul (hm0d.mul' hed) hdt, pv_mul hm0d hed, hvb j hj, ← K.el_eval m0]
    by_cases hjw : K.el (K.D.eval m0 (xs.getD j 0)) = K.el (ys.getD j 0)
    · rw [hjw]
      exact ring_id [pv (K.toP t) (K.el (xs.getD j 0)), K.el (ys.getD j 0), pv e (K.el (xs.getD j 0))] (x0 * x1 * x2 - x1 * x2 * x0) 0 rfl
    · have hz : pv e (K.el (xs.getD j 0)) = 0 := by
        rw [← he]
        refine pv_rootsP_zero _ _ (List.mem_map.2 ⟨j, ?_, rfl⟩)
        rw [← hW]
        exact List.mem_filter.2 ⟨List.mem_range.2 hj, decide_eq_true hjw⟩
      rw [hz, mul_zero, mul_zero, zero_mul, sub_zero]
  have hbt : K.toP b = K.toP m0 * K.toP t := by
    have e1 : e * K.toP b = e * (K.toP m0 * K.toP t) := by
      refine eq_of_sub_eq_zero ?_
      rw [← hzero]
      exact ring_id [e, K.toP b, K.toP m0, K.toP t] (x0 * x1 - x0 * (x2 * x3)) (x1 * x0 - x2 * x0 * x3) rfl
    exact PS.mul_left_cancel hed hene (hbd.mono (Nat.le_max_left B (k + (T + 1)))) ((hm0d.mul' hdt).mono (Nat.le_max_right B (k + (T + 1)))) e1
  have htn : K.D.canon t ≠ [] := K.canon_ne_of t hE.ne
  -- the division
  have hdiv := K.toP_divC (K.D.canon b) (K.D.canon t) htn
  have hrl := K.divC_rem_lt b t htn
  rw [toP_canon, toP_canon] at hdiv
  obtain ⟨quo, hq⟩ : ∃ q, (K.D.divC (K.D.canon b) (K.D.canon t)).1 = q := ⟨_, rfl⟩
  obtain ⟨rem, hrm⟩ : ∃ q, (K.D.divC (K.D.canon b) (K.D.canon t)).2 = q := ⟨_, rfl⟩
  have hremt : rem = trimZ (K.D.divLoop (K.D.canon t) (K.D.inv ((K.D.canon t).getD ((K.D.canon t).length - 1) 0)) ((K.D.canon b).length + 1 - (K.D.canon t).length) (K.D.canon b) (List.replicate ((K.D.canon b).length + 1 - (K.D.canon t).length) 0)).2 := hrm.symm
  have hquot : quo = trimZ (K.D.divLoop (K.D.canon t) (K.D.inv ((K.D.canon t).getD ((K.D.canon t).length - 1) 0)) ((K.D.canon b).length + 1 - (K.D.canon t).length) (K.D.canon b) (List.replicate ((K.D.canon b).length + 1 - (K.D.canon t).length) 0)).1 := hq.symm
  rw [hq, hrm] at hdiv
  rw [hrm] at hrl
  have hdq : (K.toP m0 - K.toP quo) * K.toP t = K.toP rem := by
    have : K.toP rem = K.toP m0 * K.toP t - K.toP quo * K.toP t := by
      rw [← hbt, ← hdiv]
      exact ring_id [K.toP quo, K.toP t, K.toP rem] x2 (x0 * x1 + x2 - x0 * x1) rfl
    rw [this]
    exact ring_id [K.toP m0, K.toP quo, K.toP t] ((x0 - x1) * x2) (x0 * x2 - x1 * x2) rfl
  have hmq : K.toP m0 - K.toP quo = 0 := by
    refine Classical.byContradiction fun hx => ?_
    have hdd : Dg (K.toP m0 - K.toP quo) (max k quo.length) := (hm0d.mono (by omega)).sub ((K.Dg_toP quo).mono (by omega))
    obtain ⟨d, -, hd1, hd2⟩ := exists_top hdd hx
    have hlt := List.length_pos_iff.2 htn
    have ht1 : Dg (K.toP t) ((K.D.canon t).length - 1 + 1) := (K.Dg_canon t).mono (by omega)
    have htop := mul_top d ((K.D.canon t).length - 1) hd1 ht1
    rw [hdq] at htop
    have hz : K.toP rem (d + ((K.D.canon t).length - 1)) = 0 := K.Dg_toP rem _ (by omega)
    rw [hz] at htop
    exact mul_ne_zero hd2 (K.canon_top t htn) htop.symm
  have hqm : K.toP quo = K.toP m0 := (eq_of_sub_eq_zero hmq).symm
  have hrem0 : K.toP rem = 0 := by rw [← hdq, hmq, zero_mul]
  -- a list without a last zero
  have hnil : ∀ l l2 : List Int, l = trimZ l2 → (∀ i, K.D.is (l.getD i 0) = true) → K.toP l = 0 → l = [] := by
    intro l l2 hl2 hm h0
    refine Classical.byContradiction fun hne => ?_
    have h1 : l.getD (l.length - 1) 0 ≠ 0 := by rw [hl2] at hne ⊢; exact trimZ_last l2 hne
    have h2 := congrFun h0 (l.length - 1)
    have h3 : K.el (l.getD (l.length - 1) 0) = 0 := h2
    have h4 := K.val_el (hm (l.length - 1))
    rw [h3] at h4
    exact h1 h4.symm
  have hlast := canon_last K.D K.ok t htn
  have hin := (divLoop_zero K.D K.full (K.D.canon t) htn hlast.1 hlast.2 ((K.D.canon b).length + 1 - (K.D.canon t).length) (K.D.canon b) (List.replicate ((K.D.canon b).length + 1 - (K.D.canon t).length) 0) (canon_InR K.D K.ok b) (fun i hi => getD_out _ _ (by omega))).1
  have hremn : rem = [] := hnil rem _ hremt (fun i => by
    rw [hremt, trimZ_at]; exact decide_eq_true (hin i)) hrem0
  have hqlen : quo.length ≤ k := by
    by_cases hq0 : quo = []
    · rw [hq0]; simp
    · refine Classical.byContradiction fun hx => ?_
      have h1 : quo.getD (quo.length - 1) 0 ≠ 0 := by rw [hquot] at hq0 ⊢; exact trimZ_last _ hq0
      have h2 : K.toP quo (quo.length - 1) = 0 := by rw [hqm]; exact hm0d _ (by omega)
      have h3 : K.el (quo.getD (quo.length - 1) 0) = 0 := h2
      have hqin : K.D.is (quo.getD (quo.length - 1) 0) = true := by
        rw [hquot, trimZ_at]
        have key : ∀ (q : List Int) (inv : Int) (n : Nat) (rem quo : List Int), InR K.D quo → InR K.D (K.D.divLoop q inv n rem quo).1 := by
          intro q inv n
          induction n with
          | zero => intro rem quo h; exact h
          | succ n ih =>
            intro rem quo h
            simp only [GFD.divLoop]
            refine ih _ _ fun i => ?_
            by_cases hi : i = n
            · subst hi
              by_cases hl : i < quo.length
              · rw [SD.getD_set_self _ _ _ hl]; exact of_decide_eq_true (K.is_mul _ _)
              · rw [getD_out _ i (by rw [List.length_set]; omega)]; exact of_decide_eq_true K.is_zero
            · rw [SD.getD_set_ne _ _ _ _ hi]; exact h i
        refine decide_eq_true (key _ _ _ _ _ (fun i => ?_) _)
        simp only [List.getD_eq_getElem?_getD, List.getElem?_replicate]
        split <;> exact of_decide_eq_true K.is_zero
      have h4 := K.val_el hqin
      rw [h3] at h4
      exact h1 h4.symm
  have hwr : K.D.wrong quo xs ys xs.length ≤ (xs.length - k) / 2 := by
    rw [K.wrong_eq quo xs ys hl]
    have : K.wrongE quo xs ys = W := by
      rw [← hW]
      unfold wrongE
      refine List.filter_congr fun j _ => ?_
      rw [el_eval, el_eval, hqm]
    rw [this]; omega
  unfold GFD.gao
  simp only
  rw [if_neg htn, hq, hrm, if_neg (by simp [hremn]), if_neg (by omega), if_neg (by omega)]
  exact ⟨rfl, hqm⟩
end FD
end Go.Proofs.Yticgblagimmlfaa
