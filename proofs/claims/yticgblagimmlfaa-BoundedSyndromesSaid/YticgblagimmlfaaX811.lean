/- Parts of the proof: A7, A8, A9, A10, R3, R4. -/
import Derived.Test.YticgblagimmlfaaX810
import Derived.Test.YticgblagimmlfaaX809
section
/- The program's polynomials as polynomials over its field; plain Lean. -/
namespace Go.Proofs.Yticgblagimmlfaa
open CW CW.PS
set_option linter.unusedVariables false
set_option linter.unusedSimpArgs false

theorem trimZ_at : ∀ (l : List Int) (i : Nat), (trimZ l).getD i 0 = l.getD i 0
  | [], i => rfl
  | a :: l, i => by
    have ih := trimZ_at l
    simp only [trimZ]
    split
    · rename_i h
      rw [h] at ih
      split
      · rename_i h0
        cases i with
        | zero => simp [h0]
        | succ i => have := ih i; simp at this ⊢; exact this
      · cases i with
        | zero => rfl
        | succ i => have := ih i; simp at this ⊢; exact this
    · rename_i b t h
      rw [h] at ih
      cases i with
      | zero => rfl
      | succ i => have := ih i; simp only [List.getD_cons_succ]; exact this

namespace FD
variable (K : FD)
def toP (l : List Int) : PS K.E := fun i => K.el (l.getD i 0)
theorem toP_nil : K.toP [] = 0 := by funext i; show K.el ((([] : List Int)).getD i 0) = 0; simp [el_zero]
theorem toP_cons (a : Int) (l : List Int) : K.toP (a :: l) = C (K.el a) + X * K.toP l := by
  funext i
  cases i with
  | zero => rw [add_at, X_mul_zero, add_zero]; rfl
  | succ i => rw [add_at, X_mul_succ, C_succ_at, zero_add]; simp [toP]
theorem Dg_toP (l : List Int) : Dg (K.toP l) l.length := fun i hi => by
  show K.el (l.getD i 0) = 0
  rw [getD_out l i hi, el_zero]
theorem toP_replicate (n : Nat) : K.toP (List.replicate n 0) = 0 := by
  funext i
  show K.el ((List.replicate n 0).getD i 0) = 0
  simp only [List.getD_eq_getElem?_getD, List.getElem?_replicate]
  split <;> exact K.el_zero
theorem toP_trim (l : List Int) : K.toP (trimZ l) = K.toP l := by funext i; show K.el _ = K.el _; rw [trimZ_at]
theorem el_not {x : Int} (h : K.D.is x = false) : K.el x = 0 := by
  refine SD.El.eq ?_
  show K.D.inn x = 0
  unfold GFD.inn
  rw [if_neg (of_decide_eq_false h)]
theorem toP_canon (l : List Int) : K.toP (K.D.canon l) = K.toP l := by
  unfold GFD.canon
  rw [toP_trim]
  funext i
  show K.el _ = K.el _
  by_cases h : i < l.length
  · rw [updZ_getD _ _ _ _ (by rw [List.length_replicate]; exact h), if_pos h]
    cases hb : K.D.is (l.getD i 0) with
    | true => rw [if_pos rfl]
    | false =>
      rw [if_neg (by simp), K.el_not hb]
      simp [List.getD_eq_getElem?_getD, List.getElem?_replicate, h, el_zero]
  · rw [getD_out _ _ (by rw [updZ_length, List.length_replicate]; omega), getD_out l i (by omega)]
theorem toP_combine (p : List Int) (a : Int) (q : List Int) : K.toP (K.D.combine p a q) = K.toP p + C (K.el a) * K.toP q := by
  unfold GFD.combine
  rw [toP_trim]
  have h0 : ∀ i, i < max p.length q.length → K.el ((updZ (fun _ c => K.D.add c 0) (List.replicate (max p.length q.length) 0) p).getD i 0) = K.el (p.getD i 0) := by
    intro i hi
    rw [updZ_getD _ _ _ _ (by rw [List.length_replicate]; exact hi)]
    split
    · rw [el_add, el_zero, add_zero]
    · rw [getD_out p i (by omega)]
      simp [List.getD_eq_getElem?_getD, List.getElem?_replicate, hi]
  funext i
  rw [add_at, C_mul_at]
  show K.el _ = K.el (p.getD i 0) + K.el a * K.el (q.getD i 0)
  by_cases hi : i < max p.length q.length
  · rw [updZ_getD _ _ _ _ (by rw [updZ_length, List.length_replicate]; exact hi)]
    split
    · rw [el_add, el_mul, h0 i hi]
    · rw [h0 i hi, getD_out q i (by omega), el_zero, mul_zero, add_zero]
  · rw [getD_out _ _ (by rw [updZ_length, updZ_length, List.length_replicate]; omega), getD_out p i (by omega), getD_out q i (by omega), el_zero, mul_zero, add_zero]
theorem toP_subP (p q : List Int) : K.toP (K.D.subP p q) = K.toP p - K.toP q := by
  unfold GFD.subP
  rw [toP_combine, el_neg, el_one, C_neg, ← one_eq]
  exact ring_id [K.toP p, K.toP q] (x0 + -1 * x1) (x0 - x1) rfl
theorem toP_prodRow (a : Int) (n : Nat) (out q : List Int) (h : n + q.length ≤ out.length) : K.toP (K.D.prodRow a n out q) = K.toP out + C (K.el a) * (mon n * K.toP q) := by
  unfold GFD.prodRow
  funext i
  rw [add_at, C_mul_at, mon_mul_at]
  show K.el _ = K.el (out.getD i 0) + _
  by_cases hi : i < out.length
  · rw [updAt_getD _ _ _ _ _ hi]
    by_cases h1 : i < n
    · rw [if_neg (by omega), if_pos h1, mul_zero, add_zero]
    · rw [if_neg h1]
      by_cases h2 : i < n + q.length
      · rw [if_pos (by omega), el_add, el_mul]; rfl
      · rw [if_neg (by omega), K.Dg_toP q _ (by omega), mul_zero, add_zero]
  · rw [updAt_out _ _ _ _ _ (by omega), getD_out out i (by omega), el_zero, if_neg (by omega), K.Dg_toP q _ (by omega), mul_zero, add_zero]
theorem toP_prodAux (q : List Int) : ∀ (p : List Int) (n : Nat) (out : List Int), n + p.length + q.length ≤ out.length + 1 → K.toP (K.D.prodAux q p n out) = K.toP out + mon n * (K.toP p * K.toP q)
  | [], n, out, _ => by rw [GFD.prodAux, toP_nil, zero_mul, mul_zero, add_zero]
  | a :: p, n, out, h => by
    simp only [List.length_cons] at h
    rw [GFD.prodAux, toP_prodAux q p (n + 1) _ (by
      have : (K.D.prodRow a n out q).length = out.length := updAt_length _ _ _ _
      rw [this]; omega), K.toP_prodRow a n out q (by omega), toP_cons, mon_succ]
    exact ring_id [K.toP out, C (K.el a), mon n, K.toP q, X, K.toP p] (x0 + x1 * (x2 * x3) + x4 * x2 * (x5 * x3)) (x0 + x2 * ((x1 + x4 * x5) * x3)) rfl
theorem toP_prodC (p q : List Int) : K.toP (K.D.prodC p q) = K.toP p * K.toP q := by
  unfold GFD.prodC
  split
  · rename_i h
    rcases h with h | h <;> rw [h, toP_nil]
    · rw [zero_mul]
    · rw [mul_zero]
  · rename_i h
    have h1 : p ≠ [] := fun e => h (.inl e)
    have h2 := List.length_pos_iff.2 h1
    rw [toP_prodAux _ _ _ _ _ (by rw [List.length_replicate]; omega), toP_replicate, zero_add, mon_zero, one_mul]
theorem toP_product (p q : List Int) : K.toP (K.D.product p q) = K.toP p * K.toP q := by
  unfold GFD.product
  rw [toP_prodC, toP_canon, toP_canon]
theorem el_eval (p : List Int) (x : Int) : K.el (K.D.eval p x) = pv (K.toP p) (K.el x) := by
  induction p with
  | nil => rw [toP_nil, pv_zero]; exact K.el_zero
  | cons c l ih =>
    have e : K.D.eval (c :: l) x = K.D.add (K.D.mul (K.D.eval l x) x) c := rfl
    rw [e, el_add, el_mul, ih, toP_cons, pv_add (Dg.C _) (Dg.X_mul (K.Dg_toP l)), pv_C, pv_mul Dg.X (K.Dg_toP l), pv_X, mul_comm (pv (K.toP l) (K.el x)), add_comm]
theorem is_eval (p : List Int) (x : Int) : K.D.is (K.D.eval p x) = true := by
  cases p with
  | nil => exact K.is_zero
  | cons c l => exact K.is_add _ _
/-! ### division -/
theorem toP_set (l : List Int) (n : Nat) (a : Int) (hn : n < l.length) (h0 : l.getD n 0 = 0) : K.toP (l.set n a) = K.toP l + C (K.el a) * mon n := by
  funext i
  rw [add_at, C_mul_at, mon_at]
  show K.el _ = K.el _ + _
  by_cases h : i = n
  · subst h
    rw [SD.getD_set_self _ _ _ hn, h0, el_zero, if_pos rfl, mul_one, zero_add]
  · rw [SD.getD_set_ne _ _ _ _ h, if_neg h, mul_zero, add_zero]
theorem toP_updSub (a : Int) (n : Nat) (rem q : List Int) (h : n + q.length ≤ rem.length) : K.toP (updAt (fun o c => K.D.sub o (K.D.mul a c)) n rem q) = K.toP rem - C (K.el a) * (mon n * K.toP q) := by
  funext i
  rw [sub_at, C_mul_at, mon_mul_at]
  show K.el _ = K.el (rem.getD i 0) - _
  by_cases hi : i < rem.length
  · rw [updAt_getD _ _ _ _ _ hi]
    by_cases h1 : i < n
    · rw [if_neg (by omega), if_pos h1, mul_zero, sub_zero]
    · rw [if_neg h1]
      by_cases h2 : i < n + q.length
      · rw [if_pos (by omega), el_sub, el_mul]; rfl
      · rw [if_neg (by omega), K.Dg_toP q _ (by omega), mul_zero, sub_zero]
  · rw [updAt_out _ _ _ _ _ (by omega), getD_out rem i (by omega), el_zero, if_neg (by omega), K.Dg_toP q _ (by omega), mul_zero, sub_zero]
theorem toP_divLoop (q : List Int) (inv : Int) : ∀ (n : Nat) (rem quo : List Int), n + q.length ≤ rem.length + 1 → n ≤ quo.length → (∀ i, i < n → quo.getD i 0 = 0) →
    K.toP (K.D.divLoop q inv n rem quo).1 * K.toP q + K.toP (K.D.divLoop q inv n rem quo).2 = K.toP quo * K.toP q + K.toP rem
  | 0, rem, quo, _, _, _ => rfl
  | n + 1, rem, quo, h1, h2, h3 => by
    simp only [GFD.divLoop]
    obtain ⟨a, ha⟩ : ∃ a, K.D.mul (rem.getD (n + q.length - 1) 0) inv = a := ⟨_, rfl⟩
    rw [ha, toP_divLoop q inv n _ _ (by rw [updAt_length]; omega) (by rw [List.length_set]; omega) (fun i hi => by rw [SD.getD_set_ne _ _ _ _ (by omega)]; exact h3 i (by omega)),
      K.toP_set quo n a (by omega) (h3 n (by omega)), K.toP_updSub a n rem q (by omega)]
    exact ring_id [K.toP quo, C (K.el a), mon n, K.toP q, K.toP rem] ((x0 + x1 * x2) * x3 + (x4 - x1 * (x2 * x3))) (x0 * x3 + x4) rfl
theorem toP_divC (p q : List Int) (hq : q ≠ []) : K.toP (K.D.divC p q).1 * K.toP q + K.toP (K.D.divC p q).2 = K.toP p := by
  have hl := List.length_pos_iff.2 hq
  unfold GFD.divC
  by_cases h : q.length ≤ p.length + 1
  · simp only [toP_trim]
    rw [toP_divLoop _ _ _ _ _ _ (by omega) (by rw [List.length_replicate]; omega) (fun i hi => by simp [List.getD_eq_getElem?_getD, List.getElem?_replicate, hi]), toP_replicate, zero_mul, zero_add]
  · simp only [toP_trim]
    rw [show p.length + 1 - q.length = 0 from by omega]
    simp only [GFD.divLoop, List.replicate_zero]
    rw [toP_nil, zero_mul, zero_add]
theorem toP_divMod (a b : List Int) (hn : K.D.canon b ≠ []) : K.toP (K.D.divMod a b).1 * K.toP b + K.toP (K.D.divMod a b).2.1 = K.toP a := by
  unfold GFD.divMod
  rw [if_neg hn, ← K.toP_canon a, ← K.toP_canon b]
  exact K.toP_divC _ _ hn
theorem divC_quo_len (p q : List Int) : (K.D.divC p q).1.length ≤ p.length + 1 - q.length := by
  unfold GFD.divC
  refine Nat.le_trans (trimZ_length_le _) ?_
  have key : ∀ (inv : Int) (n : Nat) (rem quo : List Int), (K.D.divLoop q inv n rem quo).1.length = quo.length := by
    intro inv n
    induction n with
    | zero => intro rem quo; rfl
    | succ n ih => intro rem quo; simp only [GFD.divLoop]; rw [ih, List.length_set]
  rw [key, List.length_replicate]
  exact Nat.le_refl _
/-! ### roots -/
end FD
namespace CW
section
variable {F : Type} [Fd F]
/-- The product of all X - r. -/
def rootsP : List F → PS F
  | [] => 1
  | r :: l => rootsP l * (X - C r)
theorem Dg_lin (r : F) : Dg (X - C r : PS F) 2 := Dg.X.sub ((Dg.C r).mono (by omega))
theorem pv_lin (r x : F) : pv (X - C r : PS F) x = x - r := by rw [pv_sub Dg.X (Dg.C r), pv_X, pv_C]
end
end CW
namespace FD
variable (K : FD)
theorem toP_one : K.toP [1] = 1 := by rw [toP_cons, toP_nil, el_one, ← one_eq, mul_zero, add_zero]
end FD
end Go.Proofs.Yticgblagimmlfaa
end
section
/- Interpolation and Gao's algorithm: what it finds; plain Lean. -/
namespace Go.Proofs.Yticgblagimmlfaa
open CW CW.PS
set_option linter.unusedVariables false
set_option linter.unusedSimpArgs false

namespace FD
variable (K : FD)
/-- Of the first k points. -/
def xsE (xs : List Int) : List K.E := xs.map K.el
/-- What Euclid's algorithm keeps: with the error's polynomials. -/
structure EInv (xs ys : List Int) (g0 : PS K.E) (k : Nat) (a b old t : List Int) : Prop where
  va : ∀ j, j < xs.length → pv (K.toP a) (K.el (xs.getD j 0)) = pv (K.toP old) (K.el (xs.getD j 0)) * K.el (ys.getD j 0)
  vb : ∀ j, j < xs.length → pv (K.toP b) (K.el (xs.getD j 0)) = pv (K.toP t) (K.el (xs.getD j 0)) * K.el (ys.getD j 0)
  det : K.toP a * K.toP t - K.toP b * K.toP old = g0 ∨ K.toP a * K.toP t - K.toP b * K.toP old = - g0
  la : (K.D.canon a).length ≤ xs.length + 1
  lb : (K.D.canon b).length < (K.D.canon a).length
  dt : Dg (K.toP t) (xs.length + 2 - (K.D.canon a).length)
  dold : Dg (K.toP old) (xs.length + 1 - (K.D.canon a).length)
  big : xs.length + k ≤ 2 * ((K.D.canon a).length - 1)
theorem EInv.step {K : FD} {xs ys : List Int} {g0 : PS K.E} {k : Nat} {a b old t : List Int} (h : K.EInv xs ys g0 k a b old t) (hn : K.D.canon b ≠ []) (hb : xs.length + k ≤ 2 * ((K.D.canon b).length - 1)) :
    K.EInv xs ys g0 k b (K.D.divMod a b).2.1 t (K.D.subP old (K.D.product (K.D.product [1] (K.D.divMod a b).1) t)) := by
  have hdiv := K.toP_divMod a b hn
  have hla := h.la
  have hlb := h.lb
  have hlb1 := List.length_pos_iff.2 hn
  have hquo : (K.D.divMod a b).1.length ≤ (K.D.canon a).length + 1 - (K.D.canon b).length := by
    unfold GFD.divMod
    rw [if_neg hn]
    exact K.divC_quo_len _ _
  have hrem : (K.D.canon (K.D.divMod a b).2.1).length < (K.D.canon b).length := Nat.lt_of_le_of_lt (canon_length_le K.D _) (divMod_rem K.D K.full a b hn)
  obtain ⟨quo, hq⟩ : ∃ quo, (K.D.divMod a b).1 = quo := ⟨_, rfl⟩
  obtain ⟨rem, hr⟩ : ∃ rem, (K.D.divMod a b).2.1 = rem := ⟨_, rfl⟩
  rw [hq] at hdiv hquo ⊢
  rw [hr] at hdiv hrem ⊢
  have et : K.toP (K.D.subP old (K.D.product (K.D.product [1] quo) t)) = K.toP old - K.toP quo * K.toP t := by
    rw [toP_subP, toP_product, toP_product, toP_one, one_mul]
  have er : K.toP rem = K.toP a - K.toP quo * K.toP b := by
    rw [← hdiv]
    exact ring_id [K.toP quo, K.toP b, K.toP rem] x2 (x0 * x1 + x2 - x0 * x1) rfl
  have dq := K.Dg_toP quo
  have da := K.Dg_toP a
  have db := K.Dg_toP b
  have dt' := h.dt
  refine ⟨h.vb, fun j hj => ?_, ?_, by omega, hrem, ?_, h.dt.mono (by omega), hb⟩
  · rw [er, et, pv_sub da (dq.mul' db), pv_sub h.dold (dq.mul' dt'), pv_mul dq db, pv_mul dq dt', h.va j hj, h.vb j hj]
    exact ring_id [pv (K.toP old) (K.el (xs.getD j 0)), K.el (ys.getD j 0), pv (K.toP quo) (K.el (xs.getD j 0)), pv (K.toP t) (K.el (xs.getD j 0))] (x0 * x1 - x2 * (x3 * x1)) ((x0 - x2 * x3) * x1) rfl
  · have e : K.toP b * K.toP (K.D.subP old (K.D.product (K.D.product [1] quo) t)) - K.toP rem * K.toP t = - (K.toP a * K.toP t - K.toP b * K.toP old) := by
      rw [et, er]
      exact ring_id [K.toP a, K.toP b, K.toP old, K.toP t, K.toP quo] (x1 * (x2 - x4 * x3) - (x0 - x4 * x1) * x3) (-(x0 * x3 - x1 * x2)) rfl
    rw [e]
    rcases h.det with hd | hd
    · right; rw [hd]
    · left; rw [hd, neg_neg]
  · rw [et]
    obtain ⟨d, hd⟩ : ∃ d, xs.length + 2 - (K.D.canon a).length = d + 1 := ⟨xs.length + 1 - (K.D.canon a).length, by omega⟩
    rw [hd] at dt'
    refine (h.dold.mono (by omega)).sub ((Dg.mul _ d (dq.mono hquo) dt').mono (by omega))
/-- What stands at its end. -/
structure EEnd (xs ys : List Int) (g0 : PS K.E) (k : Nat) (b t : List Int) : Prop where
  vb : ∀ j, j < xs.length → pv (K.toP b) (K.el (xs.getD j 0)) = pv (K.toP t) (K.el (xs.getD j 0)) * K.el (ys.getD j 0)
  small : 2 * (((K.D.canon b).length : Int) - 1) < xs.length + k
  dt : ∃ T, 2 * T + k ≤ xs.length ∧ Dg (K.toP t) (T + 1)
  ne : K.toP t ≠ 0
/-- The points where a polynomial has another value. -/
def wrongE (m xs ys : List Int) : List Nat := (List.range xs.length).filter fun j => decide (K.el (K.D.eval m (xs.getD j 0)) ≠ K.el (ys.getD j 0))
end FD
end Go.Proofs.Yticgblagimmlfaa
end
section
/- What the decoder returns: it finds each codeword within the radius, and nothing else; plain Lean. -/
namespace Go.Proofs.Yticgblagimmlfaa
open CW CW.PS
set_option linter.unusedVariables false
set_option linter.unusedSimpArgs false

theorem open_factsP (s : GD) (h : s.open = 0) : fieldOk s.P s.M s.Mod = true ∧ 1 ≤ s.pts.length ∧ s.pts.length ≤ 64 ∧ s.mults.length = s.pts.length ∧ s.pts.all s.D.is = true ∧ s.mults.all s.D.is = true ∧ s.pts.Nodup ∧ (0 : Int) ∉ s.mults ∧ 0 ≤ s.K ∧ s.K ≤ s.pts.length := by
  unfold GD.open at h
  by_cases h1 : fieldOk s.P s.M s.Mod = false
  · rw [if_pos h1] at h; cases h
  rw [if_neg h1] at h
  by_cases h2 : s.pts.length < 1 ∨ 64 < s.pts.length
  · rw [if_pos h2] at h; cases h
  rw [if_neg h2] at h
  by_cases h3 : s.mults.length ≠ s.pts.length
  · rw [if_pos h3] at h; cases h
  rw [if_neg h3] at h
  by_cases h4 : s.pts.all s.D.is = false
  · rw [if_pos h4] at h; cases h
  rw [if_neg h4] at h
  by_cases h5 : s.mults.all s.D.is = false
  · rw [if_pos h5] at h; cases h
  rw [if_neg h5] at h
  by_cases h6 : ¬ s.pts.Nodup
  · rw [if_pos h6] at h; cases h
  rw [if_neg h6] at h
  by_cases h7 : (0 : Int) ∈ s.mults
  · rw [if_pos h7] at h; cases h
  rw [if_neg h7] at h
  by_cases h8 : s.K < 0
  · rw [if_pos h8] at h; cases h
  rw [if_neg h8] at h
  by_cases h9 : (s.pts.length : Int) < s.K
  · rw [if_pos h9] at h; cases h
  exact ⟨by simpa using h1, by omega, by omega, by omega, by simpa using h4, by simpa using h5, Classical.not_not.1 h6, h7, by omega, by omega⟩
/-- The field of a description. -/
theorem exists_K (s : GD) (h : fieldOk s.P s.M s.Mod = true) : ∃ K : FD, K.P = s.P ∧ (K.m : Int) = s.M ∧ K.Mod = s.Mod ∧ s.D = K.D := by
  obtain ⟨K, e1, e2, e3⟩ := exists_FD s.P s.M s.Mod h
  refine ⟨K, e1, e2, e3, ?_⟩
  unfold GD.D SD.D
  rw [e1, e3, show s.M.toNat = K.m from by omega]
theorem all_getD (f : Int → Bool) (l : List Int) (h : l.all f = true) (i : Nat) (hi : i < l.length) : f (l.getD i 0) = true := by
  rw [List.all_eq_true] at h
  exact h _ (mem_getD l i hi)
/-- The positions kept. -/
def keptI (er : List Bool) (n : Nat) : List Nat := (List.range n).filter fun i => !er.getD i false
namespace FD
variable (K : FD)
end FD

theorem encZ_len (D : GFD) (pts mults msg : List Int) (h : mults.length = pts.length) : (encZ D pts mults msg).length = pts.length := by unfold encZ; simp [h]
end Go.Proofs.Yticgblagimmlfaa
end
section
/- The reference's arithmetic is the program's; plain Lean. -/
namespace Go.Proofs.Yticgblagimmlfaa
open CW CW.PS
set_option linter.unusedVariables false
set_option linter.unusedSimpArgs false

namespace SD
variable (K : SD)
theorem toS_at (l : List Int) (i : Nat) : K.toS l i = K.zm (l.getD i 0) := rfl
theorem toS_updAt (ax : Int) (n : Nat) (c b : List Int) (h : n + b.length ≤ c.length) : K.toS (updAt (fun o t => (o + ax * t) % K.P) n c b) = K.toS c + C (K.zm ax) * (mon n * K.toS b) := by
  funext i
  rw [add_at, C_mul_at, mon_mul_at, toS_at]
  by_cases hi : i < c.length
  · rw [updAt_getD _ _ _ _ _ hi]
    by_cases h1 : i < n
    · rw [if_neg (by omega), if_pos h1, mul_zero, add_zero]; rfl
    · rw [if_neg h1]
      by_cases h2 : i < n + b.length
      · rw [if_pos (by omega), zm_emod, zm_add, zm_mul]; rfl
      · rw [if_neg (by omega), K.Dg_toS b _ (by omega), mul_zero, add_zero]; rfl
  · rw [updAt_out _ _ _ _ _ (by omega), if_neg (by omega), K.Dg_toS b _ (by omega), mul_zero, add_zero]
    show _ = K.zm (c.getD i 0)
    rw [getD_out c i (by omega)]
theorem toS_take (l : List Int) (n i : Nat) : K.toS (l.take n) i = if i < n then K.toS l i else 0 := by
  rw [toS_at]
  by_cases h : i < n
  · rw [if_pos h, List.getD_eq_getElem?_getD, List.getElem?_take_of_lt h, ← List.getD_eq_getElem?_getD]; rfl
  · rw [if_neg h, getD_out _ i (by rw [List.length_take]; omega)]; rfl
theorem toS_take_succ (l : List Int) (n : Nat) : K.toS (l.take (n + 1)) = K.toS (l.take n) + C (K.zm (l.getD n 0)) * mon n := by
  funext i
  rw [add_at, C_mul_at, mon_at, toS_take, toS_take]
  by_cases h : i < n
  · rw [if_pos (by omega), if_pos h, if_neg (by omega), mul_zero, add_zero]
  · rw [if_neg h]
    by_cases e : i = n
    · subst e; rw [if_pos (by omega), if_pos rfl, mul_one, zero_add]; rfl
    · rw [if_neg (by omega), if_neg e, mul_zero, add_zero]
theorem toS_convTo (a b c0 : List Int) (hl : ∀ k, k < a.length → k + b.length ≤ c0.length) : ∀ k, k ≤ a.length → K.toS (convTo K.P a b c0 k) = K.toS c0 + K.toS (a.take k) * K.toS b
  | 0, _ => by rw [List.take_zero, toS_nil, zero_mul, add_zero]; rfl
  | k + 1, h => by
    rw [convTo, K.toS_updAt _ _ _ _ (by rw [convTo_length]; exact hl k (by omega)), toS_convTo a b c0 hl k (by omega), toS_take_succ]
    exact ring_id [K.toS c0, K.toS (a.take k), K.toS b, C (K.zm (a.getD k 0)), mon k] (x0 + x1 * x2 + x3 * (x4 * x2)) (x0 + (x1 + x3 * x4) * x2) rfl
theorem toS_redRun (h1 : 1 < K.m) : ∀ (n : Nat) (c : List Int), K.m + n ≤ c.length → Cg K.f (K.toS ((redRun K.P K.m K.Mod n c).take K.m)) (K.toS (c.take (K.m + n)))
  | 0, c, _ => Cg.refl _ _
  | n + 1, c, h => by
    rw [redRun]
    have hl := K.len h1
    obtain ⟨v, hv⟩ : ∃ v, c.getD (K.m + n) 0 = v := ⟨_, rfl⟩
    rw [hv]
    obtain ⟨c', hc'⟩ : ∃ c', updAt (fun o t => (o + (K.P - v) * t) % K.P) n c K.Mod = c' := ⟨_, rfl⟩
    have hs := K.toS_updAt (K.P - v) n c K.Mod (by rw [hl]; omega)
    rw [hc', zm_sub, zm_P] at hs
    rw [hc']
    refine (toS_redRun h1 n c' (by rw [← hc', updAt_length]; omega)).trans ?_
    have e1 : K.toS (c'.take (K.m + n)) = K.toS (c.take (K.m + n)) - C (K.zm v) * (mon n * K.toS K.Mod) := by
      funext i
      rw [sub_at, toS_take, toS_take, hs, add_at, C_mul_at, C_mul_at]
      by_cases hi : i < K.m + n
      · rw [if_pos hi, if_pos hi]
        exact ring_id [K.toS c i, K.zm v, ((mon n : PS K.Z) * K.toS K.Mod) i] (x0 + (0 - x1) * x2) (x0 - x1 * x2) rfl
      · rw [if_neg hi, if_neg hi, mon_mul_at, if_neg (by omega), K.Dg_toS K.Mod _ (by rw [hl]; omega), mul_zero, sub_zero]
    have hf : K.f = K.toS K.Mod + mon K.m := by
      unfold f
      congr 1
      funext i
      show K.zm (lowZ K.m K.Mod i) = K.zm (K.Mod.getD i 0)
      unfold lowZ
      rw [if_pos h1]
    have e2 : K.toS (c.take (K.m + (n + 1))) = K.toS (c.take (K.m + n)) + C (K.zm v) * mon (K.m + n) := by
      rw [← Nat.add_assoc, toS_take_succ, hv]
    rw [e1, e2]
    refine Cg.symm ⟨C (K.zm v) * mon n, n + 1, (Dg.mon n).C_mul _, ?_⟩
    rw [hf, Nat.add_comm K.m n, mon_add]
    exact ring_id [K.toS (c.take (n + K.m)), C (K.zm v), mon n, mon K.m, K.toS K.Mod] (x0 + x1 * (x2 * x3) - (x0 - x1 * (x2 * x4))) (x1 * x2 * (x4 + x3)) rfl
theorem take_all (l : List Int) (n : Nat) (h : l.length ≤ n) : l.take n = l := List.take_of_length_le h
theorem prod_cg (a b : List Int) (ha : a.length = K.m) (hb : b.length = K.m) :
    Cg K.f (K.toS ((redRun K.P K.m K.Mod (K.m - 1) (convTo K.P a b (List.replicate (2 * K.m - 1) 0) K.m)).take K.m)) (K.toS a * K.toS b) := by
  have hm1 := K.m1
  have h1 := K.toS_convTo a b (List.replicate (2 * K.m - 1) 0) (fun k hk => by rw [List.length_replicate]; omega) K.m (by omega)
  rw [toS_replicate, zero_add, take_all a _ (by omega)] at h1
  have hcl := convTo_length K.P a b (List.replicate (2 * K.m - 1) 0) K.m
  rw [List.length_replicate] at hcl
  by_cases hm : K.m = 1
  · rw [show K.m - 1 = 0 from by omega, redRun, take_all _ _ (by rw [hcl]; omega), h1]
    exact Cg.refl _ _
  · have h2 := K.toS_redRun (by omega) (K.m - 1) _ (show K.m + (K.m - 1) ≤ _ by rw [hcl]; omega)
    rw [take_all _ (K.m + (K.m - 1)) (by rw [hcl]; omega), h1] at h2
    exact h2
end SD
namespace FD
variable (K : FD)
theorem ord : orderZ K.P K.m = K.P ^ K.m := by
  have h := K.fok
  unfold fieldOk at h
  rw [Bool.and_eq_true] at h
  obtain ⟨-, -, -, -, p5, -⟩ := shapeZ_true _ _ _ h.1
  rw [Int.toNat_natCast] at p5
  exact p5
theorem FOK : FOK K.P K.m := ⟨by rw [K.ord]; have := K.q_pos; omega⟩
theorem isR_eq (x : Int) : isR K.P K.m x = K.D.is x := by
  unfold isR GFD.is
  rw [K.ord]; rfl
theorem inR_eq (x : Int) : inR K.P K.m x = K.D.inn x := by
  unfold inR isR GFD.inn
  rw [K.ord]
  by_cases h : 0 ≤ x ∧ x < K.P ^ K.m
  · rw [if_pos (decide_eq_true h)]
    show _ = if 0 ≤ x ∧ x < K.P ^ K.m then x else 0
    rw [if_pos h]
  · rw [if_neg (by rw [decide_eq_false h]; simp)]
    show _ = if 0 ≤ x ∧ x < K.P ^ K.m then x else 0
    rw [if_neg h]
/-- A value of digits. -/
theorem val_eq {l : List Int} (hl : l.length = K.m) (hm : ∀ d ∈ l, 0 ≤ d ∧ d < K.P) (e : K.E) (h : Cg K.f (K.toSD.toS l) (K.pol e.1)) : val K.P l = e.1 := by
  have hb := val_bound K.P K.two l hm
  rw [hl] at hb
  refine K.pol_inj hb e.2 (Cg.uniq K.Dg_f K.f_top (K.Dg_pol _) (K.Dg_pol _) ?_)
  rw [K.pol_val hl hm]
  exact h
theorem addR_eq (x y : Int) : addR K.P K.m x y = K.D.add x y := by
  have hP := K.two
  unfold addR
  rw [K.inR_eq, K.inR_eq]
  refine K.val_eq ?_ ?_ (K.el x + K.el y) (Cg.of_eq ?_)
  · rw [updZ_length, digs_length]
  · exact updZ_mem' _ (fun d => 0 ≤ d ∧ d < K.P) (fun o t => ⟨Int.emod_nonneg _ (by omega), Int.emod_lt_of_pos _ (by omega)⟩) _ _ (digs_mem K.P K.two _ _)
  · show _ = K.pol (addD K.P 8 _ _)
    rw [K.pol_add 8 K.m8]
    funext i
    rw [add_at, SD.toS_at]
    by_cases hi : i < K.m
    · rw [updZ_getD _ _ _ _ (by rw [digs_length]; exact hi), if_pos (by rw [digs_length]; exact hi), SD.zm_emod, SD.zm_add]; rfl
    · rw [getD_out _ i (by rw [updZ_length, digs_length]; omega), K.Dg_pol _ i (by omega), K.Dg_pol _ i (by omega), add_zero]; rfl
theorem negR_eq (x : Int) : negR K.P K.m x = K.D.neg x := by
  have hP := K.two
  unfold negR
  rw [K.inR_eq]
  refine K.val_eq ?_ ?_ (- K.el x) (Cg.of_eq ?_)
  · rw [List.length_map, digs_length]
  · intro d hd
    obtain ⟨y, -, rfl⟩ := List.mem_map.1 hd
    exact ⟨Int.emod_nonneg _ (by omega), Int.emod_lt_of_pos _ (by omega)⟩
  · show _ = K.pol (negD K.P 8 _)
    rw [K.pol_neg 8 K.m8]
    funext i
    rw [neg_at, SD.toS_at]
    by_cases hi : i < K.m
    · have e : ((digs K.P K.m (K.D.inn x)).map fun d => (K.P - d) % K.P).getD i 0 = (K.P - (digs K.P K.m (K.D.inn x)).getD i 0) % K.P := by
        rw [List.getD_eq_getElem?_getD, List.getElem?_map, List.getElem?_eq_getElem (by rw [digs_length]; exact hi), List.getD_eq_getElem?_getD, List.getElem?_eq_getElem (by rw [digs_length]; exact hi)]; rfl
      rw [e, SD.zm_emod, SD.zm_sub, SD.zm_P, zero_sub]; rfl
    · rw [getD_out _ i (by rw [List.length_map, digs_length]; omega), K.Dg_pol _ i (by omega), neg_zero]; rfl
theorem subR_eq (x y : Int) : subR K.P K.m x y = K.D.sub x y := by
  unfold subR GFD.sub
  rw [addR_eq, negR_eq]
theorem mulR_eq (x y : Int) : mulR K.P K.m K.Mod x y = K.D.mul x y := by
  have hP := K.two
  rw [K.mul_eq']
  unfold mulR prodR
  rw [K.inR_eq, K.inR_eq]
  have hm1 := K.m1
  refine K.val_eq ?_ ?_ (K.el x * K.el y) ?_
  · rw [List.length_take, redRun_length, convTo_length, List.length_replicate]; omega
  · intro d hd
    exact redRun_mem K.P K.two K.m K.Mod _ _ (convTo_mem K.P K.two _ _ _ (fun d hd => by rw [List.eq_of_mem_replicate hd]; omega) _) d (List.mem_of_mem_take hd)
  · exact (K.prod_cg _ _ (digs_length _ _ _) (digs_length _ _ _)).trans (K.pol_mul _ _).symm
end FD
end Go.Proofs.Yticgblagimmlfaa
namespace Go.Proofs.Yticgblagimmlfaa
open CW CW.PS
set_option linter.unusedVariables false
set_option linter.unusedSimpArgs false
/-- The reference's value of a polynomial. -/
def pwZ (D : GFD) (x : Int) : Nat → Int
  | 0 => 1
  | k + 1 => D.mul (pwZ D x k) x
def evZ (D : GFD) (p : List Int) (x : Int) : Nat → Int
  | 0 => 0
  | k + 1 => D.add (evZ D p x k) (D.mul (p.getD k 0) (pwZ D x k))
namespace FD
variable (K : FD)
theorem el_pwZ (x : Int) : ∀ k, K.el (pwZ K.D x k) = pw (K.el x) k
  | 0 => K.el_one
  | k + 1 => by rw [pwZ, el_mul, el_pwZ x k]; rfl
theorem toP_take_succ (p : List Int) (k : Nat) : K.toP (p.take (k + 1)) = K.toP (p.take k) + C (K.el (p.getD k 0)) * mon k := by
  funext i
  rw [add_at, C_mul_at, mon_at]
  show K.el _ = K.el _ + _
  by_cases h : i < k
  · rw [if_neg (by omega), mul_zero, add_zero, List.getD_eq_getElem?_getD, List.getD_eq_getElem?_getD, List.getElem?_take_of_lt (by omega), List.getElem?_take_of_lt h]
  · rw [getD_out (p.take k) i (by rw [List.length_take]; omega), el_zero, zero_add]
    by_cases e : i = k
    · subst e; rw [if_pos rfl, mul_one, List.getD_eq_getElem?_getD, List.getElem?_take_of_lt (by omega), ← List.getD_eq_getElem?_getD]
    · rw [if_neg e, mul_zero, getD_out _ i (by rw [List.length_take]; omega), el_zero]
theorem el_evZ (p : List Int) (x : Int) : ∀ k, K.el (evZ K.D p x k) = pv (K.toP (p.take k)) (K.el x)
  | 0 => by rw [List.take_zero, toP_nil, pv_zero]; exact K.el_zero
  | k + 1 => by
    rw [evZ, el_add, el_mul, el_evZ p x k, el_pwZ, toP_take_succ, pv_add (K.Dg_toP _) ((Dg.mon k).C_mul _), pv_C_mul (Dg.mon k), pv_mon]
theorem is_evZ (p : List Int) (x : Int) (k : Nat) : K.D.is (evZ K.D p x k) = true := by
  cases k with
  | zero => exact K.is_zero
  | succ k => exact K.is_add _ _
theorem evZ_eq (p : List Int) (x : Int) : evZ K.D p x p.length = K.D.eval p x :=
  K.el_inj (K.is_evZ _ _ _) (K.is_eval _ _) (by rw [el_evZ, el_eval, List.take_length])
end FD
/-- The sum of two words. -/
def plusZ (D : GFD) (a b : List Int) : List Int := (List.range a.length).map fun i => D.add (a.getD i 0) (b.getD i 0)
end Go.Proofs.Yticgblagimmlfaa
end
section
/- The reference: arithmetic over a field; Eval, Word, Differ, Plus. -/
namespace Go.Proofs.Yticgblagimmlfaa
open Go.RowKit Go.Proofs.YticgblagimmlfaaW.PrintWords Go.Proofs.YticgblagimmlfaaW.PrintLast Go.Proofs.YticgblagimmlfaaW.PrintMore
set_option linter.unusedVariables false
set_option linter.unusedSimpArgs false

theorem rAdd {w : World} {A : Option Addr} {n c : Nat} (K : FD) (x y : Int) :
    Calls Try.prog 48 #[.agg #[.int .i64 K.P, .int .i64 (K.m : Int), .slice A n c], .int .i64 x, .int .i64 y] w fun e w' => e = .returned (.int .i64 (K.D.add x y)) ∧ Below w.heap.size w w' := by
  rw [← K.addR_eq]; exact refAdd_any K.FOK x y
theorem rNeg {w : World} {A : Option Addr} {n c : Nat} (K : FD) (x : Int) :
    Calls Try.prog 84 #[.agg #[.int .i64 K.P, .int .i64 (K.m : Int), .slice A n c], .int .i64 x] w fun e w' => e = .returned (.int .i64 (K.D.neg x)) ∧ Below w.heap.size w w' := by
  rw [← K.negR_eq]; exact refNeg_any K.FOK x
theorem rSub {w : World} {A : Option Addr} {n c : Nat} (K : FD) (x y : Int) :
    Calls Try.prog 53 #[.agg #[.int .i64 K.P, .int .i64 (K.m : Int), .slice A n c], .int .i64 x, .int .i64 y] w fun e w' => e = .returned (.int .i64 (K.D.sub x y)) ∧ Below w.heap.size w w' := by
  rw [← K.subR_eq]; exact refSub_any K.FOK x y
theorem rMul {w : World} {A : Option Addr} {c : Nat} (K : FD) (hC : Kd.C (Kd.int .i64) w A K.Mod.length K.Mod) (x y : Int) :
    Calls Try.prog 46 #[.agg #[.int .i64 K.P, .int .i64 (K.m : Int), .slice A K.Mod.length c], .int .i64 x, .int .i64 y] w fun e w' => e = .returned (.int .i64 (K.D.mul x y)) ∧ Below w.heap.size w w' := by
  rw [← K.mulR_eq]; exact refMul_raw K.FOK K.len K.rng hC x y

set_option maxHeartbeats 1000000 in
set_option maxRecDepth 100000 in
theorem rEval {w : World} {A B : Option Addr} {c d : Nat} (K : FD) (hC : Kd.C (Kd.int .i64) w A K.Mod.length K.Mod) {p : List Int} (hp : Kd.C (Kd.int .i64) w B p.length p) (x : Int) :
    Calls Try.prog 47 #[.agg #[.int .i64 K.P, .int .i64 (K.m : Int), .slice A K.Mod.length c], .slice B p.length d, .int .i64 x] w fun e w' => e = .returned (.int .i64 (K.D.eval p x)) ∧ Below w.heap.size w w' := by
  have hF0 := FAt.new w K.P (K.m : Int) A K.Mod.length c
  obtain ⟨w0, hw0⟩ : ∃ w0, w.alloc (.cells #[.int .i64 K.P, .int .i64 (K.m : Int), .slice A K.Mod.length c] 27) = w0 := ⟨_, rfl⟩
  have hB0 : Below w.heap.size w w0 := by rw [← hw0]; exact below_alloc (Below.refl _ _) _
  rw [hw0] at hF0
  have HB0 := Aside0.mk hB0
  have HW := Aside0.mk hw0
  have HF := Aside0.mk hF0
  have HMod := Aside0.mk (Kd.C_below hC hB0)
  have HP := Aside0.mk (Kd.C_below hp hB0)
  have hmx := Kd.C_max hp
  have HMul := Aside0.mk (fun (w1 : World) (hb : Below w0.heap.size w0 w1) (x y : Int) => rMul (c := c) K (Kd.C_below HMod.out hb) x y)
  have HAdd := Aside0.mk (fun (w1 : World) (x y : Int) => rAdd (w := w1) (A := A) (n := K.Mod.length) (c := c) K x y)
  have hR := K.evZ_eq p x
  rw [← hR]
  obtain ⟨pwf, hpw⟩ : ∃ f, pwZ K.D x = f := ⟨_, rfl⟩
  obtain ⟨evf, hev⟩ : ∃ f, evZ K.D p x = f := ⟨_, rfl⟩
  have h0p : pwf 0 = 1 := by rw [← hpw]; rfl
  have h0e : evf 0 = 0 := by rw [← hev]; rfl
  have hsp : ∀ k, pwf (k + 1) = K.D.mul (pwf k) x := by intro k; rw [← hpw]; rfl
  have hse : ∀ k, evf (k + 1) = K.D.add (evf k) (K.D.mul (p.getD k 0) (pwf k)) := by intro k; rw [← hev, ← hpw]; rfl
  rw [hev]
  have H0p := Aside0.mk h0p.symm
  have H0e := Aside0.mk h0e.symm
  have Hsp := Aside0.mk hsp
  have Hse := Aside0.mk hse
  have HBz := Aside0.mk (Below.refl w0.heap.size w0)
  clear hF0 hB0 hw0 hC hp hR hpw hev h0p h0e hsp hse
  go_enter Try.func47, Try.ntmps47
  go_upto_region 1 with (fail)
  rw [HW.out]
  go_wp2
  go_loopw [7, 8, 9] (fun v7 v8 v9 w' => ∃ (k : Nat) (ev po : Int), v9 = .int .i64 k ∧ v7 = .int .i64 ev ∧ v8 = .int .i64 po ∧ k ≤ p.length ∧ Aside0 (ev = evf k) ∧ Aside0 (po = pwf k) ∧ Aside0 (Below w0.heap.size w0 w')) (fun _ _ v9 _ => p.length - (intOf v9).toNat)
  case atStart => exact ⟨0, 0, 1, rfl, rfl, rfl, by omega, H0e, H0p, HBz⟩
  case round =>
    clear HBz
    obtain ⟨k, ev, po, rfl, rfl, rfl, hk, HEv, HPo, HB⟩ := hrel
    obtain ⟨cP, cM, cD⟩ := HF.out.below HB.out
    by_cases hlk : k < p.length
    · obtain ⟨ad, e, hx⟩ := C_nat (Kd.C_below HP.out HB.out) k hlk
      cases e
      obtain ⟨z, hz⟩ : ∃ z, p.getD k 0 = z := ⟨_, rfl⟩
      rw [hz] at hx
      have h1 := Hse.out k
      have h2 := Hsp.out k
      rw [← HEv.out, ← HPo.out, hz] at h1
      rw [← HPo.out] at h2
      have HM1 := Aside0.mk (fun (w1 : World) (hb : Below wr.heap.size wr w1) => HMul.out w1 (below_later HB.out HB.out.size hb) z po)
      have HM2 := Aside0.mk (fun (w1 : World) (hb : Below wr.heap.size wr w1) => HMul.out w1 (below_later HB.out HB.out.size hb) po x)
      obtain ⟨u, hu⟩ : ∃ u, K.D.mul z po = u := ⟨_, rfl⟩
      rw [hu] at HM1 h1
      have HA1 := Aside0.mk (fun (w1 : World) => HAdd.out w1 ev u)
      rw [← h1] at HA1
      rw [← h2] at HM2
      obtain ⟨ev2, he2⟩ : ∃ y, evf (k + 1) = y := ⟨_, rfl⟩
      obtain ⟨po2, hp2⟩ : ∃ y, pwf (k + 1) = y := ⟨_, rfl⟩
      rw [he2] at HA1
      rw [hp2] at HM2
      have HE2 := Aside0.mk he2.symm
      have HP2 := Aside0.mk hp2.symm
      have hcP : ∀ j : Ext wr, j.wd.cell? ⟨w.heap.size, 0, none⟩ = some (.int .i64 K.P) := fun j => j.cell cP
      have hcM : ∀ j : Ext wr, j.wd.cell? ⟨w.heap.size, 1, none⟩ = some (.int .i64 (K.m : Int)) := fun j => j.cell cM
      have hcD : ∀ j : Ext wr, j.wd.cell? ⟨w.heap.size, 2, none⟩ = some (.slice A K.Mod.length c) := fun j => j.cell cD
      have hcx : ∀ j : Ext wr, j.wd.cell? (ad.add k) = some (.int .i64 z) := fun j => j.cell hx
      have i0 : (0 : Int) ≤ (k : Int) := by omega
      have i1 : (k : Int) < (p.length : Int) := by omega
      clear hz h1 h2 hu he2 hp2 cP cM cD hx
      go_wp2
      refine wp_region_ext (by kernel_rfl) (by kernel_rfl) ?_
      repeat (go_big_quiet_step (first | (go_at_call 46; with_reducible exact Ext.call _ (HM1.out _ (Ext.below _))) | (go_at_call 48; with_reducible exact Ext.call _ (HA1.out _))))
      refine wpQuiet_nil ?_
      intro w1 hB1
      have HB1 := Aside0.mk (below_later HB.out HB.out.size hB1)
      have HBr := Aside0.mk hB1
      obtain ⟨cP1, cM1, cD1⟩ := HF.out.below HB1.out
      clear hcP hcM hcD hcx hB1
      go_wp2_with (go_at_call 46; refine (HM2.out _ HBr.out).mono ?_; rintro e w2 ⟨rfl, hB⟩; have HB2 := Aside0.mk (below_later HB1.out HB1.out.size hB); clear hB)
      go_roundw
      case rel => exact ⟨k + 1, ev2, po2, by go_num, rfl, rfl, by omega, HE2, HP2, HB2⟩
      case measure => simp [intOf]; omega
    · obtain rfl : k = p.length := by omega
      have he := HEv.out
      subst he
      clear HEv
      go_wp2
      go_ret
      exact ⟨rfl, below_later HB0.out HB0.out.size HB.out⟩

/-- A description over a field. -/
def GD.over (s : GD) (K : FD) : Prop := K.P = s.P ∧ (K.m : Int) = s.M ∧ K.Mod = s.Mod
set_option maxHeartbeats 1000000 in
set_option maxRecDepth 100000 in
theorem rWord {w : World} {v : Value} {s : GD} (h : GArg w v s) (K : FD) (hK : s.over K) (hml : s.mults.length = s.pts.length) (hpl : s.pts.length ≤ 1000) {B : Option Addr} {d : Nat} {msg : List Int} (hm : Kd.C (Kd.int .i64) w B msg.length msg) :
    Calls Try.prog 21 #[v, .slice B msg.length d] w fun e w' => ∃ v, e = .returned v ∧ Own w' w.heap.size v (encZ K.D s.pts s.mults msg) ∧ Below w.heap.size w w' := by
  obtain ⟨P, M, Mod, kk, pts, mults⟩ := s
  obtain ⟨rfl, rfl, rfl⟩ := hK
  simp only at hml hpl ⊢
  obtain ⟨A1, c1, A2, c2, A3, c3, rfl, g1, l1, g2, l2, g3, l3⟩ := h.out
  simp only at g1 l1 g2 l2 g3 l3
  have hS0 := SAt.new w ⟨K.P, (K.m : Int), K.Mod, kk, pts, mults⟩ A1 c1 A2 c2 A3 c3
  obtain ⟨w0, hw0⟩ : ∃ w0, w.alloc (.cells #[.int .i64 K.P, .int .i64 (K.m : Int), .slice A1 K.Mod.length c1, .int .i64 kk, .slice A2 pts.length c2, .slice A3 mults.length c3] 29) = w0 := ⟨_, rfl⟩
  have hB0 : Below w.heap.size w w0 := by rw [← hw0]; exact below_alloc (Below.refl _ _) _
  simp only at hS0
  rw [hw0] at hS0
  have HB0 := Aside0.mk hB0
  have HS := Aside0.mk hS0
  have HW := Aside0.mk hw0
  have HMod := Aside0.mk (Kd.C_below g1 hB0)
  have HP := Aside0.mk (Kd.C_below g2 hB0)
  have HU := Aside0.mk (Kd.C_below g3 hB0)
  have HMs := Aside0.mk (Kd.C_below hm hB0)
  have hmm := Kd.C_max hm
  have hmu := Kd.C_max g3
  have HEv := Aside0.mk (fun (w1 : World) (hb : Below w0.heap.size w0 w1) (x : Int) => rEval (c := c1) (d := d) K (Kd.C_below HMod.out hb) (Kd.C_below HMs.out hb) x)
  have HMul := Aside0.mk (fun (w1 : World) (hb : Below w0.heap.size w0 w1) (x y : Int) => rMul (c := c1) K (Kd.C_below HMod.out hb) x y)
  obtain ⟨T, hT⟩ : ∃ T, encZ K.D pts mults msg = T := ⟨_, rfl⟩
  have hTl : T.length = pts.length := by rw [← hT]; exact encZ_len _ _ _ _ hml
  have hTg : ∀ i, i < pts.length → T.getD i 0 = K.D.mul (mults.getD i 0) (K.D.eval msg (pts.getD i 0)) := fun i hi => by rw [← hT]; exact encZ_getD _ _ _ _ _ hi (by omega)
  rw [hT]
  obtain ⟨Z, hZ⟩ : ∃ Z : List Int, List.replicate pts.length 0 = Z := ⟨_, rfl⟩
  have hZl : Z.length = pts.length := by rw [← hZ]; exact List.length_replicate
  obtain ⟨F, hF⟩ : ∃ F : Int → Int → Int, (fun _ c => c) = F := ⟨_, rfl⟩
  have hconst : updZ F Z T = T := by rw [← hF]; exact updZ_const Z T (by rw [hZl, hTl])
  have HTl := Aside0.mk hTl
  have HTg := Aside0.mk hTg
  have HZ := Aside0.mk hZ
  have HZl := Aside0.mk hZl
  have HFe := Aside0.mk hF
  have HCo := Aside0.mk hconst
  have HML := Aside0.mk hml
  have hml1 : pts.length ≤ mults.length := by omega
  have HN : Aside0 ((pts.length : Int) = (pts.length : Nat)) := ⟨rfl⟩
  clear hS0 hB0 hw0 hm g1 g2 g3 hT hTl hTg hZ hZl hF hconst hml h
  go_enter Try.func21, Try.ntmps21
  go_upto_region 1 with (fail)
  rw [HW.out]
  have cPts := HS.out.pts
  go_wp2_with ((with_reducible refine gate_dst (N := 10) rfl ?_); refine make_ownI rfl (N := 10) rfl _ _ rfl HN rfl rfl (by omega) ?_; intro v1 w1 hO hB; rw [HZ.out] at hO; have HO1 := Aside0.mk hO; have HB1 := Aside0.mk hB; clear hO hB)
  obtain ⟨A4, c4, e4, -, -⟩ := HO1.out.slice
  rw [HZl.out] at e4
  subst e4
  have H0 : Aside0 (Own w1 w0.heap.size (.slice A4 pts.length c4) (updZ F Z (T.take 0))) := ⟨by simpa [updZ_nil] using HO1.out⟩
  clear HO1 cPts
  go_wp2
  go_loopw [6] (fun v6 w' => ∃ k : Nat, v6 = .int .i64 k ∧ k ≤ pts.length ∧ Aside0 (Own w' w0.heap.size (.slice A4 pts.length c4) (updZ F Z (T.take k))) ∧ Aside0 (Below w0.heap.size w0 w')) (fun v6 _ => pts.length - (intOf v6).toNat)
  case atStart => exact ⟨0, rfl, by omega, H0, HB1⟩
  case round =>
    clear H0 HB1
    obtain ⟨k, rfl, hk, HO, HB⟩ := hrel
    obtain ⟨cP, cM, cD, cK, cS, cU⟩ := HS.out.below HB.out
    simp only at cP cM cD cK cS cU
    have hlen : (updZ F Z (T.take k)).length = pts.length := by rw [updZ_length]; exact HZl.out
    by_cases hlk : k < pts.length
    · obtain ⟨ad, e, hx⟩ := C_nat (Kd.C_below HP.out HB.out) k hlk
      cases e
      obtain ⟨ad2, e, hy⟩ := C_nat (Kd.C_below HU.out HB.out) k (by omega)
      cases e
      have hg := HTg.out k hlk
      have hstep := updZ_set F 0 k Z T (by rw [HTl.out]; exact hlk) (by rw [HZl.out]; exact hlk)
      obtain ⟨x, hx'⟩ : ∃ z, pts.getD k 0 = z := ⟨_, rfl⟩
      obtain ⟨y, hy'⟩ : ∃ z, mults.getD k 0 = z := ⟨_, rfl⟩
      rw [hx'] at hx hg
      rw [hy'] at hy hg
      have HE1 := Aside0.mk (fun (w1 : World) (hb : Below wr.heap.size wr w1) => HEv.out w1 (below_later HB.out HB.out.size hb) x)
      obtain ⟨ev, hev⟩ : ∃ z, K.D.eval msg x = z := ⟨_, rfl⟩
      rw [hev] at HE1 hg
      have HM1 := Aside0.mk (fun (w1 : World) (hb : Below wr.heap.size wr w1) => HMul.out w1 (below_later HB.out HB.out.size hb) y ev)
      rw [← hg] at HM1
      rw [show F (Z.getD k 0) (T.getD k 0) = T.getD k 0 from by rw [← HFe.out]] at hstep
      obtain ⟨u, hu⟩ : ∃ u, T.getD k 0 = u := ⟨_, rfl⟩
      rw [hu] at HM1 hstep
      obtain ⟨g4, cap, e, h11, h12⟩ := HO.out.form (by rw [hlen]; omega)
      rw [hlen] at e
      cases e
      have HSt := Aside0.mk hstep
      have Hlen := Aside0.mk hlen
      have hcP : ∀ j : Ext wr, j.wd.cell? ⟨w.heap.size, 0, none⟩ = some (.int .i64 K.P) := fun j => j.cell cP
      have hcM : ∀ j : Ext wr, j.wd.cell? ⟨w.heap.size, 1, none⟩ = some (.int .i64 (K.m : Int)) := fun j => j.cell cM
      have hcD : ∀ j : Ext wr, j.wd.cell? ⟨w.heap.size, 2, none⟩ = some (.slice A1 K.Mod.length c1) := fun j => j.cell cD
      have hcS : ∀ j : Ext wr, j.wd.cell? ⟨w.heap.size, 4, none⟩ = some (.slice (some ad) pts.length c2) := fun j => j.cell cS
      have hcU : ∀ j : Ext wr, j.wd.cell? ⟨w.heap.size, 5, none⟩ = some (.slice (some ad2) mults.length c3) := fun j => j.cell cU
      have hcx : ∀ j : Ext wr, j.wd.cell? (ad.add k) = some (.int .i64 x) := fun j => j.cell hx
      have hcy : ∀ j : Ext wr, j.wd.cell? (ad2.add k) = some (.int .i64 y) := fun j => j.cell hy
      have i0 : (0 : Int) ≤ (k : Int) := by omega
      have i1 : (k : Int) < (pts.length : Int) := by omega
      have i2 : (k : Int) < (mults.length : Int) := by omega
      clear hx' hy' hg hu hstep hlen hev cP cM cD cK cS cU hx hy
      go_wp2
      refine wp_region_ext_tail 19 (by kernel_rfl) (by kernel_rfl) ?_
      simp only [List.take_succ_cons, List.take_zero, List.drop_succ_cons, List.drop_zero]
      repeat (go_big_quiet_step (first | (go_at_call 47; with_reducible exact Ext.call _ (HE1.out _ (Ext.below _))) | (go_at_call 46; with_reducible exact Ext.call _ (HM1.out _ (Ext.below _)))))
      refine wpQuiet_nil ?_
      intro w2 hB2
      have hO2 := HO.out.below hB2
      obtain ⟨hcl, hfz⟩ := hO2.cell' Hlen.out.symm k hlk
      have hO3 := hO2.set Hlen.out.symm k u
      rw [HSt.out] at hO3
      have HO3 := Aside0.mk hO3
      have HB3 := Aside0.mk ((below_later HB.out HB.out.size hB2).setCell (p := ⟨g4, k, none⟩) h11 (.int .i64 u))
      clear hcP hcM hcD hcS hcU hcx hcy hB2 hO2 hO3
      go_wp2
      go_roundw
      case rel => exact ⟨k + 1, by go_num, by omega, HO3, HB3⟩
      case measure => simp [intOf]; omega
    · obtain rfl : k = pts.length := by omega
      rw [← HTl.out, List.take_length, HCo.out] at HO
      clear hlen cP cM cD cK cS cU
      go_wp2
      go_ret
      rw [HTl.out] at HO
      exact ⟨_, rfl, HO.out.lower HB0.out.size, below_later HB0.out HB0.out.size HB.out⟩

end Go.Proofs.Yticgblagimmlfaa
end
section
/- The reference: rows over a field: scale, AddTo. -/
namespace Go.Proofs.Yticgblagimmlfaa
open Go.RowKit Go.Proofs.YticgblagimmlfaaW.PrintWords Go.Proofs.YticgblagimmlfaaW.PrintLast Go.Proofs.YticgblagimmlfaaW.PrintMore
set_option linter.unusedVariables false
set_option linter.unusedSimpArgs false

/-- v plus a times u. -/
def addToZ (D : GFD) (v : List Int) (a : Int) (u : List Int) : List Int := (List.range v.length).map fun i => if u.getD i 0 ≠ 0 then D.add (v.getD i 0) (D.mul a (u.getD i 0)) else v.getD i 0
theorem addToZ_length (D : GFD) (v : List Int) (a : Int) (u : List Int) : (addToZ D v a u).length = v.length := by simp [addToZ]
theorem addToZ_getD (D : GFD) (v : List Int) (a : Int) (u : List Int) (i : Nat) (h : i < v.length) : (addToZ D v a u).getD i 0 = if u.getD i 0 ≠ 0 then D.add (v.getD i 0) (D.mul a (u.getD i 0)) else v.getD i 0 := by
  unfold addToZ
  exact range_map_getD _ _ _ h
/-- a times v. -/
def scaleZ (D : GFD) (a : Int) (v : List Int) : List Int := v.map (D.mul a)
theorem scaleZ_length (D : GFD) (a : Int) (v : List Int) : (scaleZ D a v).length = v.length := by simp [scaleZ]
theorem scaleZ_getD (D : GFD) (a : Int) (v : List Int) (i : Nat) (h : i < v.length) : (scaleZ D a v).getD i 0 = D.mul a (v.getD i 0) := by
  simp only [scaleZ, List.getD_eq_getElem?_getD, List.getElem?_map, List.getElem?_eq_getElem h, Option.map_some, Option.getD_some]

set_option maxHeartbeats 8000000 in
set_option maxRecDepth 100000 in
theorem rScale {w : World} {A B : Option Addr} {c d : Nat} (K : FD) (hC : Kd.C (Kd.int .i64) w A K.Mod.length K.Mod) (x : Int) {a : List Int} (ha : Kd.C (Kd.int .i64) w B a.length a) (hla : a.length ≤ 1000) :
    Calls Try.prog 163 #[.agg #[.int .i64 K.P, .int .i64 (K.m : Int), .slice A K.Mod.length c], .int .i64 x, .slice B a.length d] w fun e w' => ∃ v, e = .returned v ∧ Own w' w.heap.size v (scaleZ K.D x a) ∧ Below w.heap.size w w' := by
  have hF0 := FAt.new w K.P (K.m : Int) A K.Mod.length c
  obtain ⟨w0, hw0⟩ : ∃ w0, w.alloc (.cells #[.int .i64 K.P, .int .i64 (K.m : Int), .slice A K.Mod.length c] 27) = w0 := ⟨_, rfl⟩
  have hB0 : Below w.heap.size w w0 := by rw [← hw0]; exact below_alloc (Below.refl _ _) _
  rw [hw0] at hF0
  have HB0 := Aside0.mk hB0
  have HW := Aside0.mk hw0
  have HF := Aside0.mk hF0
  have HA := Aside0.mk (Kd.C_below ha hB0)
  have HMod := Aside0.mk (Kd.C_below hC hB0)
  have HMul := Aside0.mk (fun (w1 : World) (hb : Below w0.heap.size w0 w1) (y : Int) => rMul (c := c) K (Kd.C_below HMod.out hb) x y)
  obtain ⟨T, hT⟩ : ∃ T, scaleZ K.D x a = T := ⟨_, rfl⟩
  have hTl : T.length = a.length := by rw [← hT]; exact scaleZ_length _ _ _
  have hTg : ∀ i, i < a.length → T.getD i 0 = K.D.mul x (a.getD i 0) := fun i hi => by rw [← hT]; exact scaleZ_getD _ _ _ _ hi
  rw [hT]
  obtain ⟨Z, hZ⟩ : ∃ Z : List Int, List.replicate a.length 0 = Z := ⟨_, rfl⟩
  have hZl : Z.length = a.length := by rw [← hZ]; exact List.length_replicate
  obtain ⟨F, hF⟩ : ∃ F : Int → Int → Int, (fun _ c => c) = F := ⟨_, rfl⟩
  have hconst : updZ F Z T = T := by rw [← hF]; exact updZ_const Z T (by rw [hZl, hTl])
  have HTl := Aside0.mk hTl
  have HTg := Aside0.mk hTg
  have HZ := Aside0.mk hZ
  have HZl := Aside0.mk hZl
  have HFe := Aside0.mk hF
  have HCo := Aside0.mk hconst
  have HN : Aside0 ((a.length : Int) = (a.length : Nat)) := ⟨rfl⟩
  clear hF0 hB0 hw0 ha hC hT hTl hTg hZ hZl hF hconst
  go_enter Try.func163, Try.ntmps163
  go_upto_region 1 with (fail)
  rw [HW.out]
  go_wp2_with ((with_reducible refine gate_dst (N := 11) rfl ?_); refine make_ownI rfl (N := 11) rfl _ _ rfl HN rfl rfl (by omega) ?_; intro v1 w1 hO hB; rw [HZ.out] at hO; have HO1 := Aside0.mk hO; have HB1 := Aside0.mk hB; clear hO hB)
  obtain ⟨A1, c1, e1, -, -⟩ := HO1.out.slice
  rw [HZl.out] at e1
  subst e1
  have H0 : Aside0 (Own w1 w0.heap.size (.slice A1 a.length c1) (updZ F Z (T.take 0))) := ⟨by simpa [updZ_nil] using HO1.out⟩
  clear HO1
  go_wp2
  go_loopw [8] (fun v8 w' => ∃ k : Nat, v8 = .int .i64 k ∧ k ≤ a.length ∧ Aside0 (Own w' w0.heap.size (.slice A1 a.length c1) (updZ F Z (T.take k))) ∧ Aside0 (Below w0.heap.size w0 w')) (fun v8 _ => a.length - (intOf v8).toNat)
  case atStart => exact ⟨0, rfl, by omega, H0, HB1⟩
  case round =>
    clear H0 HB1
    obtain ⟨k, rfl, hk, HO, HB⟩ := hrel
    obtain ⟨cP, cM, cD⟩ := HF.out.below HB.out
    have hlen : (updZ F Z (T.take k)).length = a.length := by rw [updZ_length]; exact HZl.out
    by_cases hlk : k < a.length
    · obtain ⟨ad, e, hx⟩ := C_nat (Kd.C_below HA.out HB.out) k hlk
      cases e
      have hg := HTg.out k hlk
      have hstep := updZ_set F 0 k Z T (by rw [HTl.out]; exact hlk) (by rw [HZl.out]; exact hlk)
      obtain ⟨y, hy'⟩ : ∃ z, a.getD k 0 = z := ⟨_, rfl⟩
      rw [hy'] at hx hg
      have HA1 := Aside0.mk (fun (w1 : World) (hb : Below wr.heap.size wr w1) => HMul.out w1 (below_later HB.out HB.out.size hb) y)
      rw [← hg] at HA1
      rw [show F (Z.getD k 0) (T.getD k 0) = T.getD k 0 from by rw [← HFe.out]] at hstep
      obtain ⟨u, hu⟩ : ∃ u, T.getD k 0 = u := ⟨_, rfl⟩
      rw [hu] at HA1 hstep
      obtain ⟨g1, cap, e, h11, h12⟩ := HO.out.form (by rw [hlen]; omega)
      rw [hlen] at e
      cases e
      have HSt := Aside0.mk hstep
      have Hlen := Aside0.mk hlen
      have hcP : ∀ j : Ext wr, j.wd.cell? ⟨w.heap.size, 0, none⟩ = some (.int .i64 K.P) := fun j => j.cell cP
      have hcM : ∀ j : Ext wr, j.wd.cell? ⟨w.heap.size, 1, none⟩ = some (.int .i64 (K.m : Int)) := fun j => j.cell cM
      have hcD : ∀ j : Ext wr, j.wd.cell? ⟨w.heap.size, 2, none⟩ = some (.slice A K.Mod.length c) := fun j => j.cell cD
      have hcx : ∀ j : Ext wr, j.wd.cell? (ad.add k) = some (.int .i64 y) := fun j => j.cell hx
      have i0 : (0 : Int) ≤ (k : Int) := by omega
      have i1 : (k : Int) < (a.length : Int) := by omega
      clear hy' hg hu hstep hlen cP cM cD hx
      go_wp2
      refine wp_region_ext_tail 9 (by kernel_rfl) (by kernel_rfl) ?_
      simp only [List.take_succ_cons, List.take_zero, List.drop_succ_cons, List.drop_zero]
      repeat (go_big_quiet_step ((go_at_call 46; with_reducible exact Ext.call _ (HA1.out _ (Ext.below _)))))
      refine wpQuiet_nil ?_
      intro w2 hB2
      have hO2 := HO.out.below hB2
      obtain ⟨hcl, hfz⟩ := hO2.cell' Hlen.out.symm k hlk
      have hO3 := hO2.set Hlen.out.symm k u
      rw [HSt.out] at hO3
      have HO3 := Aside0.mk hO3
      have HB3 := Aside0.mk ((below_later HB.out HB.out.size hB2).setCell (p := ⟨g1, k, none⟩) h11 (.int .i64 u))
      clear hcP hcM hcD hcx hB2 hO2 hO3
      go_wp2
      go_roundw
      case rel => exact ⟨k + 1, by go_num, by omega, HO3, HB3⟩
      case measure => simp [intOf]; omega
    · obtain rfl : k = a.length := by omega
      rw [← HTl.out, List.take_length, HCo.out] at HO
      clear hlen cP cM cD
      go_wp2
      go_ret
      rw [HTl.out] at HO
      exact ⟨_, rfl, HO.out.lower HB0.out.size, below_later HB0.out HB0.out.size HB.out⟩

set_option maxHeartbeats 8000000 in
set_option maxRecDepth 100000 in
theorem rAddTo {w : World} {A B E : Option Addr} {c d ee : Nat} (K : FD) (hC : Kd.C (Kd.int .i64) w A K.Mod.length K.Mod) (x : Int) {a b : List Int} (ha : Kd.C (Kd.int .i64) w B a.length a) (hb : Kd.C (Kd.int .i64) w E b.length b) (hl : a.length ≤ b.length) (hla : a.length ≤ 1000) :
    Calls Try.prog 145 #[.agg #[.int .i64 K.P, .int .i64 (K.m : Int), .slice A K.Mod.length c], .slice B a.length d, .int .i64 x, .slice E b.length ee] w fun e w' => ∃ v, e = .returned v ∧ Own w' w.heap.size v (addToZ K.D a x b) ∧ Below w.heap.size w w' := by
  have hF0 := FAt.new w K.P (K.m : Int) A K.Mod.length c
  obtain ⟨w0, hw0⟩ : ∃ w0, w.alloc (.cells #[.int .i64 K.P, .int .i64 (K.m : Int), .slice A K.Mod.length c] 27) = w0 := ⟨_, rfl⟩
  have hB0 : Below w.heap.size w w0 := by rw [← hw0]; exact below_alloc (Below.refl _ _) _
  rw [hw0] at hF0
  have HB0 := Aside0.mk hB0
  have HZs : Aside0 (w.heap.size + 1 ≤ w0.heap.size) := ⟨by rw [← hw0]; simp⟩
  have HW := Aside0.mk hw0
  have HF := Aside0.mk hF0
  have HA := Aside0.mk (Kd.C_below ha hB0)
  have HBb := Aside0.mk (Kd.C_below hb hB0)
  have hmb := Kd.C_max hb
  have HMod := Aside0.mk (Kd.C_below hC hB0)
  have HMul := Aside0.mk (fun (w1 : World) (hb : Below w0.heap.size w0 w1) (y : Int) => rMul (c := c) K (Kd.C_below HMod.out hb) x y)
  have HAdd := Aside0.mk (fun (w1 : World) (x y : Int) => rAdd (w := w1) (A := A) (n := K.Mod.length) (c := c) K x y)
  obtain ⟨T, hT⟩ : ∃ T, addToZ K.D a x b = T := ⟨_, rfl⟩
  have hTl : T.length = a.length := by rw [← hT]; exact addToZ_length _ _ _ _
  have hTg : ∀ i, i < a.length → T.getD i 0 = (if b.getD i 0 ≠ 0 then K.D.add (a.getD i 0) (K.D.mul x (b.getD i 0)) else a.getD i 0) := fun i hi => by rw [← hT]; exact addToZ_getD _ _ _ _ _ hi
  rw [hT]
  obtain ⟨Z, hZ⟩ : ∃ Z : List Int, List.replicate a.length 0 = Z := ⟨_, rfl⟩
  have hZl : Z.length = a.length := by rw [← hZ]; exact List.length_replicate
  obtain ⟨F, hF⟩ : ∃ F : Int → Int → Int, (fun _ c => c) = F := ⟨_, rfl⟩
  have hconst : updZ F Z T = T := by rw [← hF]; exact updZ_const Z T (by rw [hZl, hTl])
  have HTl := Aside0.mk hTl
  have HTg := Aside0.mk hTg
  have HZ := Aside0.mk hZ
  have HZl := Aside0.mk hZl
  have HFe := Aside0.mk hF
  have HCo := Aside0.mk hconst
  have HN : Aside0 ((a.length : Int) = (a.length : Nat)) := ⟨rfl⟩
  clear hF0 hB0 hw0 ha hb hC hT hTl hTg hZ hZl hF hconst
  go_enter Try.func145, Try.ntmps145
  go_upto_region 1 with (fail)
  rw [HW.out]
  go_wp2_with ((with_reducible refine gate_dst (N := 13) rfl ?_); refine make_ownI rfl (N := 13) rfl _ _ rfl HN rfl rfl (by omega) ?_; intro v1 w1 hO hB; rw [HZ.out] at hO; have HO1 := Aside0.mk hO; have HB1 := Aside0.mk hB; clear hO hB)
  obtain ⟨A1, c1, e1, -, -⟩ := HO1.out.slice
  rw [HZl.out] at e1
  subst e1
  have H0 : Aside0 (Own w1 w0.heap.size (.slice A1 a.length c1) (updZ F Z (T.take 0))) := ⟨by simpa [updZ_nil] using HO1.out⟩
  clear HO1
  go_wp2
  go_loopw [10] (fun v8 w' => ∃ k : Nat, v8 = .int .i64 k ∧ k ≤ a.length ∧ Aside0 (Own w' w0.heap.size (.slice A1 a.length c1) (updZ F Z (T.take k))) ∧ Aside0 (Below w0.heap.size w0 w')) (fun v8 _ => a.length - (intOf v8).toNat)
  case atStart => exact ⟨0, rfl, by omega, H0, HB1⟩
  case round =>
    clear H0 HB1
    obtain ⟨k, rfl, hk, HO, HB⟩ := hrel
    obtain ⟨cP, cM, cD⟩ := HF.out.below HB.out
    have hlen : (updZ F Z (T.take k)).length = a.length := by rw [updZ_length]; exact HZl.out
    by_cases hlk : k < a.length
    · obtain ⟨ad, e, hx⟩ := C_nat (Kd.C_below HA.out HB.out) k hlk
      cases e
      obtain ⟨ad2, e, hy⟩ := C_nat (Kd.C_below HBb.out HB.out) k (by omega)
      cases e
      have hg := HTg.out k hlk
      have hstep := updZ_set F 0 k Z T (by rw [HTl.out]; exact hlk) (by rw [HZl.out]; exact hlk)
      obtain ⟨y, hy'⟩ : ∃ z, a.getD k 0 = z := ⟨_, rfl⟩
      obtain ⟨z, hz'⟩ : ∃ z, b.getD k 0 = z := ⟨_, rfl⟩
      rw [hy'] at hx
      rw [hz'] at hy
      simp only [hy', hz'] at hg
      rw [show F (Z.getD k 0) (T.getD k 0) = T.getD k 0 from by rw [← HFe.out]] at hstep
      obtain ⟨g1, cap, e, h11, h12⟩ := HO.out.form (by rw [hlen]; omega)
      rw [hlen] at e
      cases e
      have HSt := Aside0.mk hstep
      have Hlen := Aside0.mk hlen
      have i0 : (0 : Int) ≤ (k : Int) := by omega
      have i1 : (k : Int) < (a.length : Int) := by omega
      have i2 : (k : Int) < (b.length : Int) := by omega
      obtain ⟨hcl, hfz⟩ := HO.out.cell' Hlen.out.symm k hlk
      have hO3 := HO.out.set Hlen.out.symm k y
      have hB3 := HB.out.setCell (p := ⟨g1, k, none⟩) h11 (.int .i64 y)
      have hn1 : g1 ≠ w.heap.size := by have := HB0.out.size; have := HZs.out; omega
      have hx2 := Kd.C_below HA.out hB3
      obtain ⟨ad', e', hx3⟩ := C_nat hx2 k hlk
      cases e'
      rw [hy'] at hx3
      obtain ⟨ad', e', hy3⟩ := C_nat (Kd.C_below HBb.out hB3) k (by omega)
      cases e'
      rw [hz'] at hy3
      obtain ⟨cP3, cM3, cD3⟩ := HF.out.below hB3
      obtain ⟨w3, hw3⟩ : ∃ w3, wr.setCell ⟨g1, k, none⟩ (.int .i64 y) = w3 := ⟨_, rfl⟩
      rw [hw3] at hO3 hB3 hx3 hy3 cP3 cM3 cD3
      have HW3 := Aside0.mk hw3
      have HO3 := Aside0.mk hO3
      have HB3 := Aside0.mk hB3
      clear hy' hz' hstep hlen hO3 hB3 hx2 hw3
      by_cases hz0 : z = 0
      · rw [if_neg (by simpa using hz0)] at hg
        rw [hg] at HSt
        clear hg
        subst hz0
        go_upto_region 6 with (fail)
        rw [HW3.out]
        clear hx hy hcl hfz cP cM cD
        go_wp2
        rw [HSt.out] at HO3
        go_roundw
        case rel => exact ⟨k + 1, by go_num, by omega, HO3, HB3⟩
        case measure => simp [intOf]; omega
      · rw [if_pos hz0] at hg
        have hzb : (z != 0) = true := by simp [hz0]
        have HA1 := Aside0.mk (fun (w1 : World) (hb : Below w3.heap.size w3 w1) => HMul.out w1 (below_later HB3.out HB3.out.size hb) z)
        obtain ⟨m, hm⟩ : ∃ m, K.D.mul x z = m := ⟨_, rfl⟩
        rw [hm] at HA1 hg
        have HA2 := Aside0.mk (fun (w1 : World) => HAdd.out w1 y m)
        rw [← hg] at HA2
        obtain ⟨u, hu⟩ : ∃ u, T.getD k 0 = u := ⟨_, rfl⟩
        rw [hu] at HA2 HSt
        clear hg hm hu
        go_upto_region 6 with (fail)
        rw [HW3.out]
        clear hx hy hcl hfz cP cM cD
        go_upto_region 7 with (fail)
        have hcP : ∀ j : Ext w3, j.wd.cell? ⟨w.heap.size, 0, none⟩ = some (.int .i64 K.P) := fun j => j.cell cP3
        have hcM : ∀ j : Ext w3, j.wd.cell? ⟨w.heap.size, 1, none⟩ = some (.int .i64 (K.m : Int)) := fun j => j.cell cM3
        have hcD : ∀ j : Ext w3, j.wd.cell? ⟨w.heap.size, 2, none⟩ = some (.slice A K.Mod.length c) := fun j => j.cell cD3
        have hcx : ∀ j : Ext w3, j.wd.cell? (ad.add k) = some (.int .i64 y) := fun j => j.cell hx3
        have hcy : ∀ j : Ext w3, j.wd.cell? (ad2.add k) = some (.int .i64 z) := fun j => j.cell hy3
        clear cP3 cM3 cD3 hx3 hy3 hzb
        refine wp_region_ext_tail 15 (by kernel_rfl) (by kernel_rfl) ?_
        simp only [List.take_succ_cons, List.take_zero, List.drop_succ_cons, List.drop_zero]
        repeat (go_big_quiet_step (first | (go_at_call 46; with_reducible exact Ext.call _ (HA1.out _ (Ext.below _))) | (go_at_call 48; with_reducible exact Ext.call _ (HA2.out _))))
        refine wpQuiet_nil ?_
        intro w2 hB2
        have hO2 := HO3.out.below hB2
        have hl2 : a.length = ((updZ F Z (List.take k T)).set k y).length := by rw [List.length_set]; exact Hlen.out.symm
        obtain ⟨hcl, hfz⟩ := hO2.cell' hl2 k hlk
        have hO4 := hO2.set hl2 k u
        rw [List.set_set, HSt.out] at hO4
        have HO4 := Aside0.mk hO4
        have HB4 := Aside0.mk ((below_later HB3.out HB3.out.size hB2).setCell (p := ⟨g1, k, none⟩) h11 (.int .i64 u))
        clear hcP hcM hcD hcx hcy hB2 hO2 hO4 hl2
        go_wp2
        go_roundw
        case rel => exact ⟨k + 1, by go_num, by omega, HO4, HB4⟩
        case measure => simp [intOf]; omega
    · obtain rfl : k = a.length := by omega
      rw [← HTl.out, List.take_length, HCo.out] at HO
      clear hlen cP cM cD
      go_wp2
      go_ret
      rw [HTl.out] at HO
      exact ⟨_, rfl, HO.out.lower HB0.out.size, below_later HB0.out HB0.out.size HB.out⟩

end Go.Proofs.Yticgblagimmlfaa
end
