/- The program's polynomials as polynomials over its field; plain Lean. -/
import Derived.Test.YticgblagimmlfaaMAl
namespace Go.Proofs.Yticgblagimmlfaa
open CW CW.PS
set_option linter.unusedVariables false
set_option linter.unusedSimpArgs false

theorem trimZ_at : ∀ (l : List Int) (i : Nat), (trimZ l).getD i 0 = l.getD i 0
  | [], i => rfl
  | a :: l, i => by
    have ih := trimZ_at l
    simp only [trimZ]
    split
    · rename_i h
      rw [h] at ih
      split
      · rename_i h0
        cases i with
        | zero => simp [h0]
        | succ i => have := ih i; simp at this ⊢; exact this
      · cases i with
        | zero => rfl
        | succ i => have := ih i; simp at this ⊢; exact this
    · rename_i b t h
      rw [h] at ih
      cases i with
      | zero => rfl
      | succ i => have := ih i; simp only [List.getD_cons_succ]; exact this

namespace FD
variable (K : FD)
def toP (l : List Int) : PS K.E := fun i => K.el (l.getD i 0)
theorem toP_nil : K.toP [] = 0 := by funext i; show K.el ((([] : List Int)).getD i 0) = 0; simp [el_zero]
theorem toP_cons (a : Int) (l : List Int) : K.toP (a :: l) = C (K.el a) + X * K.toP l := by
  funext i
  cases i with
  | zero => rw [add_at, X_mul_zero, add_zero]; rfl
  | succ i => rw [add_at, X_mul_succ, C_succ_at, zero_add]; simp [toP]
theorem Dg_toP (l : List Int) : Dg (K.toP l) l.length := fun i hi => by
  show K.el (l.getD i 0) = 0
  rw [getD_out l i hi, el_zero]
theorem toP_replicate (n : Nat) : K.toP (List.replicate n 0) = 0 := by
  funext i
  show K.el ((List.replicate n 0).getD i 0) = 0
  simp only [List.getD_eq_getElem?_getD, List.getElem?_replicate]
  split <;> exact K.el_zero
theorem toP_trim (l : List Int) : K.toP (trimZ l) = K.toP l := by funext i; show K.el _ = K.el _; rw [trimZ_at]
theorem el_not {x : Int} (h : K.D.is x = false) : K.el x = 0 := by
  refine SD.El.eq ?_
  show K.D.inn x = 0
  unfold GFD.inn
  rw [if_neg (of_decide_eq_false h)]
theorem toP_canon (l : List Int) : K.toP (K.D.canon l) = K.toP l := by
  unfold GFD.canon
  rw [toP_trim]
  funext i
  show K.el _ = K.el _
  by_cases h : i < l.length
  · rw [updZ_getD _ _ _ _ (by rw [List.length_replicate]; exact h), if_pos h]
    cases hb : K.D.is (l.getD i 0) with
    | true => rw [if_pos rfl]
    | false =>
      rw [if_neg (by simp), K.el_not hb]
      simp [List.getD_eq_getElem?_getD, List.getElem?_replicate, h, el_zero]
  · rw [getD_out _ _ (by rw [updZ_length, List.length_replicate]; omega), getD_out l i (by omega)]
theorem canon_mem (l : List Int) (i : Nat) : K.D.is ((K.D.canon l).getD i 0) = true := decide_eq_true (canon_InR K.D K.ok l i)
theorem toP_combine (p : List Int) (a : Int) (q : List Int) : K.toP (K.D.combine p a q) = K.toP p + C (K.el a) * K.toP q := by
  unfold GFD.combine
  rw [toP_trim]
  have h0 : ∀ i, i < max p.length q.length → K.el ((updZ (fun _ c => K.D.add c 0) (List.replicate (max p.length q.length) 0) p).getD i 0) = K.el (p.getD i 0) := by
    intro i hi
    rw [updZ_getD _ _ _ _ (by rw [List.length_replicate]; exact hi)]
    split
    · rw [el_add, el_zero, add_zero]
    · rw [getD_out p i (by omega)]
      simp [List.getD_eq_getElem?_getD, List.getElem?_replicate, hi]
  funext i
  rw [add_at, C_mul_at]
  show K.el _ = K.el (p.getD i 0) + K.el a * K.el (q.getD i 0)
  by_cases hi : i < max p.length q.length
  · rw [updZ_getD _ _ _ _ (by rw [updZ_length, List.length_replicate]; exact hi)]
    split
    · rw [el_add, el_mul, h0 i hi]
    · rw [h0 i hi, getD_out q i (by omega), el_zero, mul_zero, add_zero]
  · rw [getD_out _ _ (by rw [updZ_length, updZ_length, List.length_replicate]; omega), getD_out p i (by omega), getD_out q i (by omega), el_zero, mul_zero, add_zero]
theorem toP_addP (p q : List Int) : K.toP (K.D.addP p q) = K.toP p + K.toP q := by
  unfold GFD.addP
  rw [toP_combine, el_one, ← one_eq, one_mul]
theorem toP_subP (p q : List Int) : K.toP (K.D.subP p q) = K.toP p - K.toP q := by
  unfold GFD.subP
  rw [toP_combine, el_neg, el_one, C_neg, ← one_eq]
  exact ring_id [K.toP p, K.toP q] (x0 + -1 * x1) (x0 - x1) rfl
theorem toP_prodRow (a : Int) (n : Nat) (out q : List Int) (h : n + q.length ≤ out.length) : K.toP (K.D.prodRow a n out q) = K.toP out + C (K.el a) * (mon n * K.toP q) := by
  unfold GFD.prodRow
  funext i
  rw [add_at, C_mul_at, mon_mul_at]
  show K.el _ = K.el (out.getD i 0) + _
  by_cases hi : i < out.length
  · rw [updAt_getD _ _ _ _ _ hi]
    by_cases h1 : i < n
    · rw [if_neg (by omega), if_pos h1, mul_zero, add_zero]
    · rw [if_neg h1]
      by_cases h2 : i < n + q.length
      · rw [if_pos (by omega), el_add, el_mul]; rfl
      · rw [if_neg (by omega), K.Dg_toP q _ (by omega), mul_zero, add_zero]
  · rw [updAt_out _ _ _ _ _ (by omega), getD_out out i (by omega), el_zero, if_neg (by omega), K.Dg_toP q _ (by omega), mul_zero, add_zero]
theorem toP_prodAux (q : List Int) : ∀ (p : List Int) (n : Nat) (out : List Int), n + p.length + q.length ≤ out.length + 1 → K.toP (K.D.prodAux q p n out) = K.toP out + mon n * (K.toP p * K.toP q)
  | [], n, out, _ => by rw [GFD.prodAux, toP_nil, zero_mul, mul_zero, add_zero]
  | a :: p, n, out, h => by
    simp only [List.length_cons] at h
    rw [GFD.prodAux, toP_prodAux q p (n + 1) _ (by
      have : (K.D.prodRow a n out q).length = out.length := updAt_length _ _ _ _
      rw [this]; omega), K.toP_prodRow a n out q (by omega), toP_cons, mon_succ]
    exact ring_id [K.toP out, C (K.el a), mon n, K.toP q, X, K.toP p] (x0 + x1 * (x2 * x3) + x4 * x2 * (x5 * x3)) (x0 + x2 * ((x1 + x4 * x5) * x3)) rfl
theorem toP_prodC (p q : List Int) : K.toP (K.D.prodC p q) = K.toP p * K.toP q := by
  unfold GFD.prodC
  split
  · rename_i h
    rcases h with h | h <;> rw [h, toP_nil]
    · rw [zero_mul]
    · rw [mul_zero]
  · rename_i h
    have h1 : p ≠ [] := fun e => h (.inl e)
    have h2 := List.length_pos_iff.2 h1
    rw [toP_prodAux _ _ _ _ _ (by rw [List.length_replicate]; omega), toP_replicate, zero_add, mon_zero, one_mul]
theorem toP_product (p q : List Int) : K.toP (K.D.product p q) = K.toP p * K.toP q := by
  unfold GFD.product
  rw [toP_prodC, toP_canon, toP_canon]
theorem el_eval (p : List Int) (x : Int) : K.el (K.D.eval p x) = pv (K.toP p) (K.el x) := by
  induction p with
  | nil => rw [toP_nil, pv_zero]; exact K.el_zero
  | cons c l ih =>
    have e : K.D.eval (c :: l) x = K.D.add (K.D.mul (K.D.eval l x) x) c := rfl
    rw [e, el_add, el_mul, ih, toP_cons, pv_add (Dg.C _) (Dg.X_mul (K.Dg_toP l)), pv_C, pv_mul Dg.X (K.Dg_toP l), pv_X, mul_comm (pv (K.toP l) (K.el x)), add_comm]
theorem is_eval (p : List Int) (x : Int) : K.D.is (K.D.eval p x) = true := by
  cases p with
  | nil => exact K.is_zero
  | cons c l => exact K.is_add _ _
theorem toP_scale (a : Int) (l : List Int) : K.toP (K.D.scale a l) = C (K.el a) * K.toP l := by
  funext i
  rw [C_mul_at]
  show K.el ((l.map (K.D.mul a)).getD i 0) = K.el a * K.el (l.getD i 0)
  by_cases h : i < l.length
  · rw [List.getD_eq_getElem?_getD, List.getD_eq_getElem?_getD, List.getElem?_map, List.getElem?_eq_getElem h]
    exact K.el_mul _ _
  · rw [getD_out _ i (by simp; omega), getD_out l i (by omega), el_zero, mul_zero]

/-! ### division -/
theorem toP_set (l : List Int) (n : Nat) (a : Int) (hn : n < l.length) (h0 : l.getD n 0 = 0) : K.toP (l.set n a) = K.toP l + C (K.el a) * mon n := by
  funext i
  rw [add_at, C_mul_at, mon_at]
  show K.el _ = K.el _ + _
  by_cases h : i = n
  · subst h
    rw [SD.getD_set_self _ _ _ hn, h0, el_zero, if_pos rfl, mul_one, zero_add]
  · rw [SD.getD_set_ne _ _ _ _ h, if_neg h, mul_zero, add_zero]
theorem toP_updSub (a : Int) (n : Nat) (rem q : List Int) (h : n + q.length ≤ rem.length) : K.toP (updAt (fun o c => K.D.sub o (K.D.mul a c)) n rem q) = K.toP rem - C (K.el a) * (mon n * K.toP q) := by
  funext i
  rw [sub_at, C_mul_at, mon_mul_at]
  show K.el _ = K.el (rem.getD i 0) - _
  by_cases hi : i < rem.length
  · rw [updAt_getD _ _ _ _ _ hi]
    by_cases h1 : i < n
    · rw [if_neg (by omega), if_pos h1, mul_zero, sub_zero]
    · rw [if_neg h1]
      by_cases h2 : i < n + q.length
      · rw [if_pos (by omega), el_sub, el_mul]; rfl
      · rw [if_neg (by omega), K.Dg_toP q _ (by omega), mul_zero, sub_zero]
  · rw [updAt_out _ _ _ _ _ (by omega), getD_out rem i (by omega), el_zero, if_neg (by omega), K.Dg_toP q _ (by omega), mul_zero, sub_zero]
theorem toP_divLoop (q : List Int) (inv : Int) : ∀ (n : Nat) (rem quo : List Int), n + q.length ≤ rem.length + 1 → n ≤ quo.length → (∀ i, i < n → quo.getD i 0 = 0) →
    K.toP (K.D.divLoop q inv n rem quo).1 * K.toP q + K.toP (K.D.divLoop q inv n rem quo).2 = K.toP quo * K.toP q + K.toP rem
  | 0, rem, quo, _, _, _ => rfl
  | n + 1, rem, quo, h1, h2, h3 => by
    simp only [GFD.divLoop]
    obtain ⟨a, ha⟩ : ∃ a, K.D.mul (rem.getD (n + q.length - 1) 0) inv = a := ⟨_, rfl⟩
    rw [ha, toP_divLoop q inv n _ _ (by rw [updAt_length]; omega) (by rw [List.length_set]; omega) (fun i hi => by rw [SD.getD_set_ne _ _ _ _ (by omega)]; exact h3 i (by omega)),
      K.toP_set quo n a (by omega) (h3 n (by omega)), K.toP_updSub a n rem q (by omega)]
    exact ring_id [K.toP quo, C (K.el a), mon n, K.toP q, K.toP rem] ((x0 + x1 * x2) * x3 + (x4 - x1 * (x2 * x3))) (x0 * x3 + x4) rfl
theorem toP_divC (p q : List Int) (hq : q ≠ []) : K.toP (K.D.divC p q).1 * K.toP q + K.toP (K.D.divC p q).2 = K.toP p := by
  have hl := List.length_pos_iff.2 hq
  unfold GFD.divC
  by_cases h : q.length ≤ p.length + 1
  · simp only [toP_trim]
    rw [toP_divLoop _ _ _ _ _ _ (by omega) (by rw [List.length_replicate]; omega) (fun i hi => by simp [List.getD_eq_getElem?_getD, List.getElem?_replicate, hi]), toP_replicate, zero_mul, zero_add]
  · simp only [toP_trim]
    rw [show p.length + 1 - q.length = 0 from by omega]
    simp only [GFD.divLoop, List.replicate_zero]
    rw [toP_nil, zero_mul, zero_add]
theorem divC_rem_lt (a b : List Int) (hn : K.D.canon b ≠ []) : (K.D.divC (K.D.canon a) (K.D.canon b)).2.length < (K.D.canon b).length := by
  have := divMod_rem K.D K.full a b hn
  unfold GFD.divMod at this
  rw [if_neg hn] at this
  exact this
theorem toP_divMod (a b : List Int) (hn : K.D.canon b ≠ []) : K.toP (K.D.divMod a b).1 * K.toP b + K.toP (K.D.divMod a b).2.1 = K.toP a := by
  unfold GFD.divMod
  rw [if_neg hn, ← K.toP_canon a, ← K.toP_canon b]
  exact K.toP_divC _ _ hn
theorem divC_quo_len (p q : List Int) : (K.D.divC p q).1.length ≤ p.length + 1 - q.length := by
  unfold GFD.divC
  refine Nat.le_trans (trimZ_length_le _) ?_
  have key : ∀ (inv : Int) (n : Nat) (rem quo : List Int), (K.D.divLoop q inv n rem quo).1.length = quo.length := by
    intro inv n
    induction n with
    | zero => intro rem quo; rfl
    | succ n ih => intro rem quo; simp only [GFD.divLoop]; rw [ih, List.length_set]
  rw [key, List.length_replicate]
  exact Nat.le_refl _
theorem canon_ne_of (l : List Int) (h : K.toP l ≠ 0) : K.D.canon l ≠ [] := fun e => h (by rw [← K.toP_canon l, e, toP_nil])
theorem canon_top (l : List Int) (h : K.D.canon l ≠ []) : K.toP l ((K.D.canon l).length - 1) ≠ 0 := by
  rw [← K.toP_canon l]
  obtain ⟨h1, h2⟩ := canon_last K.D K.ok l h
  intro e
  have h3 : (K.el ((K.D.canon l).getD ((K.D.canon l).length - 1) 0)).1 = 0 := congrArg SD.El.v e
  rw [K.val_el (decide_eq_true ⟨by omega, h2⟩)] at h3
  omega
theorem Dg_canon (l : List Int) : Dg (K.toP l) (K.D.canon l).length := by rw [← K.toP_canon l]; exact K.Dg_toP _
theorem canon_len_le (l : List Int) (n : Nat) (h : Dg (K.toP l) n) : (K.D.canon l).length ≤ n := by
  by_cases hn : K.D.canon l = []
  · rw [hn]; simp
  · refine Classical.byContradiction fun hx => ?_
    exact K.canon_top l hn (h _ (by omega))

/-! ### roots -/
end FD
namespace CW
section
variable {F : Type} [Fd F]
/-- The product of all X - r. -/
def rootsP : List F → PS F
  | [] => 1
  | r :: l => rootsP l * (X - C r)
theorem Dg_lin (r : F) : Dg (X - C r : PS F) 2 := Dg.X.sub ((Dg.C r).mono (by omega))
theorem Dg_rootsP : ∀ l : List F, Dg (rootsP l) (l.length + 1)
  | [] => Dg.one
  | r :: l => by
    have := Dg.mul (l.length + 1) 1 (Dg_rootsP l) (Dg_lin r)
    exact this
theorem rootsP_top : ∀ l : List F, rootsP l l.length = 1
  | [] => rfl
  | r :: l => by
    have := mul_top l.length 1 (Dg_rootsP l) (Dg_lin r)
    show (rootsP l * (X - C r : PS F)) (l.length + 1) = 1
    rw [this, rootsP_top l, one_mul, sub_at]
    show (1 : F) - 0 = 1
    exact sub_zero _
theorem pv_lin (r x : F) : pv (X - C r : PS F) x = x - r := by rw [pv_sub Dg.X (Dg.C r), pv_X, pv_C]
theorem pv_rootsP_zero : ∀ (l : List F) (x : F), x ∈ l → pv (rootsP l) x = 0
  | r :: l, x, h => by
    show pv (rootsP l * (X - C r)) x = 0
    rw [pv_mul (Dg_rootsP l) (Dg_lin r), pv_lin]
    rcases List.mem_cons.1 h with rfl | h
    · rw [sub_self, mul_zero]
    · rw [pv_rootsP_zero l x h, zero_mul]
theorem pv_rootsP_ne : ∀ (l : List F) (x : F), x ∉ l → pv (rootsP l) x ≠ 0
  | [], x, _ => by
    show pv (1 : PS F) x ≠ 0
    rw [pv_one]; exact one_ne_zero
  | r :: l, x, h => by
    show pv (rootsP l * (X - C r)) x ≠ 0
    rw [pv_mul (Dg_rootsP l) (Dg_lin r), pv_lin]
    exact mul_ne_zero (pv_rootsP_ne l x (fun hx => h (List.mem_cons_of_mem _ hx))) (sub_ne_zero (fun e => h (e ▸ List.mem_cons_self)))
theorem rootsP_ne (l : List F) : rootsP l ≠ 0 := fun e => by
  have := rootsP_top l
  rw [e] at this
  exact one_ne_zero this.symm
theorem rootsP_append (a b : List F) : rootsP (a ++ b) = rootsP b * rootsP a := by
  induction a with
  | nil => show rootsP b = rootsP b * 1; exact (mul_one _).symm
  | cons r a ih =>
    show rootsP (a ++ b) * (X - C r) = rootsP b * (rootsP a * (X - C r))
    rw [ih, mul_assoc]
end
end CW
namespace FD
variable (K : FD)
theorem toP_lin (r : Int) : K.toP [K.D.neg r, 1] = X - C (K.el r) := by
  rw [toP_cons, toP_cons, toP_nil, el_neg, el_one, C_neg, ← one_eq]
  exact ring_id [C (K.el r), X] (-x0 + x1 * (1 + x1 * 0)) (x1 - x0) rfl
theorem toP_one : K.toP [1] = 1 := by rw [toP_cons, toP_nil, el_one, ← one_eq, mul_zero, add_zero]
theorem toP_fromRoots (l : List Int) : K.toP (K.D.fromRoots l) = rootsP (l.map K.el).reverse := by
  unfold GFD.fromRoots
  have key : ∀ (l out : List Int), K.toP (l.foldl (fun out r => K.D.product out [K.D.neg r, 1]) out) = K.toP out * rootsP (l.map K.el).reverse := by
    intro l
    induction l with
    | nil => intro out; show K.toP out = K.toP out * 1; exact (mul_one _).symm
    | cons r l ih =>
      intro out
      simp only [List.foldl_cons, List.map_cons, List.reverse_cons]
      rw [ih, toP_product, toP_lin, rootsP_append, mul_assoc]
      show K.toP out * ((X - C (K.el r)) * _) = K.toP out * ((1 * (X - C (K.el r))) * _)
      rw [one_mul]
  rw [key, toP_one, one_mul]
end FD
end Go.Proofs.Yticgblagimmlfaa
