/- Parts of the proof: E2, A11, A12, E3, R10, R11, R12, R13. -/
import Derived.Test.YticgblagimmlfaaX412
import Derived.Test.YticgblagimmlfaaX411
import Derived.Test.YticgblagimmlfaaX414
section
/- Reduced row echelon form. -/
namespace Go.Proofs.Yticgblagimmlfaa
open CW CW.PS
set_option linter.unusedVariables false
set_option linter.unusedSimpArgs false

theorem swapL_getD (l : List (List Int)) (t k i : Nat) (ht : t < l.length) (hk : k < l.length) : (swapL l t k).getD i [] = if i = k then l.getD t [] else if i = t then l.getD k [] else l.getD i [] := by
  unfold swapL
  split
  · rename_i h
    subst h
    rw [List.getD_eq_getElem?_getD, List.getElem?_set_self (by rw [List.length_set]; exact hk)]
    rfl
  · rename_i h
    rw [List.getD_eq_getElem?_getD, List.getElem?_set_ne (fun e => h e.symm)]
    split
    · rename_i h2
      subst h2
      rw [List.getElem?_set_self ht]
      rfl
    · rename_i h2
      rw [List.getElem?_set_ne (fun e => h2 e.symm), ← List.getD_eq_getElem?_getD]
theorem normL_getD (D : GFD) (c t : Nat) (l : List (List Int)) (i : Nat) (ht : t < l.length) : (normL D c t l).getD i [] = if i = t then normR D c (l.getD t []) else l.getD i [] := by
  unfold normL
  split
  · rename_i h
    subst h
    rw [List.getD_eq_getElem?_getD, List.getElem?_set_self ht]
    rfl
  · rename_i h
    rw [List.getD_eq_getElem?_getD, List.getElem?_set_ne (fun e => h e.symm), ← List.getD_eq_getElem?_getD]
/-- The rows of the next state. -/
theorem nextL_getD (D : GFD) (c t k i : Nat) (l : List (List Int)) (htk : t ≤ k) (hk : k < l.length) (hi : i < l.length) :
    (nextL D c t k l).getD i [] = if i = t then normR D c (l.getD k []) else clearRow D c (normR D c (l.getD k [])) (if i = k then l.getD t [] else l.getD i []) := by
  have h1 : (swapL l t k).getD t [] = l.getD k [] := by
    rw [swapL_getD _ _ _ _ (by omega) hk]
    by_cases h : t = k
    · rw [if_pos h, h]
    · rw [if_neg h, if_pos rfl]
  unfold nextL
  rw [clearL_getD _ _ _ _ _ (by rw [normL_length, swapL_length]; exact hi), normL_getD _ _ _ _ _ (by rw [swapL_length]; omega), if_pos rfl, h1, normL_getD _ _ _ _ _ (by rw [swapL_length]; omega), h1]
  by_cases hit : i = t
  · simp [hit]
  · simp only [hit, if_neg, ne_eq, not_false_iff, if_true, if_false]
    rw [swapL_getD _ _ _ _ (by omega) hk, if_neg hit]

open RE
namespace FD
variable (K : FD)
def vec (r : List Int) : Nat → K.E := fun j => K.el (r.getD j 0)
theorem vec_scale (a : Int) (v : List Int) (j : Nat) : K.vec (scaleZ K.D a v) j = K.el a * K.vec v j := by
  unfold vec
  rw [scaleZ_at]
  split
  · exact K.el_mul _ _
  · rename_i h
    rw [show v.getD j 0 = 0 from by rw [List.getD_eq_getElem?_getD, List.getElem?_eq_none (by omega)]; rfl, K.el_zero, mul_zero]
theorem vec_addTo (v : List Int) (a : Int) (u : List Int) (h : u.length = v.length) (j : Nat) : K.vec (addToZ K.D v a u) j = K.vec v j + K.el a * K.vec u j := by
  unfold vec
  rw [addToZ_at]
  split
  · split
    · rw [K.el_add, K.el_mul]
    · rename_i h0
      rw [show u.getD j 0 = 0 from Classical.not_not.1 h0, K.el_zero, mul_zero, add_zero]
  · rename_i h0
    rw [show v.getD j 0 = 0 from by rw [List.getD_eq_getElem?_getD, List.getElem?_eq_none (by omega)]; rfl, show u.getD j 0 = 0 from by rw [List.getD_eq_getElem?_getD, List.getElem?_eq_none (by omega)]; rfl, K.el_zero, mul_zero, add_zero]
/-- Closed under linear combinations. -/
structure Lin (P : (Nat → K.E) → Prop) : Prop where
  zero : P (fun _ => 0)
  add : ∀ v u a, P v → P u → P (fun j => v j + a * u j)
theorem Lin.smul {K : FD} {P : (Nat → K.E) → Prop} (h : K.Lin P) {u : Nat → K.E} (a : K.E) (hu : P u) : P (fun j => a * u j) := by
  have := h.add (fun _ => 0) u a h.zero hu
  simpa [zero_add] using this
def AllP (P : (Nat → K.E) → Prop) (l : List (List Int)) : Prop := ∀ i, i < l.length → P (K.vec (l.getD i []))

theorem norm_fwd {P : (Nat → K.E) → Prop} (h : K.Lin P) (c : Nat) {r : List Int} (hr : P (K.vec r)) : P (K.vec (normR K.D c r)) := by
  unfold normR
  split
  · have := h.smul (K.el (K.D.inv (r.getD c 0))) hr
    rwa [show (fun j => K.el (K.D.inv (r.getD c 0)) * K.vec r j) = K.vec (scaleZ K.D (K.D.inv (r.getD c 0)) r) from by funext j; rw [K.vec_scale]] at this
  · exact hr
theorem norm_bwd {P : (Nat → K.E) → Prop} (h : K.Lin P) (c : Nat) {r : List Int} (hs : K.D.is (r.getD c 0) = true) (h0 : r.getD c 0 ≠ 0) (hr : P (K.vec (normR K.D c r))) : P (K.vec r) := by
  unfold normR at hr
  split at hr
  · have := h.smul (K.el (r.getD c 0)) hr
    rwa [show (fun j => K.el (r.getD c 0) * K.vec (scaleZ K.D (K.D.inv (r.getD c 0)) r) j) = K.vec r from by
      funext j
      rw [K.vec_scale, ← mul_assoc, ← K.el_mul, K.mul_inv_eq hs h0, K.el_one, one_mul]] at this
  · exact hr
theorem clear_fwd {P : (Nat → K.E) → Prop} (h : K.Lin P) (c : Nat) {r v : List Int} (hl : r.length = v.length) (hr : P (K.vec r)) (hv : P (K.vec v)) : P (K.vec (clearRow K.D c r v)) := by
  unfold clearRow
  split
  · have := h.add _ _ (K.el (K.D.neg (v.getD c 0))) hv hr
    rwa [show (fun j => K.vec v j + K.el (K.D.neg (v.getD c 0)) * K.vec r j) = K.vec (addToZ K.D v (K.D.neg (v.getD c 0)) r) from by funext j; rw [K.vec_addTo _ _ _ hl]] at this
  · exact hv
theorem clear_bwd {P : (Nat → K.E) → Prop} (h : K.Lin P) (c : Nat) {r v : List Int} (hl : r.length = v.length) (hr : P (K.vec r)) (hv : P (K.vec (clearRow K.D c r v))) : P (K.vec v) := by
  unfold clearRow at hv
  split at hv
  · have := h.add _ _ (K.el (v.getD c 0)) hv hr
    rwa [show (fun j => K.vec (addToZ K.D v (K.D.neg (v.getD c 0)) r) j + K.el (v.getD c 0) * K.vec r j) = K.vec v from by
      funext j
      rw [K.vec_addTo _ _ _ hl, K.el_neg]
      exact ring_id [K.vec v j, K.el (v.getD c 0), K.vec r j] (x0 + -x1 * x2 + x1 * x2) x0 rfl] at this
  · exact hv

theorem Reach.fwd {P : (Nat → K.E) → Prop} (hP : K.Lin P) {n : Nat} {rows : List (List Int)} (hs : Shp K.D n rows) (h0 : K.AllP P rows) {c t : Nat} {l : List (List Int)} {pv : List Int} (h : Reach K.D rows c t l pv) : K.AllP P l := by
  induction h with
  | start => exact h0
  | skip h ht hz ih => exact ih
  | @step c t k l pv h htk hk hz hn ih =>
    have hf := Reach.facts hs h
    have hr := K.norm_fwd hP c (ih k hk)
    have hrl := K.shp_norm (c := c) (hf.2.2.2.2 _ (getD_mem_rows hk))
    intro i hi
    rw [nextL_length] at hi
    rw [nextL_getD _ _ _ _ _ _ htk hk hi]
    split
    · exact hr
    · have ht : t < l.length := by omega
      split
      · exact K.clear_fwd hP c (by rw [hrl.1, (hf.2.2.2.2 _ (getD_mem_rows ht)).1]) hr (ih t ht)
      · exact K.clear_fwd hP c (by rw [hrl.1, (hf.2.2.2.2 _ (getD_mem_rows hi)).1]) hr (ih i hi)
theorem Reach.bwd {P : (Nat → K.E) → Prop} (hP : K.Lin P) {n : Nat} {rows : List (List Int)} (hs : Shp K.D n rows) {c t : Nat} {l : List (List Int)} {pv : List Int} (h : Reach K.D rows c t l pv) (h0 : K.AllP P l) : K.AllP P rows := by
  induction h with
  | start => exact h0
  | skip h ht hz ih => exact ih h0
  | @step c t k l pv h htk hk hz hn ih =>
    have hf := Reach.facts hs h
    have ht : t < l.length := by omega
    have hrl := K.shp_norm (c := c) (hf.2.2.2.2 _ (getD_mem_rows hk))
    have hg := fun i hi => nextL_getD K.D c t k i l htk hk hi
    have hr : P (K.vec (normR K.D c (l.getD k []))) := by
      have := h0 t (by rw [nextL_length]; exact ht)
      rwa [hg t ht, if_pos rfl] at this
    have hk' : P (K.vec (l.getD k [])) := K.norm_bwd hP c ((hf.2.2.2.2 _ (getD_mem_rows hk)).2 c) hn hr
    refine ih fun i hi => ?_
    by_cases hik : i = k
    · rw [hik]; exact hk'
    · by_cases hit : i = t
      · subst hit
        have := h0 k (by rw [nextL_length]; exact hk)
        rw [hg k hk, if_neg (fun e => hik e.symm), if_pos rfl] at this
        exact K.clear_bwd hP c (by rw [hrl.1, (hf.2.2.2.2 _ (getD_mem_rows ht)).1]) hr this
      · have := h0 i (by rw [nextL_length]; exact hi)
        rw [hg i hi, if_neg hit, if_neg hik] at this
        exact K.clear_bwd hP c (by rw [hrl.1, (hf.2.2.2.2 _ (getD_mem_rows hi)).1]) hr this

/-- The state: row i < t has its first nonzero entry, a one, at p i; the others have 0 there. -/
structure Ech (D : GFD) (c t : Nat) (l : List (List Int)) (p : Nat → Nat) : Prop where
  lt : ∀ i, i < t → p i < c
  mono : ∀ i j, i < j → j < t → p i < p j
  one : ∀ i j, i < t → j < l.length → (l.getD j []).getD (p i) 0 = if j = i then 1 else 0
  low : ∀ i q, i < t → q < p i → (l.getD i []).getD q 0 = 0
  rest : ∀ j q, t ≤ j → j < l.length → q < c → (l.getD j []).getD q 0 = 0
theorem getD_ge {l : List Int} {i : Nat} (h : l.length ≤ i) : l.getD i 0 = 0 := by
  rw [List.getD_eq_getElem?_getD, List.getElem?_eq_none h]; rfl
theorem norm_zero {c q : Nat} {r : List Int} (h : r.getD q 0 = 0) : (normR K.D c r).getD q 0 = 0 := by
  unfold normR
  split
  · rw [scaleZ_at]
    split
    · rw [h]
      refine K.el_inj (K.is_mul _ _) K.is_zero ?_
      rw [K.el_mul, K.el_zero, mul_zero]
    · rfl
  · exact h
theorem norm_one {c : Nat} {r : List Int} (hs : K.D.is (r.getD c 0) = true) (h0 : r.getD c 0 ≠ 0) : (normR K.D c r).getD c 0 = 1 := by
  have hl : c < r.length := Classical.byContradiction fun hn => h0 (getD_ge (by omega))
  unfold normR
  split
  · rw [scaleZ_at, if_pos hl]
    refine K.el_inj (K.is_mul _ _) K.is_one ?_
    have := K.mul_inv_eq hs h0
    rw [K.el_mul, mul_comm, ← K.el_mul, this]
  · rename_i h; exact Classical.not_not.1 h
theorem clear_keep {c q : Nat} {r v : List Int} (h : r.getD q 0 = 0) : (clearRow K.D c r v).getD q 0 = v.getD q 0 := by
  unfold clearRow
  split
  · rw [addToZ_at]
    split
    · rw [if_neg (fun hh => hh h)]
    · rename_i hl; rw [getD_ge (by omega)]
  · rfl
theorem clear_zero {c : Nat} {r v : List Int} (hs : K.D.is (v.getD c 0) = true) (h : r.getD c 0 = 1) : (clearRow K.D c r v).getD c 0 = 0 := by
  unfold clearRow
  split
  · rw [addToZ_at]
    split
    · rw [if_pos (by rw [h]; decide), h]
      refine K.el_inj (K.is_add _ _) K.is_zero ?_
      rw [K.el_add, K.el_mul, K.el_neg, K.el_one, K.el_zero]
      exact ring_id [K.el (v.getD c 0)] (x0 + -x0 * 1) 0 rfl
    · rfl
  · rename_i h0; exact Classical.not_not.1 h0
theorem Reach.ech {n : Nat} {rows : List (List Int)} (hs : Shp K.D n rows) {c t : Nat} {l : List (List Int)} {pv : List Int} (h : Reach K.D rows c t l pv) : ∃ p : Nat → Nat, Ech K.D c t l p ∧ ∀ i, i < t → pv.getD i 0 = (p i : Int) := by
  induction h with
  | start => exact ⟨fun _ => 0, ⟨fun i h => by omega, fun i j _ h => by omega, fun i j h => by omega, fun i q h => by omega, fun j q _ _ h => by omega⟩, fun i h => by omega⟩
  | @skip c t l pv h ht hz ih =>
    obtain ⟨p, hE, hp⟩ := ih
    refine ⟨p, ⟨fun i hi => by have := hE.lt i hi; omega, hE.mono, hE.one, hE.low, fun j q hj hjl hq => ?_⟩, hp⟩
    by_cases hqc : q = c
    · rw [hqc]; exact hz j hj hjl
    · exact hE.rest j q hj hjl (by omega)
  | @step c t k l pv h htk hk hz hn ih =>
    obtain ⟨p, hE, hp⟩ := ih
    have hf := Reach.facts hs h
    have ht : t < l.length := by omega
    have hg := fun i hi => nextL_getD K.D c t k i l htk hk hi
    have hke := (hf.2.2.2.2 _ (getD_mem_rows hk)).2 c
    have hrz : ∀ q, q < c → (normR K.D c (l.getD k [])).getD q 0 = 0 := fun q hq => K.norm_zero (hE.rest k q htk hk hq)
    have hr1 := K.norm_one hke hn
    have hsw : ∀ i q, i < l.length → q < c → t ≤ i → (if i = k then l.getD t [] else l.getD i []).getD q 0 = 0 := fun i q hi hq hti => by
      split
      · exact hE.rest t q (Nat.le_refl _) ht hq
      · exact hE.rest i q hti hi hq
    have hcl : ∀ i q, i < l.length → q < c → i ≠ t → ((nextL K.D c t k l).getD i []).getD q 0 = (if i = k then l.getD t [] else l.getD i []).getD q 0 := fun i q hi hq hit => by
      rw [hg i hi, if_neg hit, K.clear_keep (hrz q hq)]
    have hcc : ∀ i, i < l.length → i ≠ t → ((nextL K.D c t k l).getD i []).getD c 0 = 0 := fun i hi hit => by
      rw [hg i hi, if_neg hit]
      refine K.clear_zero ?_ hr1
      split
      · exact (hf.2.2.2.2 _ (getD_mem_rows ht)).2 c
      · exact (hf.2.2.2.2 _ (getD_mem_rows hi)).2 c
    have hct : (nextL K.D c t k l).getD t [] = normR K.D c (l.getD k []) := by rw [hg t ht, if_pos rfl]
    have hlow : ∀ i, i < t → i ≠ k := fun i hi => by omega
    refine ⟨fun i => if i = t then c else p i, ⟨fun i hi => ?_, fun i j hij hj => ?_, fun i j hi hj => ?_, fun i q hi hq => ?_, fun j q hj hjl hq => ?_⟩, fun i hi => ?_⟩
    · show (if i = t then c else p i) < c + 1
      split
      · omega
      · have := hE.lt i (by omega); omega
    · show (if i = t then c else p i) < (if j = t then c else p j)
      rw [if_neg (by omega : ¬ i = t)]
      split
      · exact hE.lt i (by omega)
      · exact hE.mono i j hij (by omega)
    · rw [nextL_length] at hj
      show ((nextL K.D c t k l).getD j []).getD (if i = t then c else p i) 0 = _
      by_cases hit : i = t
      · rw [if_pos hit]
        by_cases hjt : j = t
        · rw [if_pos (by omega), hjt, hct]; exact hr1
        · rw [if_neg (by omega)]; exact hcc j hj hjt
      · rw [if_neg hit]
        have hic := hE.lt i (by omega)
        by_cases hjt : j = t
        · rw [if_neg (by omega), hjt, hct]; exact hrz _ hic
        · rw [hcl j _ hj hic hjt]
          by_cases hjlt : j < t
          · rw [if_neg (hlow j hjlt)]; exact hE.one i j (by omega) hj
          · rw [if_neg (by omega : ¬ j = i)]; exact hsw j _ hj hic (by omega)
    · have hq : q < (if i = t then c else p i) := hq
      by_cases hit : i = t
      · rw [if_pos hit] at hq
        rw [hit, hct]; exact hrz q hq
      · rw [if_neg hit] at hq
        have hic := hE.lt i (by omega)
        rw [hcl i q (by omega) (by omega) hit, if_neg (hlow i (by omega))]
        exact hE.low i q (by omega) hq
    · rw [nextL_length] at hjl
      by_cases hqc : q = c
      · rw [hqc]; exact hcc j hjl (by omega)
      · rw [hcl j q hjl (by omega) (by omega)]; exact hsw j q hjl (by omega) (by omega)
    · show (pv ++ [(c : Int)]).getD i 0 = ((if i = t then c else p i : Nat) : Int)
      have hpl := hf.2.2.2.1
      by_cases hit : i = t
      · rw [if_pos hit, hit, ← hpl, List.getD_eq_getElem?_getD, List.getElem?_append_right (Nat.le_refl _)]
        simp
      · rw [if_neg hit, ← hp i (by omega), List.getD_eq_getElem?_getD, List.getElem?_append_left (by omega), ← List.getD_eq_getElem?_getD]

/-- Reduced row echelon form with the pivots p. -/
structure RRE (n : Nat) (G : List (List Int)) (p : Nat → Nat) : Prop where
  shp : Shp K.D n G
  lt : ∀ i, i < G.length → p i < n
  mono : ∀ i j, i < j → j < G.length → p i < p j
  one : ∀ i j, i < G.length → j < G.length → (G.getD j []).getD (p i) 0 = if j = i then 1 else 0
  low : ∀ i q, i < G.length → q < p i → (G.getD i []).getD q 0 = 0
theorem Reach.rre {n : Nat} {rows : List (List Int)} (hs : Shp K.D n rows) {c t : Nat} {l : List (List Int)} {pv : List Int} (h : Reach K.D rows c t l pv) (hc : c ≤ n) (hend : c = n ∨ t = rows.length) :
    ∃ p, K.RRE n (l.take t) p ∧ (∀ i, i < t → pv.getD i 0 = (p i : Int)) ∧ (l.take t).length = t ∧ ∀ j, t ≤ j → j < l.length → ∀ q, (l.getD j []).getD q 0 = 0 := by
  obtain ⟨p, hE, hp⟩ := Reach.ech K hs h
  obtain ⟨f1, f2, f3, f4, f5⟩ := Reach.facts hs h
  have hlt : (l.take t).length = t := by simp; omega
  have hgd : ∀ i, i < t → (l.take t).getD i [] = l.getD i [] := fun i hi => by rw [List.getD_eq_getElem?_getD, List.getElem?_take_of_lt hi, ← List.getD_eq_getElem?_getD]
  refine ⟨p, ⟨fun r hr => f5 r (List.mem_of_mem_take hr), fun i hi => ?_, fun i j hij hj => hE.mono i j hij (by omega), fun i j hi hj => ?_, fun i q hi hq => ?_⟩, hp, hlt, fun j hj hjl q => ?_⟩
  · have := hE.lt i (by omega); omega
  · rw [hgd j (by omega)]; exact hE.one i j (by omega) (by omega)
  · rw [hgd i (by omega)]; exact hE.low i q (by omega) hq
  · rcases hend with h | h
    · by_cases hq : q < c
      · exact hE.rest j q hj hjl hq
      · exact getD_ge (by rw [(f5 _ (getD_mem_rows hjl)).1]; omega)
    · omega
/-- Elimination of a reduced form. -/
theorem RRE.again {n : Nat} {G : List (List Int)} {p : Nat → Nat} (hG : K.RRE n G p) {c t : Nat} {l : List (List Int)} {pv : List Int} (h : Reach K.D G c t l pv) : l = G ∧ (∀ i, i < t → p i < c) ∧ ∀ i, t ≤ i → i < G.length → c ≤ p i := by
  induction h with
  | start => exact ⟨rfl, fun i hi => by omega, fun i _ _ => by omega⟩
  | @skip c t l pv h ht hz ih =>
    obtain ⟨rfl, h1, h2⟩ := ih
    refine ⟨rfl, fun i hi => by have := h1 i hi; omega, fun i hi hil => ?_⟩
    have h3 := h2 t (Nat.le_refl _) ht
    have h4 : p t ≠ c := fun e => by
      have := hz t (Nat.le_refl _) ht
      rw [← e, hG.one t t ht ht, if_pos rfl] at this
      exact absurd this (by decide)
    by_cases hit : i = t
    · rw [hit]; omega
    · have := hG.mono t i (by omega) hil; omega
  | @step c t k l pv h htk hk hz hn ih =>
    obtain ⟨rfl, h1, h2⟩ := ih
    have ht : t < l.length := by omega
    have h3 := h2 t (Nat.le_refl _) ht
    have h4 : p t = c := by
      refine Classical.byContradiction fun hne => hn (hG.low k c hk ?_)
      by_cases hkt : k = t
      · rw [hkt]; omega
      · have := hG.mono t k (by omega) hk; omega
    have h5 : (l.getD t []).getD c 0 = 1 := by rw [← h4, hG.one t t ht ht, if_pos rfl]
    have hkt : k = t := by
      refine Classical.byContradiction fun hne => ?_
      have := hz t (Nat.le_refl _) (by omega)
      rw [h5] at this
      exact absurd this (by decide)
    subst hkt
    have hnr : normR K.D c (l.getD k []) = l.getD k [] := by unfold normR; rw [if_neg (by rw [h5]; simp)]
    refine ⟨?_, fun i hi => ?_, fun i hi hil => ?_⟩
    · apply List.ext_getElem?
      intro i
      by_cases hi : i < l.length
      · have := nextL_getD K.D c k k i l (Nat.le_refl _) hk hi
        rw [hnr] at this
        have e : (nextL K.D c k k l).getD i [] = l.getD i [] := by
          rw [this]
          by_cases hik : i = k
          · rw [if_pos hik, hik]
          · rw [if_neg hik, if_neg hik]
            unfold clearRow
            rw [if_neg]
            rw [← h4, hG.one k i hk hi, if_neg hik]
            simp
        rw [List.getD_eq_getElem?_getD, List.getD_eq_getElem?_getD, List.getElem?_eq_getElem (by rw [nextL_length]; exact hi), List.getElem?_eq_getElem hi] at e
        rw [List.getElem?_eq_getElem (by rw [nextL_length]; exact hi), List.getElem?_eq_getElem hi]
        exact congrArg some e
      · rw [List.getElem?_eq_none (by rw [nextL_length]; omega), List.getElem?_eq_none (by omega)]
    · by_cases hik : i = k
      · rw [hik]; omega
      · have := h1 i (by omega); omega
    · have := hG.mono k i (by omega) hil; omega
theorem RRE.fix {n : Nat} {G : List (List Int)} {p : Nat → Nat} (hG : K.RRE n G p) {c t : Nat} {l : List (List Int)} {pv : List Int} (h : Reach K.D G c t l pv) (hend : c = n ∨ t = G.length) : l = G ∧ t = G.length := by
  obtain ⟨h1, h2, h3⟩ := RRE.again K hG h
  have hf := Reach.facts hG.shp h
  refine ⟨h1, ?_⟩
  rcases hend with h | h
  · refine Classical.byContradiction fun hne => ?_
    have ht : t < G.length := by have := hf.2.1; rw [h1] at this; omega
    have h4 := h3 t (Nat.le_refl _) ht
    have h5 := hG.lt t ht
    omega
  · exact h
end FD
end Go.Proofs.Yticgblagimmlfaa
end
section
/- The document's test of a description is the program's; the laws Corrects and Shifts; plain Lean. -/
namespace Go.Proofs.Yticgblagimmlfaa
open CW CW.PS
set_option linter.unusedVariables false
set_option linter.unusedSimpArgs false

theorem all_range (f : Int → Bool) (l : List Int) : (List.range l.length).all (fun i => f (l.getD i 0)) = l.all f := by
  rw [Bool.eq_iff_iff, List.all_eq_true, List.all_eq_true]
  constructor
  · intro h x hx
    obtain ⟨i, hi, e⟩ := List.getElem_of_mem hx
    have := h i (List.mem_range.2 hi)
    rwa [List.getD_eq_getElem?_getD, List.getElem?_eq_getElem hi, Option.getD_some, e] at this
  · intro h i hi
    exact h _ (mem_getD l i (List.mem_range.1 hi))
theorem checkR_open (s : GD) : checkR s = s.open := by
  have hf := fcheckR_iff s.P s.M s.Mod
  unfold checkR GD.open
  by_cases h1 : fcheckR s.P s.M s.Mod = 0
  · have hfo := hf.1 h1
    obtain ⟨K, e1, e2, e3, e4⟩ := exists_K s hfo
    have his : isR s.P s.M = s.D.is := by
      funext x
      rw [e4, ← K.isR_eq, e1, e2]
    rw [if_neg (show ¬ fcheckR s.P s.M s.Mod ≠ 0 from fun h => h h1), if_neg (show ¬ fieldOk s.P s.M s.Mod = false by rw [hfo]; simp)]
    by_cases h2 : s.pts.length < 1 ∨ 64 < s.pts.length
    · rw [if_pos h2, if_pos h2]
    rw [if_neg h2, if_neg h2]
    by_cases h3 : s.mults.length ≠ s.pts.length
    · rw [if_pos h3, if_pos h3]
    rw [if_neg h3, if_neg h3]
    have h3' : s.mults.length = s.pts.length := Classical.not_not.1 h3
    unfold tailR
    rw [his]
    have hb : bothIs s.D.is s.pts s.mults s.pts.length = (s.pts.all s.D.is && s.mults.all s.D.is) := by
      rw [← all_range s.D.is s.pts, ← all_range s.D.is s.mults, h3']
      unfold bothIs
      rw [Bool.eq_iff_iff, Bool.and_eq_true, List.all_eq_true, List.all_eq_true, List.all_eq_true]
      constructor
      · intro h
        exact ⟨fun i hi => (Bool.and_eq_true _ _ ▸ h i hi).1, fun i hi => (Bool.and_eq_true _ _ ▸ h i hi).2⟩
      · intro h i hi
        rw [Bool.and_eq_true]
        exact ⟨h.1 i hi, h.2 i hi⟩
    have hz : (List.range s.pts.length).all (fun i => decide (s.mults.getD i 0 ≠ 0)) = false ↔ (0 : Int) ∈ s.mults := by
      rw [← h3']
      have := all_range (fun x => decide (x ≠ 0)) s.mults
      rw [this]
      rw [← Bool.not_eq_true, List.all_eq_true]
      constructor
      · intro h
        refine Classical.byContradiction fun hn => h fun x hx => decide_eq_true fun e => hn (e ▸ hx)
      · intro h hn
        exact of_decide_eq_true (hn 0 h) rfl
    rw [hb]
    by_cases h4 : s.pts.all s.D.is = false
    · rw [if_pos (by rw [h4]; rfl), if_pos h4]
    rw [if_neg h4]
    have h4' : s.pts.all s.D.is = true := by simpa using h4
    by_cases h5 : s.mults.all s.D.is = false
    · rw [if_pos (by rw [h4', h5]; rfl), if_pos h5]
    have h5' : s.mults.all s.D.is = true := by simpa using h5
    rw [if_neg (by rw [h4', h5']; simp), if_neg h5]
    by_cases h6 : ¬ s.pts.Nodup
    · rw [if_pos h6, if_pos h6]
    rw [if_neg h6, if_neg h6]
    by_cases h7 : (0 : Int) ∈ s.mults
    · rw [if_pos (hz.2 h7), if_pos h7]
    rw [if_neg (fun h => h7 (hz.1 h)), if_neg h7]
    by_cases h8 : s.K < 0
    · rw [if_pos (.inl h8), if_pos h8]
    by_cases h9 : (s.pts.length : Int) < s.K
    · rw [if_pos (.inr h9), if_neg h8, if_pos h9]
    · rw [if_neg (by omega), if_neg h8, if_neg h9]
  · rw [if_pos h1]
    have : fieldOk s.P s.M s.Mod = false := by
      cases h : fieldOk s.P s.M s.Mod with
      | false => rfl
      | true => exact absurd (hf.2 h) h1
    rw [if_pos this]
end Go.Proofs.Yticgblagimmlfaa
end
section
/- A codeword added to the received word is added to the result; plain Lean. -/
namespace Go.Proofs.Yticgblagimmlfaa
open CW CW.PS
set_option linter.unusedVariables false
set_option linter.unusedSimpArgs false

def minusZ (D : GFD) (a b : List Int) : List Int := (List.range a.length).map fun i => D.sub (a.getD i 0) (b.getD i 0)
namespace FD
variable (K : FD)
theorem encZ_all (pts mults msg : List Int) : (encZ K.D pts mults msg).all K.D.is = true := by
  rw [List.all_eq_true]
  intro x hx
  obtain ⟨t, -, rfl⟩ := List.mem_map.1 hx
  exact K.is_mul _ _
theorem el_encZ (pts mults msg : List Int) (i : Nat) (h1 : i < pts.length) (h2 : i < mults.length) : K.el ((encZ K.D pts mults msg).getD i 0) = K.el (mults.getD i 0) * pv (K.toP msg) (K.el (pts.getD i 0)) := by
  rw [encZ_getD _ _ _ _ _ h1 h2, el_mul, el_eval]
theorem is_encZ (pts mults msg : List Int) (i : Nat) : K.D.is ((encZ K.D pts mults msg).getD i 0) = true := by
  by_cases h : i < (encZ K.D pts mults msg).length
  · exact all_getD _ _ (K.encZ_all _ _ _) i h
  · rw [getD_out _ i (by omega)]; exact K.is_zero
end FD
theorem recvZ_zero' (f : Int → Bool) (l : List Int) (n : Nat) (er : List Int) (h : recvZ f l n er = 0) : l.length = n ∧ l.all f = true ∧ er.all (posB n) = true ∧ er.Nodup := by
  unfold recvZ at h
  by_cases h1 : l.length ≠ n
  · rw [if_pos h1] at h; cases h
  rw [if_neg h1] at h
  by_cases h2 : l.all f = false
  · rw [if_pos h2] at h; cases h
  rw [if_neg h2] at h
  by_cases h3 : er.all (posB n) = false
  · rw [if_pos h3] at h; cases h
  rw [if_neg h3] at h
  by_cases h4 : ¬ er.Nodup
  · rw [if_pos h4] at h; cases h
  exact ⟨by omega, by simpa using h2, by simpa using h3, Classical.not_not.1 h4⟩
end Go.Proofs.Yticgblagimmlfaa
end
section
/- Words in the row space. -/
namespace Go.Proofs.Yticgblagimmlfaa
open CW CW.PS RE
set_option linter.unusedVariables false
set_option linter.unusedSimpArgs false

/-- v minus the combination of the rows. -/
def restZ (D : GFD) (G : List (List Int)) (p : Nat → Nat) (v : List Int) : Nat → List Int
  | 0 => v
  | k + 1 => addToZ D (restZ D G p v k) (D.neg (v.getD (p k) 0)) (G.getD k [])
theorem restZ_length (D : GFD) (G : List (List Int)) (p : Nat → Nat) (v : List Int) : ∀ k, (restZ D G p v k).length = v.length
  | 0 => rfl
  | k + 1 => by show (addToZ D _ _ _).length = _; rw [addToZ_length, restZ_length D G p v k]
def inZ (D : GFD) (G : List (List Int)) (p : Nat → Nat) (v : List Int) : Bool := (restZ D G p v G.length).all fun x => decide (x = 0)

namespace FD
variable (K : FD)
def lc (G : List (List Int)) (p : Nat → Nat) (x : Nat → K.E) : Nat → Nat → K.E
  | 0, _ => 0
  | k + 1, j => lc G p x k j + x (p k) * K.vec (G.getD k []) j
theorem restZ_is {n : Nat} {G : List (List Int)} {p : Nat → Nat} {v : List Int} (hv : v.length = n ∧ ∀ j, K.D.is (v.getD j 0) = true) : ∀ k j, K.D.is ((restZ K.D G p v k).getD j 0) = true
  | 0, j => hv.2 j
  | k + 1, j => (K.shp_addTo (n := n) _ ⟨by rw [restZ_length]; exact hv.1, fun j => restZ_is hv k j⟩).2 j
theorem vec_rest {n : Nat} {G : List (List Int)} {p : Nat → Nat} {v : List Int} (hv : v.length = n) (hG : Shp K.D n G) : ∀ k, k ≤ G.length → ∀ j, K.vec (restZ K.D G p v k) j = K.vec v j - K.lc G p (K.vec v) k j
  | 0, _, j => by
    show K.vec v j = _ - 0
    exact ring_id [K.vec v j] x0 (x0 - 0) rfl
  | k + 1, hk, j => by
    show K.vec (addToZ K.D _ _ _) j = _ - (K.lc G p (K.vec v) k j + _)
    rw [K.vec_addTo _ _ _ (by rw [restZ_length, hv]; exact (hG _ (getD_mem_rows (by omega))).1), vec_rest hv hG k (by omega) j, K.el_neg]
    exact ring_id [K.vec v j, K.lc G p (K.vec v) k j, K.el (v.getD (p k) 0), K.vec (G.getD k []) j] (x0 - x1 + -x2 * x3) (x0 - (x1 + x2 * x3)) rfl
theorem lc_lin (G : List (List Int)) (p : Nat → Nat) (x y : Nat → K.E) (a : K.E) (j : Nat) : ∀ k, K.lc G p (fun j => x j + a * y j) k j = K.lc G p x k j + a * K.lc G p y k j
  | 0 => by
    show (0 : K.E) = 0 + a * 0
    exact ring_id [a] 0 (0 + x0 * 0) rfl
  | k + 1 => by
    show K.lc G p _ k j + (x (p k) + a * y (p k)) * _ = K.lc G p x k j + _ + a * (K.lc G p y k j + _)
    rw [lc_lin G p x y a j k]
    exact ring_id [K.lc G p x k j, a, K.lc G p y k j, x (p k), y (p k), K.vec (G.getD k []) j] (x0 + x1 * x2 + (x3 + x1 * x4) * x5) (x0 + x3 * x5 + x1 * (x2 + x4 * x5)) rfl
theorem lc_zero (G : List (List Int)) (p : Nat → Nat) (j : Nat) : ∀ k, K.lc G p (fun _ => 0) k j = 0
  | 0 => rfl
  | k + 1 => by
    show K.lc G p _ k j + 0 * _ = 0
    rw [lc_zero G p j k]
    exact ring_id [K.vec (G.getD k []) j] (0 + 0 * x0) 0 rfl
theorem lin_lc (G : List (List Int)) (p : Nat → Nat) (k : Nat) : K.Lin (fun x => ∀ j, x j = K.lc G p x k j) :=
  ⟨fun j => (K.lc_zero G p j k).symm, fun v u a hv hu j => by rw [K.lc_lin G p v u a j k, ← hv j, ← hu j]⟩
theorem lc_row {n : Nat} {G : List (List Int)} {p : Nat → Nat} (hG : K.RRE n G p) {i : Nat} (hi : i < G.length) (j : Nat) : ∀ k, k ≤ G.length → K.lc G p (K.vec (G.getD i [])) k j = if i < k then K.vec (G.getD i []) j else 0
  | 0, _ => by rw [if_neg (by omega)]; rfl
  | k + 1, hk => by
    show K.lc G p _ k j + K.vec (G.getD i []) (p k) * _ = _
    rw [lc_row hG hi j k (by omega)]
    have h1 : K.vec (G.getD i []) (p k) = if i = k then 1 else 0 := by
      show K.el ((G.getD i []).getD (p k) 0) = _
      rw [hG.one k i (by omega) hi]
      split
      · exact K.el_one
      · exact K.el_zero
    rw [h1]
    by_cases hik : i = k
    · subst hik
      rw [if_pos rfl, if_neg (by omega), if_pos (by omega)]
      exact ring_id [K.vec (G.getD i []) j] (0 + 1 * x0) x0 rfl
    · rw [if_neg hik]
      by_cases h2 : i < k
      · rw [if_pos h2, if_pos (by omega)]
        exact ring_id [K.vec (G.getD i []) j, K.vec (G.getD k []) j] (x0 + 0 * x1) x0 rfl
      · rw [if_neg h2, if_neg (by omega)]
        exact ring_id [K.vec (G.getD k []) j] (0 + 0 * x0) 0 rfl
/-- A word is reduced to 0 just if it lies in the row space. -/
theorem inZ_span {n : Nat} {G : List (List Int)} {p : Nat → Nat} (hG : K.RRE n G p) {v : List Int} (hv : v.length = n ∧ ∀ j, K.D.is (v.getD j 0) = true) :
    inZ K.D G p v = true ↔ ∀ P, K.Lin P → K.AllP P G → P (K.vec v) := by
  have hr := K.vec_rest (p := p) hv.1 hG.shp G.length (Nat.le_refl _)
  unfold inZ
  rw [List.all_eq_true]
  constructor
  · intro h P hP hA
    have hz : ∀ j, K.vec (restZ K.D G p v G.length) j = 0 := fun j => by
      show K.el ((restZ K.D G p v G.length).getD j 0) = 0
      rw [← K.el_zero]
      congr 1
      by_cases hj : j < (restZ K.D G p v G.length).length
      · rw [List.getD_eq_getElem?_getD, List.getElem?_eq_getElem hj]
        exact of_decide_eq_true (h _ (List.getElem_mem hj))
      · exact getD_ge (by omega)
    have hlc : ∀ k, k ≤ G.length → P (K.lc G p (K.vec v) k) := by
      intro k
      induction k with
      | zero => intro _; exact hP.zero
      | succ k ih => intro hk; exact hP.add _ _ _ (ih (by omega)) (hA k (by omega))
    have he : K.vec v = K.lc G p (K.vec v) G.length := by
      funext j
      have := hr j
      rw [hz j] at this
      have h2 : K.vec v j = K.lc G p (K.vec v) G.length j + (K.vec v j - K.lc G p (K.vec v) G.length j) := ring_id [K.vec v j, K.lc G p (K.vec v) G.length j] x0 (x1 + (x0 - x1)) rfl
      rw [h2, ← this, add_zero]
    rw [he]
    exact hlc _ (Nat.le_refl _)
  · intro h x hx
    have h1 := h _ (K.lin_lc G p G.length) (fun i hi j => by rw [K.lc_row hG hi j _ (Nat.le_refl _), if_pos hi])
    obtain ⟨j, hj, rfl⟩ := List.mem_iff_getElem.1 hx
    have h2 := hr j
    rw [← h1 j] at h2
    have h3 : K.vec v j - K.vec v j = 0 := ring_id [K.vec v j] (x0 - x0) 0 rfl
    rw [h3] at h2
    have h4 : (restZ K.D G p v G.length).getD j 0 = 0 := K.el_inj (K.restZ_is hv _ _) K.is_zero (by rw [K.el_zero]; exact h2)
    rw [List.getD_eq_getElem?_getD, List.getElem?_eq_getElem hj] at h4
    exact decide_eq_true h4
end FD
end Go.Proofs.Yticgblagimmlfaa
end
section
/- The reference: Canon. -/
namespace Go.Proofs.Yticgblagimmlfaa
open Go.RowKit Go.Proofs.YticgblagimmlfaaW.PrintWords Go.Proofs.YticgblagimmlfaaW.PrintLast Go.Proofs.YticgblagimmlfaaW.PrintMore
set_option linter.unusedVariables false
set_option linter.unusedSimpArgs false

theorem OA.take {w : World} {base t : Nat} {A : Option Addr} {ls : List (List Int)} (h : OA w base A ls) (ht : t ≤ ls.length) : OA w base A (ls.take t) :=
  ⟨fun i hi => by
    have hl : (ls.take t).length = t := by simp; omega
    rw [hl] at hi
    obtain ⟨g, v, e, hb, hc, hf, hr⟩ := h.out i (by omega)
    exact ⟨g, v, e, hb, hc, hf, by rw [List.getD_eq_getElem?_getD, List.getElem?_take_of_lt hi, ← List.getD_eq_getElem?_getD]; exact hr⟩,
  fun i hi g v k e hc h0 hk => by
    have hl : (ls.take t).length = t := by simp; omega
    rw [hl] at hi
    rw [List.getD_eq_getElem?_getD, List.getElem?_take_of_lt hi, ← List.getD_eq_getElem?_getD] at h0
    exact h.inb i (by omega) g v k e hc h0 hk,
  fun g e hp => h.blk g e (by simp at hp; omega)⟩
/-- What Canon returns. -/
structure CanonOut (R : Nat → Nat → List (List Int) → List Int → Prop) (n N : Nat) (w' : World) (base : Nat) (e : Ending) : Prop where mk ::
  out : ∃ (A1 : Option Addr) (c1 : Nat) (l : List (List Int)) (v2 : Value) (pv : List Int) (t cc : Nat), e = .returned (.tuple #[.slice A1 t c1, v2]) ∧ OA w' base A1 (l.take t) ∧ (l.take t).length = t ∧ t ≤ c1 ∧ t ≤ N ∧ R cc t l pv ∧ cc ≤ n ∧ (cc = n ∨ t = N)
set_option maxHeartbeats 8000000 in
set_option maxRecDepth 100000 in
theorem rCanon {w : World} {A B : Option Addr} {c d n : Nat} (K : FD) (hC : Kd.C (Kd.int .i64) w A K.Mod.length K.Mod) {ls : List (List Int)} (hl : Kd.C (Kd.slice 3 (Kd.int .i64)) w B ls.length ls) (h1 : ls.length ≤ 1000) (hn : n ≤ 1000) (hs : Shp K.D n ls) :
    Calls Try.prog 114 #[.agg #[.int .i64 K.P, .int .i64 (K.m : Int), .slice A K.Mod.length c], .slice B ls.length d, .int .i64 n] w fun e w' => CanonOut (Reach K.D ls) n ls.length w' w.heap.size e ∧ Below w.heap.size w w' := by
  have hF0 := FAt.new w K.P (K.m : Int) A K.Mod.length c
  obtain ⟨w0, hw0⟩ : ∃ w0, w.alloc (.cells #[.int .i64 K.P, .int .i64 (K.m : Int), .slice A K.Mod.length c] 27) = w0 := ⟨_, rfl⟩
  have hB0 : Below w.heap.size w w0 := by rw [← hw0]; exact below_alloc (Below.refl _ _) _
  rw [hw0] at hF0
  have HB0 := Aside0.mk hB0
  have HW := Aside0.mk hw0
  have hE := rElim (c := c) (d := d) K (Kd.C_below hC hB0) (Kd.C_below hl hB0) h1 hn hs
  have HFacts := Aside0.mk (fun (cc t : Nat) (l : List (List Int)) (pv : List Int) (h : Reach K.D ls cc t l pv) => Reach.facts hs h)
  obtain ⟨RR, hRR⟩ : ∃ R : Nat → Nat → List (List Int) → List Int → Prop, Reach K.D ls = R := ⟨_, rfl⟩
  rw [hRR] at hE HFacts ⊢
  obtain ⟨N, hN⟩ : ∃ N, ls.length = N := ⟨_, rfl⟩
  rw [hN] at hE HFacts h1 ⊢
  have HE := Aside0.mk hE
  obtain ⟨cP, cM, cD⟩ := hF0
  clear hB0 hw0 hC hl hs hN hRR hE
  go_enter Try.func114, Try.ntmps114
  go_upto_region 1 with (fail)
  rw [HW.out]
  go_upto_region 2 with (go_at_call 146; refine HE.out.mono ?_; rintro e w1 ⟨hO, hB⟩; obtain ⟨A1, c1, l, v2, pv, t, cc, rfl, ho, hc1, hv2, hr, hcn, hend⟩ := hO.out; obtain ⟨A2, c2, rfl, -, -⟩ := hv2.slice; obtain ⟨f1, f2, f3, f4, -⟩ := HFacts.out _ _ _ _ hr; rw [f1] at f2; rw [f4]; have HO1 := Aside0.mk ho; have HR := Aside0.mk hr; have HEnd := Aside0.mk hend; have HB1 := Aside0.mk hB; have F1 := Aside0.mk f1; have F4 := Aside0.mk f4; clear ho hO hB hv2 hr hend f1 f4)
  have it0 : (0 : Int) ≤ (t : Int) := by omega
  have it1 : (t : Int) ≤ (c1 : Int) := by omega
  have it2 : (t : Int) ≤ (N : Int) := by omega
  go_wp2
  go_ret2
  exact ⟨⟨A1, c1, l, _, pv, t, cc, rfl, (HO1.out.take (by rw [F1.out]; exact f2)).lower HB0.out.size, by rw [List.length_take, F1.out]; omega, by omega, f2, HR.out, hcn, HEnd.out⟩, below_later HB0.out HB0.out.size HB1.out⟩

/-- The pivots' list. -/
def pvZ (p : Nat → Nat) (k : Nat) : List Int := (List.range k).map fun i => (p i : Int)
theorem pvZ_succ (p : Nat → Nat) (k : Nat) : pvZ p (k + 1) = pvZ p k ++ [(p k : Int)] := by simp [pvZ, List.range_succ]
theorem pvZ_length (p : Nat → Nat) (k : Nat) : (pvZ p k).length = k := by simp [pvZ]
theorem pvZ_getD (p : Nat → Nat) (k i : Nat) (h : i < k) : (pvZ p k).getD i 0 = (p i : Int) := range_map_getD _ _ _ h
set_option maxHeartbeats 8000000 in
set_option maxRecDepth 100000 in
theorem rPivots {w : World} {A : Option Addr} {c n : Nat} (K : FD) {G : List (List Int)} {p : Nat → Nat} (hG : K.RRE n G p) (hl : Kd.C (Kd.slice 3 (Kd.int .i64)) w A G.length G) (h1 : G.length ≤ 1000) (hn : n ≤ 1000) :
    Calls Try.prog 144 #[.slice A G.length c] w fun e w' => ∃ v, e = .returned v ∧ Own w' w.heap.size v (pvZ p G.length) ∧ Below w.heap.size w w' := by
  have HL := Aside0.mk hl
  have HG := Aside0.mk hG
  have HBz := Aside0.mk (Below.refl w.heap.size w)
  obtain ⟨f, hf⟩ : ∃ f, pvZ p = f := ⟨_, rfl⟩
  have HS : Aside0 (∀ k, f (k + 1) = f k ++ [(p k : Int)]) := ⟨fun k => by rw [← hf]; exact pvZ_succ p k⟩
  have HFl : Aside0 (∀ k, (f k).length = k) := ⟨fun k => by rw [← hf]; exact pvZ_length p k⟩
  have H0 : Aside0 (Own w w.heap.size (.slice none 0 0) (f 0)) := ⟨by rw [← hf]; exact Own.nil _ _⟩
  rw [hf]
  obtain ⟨N, hN⟩ : ∃ N, G.length = N := ⟨_, rfl⟩
  have HN := Aside0.mk hN
  rw [hN] at HL h1 ⊢
  clear hl hG hf hN
  go_enter Try.func144, Try.ntmps144
  go_wp2
  go_loopw [3, 4] (fun v3 v4 w' => ∃ k : Nat, v4 = .int .i64 k ∧ k ≤ N ∧ Aside0 (Own w' w.heap.size v3 (f k)) ∧ Aside0 (Below w.heap.size w w')) (fun _ v4 _ => N - (intOf v4).toNat)
  case atStart => exact ⟨0, rfl, by omega, H0, HBz⟩
  case round =>
    clear H0 HBz
    obtain ⟨k, rfl, hk, HO, HB⟩ := hrel
    obtain ⟨A3, c3, e3, -, -⟩ := HO.out.slice
    rw [HFl.out] at e3
    by_cases hlk : k < N
    · obtain ⟨ad, B, d, e, hx, hx2, hx3⟩ := rows_at (Kd.C_below HL.out HB.out) k hlk
      cases e
      have hrl := (HG.out.shp _ (getD_mem_rows (by rw [HN.out]; exact hlk))).1
      have hone := HG.out.one k k (by rw [HN.out]; exact hlk) (by rw [HN.out]; exact hlk)
      have hlow := fun q hq => HG.out.low k q (by rw [HN.out]; exact hlk) hq
      have hpn := HG.out.lt k (by rw [HN.out]; exact hlk)
      rw [if_pos rfl] at hone
      obtain ⟨r, hr⟩ : ∃ r, G.getD k [] = r := ⟨_, rfl⟩
      rw [hr] at hx hx2 hx3 hrl hone
      simp only [hr] at hlow
      rw [hrl] at hx hx2
      have HX3 := Aside0.mk hx3
      have HRl := Aside0.mk hrl
      have HOne := Aside0.mk hone
      have HLow := Aside0.mk hlow
      subst e3
      clear hr hx3 hrl hone hlow
      have i0 : (0 : Int) ≤ (k : Int) := by omega
      have i1 : (k : Int) < (N : Int) := by omega
      go_upto_region 6 with (fail)
      go_loop [5] (fun v5 => ∃ q : Nat, v5 = .int .i64 q ∧ q ≤ p k) (fun v5 => n - (intOf v5).toNat)
      case atStart => exact ⟨0, rfl, by omega⟩
      case round =>
        obtain ⟨q, rfl, hq⟩ := hrel
        obtain ⟨ad2, e, hy⟩ := C_nat HX3.out q (by rw [HRl.out]; omega)
        cases e
        have iq0 : (0 : Int) ≤ (q : Int) := by omega
        have iq1 : (q : Int) < (n : Int) := by omega
        by_cases hqp : q = p k
        · subst hqp
          rw [HOne.out] at hy
          go_wp2_with ((with_reducible refine gate_builtin (b := .append) (xs := #[.tmp 31, .tmp 33]) rfl ?_); at_builtin; refine append_own4 (w0 := w) w.heap.size rfl (.tmp 31) (.tmp 33) rfl (v := .slice A3 k c3) (xs := f k) (p k : Int) rfl rfl HO.out HB.out HB.out.size (by rw [HFl.out]; omega) ?_; intro v5 w5 h5 hb5 hg5 hat5; rw [← HS.out] at h5; have HO7 := Aside0.mk h5; have HB7 := Aside0.mk hb5; clear h5 hb5 hg5 hat5)
          go_roundw
          case rel => exact ⟨k + 1, by go_num, by omega, HO7, HB7⟩
          case measure => simp [intOf]; omega
        · rw [HLow.out q (by omega)] at hy
          go_wp2
          go_round
          case rel => exact ⟨q + 1, by go_num, by omega⟩
          case measure => simp [intOf]; omega
    · obtain rfl : k = N := by omega
      subst e3
      go_wp2
      go_ret
      exact ⟨_, rfl, HO.out, HB.out⟩

set_option maxHeartbeats 8000000 in
set_option maxRecDepth 100000 in
theorem rRest {w : World} {A B V : Option Addr} {c d n cv : Nat} (K : FD) (hC : Kd.C (Kd.int .i64) w A K.Mod.length K.Mod) {G : List (List Int)} {p : Nat → Nat} (hG : K.RRE n G p) (hl : Kd.C (Kd.slice 3 (Kd.int .i64)) w B G.length G) (h1 : G.length ≤ 1000) (hn : n ≤ 1000) {v : List Int} (hv : Kd.C (Kd.int .i64) w V v.length v) (hvl : v.length = n) :
    Calls Try.prog 113 #[.agg #[.int .i64 K.P, .int .i64 (K.m : Int), .slice A K.Mod.length c], .slice B G.length d, .slice V v.length cv] w fun e w' => ∃ u, e = .returned u ∧ Own w' w.heap.size u (restZ K.D G p v G.length) ∧ Below w.heap.size w w' := by
  have hF0 := FAt.new w K.P (K.m : Int) A K.Mod.length c
  obtain ⟨w0, hw0⟩ : ∃ w0, w.alloc (.cells #[.int .i64 K.P, .int .i64 (K.m : Int), .slice A K.Mod.length c] 27) = w0 := ⟨_, rfl⟩
  have hB0 : Below w.heap.size w w0 := by rw [← hw0]; exact below_alloc (Below.refl _ _) _
  rw [hw0] at hF0
  have HB0 := Aside0.mk hB0
  have HW := Aside0.mk hw0
  have HF := Aside0.mk hF0
  have HL := Aside0.mk (Kd.C_below hl hB0)
  have HV := Aside0.mk (Kd.C_below hv hB0)
  have HMod := Aside0.mk (Kd.C_below hC hB0)
  have HG := Aside0.mk hG
  have HPv := Aside0.mk (rPivots (c := d) K hG (Kd.C_below hl hB0) h1 hn)
  have HNeg := Aside0.mk (fun (w1 : World) (y : Int) => rNeg (w := w1) (A := A) (n := K.Mod.length) (c := c) K y)
  have HAdT := Aside0.mk (fun (w1 : World) (hb : Below w0.heap.size w0 w1) (x : Int) (D E : Option Addr) (dd ee : Nat) (a b : List Int) (ha : Kd.C (Kd.int .i64) w1 D a.length a) (hb' : Kd.C (Kd.int .i64) w1 E b.length b) (hab : a.length ≤ b.length) (hal : a.length ≤ 1000) => rAddTo (c := c) (d := dd) (ee := ee) K (Kd.C_below HMod.out hb) x ha hb' hab hal)
  obtain ⟨f, hf⟩ : ∃ f, restZ K.D G p v = f := ⟨_, rfl⟩
  have HS : Aside0 (∀ k, f (k + 1) = addToZ K.D (f k) (K.D.neg (v.getD (p k) 0)) (G.getD k [])) := ⟨fun k => by rw [← hf]; rfl⟩
  have HFl : Aside0 (∀ k, (f k).length = n) := ⟨fun k => by rw [← hf, restZ_length]; exact hvl⟩
  have HF0e : Aside0 (f 0 = v) := ⟨by rw [← hf]; rfl⟩
  have HPg := Aside0.mk (fun i h => pvZ_getD p G.length i h)
  have HPl := Aside0.mk (pvZ_length p G.length)
  obtain ⟨PV, hPV⟩ : ∃ PV, pvZ p G.length = PV := ⟨_, rfl⟩
  rw [hPV] at HPv HPg HPl
  rw [hf]
  obtain ⟨N, hN⟩ : ∃ N, G.length = N := ⟨_, rfl⟩
  have HN := Aside0.mk hN
  have HVl := Aside0.mk hvl
  rw [hN] at HL h1 HPv HPg HPl ⊢
  clear hF0 hB0 hw0 hC hl hG hf hN hPV hv hvl
  go_enter Try.func113, Try.ntmps113
  go_upto_region 1 with (fail)
  rw [HW.out]
  go_upto_region 2 with (go_at_call 144; refine HPv.out.mono ?_; rintro e w1 ⟨v1, rfl, hO, hB⟩; obtain ⟨Ap, cp, rfl, hcp, hCp⟩ := hO.slice; rw [HPl.out]; rw [HPl.out] at hCp; have HCp := Aside0.mk hCp; have HB1 := Aside0.mk hB; have HLit := Aside0.mk (own_lit0 w1); have HBa := Aside0.mk (below_alloc (Below.refl w1.heap.size w1) (.cells #[] 3)); clear hO hB hcp hCp)
  go_wp2_with ((with_reducible refine gate_builtin (b := .append) (xs := #[.tmp 12, .tmp 13]) rfl ?_); at_builtin; refine append_list (w0 := w1) (base := w1.heap.size) rfl (.tmp 12) (.tmp 13) rfl rfl rfl HLit.out HBa.out.size (Kd.C_below (Kd.C_below HV.out HB1.out) HBa.out) HBa.out (by simp; have := HVl.out; omega) ?_; intro v6 w6 h6 hb6; rw [List.nil_append] at h6; obtain ⟨A6, c6, rfl, -, -⟩ := h6.slice; have HO6 := Aside0.mk h6; have HB6 := Aside0.mk (below_later HB1.out HB1.out.size hb6); have HB6a := Aside0.mk hb6; clear h6 hb6)
  have H0 : Aside0 (Own w6 w0.heap.size (.slice A6 v.length c6) (f 0)) := ⟨by rw [HF0e.out]; exact HO6.out.lower HB1.out.size⟩
  go_loopw [8, 9] (fun v8 v9 w' => ∃ k : Nat, v9 = .int .i64 k ∧ k ≤ N ∧ Aside0 (Own w' w0.heap.size v8 (f k)) ∧ Aside0 (Below w0.heap.size w0 w') ∧ Aside0 (Below w1.heap.size w1 w')) (fun _ v9 _ => N - (intOf v9).toNat)
  case atStart => exact ⟨0, rfl, by omega, H0, HB6, HB6a⟩
  case round =>
    clear H0 HB6 HB6a
    obtain ⟨k, rfl, hk, HO, HB, HB1r⟩ := hrel
    obtain ⟨A8, c8, e8, -, hC8⟩ := HO.out.slice
    rw [HFl.out] at e8 hC8
    subst e8
    by_cases hlk : k < N
    · obtain ⟨ad, B2, d2, e, hx, hx2, hx3⟩ := rows_at (Kd.C_below HL.out HB.out) k hlk
      cases e
      have hrl := (HG.out.shp _ (getD_mem_rows (by rw [HN.out]; exact hlk))).1
      have hpn := HG.out.lt k (by rw [HN.out]; exact hlk)
      obtain ⟨r, hr⟩ : ∃ r, G.getD k [] = r := ⟨_, rfl⟩
      rw [hr] at hx hx2 hx3 hrl
      have hCp : Kd.C (Kd.int .i64) w1 Ap PV.length PV := by rw [HPl.out]; exact HCp.out
      obtain ⟨adp, e, hy⟩ := C_nat (Kd.C_below hCp HB1r.out) k (by rw [HPl.out]; exact hlk)
      clear hCp
      cases e
      rw [HPg.out k hlk] at hy
      obtain ⟨adv, e, hz⟩ := C_nat (Kd.C_below HV.out HB.out) (p k) (by rw [HVl.out]; exact hpn)
      cases e
      have hsk := HS.out k
      rw [hr] at hsk
      obtain ⟨y, hye⟩ : ∃ y, v.getD (p k) 0 = y := ⟨_, rfl⟩
      rw [hye] at hz hsk
      obtain ⟨nz, hnz⟩ : ∃ nz, K.D.neg y = nz := ⟨_, rfl⟩
      rw [hnz] at hsk
      obtain ⟨q, hq⟩ : ∃ q : Nat, p k = q := ⟨_, rfl⟩
      rw [hq] at hy hz hpn
      have HNz : Aside0 (∀ w4 : World, Calls Try.prog 84 #[.agg #[.int .i64 K.P, .int .i64 (K.m : Int), .slice A K.Mod.length c], .int .i64 y] w4 fun e w' => e = .returned (.int .i64 nz) ∧ Below w4.heap.size w4 w') := ⟨fun w4 => by rw [← hnz]; exact HNeg.out w4 y⟩
      have HX3 := Aside0.mk hx3
      have HC8 := Aside0.mk hC8
      have HAd1 := Aside0.mk (fun (w4 : World) (hb : Below wr.heap.size wr w4) => HAdT.out w4 (below_later HB.out HB.out.size hb) nz A8 B2 c8 d2 (f k) r (Kd.C_below (by rw [HFl.out]; exact HC8.out) hb) (Kd.C_below HX3.out hb) (by rw [HFl.out, hrl]; exact Nat.le_refl _) (by rw [HFl.out]; exact hn))
      simp only [HFl.out] at HAd1
      rw [← hsk] at HAd1
      obtain ⟨cP, cM, cD⟩ := HF.out.below HB.out
      have i0 : (0 : Int) ≤ (k : Int) := by omega
      have i1 : (k : Int) < (N : Int) := by omega
      have iq0 : (0 : Int) ≤ (q : Int) := by omega
      have iq1 : (q : Int) < (v.length : Int) := by have := HVl.out; omega
      clear hr hye hnz hq hsk hx3 hC8 hrl
      go_upto_region 6 with (fail)
      go_region_held3 (fun w' => w'.cell? ⟨w.heap.size, 0, none⟩ = some (.int .i64 K.P) ∧ w'.cell? ⟨w.heap.size, 1, none⟩ = some (.int .i64 (K.m : Int)) ∧ w'.cell? ⟨w.heap.size, 2, none⟩ = some (.slice A K.Mod.length c) ∧ w'.cell? (ad.add k) = some (.slice B2 r.length d2) ∧ w'.cell? (adp.add k) = some (.int .i64 q) ∧ w'.cell? (adv.add q) = some (.int .i64 y)) (first | exact ⟨‹_›, ‹_›, ‹_›, ‹_›, ‹_›, ‹_›⟩ | go_keep) (first
        | (go_at_call 84; refine Calls.mono (HNz.out _) ?_; rintro e w4 ⟨rfl, hB⟩; have HB4 : Aside0 (Below wr.heap.size wr w4) := ⟨below_step (below_drew1 (Below.refl _ _)) hB⟩; have cP4 := pw_cell_below HB4.out cP; have cM4 := pw_cell_below HB4.out cM; have cD4 := pw_cell_below HB4.out cD; have hx4 := pw_cell_below HB4.out hx; have hy4 := pw_cell_below HB4.out hy; have hz4 := pw_cell_below HB4.out hz; clear hB)
        | (go_at_call 145; (with_reducible refine Calls.mono (HAd1.out _ HB4.out) ?_); rintro e w5 ⟨v5, rfl, hO, hB⟩; have HO5 := Aside0.mk hO; have HB5 : Aside0 (Below wr.heap.size wr w5) := ⟨below_later HB4.out HB4.out.size hB⟩; have HB5s := Aside0.mk HB4.out.size; have cP5 := pw_cell_below HB5.out cP; have cM5 := pw_cell_below HB5.out cM; have cD5 := pw_cell_below HB5.out cD; have hx5 := pw_cell_below HB5.out hx; have hy5 := pw_cell_below HB5.out hy; have hz5 := pw_cell_below HB5.out hz; clear hO hB))
      have HO6 := Aside0.mk (HO5.out.lower (Nat.le_trans HB.out.size HB5s.out))
      have HB6 := Aside0.mk (below_later HB.out HB.out.size HB5.out)
      have HB7 := Aside0.mk (below_later HB1r.out HB1r.out.size HB5.out)
      go_wp2_with (fail)
      go_roundw
      case rel => exact ⟨k + 1, by go_num, by omega, HO6, HB6, HB7⟩
      case measure => simp [intOf]; omega
    · obtain rfl : k = N := by omega
      go_wp2
      go_ret
      exact ⟨_, rfl, HO.out.lower HB0.out.size, below_later HB0.out HB0.out.size HB.out⟩

end Go.Proofs.Yticgblagimmlfaa
end
section
/- The reference: SameRows. -/
namespace Go.Proofs.Yticgblagimmlfaa
open Go.RowKit Go.Proofs.YticgblagimmlfaaW.PrintWords Go.Proofs.YticgblagimmlfaaW.PrintLast Go.Proofs.YticgblagimmlfaaW.PrintMore
set_option linter.unusedVariables false
set_option linter.unusedSimpArgs false

set_option maxHeartbeats 8000000 in
set_option maxRecDepth 100000 in
theorem rSameRows {w : World} {A B : Option Addr} {c d : Nat} {G : List (List Int)} (ha : Kd.C (Kd.slice 3 (Kd.int .i64)) w A G.length G) (hb : Kd.C (Kd.slice 3 (Kd.int .i64)) w B G.length G) :
    Calls Try.prog 161 #[.slice A G.length c, .slice B G.length d] w fun e w' => e = .returned (.bool true) ∧ Below w.heap.size w w' := by
  have HA := Aside0.mk ha
  have HBb := Aside0.mk hb
  have hmx := Kd.C_max ha
  have HBz := Aside0.mk (Below.refl w.heap.size w)
  have hnn : ((G.length : Int) != (G.length : Int)) = false := by simp
  clear ha hb
  go_enter Try.func161, Try.ntmps161
  go_wp2
  go_loopw [5] (fun v5 w' => ∃ k : Nat, v5 = .int .i64 k ∧ k ≤ G.length ∧ Aside0 (Below w.heap.size w w')) (fun v5 _ => G.length - (intOf v5).toNat)
  case atStart => exact ⟨0, rfl, by omega, HBz⟩
  case round =>
    clear HBz
    obtain ⟨k, rfl, hk, HB⟩ := hrel
    by_cases hlk : k < G.length
    · obtain ⟨ad, B1, d1, e, hx, -, hx3⟩ := rows_at (Kd.C_below HA.out HB.out) k hlk
      cases e
      obtain ⟨ad2, B2, d2, e, hy, -, hy3⟩ := rows_at (Kd.C_below HBb.out HB.out) k hlk
      cases e
      obtain ⟨r, hr⟩ : ∃ r, G.getD k [] = r := ⟨_, rfl⟩
      rw [hr] at hx hx3 hy hy3
      have i0 : (0 : Int) ≤ (k : Int) := by omega
      have i1 : (k : Int) < (G.length : Int) := by omega
      have HS1 := Aside0.mk (fun (w1 : World) (hb : Below wr.heap.size wr w1) => rSameInts (c := d1) (d := d2) (Kd.C_below hx3 hb) (Kd.C_below hy3 hb))
      have hcx : ∀ j : Ext wr, j.wd.cell? (ad.add k) = some (.slice B1 r.length d1) := fun j => j.cell hx
      have hcy : ∀ j : Ext wr, j.wd.cell? (ad2.add k) = some (.slice B2 r.length d2) := fun j => j.cell hy
      clear hr hx3 hy3 hx hy
      go_wp2
      refine wp_region_ext (by kernel_rfl) (by kernel_rfl) ?_
      repeat (go_big_quiet_step ((go_at_call 173; with_reducible exact Ext.call _ (HS1.out _ (Ext.below _)))))
      refine wpQuiet_nil ?_
      intro w1 hB1
      have HB1 := Aside0.mk (below_later HB.out HB.out.size hB1)
      clear hcx hcy hB1
      go_wp2
      go_roundw
      case rel => exact ⟨k + 1, by go_num, by omega, HB1⟩
      case measure => simp [intOf]; omega
    · obtain rfl : k = G.length := by omega
      go_wp2
      go_ret
      exact ⟨rfl, HB.out⟩
end Go.Proofs.Yticgblagimmlfaa
end
section
/- The reference: In. -/
namespace Go.Proofs.Yticgblagimmlfaa
open Go.RowKit Go.Proofs.YticgblagimmlfaaW.PrintWords Go.Proofs.YticgblagimmlfaaW.PrintLast Go.Proofs.YticgblagimmlfaaW.PrintMore
set_option linter.unusedVariables false
set_option linter.unusedSimpArgs false

set_option maxHeartbeats 8000000 in
set_option maxRecDepth 100000 in
theorem rIn {w : World} {A B V : Option Addr} {c d n cv : Nat} (K : FD) (hC : Kd.C (Kd.int .i64) w A K.Mod.length K.Mod) {G : List (List Int)} {p : Nat → Nat} (hG : K.RRE n G p) (hl : Kd.C (Kd.slice 3 (Kd.int .i64)) w B G.length G) (h1 : G.length ≤ 1000) (hn : n ≤ 1000) {v : List Int} (hv : Kd.C (Kd.int .i64) w V v.length v) (hvl : v.length = n) :
    Calls Try.prog 74 #[.agg #[.int .i64 K.P, .int .i64 (K.m : Int), .slice A K.Mod.length c], .slice B G.length d, .slice V v.length cv] w fun e w' => e = .returned (.bool (inZ K.D G p v)) ∧ Below w.heap.size w w' := by
  have hF0 := FAt.new w K.P (K.m : Int) A K.Mod.length c
  obtain ⟨w0, hw0⟩ : ∃ w0, w.alloc (.cells #[.int .i64 K.P, .int .i64 (K.m : Int), .slice A K.Mod.length c] 27) = w0 := ⟨_, rfl⟩
  have hB0 : Below w.heap.size w w0 := by rw [← hw0]; exact below_alloc (Below.refl _ _) _
  rw [hw0] at hF0
  have HB0 := Aside0.mk hB0
  have HW := Aside0.mk hw0
  have HRe := Aside0.mk (rRest (c := c) (d := d) (cv := cv) K (Kd.C_below hC hB0) hG (Kd.C_below hl hB0) h1 hn (Kd.C_below hv hB0) hvl)
  obtain ⟨u, hu⟩ : ∃ u, restZ K.D G p v G.length = u := ⟨_, rfl⟩
  obtain ⟨b, hb⟩ : ∃ b, inZ K.D G p v = b := ⟨_, rfl⟩
  rw [hu] at HRe
  rw [hb]
  have hub : u.all (fun x => decide (x = 0)) = b := by rw [← hb, ← hu]; rfl
  have HZ := Aside0.mk (fun (w1 : World) (D : Option Addr) (dd : Nat) (h : Kd.C (Kd.int .i64) w1 D u.length u) => rZero (c := dd) h b hub)
  obtain ⟨cP, cM, cD⟩ := hF0
  clear hB0 hw0 hC hG hl hv hu hb hub hvl
  go_enter Try.func74, Try.ntmps74
  go_upto_region 1 with (fail)
  rw [HW.out]
  go_wp2_with (first
    | (go_at_call 113; (with_reducible refine Calls.mono HRe.out ?_); rintro e w1 ⟨v1, rfl, hO, hB⟩; obtain ⟨Ap, cp, rfl, -, hCp⟩ := hO.slice; have HCp := Aside0.mk hCp; have HB1 := Aside0.mk hB; clear hO hB hCp)
    | (go_at_call 112; (with_reducible refine Calls.mono (HZ.out _ _ _ HCp.out) ?_); rintro e w2 ⟨rfl, hB⟩; have HB2 := Aside0.mk (below_later HB1.out HB1.out.size hB); clear hB))
  go_ret
  exact ⟨rfl, below_later HB0.out HB0.out.size HB2.out⟩
end Go.Proofs.Yticgblagimmlfaa
end
section
/- The reference: Check of a matrix, of a space. -/
namespace Go.Proofs.Yticgblagimmlfaa
open Go.RowKit Go.Proofs.YticgblagimmlfaaW.PrintWords Go.Proofs.YticgblagimmlfaaW.PrintLast Go.Proofs.YticgblagimmlfaaW.PrintMore
set_option linter.unusedVariables false
set_option linter.unusedSimpArgs false

theorem FD.fcheck_zero (K : FD) : fcheckR K.P (K.m : Int) K.Mod = 0 := (fcheckR_iff K.P (K.m : Int) K.Mod).2 K.fok

set_option maxHeartbeats 8000000 in
set_option maxRecDepth 100000 in
theorem rMCheck {w : World} {A B : Option Addr} {c d n : Nat} (K : FD) (hC : Kd.C (Kd.int .i64) w A K.Mod.length K.Mod) {G : List (List Int)} (hG : Shp K.D n G) (hl : Kd.C (Kd.slice 3 (Kd.int .i64)) w B G.length G) (h1 : G.length ≤ 256) (hn : n ≤ 256) :
    Calls Try.prog 160 #[.agg #[.int .i64 K.P, .int .i64 (K.m : Int), .slice A K.Mod.length c], .agg #[.int .i64 n, .slice B G.length d]] w fun e w' => e = .returned (.int .i64 0) ∧ Below w.heap.size w w' := by
  have hF0 := FAt.new w K.P (K.m : Int) A K.Mod.length c
  obtain ⟨w0, hw0⟩ : ∃ w0, w.alloc (.cells #[.int .i64 K.P, .int .i64 (K.m : Int), .slice A K.Mod.length c] 27) = w0 := ⟨_, rfl⟩
  have hB0 : Below w.heap.size w w0 := by rw [← hw0]; exact below_alloc (Below.refl _ _) _
  have hz0 : w0.heap.size = w.heap.size + 1 := by rw [← hw0]; simp
  rw [hw0] at hF0
  have hc0 := cell_alloc2_0 w0 (.int .i64 n) (.slice B G.length d) 85
  have hc1 := cell_alloc2_1 w0 (.int .i64 n) (.slice B G.length d) 85
  obtain ⟨w1, hw1⟩ : ∃ w1, w0.alloc (.cells #[.int .i64 n, .slice B G.length d] 85) = w1 := ⟨_, rfl⟩
  have hB1 : Below w0.heap.size w0 w1 := by rw [← hw1]; exact below_alloc (Below.refl _ _) _
  rw [hw1, hz0] at hc0 hc1
  have HB1 := Aside0.mk (below_later hB0 hB0.size hB1)
  have HF := Aside0.mk (hF0.below hB1)
  have HW0 := Aside0.mk hw0
  have HW1 := Aside0.mk hw1
  have HC0 := Aside0.mk hc0
  have HC1 := Aside0.mk hc1
  have HL := Aside0.mk (Kd.C_below hl HB1.out)
  have HMod := Aside0.mk (Kd.C_below hC HB1.out)
  have HG := Aside0.mk hG
  have HFc := Aside0.mk (fun (w2 : World) (hb : Below w1.heap.size w1 w2) => by have q := refFCheck_any (c := c) K.P (K.m : Int) (Kd.C_below HMod.out hb); rw [K.fcheck_zero] at q; exact q)
  have HBz := Aside0.mk (Below.refl w1.heap.size w1)
  obtain ⟨cP, cM, cD⟩ := HF.out
  clear hF0 hB0 hw0 hw1 hz0 hC hl hG hB1
  have in0 : (0 : Int) ≤ (n : Int) := by omega
  have in1 : (n : Int) ≤ 256 := by omega
  have in2 : (G.length : Int) ≤ 256 := by omega
  go_enter Try.func160, Try.ntmps160
  go_upto_region 1 with (fail)
  rw [HW0.out, HW1.out]
  go_wp2_with (go_at_call 42; refine (HFc.out _ HBz.out).mono ?_; rintro e w2 ⟨rfl, hB⟩; have HB2 := Aside0.mk hB; have cP2 := pw_cell_below hB cP; have cM2 := pw_cell_below hB cM; have cD2 := pw_cell_below hB cD; have hc02 := pw_cell_below hB HC0.out; have hc12 := pw_cell_below hB HC1.out; clear hB)
  clear cP cM cD hc0 hc1
  go_loopw [6] (fun v6 w' => ∃ k : Nat, v6 = .int .i64 k ∧ k ≤ G.length ∧ Aside0 (Below w1.heap.size w1 w')) (fun v6 _ => G.length - (intOf v6).toNat)
  case atStart => exact ⟨0, rfl, by omega, HB2⟩
  case round =>
    clear HB2 cP2 cM2 cD2 hc02 hc12
    obtain ⟨k, rfl, hk, HB⟩ := hrel
    have hc0 := pw_cell_below HB.out HC0.out
    have hc1 := pw_cell_below HB.out HC1.out
    by_cases hlk : k < G.length
    · obtain ⟨ad, B1, d1, e, hx, -, -⟩ := rows_at (Kd.C_below HL.out HB.out) k hlk
      cases e
      rw [(HG.out _ (getD_mem_rows hlk)).1] at hx
      have i0 : (0 : Int) ≤ (k : Int) := by omega
      have i1 : (k : Int) < (G.length : Int) := by omega
      have hnn : ((n : Int) != (n : Int)) = false := by simp
      have hcx : ∀ j : Ext wr, j.wd.cell? (ad.add k) = some (.slice B1 n d1) := fun j => j.cell hx
      have hc0' : ∀ j : Ext wr, j.wd.cell? ⟨w.heap.size + 1, 0, none⟩ = some (.int .i64 n) := fun j => j.cell hc0
      have hc1' : ∀ j : Ext wr, j.wd.cell? ⟨w.heap.size + 1, 1, none⟩ = some (.slice (some ad) G.length d) := fun j => j.cell hc1
      go_upto_region 9 with (fail)
      clear hx hc0 hc1
      refine wp_region_ext (by kernel_rfl) (by kernel_rfl) ?_
      repeat (go_big_quiet_step (fail))
      refine wpQuiet_nil ?_
      intro w3 hB3
      have HB3 := Aside0.mk (below_later HB.out HB.out.size hB3)
      clear hcx hc0' hc1' hB3
      go_wp2
      go_roundw
      case rel => exact ⟨k + 1, by go_num, by omega, HB3⟩
      case measure => simp [intOf]; omega
    · obtain rfl : k = G.length := by omega
      go_wp2
      go_loopw [5, 7] (fun v5 v7 w' => ∃ k : Nat, v5 = .int .i64 0 ∧ v7 = .int .i64 k ∧ k ≤ G.length ∧ Aside0 (Below w1.heap.size w1 w')) (fun _ v7 _ => G.length - (intOf v7).toNat)
      case atStart => exact ⟨0, rfl, rfl, by omega, HB⟩
      case round =>
        clear HB hc0 hc1
        obtain ⟨k, rfl, rfl, hk, HB⟩ := hrel
        have hc0 := pw_cell_below HB.out HC0.out
        have hc1 := pw_cell_below HB.out HC1.out
        by_cases hlk : k < G.length
        · obtain ⟨ad, B1, d1, e, hx, -, hx3⟩ := rows_at (Kd.C_below HL.out HB.out) k hlk
          cases e
          have hri := (HG.out _ (getD_mem_rows hlk)).2
          obtain ⟨r, hr⟩ : ∃ r, G.getD k [] = r := ⟨_, rfl⟩
          rw [hr] at hx hx3 hri
          have HEn := Aside0.mk (fun (w3 : World) (hb : Below wr.heap.size wr w3) => rEntries (A := A) (n := K.Mod.length) (c := c) (d := d1) K (Kd.C_below hx3 hb) (fun i _ => hri i))
          obtain ⟨cP, cM, cD⟩ := HF.out.below HB.out
          have i0 : (0 : Int) ≤ (k : Int) := by omega
          have i1 : (k : Int) < (G.length : Int) := by omega
          have hcx : ∀ j : Ext wr, j.wd.cell? (ad.add k) = some (.slice B1 r.length d1) := fun j => j.cell hx
          have hc1' : ∀ j : Ext wr, j.wd.cell? ⟨w.heap.size + 1, 1, none⟩ = some (.slice (some ad) G.length d) := fun j => j.cell hc1
          have hcP : ∀ j : Ext wr, j.wd.cell? ⟨w.heap.size, 0, none⟩ = some (.int .i64 K.P) := fun j => j.cell cP
          have hcM : ∀ j : Ext wr, j.wd.cell? ⟨w.heap.size, 1, none⟩ = some (.int .i64 (K.m : Int)) := fun j => j.cell cM
          have hcD : ∀ j : Ext wr, j.wd.cell? ⟨w.heap.size, 2, none⟩ = some (.slice A K.Mod.length c) := fun j => j.cell cD
          clear hr hri hx3
          go_upto_region 14 with (fail)
          clear hx hc0 hc1 cP cM cD
          refine wp_region_ext (by kernel_rfl) (by kernel_rfl) ?_
          repeat (go_big_quiet_step ((go_at_call 143; with_reducible exact Ext.call _ (HEn.out _ (Ext.below _)))))
          refine wpQuiet_nil ?_
          intro w3 hB3
          have HB3 := Aside0.mk (below_later HB.out HB.out.size hB3)
          clear hcx hc1' hcP hcM hcD hB3
          go_wp2
          go_roundw
          case rel => exact ⟨k + 1, by first | rfl | go_num, by go_num, by omega, HB3⟩
          case measure => simp [intOf]; omega
        · obtain rfl : k = G.length := by omega
          go_wp2
          go_ret
          exact ⟨rfl, below_later HB1.out HB1.out.size HB.out⟩
end Go.Proofs.Yticgblagimmlfaa
end
