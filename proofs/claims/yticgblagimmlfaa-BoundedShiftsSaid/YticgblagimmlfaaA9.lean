/- What the decoder returns: it finds each codeword within the radius, and nothing else; plain Lean. -/
import Derived.Test.YticgblagimmlfaaA8
namespace Go.Proofs.Yticgblagimmlfaa
open CW CW.PS
set_option linter.unusedVariables false
set_option linter.unusedSimpArgs false

theorem open_factsP (s : GD) (h : s.open = 0) : fieldOk s.P s.M s.Mod = true ∧ 1 ≤ s.pts.length ∧ s.pts.length ≤ 64 ∧ s.mults.length = s.pts.length ∧ s.pts.all s.D.is = true ∧ s.mults.all s.D.is = true ∧ s.pts.Nodup ∧ (0 : Int) ∉ s.mults ∧ 0 ≤ s.K ∧ s.K ≤ s.pts.length := by
  unfold GD.open at h
  by_cases h1 : fieldOk s.P s.M s.Mod = false
  · rw [if_pos h1] at h; cases h
  rw [if_neg h1] at h
  by_cases h2 : s.pts.length < 1 ∨ 64 < s.pts.length
  · rw [if_pos h2] at h; cases h
  rw [if_neg h2] at h
  by_cases h3 : s.mults.length ≠ s.pts.length
  · rw [if_pos h3] at h; cases h
  rw [if_neg h3] at h
  by_cases h4 : s.pts.all s.D.is = false
  · rw [if_pos h4] at h; cases h
  rw [if_neg h4] at h
  by_cases h5 : s.mults.all s.D.is = false
  · rw [if_pos h5] at h; cases h
  rw [if_neg h5] at h
  by_cases h6 : ¬ s.pts.Nodup
  · rw [if_pos h6] at h; cases h
  rw [if_neg h6] at h
  by_cases h7 : (0 : Int) ∈ s.mults
  · rw [if_pos h7] at h; cases h
  rw [if_neg h7] at h
  by_cases h8 : s.K < 0
  · rw [if_pos h8] at h; cases h
  rw [if_neg h8] at h
  by_cases h9 : (s.pts.length : Int) < s.K
  · rw [if_pos h9] at h; cases h
  exact ⟨by simpa using h1, by omega, by omega, by omega, by simpa using h4, by simpa using h5, Classical.not_not.1 h6, h7, by omega, by omega⟩
/-- The field of a description. -/
theorem exists_K (s : GD) (h : fieldOk s.P s.M s.Mod = true) : ∃ K : FD, K.P = s.P ∧ (K.m : Int) = s.M ∧ K.Mod = s.Mod ∧ s.D = K.D := by
  obtain ⟨K, e1, e2, e3⟩ := exists_FD s.P s.M s.Mod h
  refine ⟨K, e1, e2, e3, ?_⟩
  unfold GD.D SD.D
  rw [e1, e3, show s.M.toNat = K.m from by omega]
theorem all_getD (f : Int → Bool) (l : List Int) (h : l.all f = true) (i : Nat) (hi : i < l.length) : f (l.getD i 0) = true := by
  rw [List.all_eq_true] at h
  exact h _ (mem_getD l i hi)
theorem filter_getD_length (l : List Nat) (p : Nat → Bool) : ((List.range l.length).filter fun j => p (l.getD j 0)).length = (l.filter p).length := by
  induction l with
  | nil => rfl
  | cons a l ih =>
    rw [List.length_cons, List.range_succ_eq_map, List.filter_cons, List.filter_map, List.filter_cons]
    have e : ((fun j => p ((a :: l).getD j 0)) ∘ Nat.succ) = fun j => p (l.getD j 0) := by funext j; simp
    rw [e]
    have e2 : p ((a :: l).getD 0 0) = p a := rfl
    rw [e2]
    cases h : p a with
    | true => rw [if_pos rfl, if_pos rfl, List.length_cons, List.length_cons, List.length_map, ih]
    | false => rw [if_neg (by simp), if_neg (by simp), List.length_map, ih]
theorem kept_len (n : Nat) (er : List Int) (her : er.Nodup) : n ≤ ((List.range n).filter fun i => !(marksZ n er).getD i false).length + er.length := by
  have h1 : ((List.range n).filter fun i => (marksZ n er).getD i false).length ≤ er.length := by
    have := nodup_length_le (((List.range n).filter fun i => (marksZ n er).getD i false).map Int.ofNat) er (nodup_map_inj _ _ (fun x _ y _ e => Int.ofNat.inj e) (List.nodup_range.filter _)) (fun x hx => by
      obtain ⟨i, hi, rfl⟩ := List.mem_map.1 hx
      rw [List.mem_filter, List.mem_range] at hi
      rw [marksZ_getD n er i hi.1] at hi
      exact of_decide_eq_true hi.2)
    simpa using this
  have h2 : ∀ (l : List Nat) (p : Nat → Bool), l.length = (l.filter p).length + (l.filter fun i => !p i).length := by
    intro l p
    induction l with
    | nil => rfl
    | cons a l ih =>
      rw [List.filter_cons, List.filter_cons, List.length_cons, ih]
      cases p a <;> simp <;> omega
  have h3 := h2 (List.range n) (fun i => (marksZ n er).getD i false)
  rw [List.length_range] at h3
  omega
/-- The positions kept. -/
def keptI (er : List Bool) (n : Nat) : List Nat := (List.range n).filter fun i => !er.getD i false
theorem keptX_eq (pts : List Int) (er : List Bool) (n : Nat) : keptX pts er n = (keptI er n).map fun i => pts.getD i 0 := rfl
theorem keptY_eq (D : GFD) (mults w : List Int) (er : List Bool) (n : Nat) : keptY D mults w er n = (keptI er n).map fun i => D.div (w.getD i 0) (mults.getD i 0) := rfl
theorem map_getD_at (l : List Nat) (f : Nat → Int) (j : Nat) (h : j < l.length) : (l.map f).getD j 0 = f (l.getD j 0) := by
  rw [List.getD_eq_getElem?_getD, List.getElem?_map, List.getElem?_eq_getElem h, List.getD_eq_getElem?_getD, List.getElem?_eq_getElem h]; rfl
theorem keptI_lt (er : List Bool) (n : Nat) (j : Nat) (h : j < (keptI er n).length) : (keptI er n).getD j 0 < n := by
  have : (keptI er n).getD j 0 ∈ keptI er n := by
    rw [List.getD_eq_getElem?_getD, List.getElem?_eq_getElem h]; exact List.getElem_mem h
  unfold keptI at this ⊢
  rw [List.mem_filter, List.mem_range] at this
  exact this.1

namespace FD
variable (K : FD)
theorem eval_toP {p q : List Int} (h : K.toP p = K.toP q) (x : Int) : K.D.eval p x = K.D.eval q x := K.el_inj (K.is_eval _ _) (K.is_eval _ _) (by rw [el_eval, el_eval, h])
theorem encZ_toP {pts mults p q : List Int} (h : K.toP p = K.toP q) : encZ K.D pts mults p = encZ K.D pts mults q := by
  unfold encZ
  refine List.map_congr_left fun t _ => ?_
  rw [K.eval_toP h]
theorem gao_elems (xs ys : List Int) (k : Nat) (R : List Int × List Int) (h : (K.D.gao xs ys k R).2 = 0) : (K.D.gao xs ys k R).1.length ≤ k ∧ (K.D.gao xs ys k R).1.all K.D.is = true := by
  unfold GFD.gao at h ⊢
  by_cases h1 : K.D.canon R.2 = []
  · rw [if_pos h1] at h; cases h
  rw [if_neg h1] at h ⊢
  by_cases h2 : (K.D.divC (K.D.canon R.1) (K.D.canon R.2)).2 ≠ []
  · rw [if_pos h2] at h; cases h
  rw [if_neg h2] at h ⊢
  by_cases h3 : (K.D.divC (K.D.canon R.1) (K.D.canon R.2)).1.length > k
  · rw [if_pos h3] at h; cases h
  rw [if_neg h3] at h ⊢
  by_cases h4 : K.D.wrong (K.D.divC (K.D.canon R.1) (K.D.canon R.2)).1 xs ys xs.length > (xs.length - k) / 2
  · rw [if_pos h4] at h; cases h
  rw [if_neg h4]
  refine ⟨by simp only; omega, ?_⟩
  simp only
  rw [List.all_eq_true]
  intro x hx
  obtain ⟨i, hi, e⟩ := List.getElem_of_mem hx
  have key : ∀ (q : List Int) (inv : Int) (n : Nat) (rem quo : List Int), InR K.D quo → InR K.D (K.D.divLoop q inv n rem quo).1 := by
    intro q inv n
    induction n with
    | zero => intro rem quo h; exact h
    | succ n ih =>
      intro rem quo h
      simp only [GFD.divLoop]
      refine ih _ _ fun i => ?_
      by_cases hi : i = n
      · subst hi
        by_cases hl : i < quo.length
        · rw [SD.getD_set_self _ _ _ hl]; exact of_decide_eq_true (K.is_mul _ _)
        · rw [getD_out _ i (by rw [List.length_set]; omega)]; exact of_decide_eq_true K.is_zero
      · rw [SD.getD_set_ne _ _ _ _ hi]; exact h i
  have hg : x = (K.D.divC (K.D.canon R.1) (K.D.canon R.2)).1.getD i 0 := by
    rw [List.getD_eq_getElem?_getD, List.getElem?_eq_getElem hi, ← e]; rfl
  rw [hg]
  unfold GFD.divC
  simp only
  rw [trimZ_at]
  refine decide_eq_true (key _ _ _ _ _ (fun i => ?_) _)
  simp only [List.getD_eq_getElem?_getD, List.getElem?_replicate]
  split <;> exact of_decide_eq_true K.is_zero
theorem toP_append_zeros (l : List Int) (n : Nat) : K.toP (l ++ List.replicate n 0) = K.toP l := by
  funext i
  show K.el _ = K.el _
  congr 1
  by_cases h : i < l.length
  · rw [List.getD_eq_getElem?_getD, List.getElem?_append_left h, ← List.getD_eq_getElem?_getD]
  · rw [List.getD_eq_getElem?_getD, List.getElem?_append_right (by omega), List.getElem?_replicate, getD_out l i (by omega)]
    split <;> rfl
end FD

theorem encode_good (s : GD) (h0 : s.open = 0) (msg : List Int) (hm : (msg.length : Int) = s.K) (hma : msg.all s.D.is = true) : s.encode msg = (encZ s.D s.pts s.mults msg, 0) := by
  unfold GD.encode
  rw [if_neg (fun h => h h0), if_neg (fun h => h hm), if_neg (by rw [hma]; simp)]
theorem encZ_len (D : GFD) (pts mults msg : List Int) (h : mults.length = pts.length) : (encZ D pts mults msg).length = pts.length := by unfold encZ; simp [h]
/-- The codewords' letter is wrong just where the divided letter is not the value. -/
theorem wrong_iff (K : FD) (m e l : Int) (hm : K.D.is m = true) (hm0 : m ≠ 0) (hl : K.D.is l = true) : K.el e ≠ K.el (K.D.div l m) ↔ K.D.mul m e ≠ l := by
  have hmz : K.el m ≠ 0 := fun h => hm0 (by
    have := K.val_el hm
    rw [h] at this; exact this.symm)
  have key : K.el e = K.el (K.D.div l m) ↔ K.D.mul m e = l := by
    rw [K.el_div]
    constructor
    · intro h
      refine K.el_inj (K.is_mul _ _) hl ?_
      rw [K.el_mul, h, mul_comm, mul_assoc, finv_mul hmz, mul_one]
    · intro h
      rw [← h, K.el_mul, mul_comm (K.el m), mul_assoc, mul_finv hmz, mul_one]
  rw [Ne, Ne, key]
set_option maxHeartbeats 1000000 in
/-- **The decoder finds the codeword.** -/
theorem decode_finds (s : GD) (h0 : s.open = 0) (l er msg : List Int) (hw : wordZ s.D l s.pts.length er = 0) (hm : (msg.length : Int) = s.K) (hma : msg.all s.D.is = true)
    (he : 2 * ((diffZ (encZ s.D s.pts s.mults msg) l (marksZ s.pts.length er) s.pts.length).length : Int) + er.length + s.K ≤ s.pts.length) :
    s.decode l er = (encZ s.D s.pts s.mults msg, diffZ (encZ s.D s.pts s.mults msg) l (marksZ s.pts.length er) s.pts.length, 0) := by
  obtain ⟨f1, f2, f3, f4, f5, f6, f7, f8, f9, f10⟩ := open_factsP s h0
  obtain ⟨K, e1, e2, e3, e4⟩ := exists_K s f1
  have hw2 : recvZ s.D.is l s.pts.length er = 0 := hw
  obtain ⟨w1, w2, w3, w4⟩ : l.length = s.pts.length ∧ l.all s.D.is = true ∧ er.all (posB s.pts.length) = true ∧ er.Nodup := by
    unfold recvZ at hw2
    by_cases h1 : l.length ≠ s.pts.length
    · rw [if_pos h1] at hw2; cases hw2
    rw [if_neg h1] at hw2
    by_cases h2 : l.all s.D.is = false
    · rw [if_pos h2] at hw2; cases hw2
    rw [if_neg h2] at hw2
    by_cases h3 : er.all (posB s.pts.length) = false
    · rw [if_pos h3] at hw2; cases hw2
    rw [if_neg h3] at hw2
    by_cases h4 : ¬ er.Nodup
    · rw [if_pos h4] at hw2; cases hw2
    exact ⟨by omega, by simpa using h2, by simpa using h3, Classical.not_not.1 h4⟩
  obtain ⟨mk, hmk⟩ : ∃ mk, marksZ s.pts.length er = mk := ⟨_, rfl⟩
  obtain ⟨c, hc⟩ : ∃ c, encZ s.D s.pts s.mults msg = c := ⟨_, rfl⟩
  have hkl : s.pts.length ≤ (keptI mk s.pts.length).length + er.length := by rw [← hmk]; exact kept_len _ _ w4
  have hcl : c.length = s.pts.length := by rw [← hc]; exact encZ_len _ _ _ _ f4
  rw [hmk, hc] at he
  -- the wrong points are the differing positions
  obtain ⟨I, hI⟩ : ∃ I, keptI mk s.pts.length = I := ⟨_, rfl⟩
  have hIlt : ∀ j, j < I.length → I.getD j 0 < s.pts.length := fun j hj => by rw [← hI] at hj ⊢; exact keptI_lt _ _ _ hj
  have hX : keptX s.pts mk s.pts.length = I.map fun i => s.pts.getD i 0 := by rw [keptX_eq, hI]
  have hY : keptY s.D s.mults l mk s.pts.length = I.map fun i => s.D.div (l.getD i 0) (s.mults.getD i 0) := by rw [keptY_eq, hI]
  have hWr : (K.wrongE msg (keptX s.pts mk s.pts.length) (keptY s.D s.mults l mk s.pts.length)).length = (diffZ c l mk s.pts.length).length := by
    unfold FD.wrongE diffZ
    rw [List.length_map, hX, hY, List.length_map]
    have e5 : (List.range s.pts.length).filter (fun i => !mk.getD i false && (c.getD i 0 != l.getD i 0)) = I.filter fun i => (c.getD i 0 != l.getD i 0) := by
      rw [← hI]
      unfold keptI
      rw [List.filter_filter]
      refine List.filter_congr fun i _ => ?_
      exact Bool.and_comm _ _
    rw [e5, ← filter_getD_length I]
    congr 1
    refine List.filter_congr fun j hj => ?_
    rw [List.mem_range] at hj
    rw [map_getD_at _ _ _ hj, map_getD_at _ _ _ hj]
    have hi := hIlt j hj
    obtain ⟨i, hi'⟩ : ∃ i, I.getD j 0 = i := ⟨_, rfl⟩
    rw [hi'] at hi ⊢
    have hci : c.getD i 0 = s.D.mul (s.mults.getD i 0) (s.D.eval msg (s.pts.getD i 0)) := by rw [← hc]; exact encZ_getD _ _ _ _ _ hi (by omega)
    rw [hci, e4]
    have := wrong_iff K (s.mults.getD i 0) (K.D.eval msg (s.pts.getD i 0)) (l.getD i 0) (by rw [← e4]; exact all_getD _ _ f6 _ (by omega)) (fun h => f8 (by rw [← h]; exact mem_getD _ _ (by omega))) (by rw [← e4]; exact all_getD _ _ w2 _ (by omega))
    rw [Bool.eq_iff_iff, decide_eq_true_iff, bne_iff_ne, this]
  have hnd : (K.xsE (keptX s.pts mk s.pts.length)).Nodup := by
    unfold FD.xsE
    rw [hX, List.map_map, ← hI]
    unfold keptI
    refine nodup_map_inj _ _ (fun a ha b hb e => ?_) (List.nodup_range.filter _)
    rw [List.mem_filter, List.mem_range] at ha hb
    have h1 : s.pts.getD a 0 = s.pts.getD b 0 := K.el_inj (by rw [← e4]; exact all_getD _ _ f5 _ ha.1) (by rw [← e4]; exact all_getD _ _ f5 _ hb.1) e
    have h2 : s.pts[a]? = s.pts[b]? := by
      rw [List.getElem?_eq_getElem ha.1, List.getElem?_eq_getElem hb.1]
      rw [List.getD_eq_getElem?_getD, List.getD_eq_getElem?_getD, List.getElem?_eq_getElem ha.1, List.getElem?_eq_getElem hb.1] at h1
      exact congrArg some h1
    exact (List.getElem?_inj ha.1 f7).1 h2
  have hxl : (keptX s.pts mk s.pts.length).length = I.length := by rw [hX, List.length_map]
  have hyl : (keptX s.pts mk s.pts.length).length = (keptY s.D s.mults l mk s.pts.length).length := by rw [hX, hY, List.length_map, List.length_map]
  rw [hI] at hkl
  have hok : s.D.ok := by rw [e4]; exact K.ok
  obtain ⟨R, hR⟩ := s.ends_ok h0 hok f1 f3 l mk (by rw [hxl]; omega)
  have hgao : s.gaoZ l mk = s.D.gao (keptX s.pts mk s.pts.length) (keptY s.D s.mults l mk s.pts.length) s.K.toNat R := by unfold GD.gaoZ; rw [hR]; rfl
  unfold GD.eucl at hR
  rw [e4] at hR
  have hWr' : (K.wrongE msg (keptX s.pts mk s.pts.length) (keptY K.D s.mults l mk s.pts.length)).length = (diffZ c l mk s.pts.length).length := by rw [← e4]; exact hWr
  have hfind := K.gao_finds (keptX s.pts mk s.pts.length) (keptY K.D s.mults l mk s.pts.length) s.K.toNat (by rw [← e4]; exact hyl) (by rw [hxl]; omega) hnd msg (by omega) (by rw [hWr', hxl]; omega) 1000 R hR
  have hgel := K.gao_elems (keptX s.pts mk s.pts.length) (keptY K.D s.mults l mk s.pts.length) s.K.toNat R hfind.1
  rw [e4] at hgao
  rw [← hgao] at hfind hgel
  obtain ⟨g, hg⟩ : ∃ g, s.gaoZ l mk = g := ⟨_, rfl⟩
  rw [hg] at hfind hgel
  have hcode : s.codeword l mk = (c, 0) := by
    unfold GD.codeword
    rw [hg, if_neg (by rw [hxl]; omega), if_neg (fun h => h hfind.1)]
    rw [encode_good s h0 _ (by rw [List.length_append, List.length_replicate]; omega) (by
      rw [List.all_append, Bool.and_eq_true]
      refine ⟨by rw [e4]; exact hgel.2, ?_⟩
      rw [List.all_eq_true]
      intro x hx
      rw [List.eq_of_mem_replicate hx, e4]; exact K.is_zero)]
    have hez : encZ K.D s.pts s.mults (g.1 ++ List.replicate (s.K.toNat - g.1.length) 0) = encZ K.D s.pts s.mults msg := K.encZ_toP (by rw [K.toP_append_zeros]; exact hfind.2)
    rw [← hc, e4, hez]
  unfold GD.decode
  rw [if_neg (fun h => h h0), if_neg (fun h => h hw), hmk, hcode, hc]
  simp only [ne_eq, not_true_eq_false, if_false]
  unfold resultZ
  rw [hcl]
  have hrad : ¬ ((diffZ c l mk s.pts.length).length : Int) > radiusZ (s.pts.length - s.K + 1) er.length := by
    unfold radiusZ
    rw [if_neg (by omega), Int.tdiv_eq_ediv_of_nonneg (by omega)]
    omega
  rw [if_neg hrad]
/-- **The decoder returns nothing but a codeword within the radius.** -/
theorem decode_some (s : GD) (l er : List Int) (h : (s.decode l er).2.2 = 0) : s.open = 0 ∧ wordZ s.D l s.pts.length er = 0 ∧ ∃ msg : List Int, (msg.length : Int) = s.K ∧ msg.all s.D.is = true ∧ (s.decode l er).1 = encZ s.D s.pts s.mults msg ∧
    (s.decode l er).2.1 = diffZ (encZ s.D s.pts s.mults msg) l (marksZ s.pts.length er) s.pts.length ∧ ((s.decode l er).2.1.length : Int) ≤ radiusZ (s.pts.length - s.K + 1) er.length := by
  unfold GD.decode at h ⊢
  by_cases h0 : s.open ≠ 0
  · rw [if_pos h0] at h; exact absurd h h0
  rw [if_neg h0] at h ⊢
  by_cases hw : wordZ s.D l s.pts.length er ≠ 0
  · rw [if_pos hw] at h; exact absurd h hw
  rw [if_neg hw] at h ⊢
  have h0' : s.open = 0 := Classical.not_not.1 h0
  obtain ⟨f1, f2, f3, f4, f5, f6, f7, f8, f9, f10⟩ := open_factsP s h0'
  obtain ⟨T, hT⟩ : ∃ T, s.codeword l (marksZ s.pts.length er) = T := ⟨_, rfl⟩
  rw [hT] at h ⊢
  by_cases hc : T.2 ≠ 0
  · rw [if_pos hc] at h; cases h
  rw [if_neg hc] at h ⊢
  refine ⟨h0', Classical.not_not.1 hw, ?_⟩
  have hc' : T.2 = 0 := Classical.not_not.1 hc
  rw [← hT] at hc'
  unfold GD.codeword at hT hc'
  by_cases h1 : ((keptX s.pts (marksZ s.pts.length er) s.pts.length).length : Int) < s.K
  · rw [if_pos h1] at hc'; cases hc'
  rw [if_neg h1] at hT hc'
  by_cases h2 : (s.gaoZ l (marksZ s.pts.length er)).2 ≠ 0
  · rw [if_pos h2] at hc'; exact absurd hc' h2
  rw [if_neg h2] at hT hc'
  obtain ⟨g, hg⟩ : ∃ g, (s.gaoZ l (marksZ s.pts.length er)).1 ++ List.replicate (s.K.toNat - (s.gaoZ l (marksZ s.pts.length er)).1.length) 0 = g := ⟨_, rfl⟩
  rw [hg] at hT hc'
  have hgood : (g.length : Int) = s.K ∧ g.all s.D.is = true := by
    unfold GD.encode at hc'
    rw [if_neg h0] at hc'
    by_cases h3 : (g.length : Int) ≠ s.K
    · rw [if_pos h3] at hc'; cases hc'
    rw [if_neg h3] at hc'
    by_cases h4 : g.all s.D.is = false
    · rw [if_pos h4] at hc'; cases hc'
    exact ⟨Classical.not_not.1 h3, by simpa using h4⟩
  rw [encode_good s h0' g hgood.1 hgood.2] at hT
  rw [← hT] at h ⊢
  simp only at h ⊢
  have hcl : (encZ s.D s.pts s.mults g).length = s.pts.length := encZ_len _ _ _ _ f4
  unfold resultZ at h ⊢
  rw [hcl] at h ⊢
  by_cases h5 : ((diffZ (encZ s.D s.pts s.mults g) l (marksZ s.pts.length er) s.pts.length).length : Int) > radiusZ (s.pts.length - s.K + 1) er.length
  · rw [if_pos h5] at h; cases h
  rw [if_neg h5]
  exact ⟨g, hgood.1, hgood.2, rfl, rfl, by simp only; omega⟩
end Go.Proofs.Yticgblagimmlfaa
