/- What the received word has at the erased positions does not matter; plain Lean. -/
import Derived.Test.YticgblagimmlfaaMSp
namespace Go.Proofs.Yticgblagimmlfaa
set_option linter.unusedVariables false
set_option linter.unusedSimpArgs false

/-- The word with the letters of other at the positions er. -/
def updE (other l er : List Int) : List Int := er.foldl (fun w i => w.set i.toNat (other.getD i.toNat 0)) l
theorem updE_snoc (other l er : List Int) (i : Int) : updE other l (er ++ [i]) = (updE other l er).set i.toNat (other.getD i.toNat 0) := by
  unfold updE; rw [List.foldl_append]; rfl
theorem updE_length (other : List Int) : ∀ (er l : List Int), (updE other l er).length = l.length
  | [], l => rfl
  | i :: er, l => by
    show (updE other (l.set i.toNat _) er).length = _
    rw [updE_length other er, List.length_set]
theorem updE_getD (other : List Int) : ∀ (er l : List Int) (j : Nat), (Int.ofNat j) ∉ er → (∀ i ∈ er, 0 ≤ i) → (updE other l er).getD j 0 = l.getD j 0
  | [], _, _, _, _ => rfl
  | i :: er, l, j, hj, hp => by
    show (updE other (l.set i.toNat _) er).getD j 0 = _
    rw [updE_getD other er _ j (fun h => hj (List.mem_cons_of_mem _ h)) (fun x hx => hp x (List.mem_cons_of_mem _ hx))]
    have h0 := hp i List.mem_cons_self
    have hne : i.toNat ≠ j := fun e => hj (by
      have : Int.ofNat j = i := by
        show (j : Int) = i
        omega
      rw [this]; exact List.mem_cons_self)
    rw [List.getD_eq_getElem?_getD, List.getElem?_set_ne hne, ← List.getD_eq_getElem?_getD]
theorem updE_all (f : Int → Bool) (other : List Int) (n : Nat) (ho : other.all f = true) (hn : other.length = n) : ∀ (er l : List Int), er.all (posB n) = true → l.all f = true → (updE other l er).all f = true
  | [], _, _, h => h
  | i :: er, l, hp, h => by
    rw [List.all_cons, Bool.and_eq_true] at hp
    have hi := of_decide_eq_true hp.1
    refine updE_all f other n ho hn er _ hp.2 ?_
    rw [List.all_eq_true] at h ho ⊢
    intro x hx
    rcases List.mem_or_eq_of_mem_set hx with hx | hx
    · exact h x hx
    · rw [hx]
      refine ho _ ?_
      rw [List.getD_eq_getElem?_getD, List.getElem?_eq_getElem (by omega : i.toNat < other.length)]
      exact List.getElem_mem _
theorem isR_open (s : GD) (h : s.open = 0) : s.D.is = isR s.P s.M := by
  have hf : fieldOk s.P s.M s.Mod = true := by
    refine Classical.byContradiction fun hn => ?_
    unfold GD.open at h
    rw [if_pos (by simpa using hn)] at h
    cases h
  unfold fieldOk at hf
  rw [Bool.and_eq_true] at hf
  obtain ⟨p1, p2, p3, p4, p5, -⟩ := shapeZ_true _ _ _ hf.1
  funext x
  unfold GFD.is isR
  rw [p5]
  rfl
theorem elemsZ_zero (f : Int → Bool) (l : List Int) (n : Nat) (len : Int) (hl : len ≠ 0) (h : elemsZ f l n len = 0) : l.length = n ∧ l.all f = true := by
  unfold elemsZ at h
  by_cases h1 : l.length ≠ n
  · rw [if_pos h1] at h; exact absurd h hl
  rw [if_neg h1] at h
  by_cases h2 : l.all f = false
  · rw [if_pos h2] at h; cases h
  exact ⟨by omega, by simpa using h2⟩
theorem recvZ_zero (f : Int → Bool) (l : List Int) (n : Nat) (er : List Int) (h : recvZ f l n er = 0) : l.length = n ∧ l.all f = true ∧ er.all (posB n) = true ∧ er.Nodup := by
  unfold recvZ at h
  by_cases h1 : l.length ≠ n
  · rw [if_pos h1] at h; cases h
  rw [if_neg h1] at h
  by_cases h2 : l.all f = false
  · rw [if_pos h2] at h; cases h
  rw [if_neg h2] at h
  by_cases h3 : er.all (posB n) = false
  · rw [if_pos h3] at h; cases h
  rw [if_neg h3] at h
  by_cases h4 : ¬ er.Nodup
  · rw [if_pos h4] at h; cases h
  exact ⟨by omega, by simpa using h2, by simpa using h3, Classical.not_not.1 h4⟩
theorem recvZ_of (f : Int → Bool) (l : List Int) (n : Nat) (er : List Int) (h1 : l.length = n) (h2 : l.all f = true) (h3 : er.all (posB n) = true) (h4 : er.Nodup) : recvZ f l n er = 0 := by
  unfold recvZ
  rw [if_neg (by omega), if_neg (by rw [h2]; simp), if_neg (by rw [h3]; simp), if_neg (fun h => h h4)]
theorem range_filter_map_congr {α : Type} (f g : Nat → α) (p : Nat → Bool) (n : Nat) (h : ∀ i, i < n → p i = true → f i = g i) : ((List.range n).filter p).map f = ((List.range n).filter p).map g := by
  refine List.map_congr_left fun i hi => ?_
  rw [List.mem_filter, List.mem_range] at hi
  exact h i hi.1 hi.2
theorem marks_false (n : Nat) (er : List Int) (i : Nat) (hi : i < n) (h : (!(marksZ n er).getD i false) = true) : (Int.ofNat i) ∉ er := by
  rw [marksZ_getD n er i hi] at h
  simpa using h
theorem diffZ_congr (c w w' : List Int) (er : List Bool) (n : Nat) (h : ∀ i, i < n → (!er.getD i false) = true → w.getD i 0 = w'.getD i 0) : diffZ c w er n = diffZ c w' er n := by
  have e : (List.range n).filter (fun i => !er.getD i false && (c.getD i 0 != w.getD i 0)) = (List.range n).filter (fun i => !er.getD i false && (c.getD i 0 != w'.getD i 0)) := by
    refine List.filter_congr fun i hi => ?_
    rw [List.mem_range] at hi
    cases hb : (!er.getD i false) with
    | false => rfl
    | true => rw [h i hi hb]
  unfold diffZ
  rw [e]
theorem codeword_len (s : GD) (l : List Int) (er : List Bool) (hc : (s.codeword l er).2 = 0) : (s.codeword l er).1.length ≤ s.pts.length := by
  unfold GD.codeword at hc ⊢
  generalize s.gaoZ l er = g at *
  split at hc
  · cases hc
  · rename_i h1
    rw [if_neg h1]
    split at hc
    · rename_i h2; exact absurd hc h2
    · rename_i h2
      rw [if_neg h2]
      unfold GD.encode
      split
      · simp
      · split
        · simp
        · split
          · simp
          · unfold encZ; simp; omega
theorem decode_erased (s : GD) (l er other : List Int) (hr : recvZ (isR s.P s.M) l s.pts.length er = 0) (ho : elemsZ (isR s.P s.M) other s.pts.length 4 = 0) : s.decode (updE other l er) er = s.decode l er := by
  obtain ⟨r1, r2, r3, r4⟩ := recvZ_zero _ _ _ _ hr
  obtain ⟨o1, o2⟩ := elemsZ_zero _ _ _ 4 (by omega) ho
  unfold GD.decode
  by_cases h0 : s.open ≠ 0
  · rw [if_pos h0, if_pos h0]
  rw [if_neg h0, if_neg h0]
  have h0' : s.open = 0 := Classical.not_not.1 h0
  have hp : ∀ i ∈ er, 0 ≤ i := fun i hi => (of_decide_eq_true (List.all_eq_true.1 r3 i hi)).1
  have e1 : wordZ s.D l s.pts.length er = 0 := by rw [wordZ_recv, isR_open s h0']; exact hr
  have e2 : wordZ s.D (updE other l er) s.pts.length er = 0 := by
    rw [wordZ_recv, isR_open s h0']
    exact recvZ_of _ _ _ _ (by rw [updE_length]; exact r1) (updE_all _ other s.pts.length o2 o1 er l r3 r2) r3 r4
  rw [e1, e2]
  have eY : keptY s.D s.mults (updE other l er) (marksZ s.pts.length er) s.pts.length = keptY s.D s.mults l (marksZ s.pts.length er) s.pts.length := by
    unfold keptY
    refine range_filter_map_congr _ _ _ _ fun i hi hm => ?_
    rw [updE_getD other er l i (marks_false _ _ _ hi hm) hp]
  have eG : s.gaoZ (updE other l er) (marksZ s.pts.length er) = s.gaoZ l (marksZ s.pts.length er) := by
    unfold GD.gaoZ GD.eucl
    rw [eY]
  have eC : s.codeword (updE other l er) (marksZ s.pts.length er) = s.codeword l (marksZ s.pts.length er) := by
    unfold GD.codeword
    rw [eG]
  rw [eC]
  have hd : ∀ c : List Int, c.length ≤ s.pts.length → diffZ c (updE other l er) (marksZ s.pts.length er) c.length = diffZ c l (marksZ s.pts.length er) c.length := fun c hc =>
    diffZ_congr _ _ _ _ _ fun i hi hb => updE_getD other er l i (marks_false _ _ _ (by omega) hb) hp
  have hl := codeword_len s l (marksZ s.pts.length er)
  generalize s.codeword l (marksZ s.pts.length er) = T at *
  by_cases hc : T.2 ≠ 0
  · simp only [if_pos hc]
  · simp only [if_neg hc]
    unfold resultZ
    rw [hd T.1 (hl (Classical.not_not.1 hc))]
end Go.Proofs.Yticgblagimmlfaa
