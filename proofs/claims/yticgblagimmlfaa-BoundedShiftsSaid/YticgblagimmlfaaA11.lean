/- The document's test of a description is the program's; the laws Corrects and Shifts; plain Lean. -/
import Derived.Test.YticgblagimmlfaaA10
namespace Go.Proofs.Yticgblagimmlfaa
open CW CW.PS
set_option linter.unusedVariables false
set_option linter.unusedSimpArgs false

theorem all_range (f : Int → Bool) (l : List Int) : (List.range l.length).all (fun i => f (l.getD i 0)) = l.all f := by
  rw [Bool.eq_iff_iff, List.all_eq_true, List.all_eq_true]
  constructor
  · intro h x hx
    obtain ⟨i, hi, e⟩ := List.getElem_of_mem hx
    have := h i (List.mem_range.2 hi)
    rwa [List.getD_eq_getElem?_getD, List.getElem?_eq_getElem hi, Option.getD_some, e] at this
  · intro h i hi
    exact h _ (mem_getD l i (List.mem_range.1 hi))
theorem checkR_open (s : GD) : checkR s = s.open := by
  have hf := fcheckR_iff s.P s.M s.Mod
  unfold checkR GD.open
  by_cases h1 : fcheckR s.P s.M s.Mod = 0
  · have hfo := hf.1 h1
    obtain ⟨K, e1, e2, e3, e4⟩ := exists_K s hfo
    have his : isR s.P s.M = s.D.is := by
      funext x
      rw [e4, ← K.isR_eq, e1, e2]
    rw [if_neg (show ¬ fcheckR s.P s.M s.Mod ≠ 0 from fun h => h h1), if_neg (show ¬ fieldOk s.P s.M s.Mod = false by rw [hfo]; simp)]
    by_cases h2 : s.pts.length < 1 ∨ 64 < s.pts.length
    · rw [if_pos h2, if_pos h2]
    rw [if_neg h2, if_neg h2]
    by_cases h3 : s.mults.length ≠ s.pts.length
    · rw [if_pos h3, if_pos h3]
    rw [if_neg h3, if_neg h3]
    have h3' : s.mults.length = s.pts.length := Classical.not_not.1 h3
    unfold tailR
    rw [his]
    have hb : bothIs s.D.is s.pts s.mults s.pts.length = (s.pts.all s.D.is && s.mults.all s.D.is) := by
      rw [← all_range s.D.is s.pts, ← all_range s.D.is s.mults, h3']
      unfold bothIs
      rw [Bool.eq_iff_iff, Bool.and_eq_true, List.all_eq_true, List.all_eq_true, List.all_eq_true]
      constructor
      · intro h
        exact ⟨fun i hi => (Bool.and_eq_true _ _ ▸ h i hi).1, fun i hi => (Bool.and_eq_true _ _ ▸ h i hi).2⟩
      · intro h i hi
        rw [Bool.and_eq_true]
        exact ⟨h.1 i hi, h.2 i hi⟩
    have hz : (List.range s.pts.length).all (fun i => decide (s.mults.getD i 0 ≠ 0)) = false ↔ (0 : Int) ∈ s.mults := by
      rw [← h3']
      have := all_range (fun x => decide (x ≠ 0)) s.mults
      rw [this]
      rw [← Bool.not_eq_true, List.all_eq_true]
      constructor
      · intro h
        refine Classical.byContradiction fun hn => h fun x hx => decide_eq_true fun e => hn (e ▸ hx)
      · intro h hn
        exact of_decide_eq_true (hn 0 h) rfl
    rw [hb]
    by_cases h4 : s.pts.all s.D.is = false
    · rw [if_pos (by rw [h4]; rfl), if_pos h4]
    rw [if_neg h4]
    have h4' : s.pts.all s.D.is = true := by simpa using h4
    by_cases h5 : s.mults.all s.D.is = false
    · rw [if_pos (by rw [h4', h5]; rfl), if_pos h5]
    have h5' : s.mults.all s.D.is = true := by simpa using h5
    rw [if_neg (by rw [h4', h5']; simp), if_neg h5]
    by_cases h6 : ¬ s.pts.Nodup
    · rw [if_pos h6, if_pos h6]
    rw [if_neg h6, if_neg h6]
    by_cases h7 : (0 : Int) ∈ s.mults
    · rw [if_pos (hz.2 h7), if_pos h7]
    rw [if_neg (fun h => h7 (hz.1 h)), if_neg h7]
    by_cases h8 : s.K < 0
    · rw [if_pos (.inl h8), if_pos h8]
    by_cases h9 : (s.pts.length : Int) < s.K
    · rw [if_pos (.inr h9), if_neg h8, if_pos h9]
    · rw [if_neg (by omega), if_neg h8, if_neg h9]
  · rw [if_pos h1]
    have : fieldOk s.P s.M s.Mod = false := by
      cases h : fieldOk s.P s.M s.Mod with
      | false => rfl
      | true => exact absurd (hf.2 h) h1
    rw [if_pos this]
theorem isR_open' (s : GD) (h : s.open = 0) : isR s.P s.M = s.D.is := by
  obtain ⟨f1, -⟩ := open_factsP s h
  obtain ⟨K, e1, e2, e3, e4⟩ := exists_K s f1
  funext x
  rw [e4, ← K.isR_eq, e1, e2]
theorem wordZ_open (s : GD) (h : s.open = 0) (l er : List Int) : wordZ s.D l s.pts.length er = recvZ (isR s.P s.M) l s.pts.length er := by
  rw [isR_open' s h]; rfl
theorem elems_msg (s : GD) (h : s.open = 0) (msg : List Int) (kn : Nat) (hk : s.K = kn) (he : elemsZ (isR s.P s.M) msg kn 3 = 0) : (msg.length : Int) = s.K ∧ msg.all s.D.is = true := by
  rw [isR_open' s h] at he
  unfold elemsZ at he
  by_cases h1 : msg.length ≠ kn
  · rw [if_pos h1] at he; cases he
  rw [if_neg h1] at he
  by_cases h2 : msg.all s.D.is = false
  · rw [if_pos h2] at he; cases he
  exact ⟨by omega, by simpa using h2⟩
/-- The law Corrects. -/
theorem corrects (s : GD) (msg l er : List Int) (kn : Nat) (hk : s.K = kn) (hc : checkR s = 0) (hm : elemsZ (isR s.P s.M) msg kn 3 = 0) (hr : recvZ (isR s.P s.M) l s.pts.length er = 0) (c ds : List Int) (hce : encZ s.D s.pts s.mults msg = c)
    (hds : diffZ c l (marksZ c.length er) c.length = ds) (hn : ¬ 2 * (ds.length : Int) + er.length > s.pts.length - s.K) : s.decode l er = (c, ds, 0) := by
  rw [checkR_open] at hc
  obtain ⟨m1, m2⟩ := elems_msg s hc msg kn hk hm
  obtain ⟨f1, f2, f3, f4, -⟩ := open_factsP s hc
  have hcl : c.length = s.pts.length := by rw [← hce]; exact encZ_len _ _ _ _ f4
  rw [hcl] at hds
  have := decode_finds s hc l er msg (by rw [wordZ_open s hc]; exact hr) m1 m2 (by rw [hce, hds]; omega)
  rw [hce, hds] at this
  exact this
end Go.Proofs.Yticgblagimmlfaa
