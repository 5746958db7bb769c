/- Plain specifications of bounded. -/
import Derived.Test.YticgblagimmlfaaSp
namespace Go.Proofs.Yticgblagimmlfaa
set_option linter.unusedVariables false
set_option linter.unusedSimpArgs false

/-- i is a position below n. -/
def posB (n : Nat) (i : Int) : Bool := decide (0 ≤ i ∧ i < n)
/-- The error of a word and erased positions. -/
def wordZ (D : GFD) (l : List Int) (n : Nat) (er : List Int) : Int :=
  if l.length ≠ n then 4 else if l.all D.is = false then 2 else if er.all (posB n) = false then 6 else if ¬ er.Nodup then 18 else 0
/-- Which positions are erased. -/
def marksZ (n : Nat) (er : List Int) : List Bool := (List.range n).map fun i : Nat => decide ((Int.ofNat i) ∈ er)
theorem marksZ_length (n : Nat) (er : List Int) : (marksZ n er).length = n := by simp [marksZ]
theorem marksZ_getD (n : Nat) (er : List Int) (i : Nat) (h : i < n) : (marksZ n er).getD i false = decide ((Int.ofNat i) ∈ er) := by
  simp [marksZ, List.getD_eq_getElem?_getD, h]
def radiusZ (d f : Int) : Int := if d < 1 ∨ f < 0 ∨ f > d - 1 then -1 else (d - 1 - f).tdiv 2
/-- The positions from i on, below n, where c and w differ and that are not erased. -/
def diffZ (c w : List Int) (er : List Bool) (n : Nat) : List Int := ((List.range n).filter fun i => !er.getD i false && (c.getD i 0 != w.getD i 0)).map Int.ofNat
theorem diffZ_succ (c w : List Int) (er : List Bool) (n : Nat) : diffZ c w er (n + 1) = if (!er.getD n false && (c.getD n 0 != w.getD n 0)) = true then diffZ c w er n ++ [(n : Int)] else diffZ c w er n := by
  unfold diffZ
  rw [List.range_succ, List.filter_append, List.map_append]
  by_cases h : (!er.getD n false && (c.getD n 0 != w.getD n 0)) = true
  · rw [if_pos h, List.filter_cons_of_pos (by simpa using h)]; rfl
  · rw [if_neg h, List.filter_cons_of_neg (by simpa using h)]; simp
theorem diffZ_length (c w : List Int) (er : List Bool) (n : Nat) : (diffZ c w er n).length ≤ n := by
  unfold diffZ
  rw [List.length_map]
  exact Nat.le_trans (List.length_filter_le _ _) (by simp)
/-- The decoded word, the error positions and the error. -/
def resultZ (c w : List Int) (er : List Bool) (t : Int) : List Int × List Int × Int :=
  if ((diffZ c w er c.length).length : Int) > t then ([], [], 12) else (c, diffZ c w er c.length, 0)
/-- The points and the divided letters that are not erased, of the first n. -/
def keptX (pts : List Int) (er : List Bool) (n : Nat) : List Int := ((List.range n).filter fun i => !er.getD i false).map fun i => pts.getD i 0
def keptY (D : GFD) (mults w : List Int) (er : List Bool) (n : Nat) : List Int := ((List.range n).filter fun i => !er.getD i false).map fun i => (D.div (w.getD i 0) (mults.getD i 0))
theorem keptX_succ (pts : List Int) (er : List Bool) (n : Nat) : keptX pts er (n + 1) = if er.getD n false = true then keptX pts er n else keptX pts er n ++ [pts.getD n 0] := by
  unfold keptX
  rw [List.range_succ, List.filter_append, List.map_append]
  by_cases h : er.getD n false = true
  · rw [if_pos h, List.filter_cons_of_neg (by simp only [h]; simp)]; simp
  · rw [if_neg h, List.filter_cons_of_pos (by simp only [Bool.not_eq_true] at h; simp only [h]; simp)]; rfl
theorem keptY_succ (D : GFD) (mults w : List Int) (er : List Bool) (n : Nat) : keptY D mults w er (n + 1) = if er.getD n false = true then keptY D mults w er n else keptY D mults w er n ++ [(D.div (w.getD n 0) (mults.getD n 0))] := by
  unfold keptY
  rw [List.range_succ, List.filter_append, List.map_append]
  by_cases h : er.getD n false = true
  · rw [if_pos h, List.filter_cons_of_neg (by simp only [h]; simp)]; simp
  · rw [if_neg h, List.filter_cons_of_pos (by simp only [Bool.not_eq_true] at h; simp only [h]; simp)]; rfl
theorem keptX_length (pts : List Int) (er : List Bool) (n : Nat) : (keptX pts er n).length ≤ n := by
  unfold keptX
  rw [List.length_map]
  exact Nat.le_trans (List.length_filter_le _ _) (by simp)
theorem keptY_length (D : GFD) (mults w pts : List Int) (er : List Bool) (n : Nat) : (keptY D mults w er n).length = (keptX pts er n).length := by
  unfold keptX keptY
  rw [List.length_map, List.length_map]
/-- What Euclid's algorithm gives on the kept points. -/
def GD.eucl (s : GD) (w : List Int) (er : List Bool) : Option (List Int × List Int) :=
  s.D.euclid (((keptX s.pts er s.pts.length).length : Int) + (s.K.toNat : Int)) 1000 (s.D.fromRoots (keptX s.pts er s.pts.length))
    (s.D.inter (keptX s.pts er s.pts.length) (keptY s.D s.mults w er s.pts.length) (keptX s.pts er s.pts.length).length).1 [] [1]
def GD.gaoZ (s : GD) (w : List Int) (er : List Bool) : List Int × Int :=
  s.D.gao (keptX s.pts er s.pts.length) (keptY s.D s.mults w er s.pts.length) s.K.toNat ((s.eucl w er).getD ([], []))
/-- The codeword near the word. -/
def GD.codeword (s : GD) (w : List Int) (er : List Bool) : List Int × Int :=
  if ((keptX s.pts er s.pts.length).length : Int) < s.K then ([], 12)
  else if (s.gaoZ w er).2 ≠ 0 then ([], (s.gaoZ w er).2)
  else s.encode ((s.gaoZ w er).1 ++ List.replicate (s.K.toNat - (s.gaoZ w er).1.length) 0)
/-- Euclid's algorithm ends. -/
def GD.ends (s : GD) (w : List Int) (er : List Bool) : Prop := s.K ≤ ((keptX s.pts er s.pts.length).length : Int) → ∃ R, s.eucl w er = some R
/-- The decoder. -/
def GD.decode (s : GD) (w er : List Int) : List Int × List Int × Int :=
  if s.open ≠ 0 then ([], [], s.open)
  else if wordZ s.D w s.pts.length er ≠ 0 then ([], [], wordZ s.D w s.pts.length er)
  else if (s.codeword w (marksZ s.pts.length er)).2 ≠ 0 then ([], [], 12)
  else resultZ (s.codeword w (marksZ s.pts.length er)).1 w (marksZ s.pts.length er) (radiusZ (s.pts.length - s.K + 1) er.length)
end Go.Proofs.Yticgblagimmlfaa
