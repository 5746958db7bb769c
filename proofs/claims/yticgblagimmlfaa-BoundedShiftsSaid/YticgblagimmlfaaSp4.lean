/- What the reference's arithmetic computes; plain Lean. -/
import Derived.Test.YticgblagimmlfaaMSp
namespace Go.Proofs.Yticgblagimmlfaa
set_option linter.unusedVariables false
set_option linter.unusedSimpArgs false

def inR (P M x : Int) : Int := if isR P M x = true then x else 0
/-- The order is right. -/
structure FOK (P : Int) (m : Nat) : Prop where
  nz : orderZ P m ≠ 0
theorem FOK.facts {P : Int} {m : Nat} (h : FOK P m) : 2 ≤ P ∧ P ≤ 256 ∧ 1 ≤ m ∧ m ≤ 8 ∧ P ^ m ≤ 256 ∧ orderZ P m = P ^ m := by
  obtain ⟨h1, h2, h3, h4⟩ := orderZ_range P m h.nz
  obtain ⟨h5, h6⟩ := orderZ_pow P m h.nz
  rw [Int.toNat_natCast] at h5 h6
  exact ⟨h1, h2, by omega, by omega, h6, h5⟩
theorem inR_range {P : Int} {m : Nat} (h : FOK P m) (x : Int) : 0 ≤ inR P m x ∧ inR P m x < P ^ m ∧ inR P m x ≤ 256 := by
  obtain ⟨h1, h2, h3, h4, h5, h6⟩ := h.facts
  have h7 : 0 < P ^ m := Int.pow_pos (by omega)
  unfold inR isR
  rw [h6]
  split
  · rename_i hb
    have := of_decide_eq_true hb
    omega
  · omega
/-- The first k entries are turned by f. -/
def mapPre (f : Int → Int) (l : List Int) (k : Nat) : List Int := (l.take k).map f ++ l.drop k
theorem mapPre_zero (f : Int → Int) (l : List Int) : mapPre f l 0 = l := by simp [mapPre]
theorem mapPre_all (f : Int → Int) (l : List Int) : mapPre f l l.length = l.map f := by simp [mapPre]
theorem mapPre_length (f : Int → Int) (l : List Int) (k : Nat) : (mapPre f l k).length = l.length := by simp [mapPre]; omega
theorem mapPre_get (f : Int → Int) (l : List Int) (k : Nat) (h : k < l.length) : (mapPre f l k).getD k 0 = l.getD k 0 := by
  unfold mapPre
  have hl : ((l.take k).map f).length = k := by simp; omega
  rw [List.getD_eq_getElem?_getD, List.getElem?_append_right (by omega), hl, Nat.sub_self, List.getElem?_drop, Nat.add_zero, ← List.getD_eq_getElem?_getD]
theorem mapPre_set (f : Int → Int) (l : List Int) (k : Nat) (h : k < l.length) : (mapPre f l k).set k (f (l.getD k 0)) = mapPre f l (k + 1) := by
  unfold mapPre
  have hl : ((l.take k).map f).length = k := by simp; omega
  rw [List.set_append_right _ _ (by omega), hl, Nat.sub_self, take_succ_rd l k h, List.map_append, List.append_assoc, List.drop_eq_getElem_cons h, List.set_cons_zero]
  simp
/-- The reference's sum, negative and difference. -/
def addR (P : Int) (m : Nat) (x y : Int) : Int := val P (updZ (fun o c => (o + c) % P) (digs P m (inR P m x)) (digs P m (inR P m y)))
def negR (P : Int) (m : Nat) (x : Int) : Int := val P ((digs P m (inR P m x)).map fun d => (P - d) % P)
def subR (P : Int) (m : Nat) (x y : Int) : Int := addR P m x (negR P m y)
/-- The product's coefficients behind k rows. -/
def convTo (P : Int) (a b c0 : List Int) : Nat → List Int
  | 0 => c0
  | k + 1 => updAt (fun o t => (o + a.getD k 0 * t) % P) k (convTo P a b c0 k) b
theorem convTo_length (P : Int) (a b c0 : List Int) : ∀ k, (convTo P a b c0 k).length = c0.length
  | 0 => rfl
  | k + 1 => by rw [convTo, updAt_length, convTo_length P a b c0 k]
theorem convTo_mem (P : Int) (hP : 2 ≤ P) (a b c0 : List Int) (h : ∀ d ∈ c0, 0 ≤ d ∧ d < P) : ∀ k, ∀ d ∈ convTo P a b c0 k, 0 ≤ d ∧ d < P
  | 0 => h
  | k + 1 => updAt_mem _ (fun d => 0 ≤ d ∧ d < P) (fun o t => ⟨Int.emod_nonneg _ (by omega), Int.emod_lt_of_pos _ (by omega)⟩) _ _ _ (convTo_mem P hP a b c0 h k)
/-- The coefficients from m + n - 1 down to m are taken away. -/
def redRun (P : Int) (m : Nat) (Mod : List Int) : Nat → List Int → List Int
  | 0, c => c
  | n + 1, c => redRun P m Mod n (updAt (fun o t => (o + (P - c.getD (m + n) 0) * t) % P) n c Mod)
theorem redRun_length (P : Int) (m : Nat) (Mod : List Int) : ∀ n c, (redRun P m Mod n c).length = c.length
  | 0, c => rfl
  | n + 1, c => by rw [redRun, redRun_length P m Mod n, updAt_length]
theorem redRun_mem (P : Int) (hP : 2 ≤ P) (m : Nat) (Mod : List Int) : ∀ n c, (∀ d ∈ c, 0 ≤ d ∧ d < P) → ∀ d ∈ redRun P m Mod n c, 0 ≤ d ∧ d < P
  | 0, c, h => h
  | n + 1, c, h => redRun_mem P hP m Mod n _ (updAt_mem _ (fun d => 0 ≤ d ∧ d < P) (fun o t => ⟨Int.emod_nonneg _ (by omega), Int.emod_lt_of_pos _ (by omega)⟩) _ _ _ h)
def prodR (P : Int) (m : Nat) (Mod : List Int) (x y : Int) : List Int :=
  redRun P m Mod (m - 1) (convTo P (digs P m (inR P m x)) (digs P m (inR P m y)) (List.replicate (2 * m - 1) 0) m)
def mulR (P : Int) (m : Nat) (Mod : List Int) (x y : Int) : Int := val P ((prodR P m Mod x y).take m)
end Go.Proofs.Yticgblagimmlfaa
