/- A word and erased positions in memory. -/
import Derived.Test.YticgblagimmlfaaMR
namespace Go.Proofs.Yticgblagimmlfaa
open Go.RowKit Go.Proofs.YticgblagimmlfaaW.PrintWords Go.Proofs.YticgblagimmlfaaW.PrintLast Go.Proofs.YticgblagimmlfaaW.PrintMore
set_option linter.unusedVariables false
set_option linter.unusedSimpArgs false

/-- A word and erased positions, boxed at block b. -/
structure VAt (w : World) (b : Nat) (B : Option Addr) (n dd : Nat) (E : Option Addr) (m ee : Nat) : Prop where
  word : w.cell? ⟨b, 0, none⟩ = some (.slice B n dd)
  er : w.cell? ⟨b, 1, none⟩ = some (.slice E m ee)
theorem VAt.below {w w1 : World} {b : Nat} {B : Option Addr} {n dd : Nat} {E : Option Addr} {m ee : Nat} (h : VAt w b B n dd E m ee) (hb : Below w.heap.size w w1) : VAt w1 b B n dd E m ee :=
  ⟨pw_cell_below hb h.word, pw_cell_below hb h.er⟩
theorem VAt.new (w : World) (B : Option Addr) (n dd : Nat) (E : Option Addr) (m ee : Nat) : VAt (w.alloc (.cells #[.slice B n dd, .slice E m ee] 31)) w.heap.size B n dd E m ee :=
  ⟨cell_alloc2_0 _ _ _ _, cell_alloc2_1 _ _ _ _⟩

theorem recvZ_zero (f : Int → Bool) (l : List Int) (n : Nat) (er : List Int) (h : recvZ f l n er = 0) : l.length = n ∧ l.all f = true ∧ er.all (posB n) = true ∧ er.Nodup := by
  unfold recvZ at h
  by_cases h1 : l.length ≠ n
  · rw [if_pos h1] at h; cases h
  rw [if_neg h1] at h
  by_cases h2 : l.all f = false
  · rw [if_pos h2] at h; cases h
  rw [if_neg h2] at h
  by_cases h3 : er.all (posB n) = false
  · rw [if_pos h3] at h; cases h
  rw [if_neg h3] at h
  by_cases h4 : ¬ er.Nodup
  · rw [if_pos h4] at h; cases h
  exact ⟨by omega, by simpa using h2, by simpa using h3, Classical.not_not.1 h4⟩
end Go.Proofs.Yticgblagimmlfaa
