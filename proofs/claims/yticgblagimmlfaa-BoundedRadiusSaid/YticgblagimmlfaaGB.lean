/- Rows of bools of the call's own. -/
import Derived.Test.YticgblagimmlfaaG7
namespace Go.Proofs.Yticgblagimmlfaa
open Go.RowKit Go.Proofs.YticgblagimmlfaaW.PrintWords Go.Proofs.YticgblagimmlfaaW.PrintLast Go.Proofs.YticgblagimmlfaaW.PrintMore
set_option linter.unusedVariables false
set_option linter.unusedSimpArgs false

/-- Bools in new memory, from block base on. -/
structure OwnB (w : World) (base : Nat) (v : Value) (l : List Bool) : Prop where mk ::
  out : Kd.R (Kd.bool) 4 w base (fun _ => True) v l
theorem OwnB.below {w w1 : World} {base : Nat} {v : Value} {l : List Bool} (h : OwnB w base v l) (hb : Below w.heap.size w w1) : OwnB w1 base v l := ⟨Kd.R_below h.out hb⟩
theorem OwnB.drewN {w : World} {base : Nat} {v : Value} {l : List Bool} (h : OwnB w base v l) (n : Nat) : OwnB (w.drewN n) base v l := ⟨Kd.R_drewN h.out n⟩
theorem OwnB.lower {w : World} {base base' : Nat} {v : Value} {l : List Bool} (h : OwnB w base v l) (hb : base' ≤ base) : OwnB w base' v l := ⟨Kd.R_lower h.out hb⟩
theorem OwnB.slice {w : World} {base : Nat} {v : Value} {l : List Bool} (h : OwnB w base v l) : ∃ A c, v = .slice A l.length c ∧ l.length ≤ c ∧ Kd.C (Kd.bool) w A l.length l := Kd.R_reads h.out
theorem OwnB.form {w : World} {base : Nat} {v : Value} {l : List Bool} (h : OwnB w base v l) (hp : 0 < l.length) : ∃ g cap, v = .slice (some ⟨g, 0, none⟩) l.length cap ∧ base ≤ g ∧ g < w.heap.size := by
  obtain ⟨g, cap, e, h1, h2, -⟩ := Kd.R_form h.out hp
  exact ⟨g, cap, e, h1, h2⟩
theorem OwnB.cell {w : World} {base g cap : Nat} {l : List Bool} (h : OwnB w base (.slice (some ⟨g, 0, none⟩) l.length cap) l) (k : Nat) (hk : k < l.length) :
    w.cell? ⟨g, k, none⟩ = some (.bool (l.getD k false)) ∧ w.frozen? ⟨g, k, none⟩ = false := by
  have := Kd.R_cell (enc := Value.bool) false h.out (k : Int) (by omega) (by omega)
  simpa [rdOf] using this
theorem OwnB.cell' {w : World} {base g cap n : Nat} {l : List Bool} (h : OwnB w base (.slice (some ⟨g, 0, none⟩) n cap) l) (hn : n = l.length) (k : Nat) (hk : k < n) :
    w.cell? ⟨g, k, none⟩ = some (.bool (l.getD k false)) ∧ w.frozen? ⟨g, k, none⟩ = false := by
  subst hn; exact h.cell k hk
theorem OwnB.set {w : World} {base g cap n : Nat} {l : List Bool} (h : OwnB w base (.slice (some ⟨g, 0, none⟩) n cap) l) (hn : n = l.length) (k : Nat) (x : Bool) :
    OwnB (w.setCell ⟨g, k, none⟩ (.bool x)) base (.slice (some ⟨g, 0, none⟩) n cap) (l.set k x) := by
  subst hn
  have := (Kd.R_put (enc := Value.bool) h.out (k : Int) x).1
  rw [Int.toNat_natCast] at this
  exact ⟨this⟩
theorem OwnB.take {w : World} {base n c m : Nat} {A : Option Addr} {l : List Bool} (h : OwnB w base (.slice A n c) l) (hm : m ≤ l.length) : OwnB w base (.slice A m c) (l.take m) := ⟨Kd.R_take h.out hm⟩
section
variable {P : Program} {ops : Array Oper} {rest : List Oper} {o : Oper} {a : Act} {Q : Exit → Act → World → Prop}
theorem make_ownb {W : World} (hgd : o.guard = none) {N : Tmp} (hd : o.dst = some N) (x y : Operand) (ho : o.op = .makeSlice 72 x y) (n : Nat) (hx : a.eval x = .int .i64 n) (hy : a.eval y = .int .i64 n) (hl : n ≤ 35184372088832)
    (h : ∀ v1 w1, OwnB w1 W.heap.size v1 (List.replicate n false) → Below W.heap.size W w1 → wpList Try.prog ops Q rest (a.put o.dst v1) w1) : wpList Try.prog ops Q (o :: rest) a W := by
  refine Kd.R_make (Kd.bool) W.heap.size 4 hgd (N := N) hd 72 x y ho (n : Int) hx hy Try.underlying72 (.bool false) 1 info4 rfl (by decide) (by omega) false (ok := fun _ => True) (okp := fun _ => True) rfl (fun _ hk => hk) trivial (by omega) (by omega) (Below.refl _ _) (Nat.le_refl _) ?_
  intro v1 w1 h1 h2 _ _
  exact h v1 w1 ⟨by simpa using h1⟩ h2
theorem make_ownbI {W : World} (hgd : o.guard = none) {N : Tmp} (hd : o.dst = some N) (x y : Operand) (ho : o.op = .makeSlice 72 x y) {m : Int} {n : Nat} (hm : Aside0 (m = n)) (hx : a.eval x = .int .i64 m) (hy : a.eval y = .int .i64 m) (hl : n ≤ 35184372088832)
    (h : ∀ v1 w1, OwnB w1 W.heap.size v1 (List.replicate n false) → Below W.heap.size W w1 → wpList Try.prog ops Q rest (a.put o.dst v1) w1) : wpList Try.prog ops Q (o :: rest) a W := by
  have hm := hm.out
  subst hm
  exact make_ownb hgd hd x y ho n hx hy hl h
end
theorem OwnB.keep {w w1 : World} {base : Nat} {v : Value} {l : List Bool} (h : OwnB w base v l) (hk : ∀ k, v.ownBlock = some k → w1.heap[k]? = w.heap[k]?) : OwnB w1 base v l := by
  have h1 : Kd.R (Kd.bool) 4 w base (fun k => v.ownBlock = some k) v l := ⟨fun k hk => hk, by
    obtain ⟨_, inner, ho, hr⟩ := h.out
    exact ⟨inner, ho, hr.imp_ (fun _ _ hp => hp)⟩⟩
  exact ⟨Kd.R_mono (Kd.R_step h1 (fun k hk' _ => hk k hk')) (fun _ _ => trivial)⟩
theorem OwnB.base_le {w : World} {base : Nat} {v : Value} {l : List Bool} (h : OwnB w base v l) (k : Nat) (hk : v.ownBlock = some k) : base ≤ k := Kd.R_base h.out k hk
/-- A store into an elder block. -/
theorem OwnB.far {w : World} {base : Nat} {v : Value} {l : List Bool} (h : OwnB w base v l) {p : Addr} (hp : p.block < base) (u : Value) : OwnB (w.setCell p u) base v l :=
  h.keep fun k hk => Below.heap_setCell w p u k (by have := h.base_le k hk; omega)
/-- A store into another block. -/
theorem OwnB.other {w : World} {base g n c : Nat} {l : List Bool} (h : OwnB w base (.slice (some ⟨g, 0, none⟩) n c) l) {p : Addr} (hp : g ≠ p.block) (u : Value) : OwnB (w.setCell p u) base (.slice (some ⟨g, 0, none⟩) n c) l :=
  h.keep fun k hk => Below.heap_setCell w p u k (by
    have : g = k := by simpa [Value.ownBlock] using hk
    omega)
theorem OwnB.le_size {w : World} {base : Nat} {v : Value} {l : List Bool} (h : OwnB w base v l) (hp : 0 < l.length) : base ≤ w.heap.size := by
  obtain ⟨g, c, e, h1, h2⟩ := h.form hp
  omega

theorem CB_nat {w : World} {A : Option Addr} {l : List Bool} (h : Kd.bool.C w A l.length l) (k : Nat) (hk : k < l.length) :
    ∃ ad, A = some ad ∧ w.cell? (ad.add k) = some (.bool (l.getD k false)) := by
  obtain ⟨ad, e, hx⟩ := Kd.at_bool h (k : Int) (by omega) (by omega)
  exact ⟨ad, e, by simpa [rdOf] using hx⟩
end Go.Proofs.Yticgblagimmlfaa
