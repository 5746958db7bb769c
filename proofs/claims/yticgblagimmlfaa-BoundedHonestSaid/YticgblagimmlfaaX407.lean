/- What the laws' arguments are, opened: descriptions, words, lists. -/
import Derived.Test.YticgblagimmlfaaRows
import Derived.Test.YticgblagimmlfaaX406
import Derived.WalkKit
import Derived.ProofKit
import Derived.OpenShut
import Derived.ChangeOld
import Derived.Below
import Derived.SizedLaws
namespace Go.Proofs.Yticgblagimmlfaa
open Go.ChangeShapes Go.WideShapes Go.ChangeAt Go.RowKit Go.Proofs.YticgblagimmlfaaW.PrintWords Go.Proofs.YticgblagimmlfaaW.PrintLast Go.Proofs.YticgblagimmlfaaW.PrintMore
set_option linter.unusedVariables false
set_option linter.unusedSimpArgs false

theorem laidOutT : laidOutB Try.prog = true := by kernel_rfl
section
variable {H : Type} {enc : TypeId × Value → H} {W : World} {base : Nat} {spare : Nat → Bool} {held : Bool}
theorem open_list {fuel : Nat} {cs : List Value} {x : DataW H × List MemPlace} (hf : DataW.trod enc Try.prog W base spare held fuel 25 cs = some x) :
    ∃ A c l, cs = [.slice A (l : List Int).length c] ∧ l.length ≤ c ∧ Kd.C (Kd.int .i64) W A l.length l := by
  rcases open_ints (k := .i64) Try.underlying25 Try.underlying3 (by kernel_rfl) hf with ⟨hcs, _⟩ | ⟨a, len, cap, zs, hcs, _, hl, hm, hz, _, hcell, hwz⟩
  · exact ⟨none, 0, [], hcs, Nat.le_refl _, Kd.C_nil _ _⟩
  · have hrd : len ≤ zs.length := by rw [hz]; split <;> omega
    refine ⟨some a, cap, zs.take len, by rw [List.length_take, Nat.min_eq_left hrd]; exact hcs, by rw [List.length_take]; omega, ?_⟩
    refine Kd.C_of_reads (enc := Value.int .i64) (d := 0) ⟨rfl, by rw [List.length_take]; unfold maxLen at hm; omega, fun _ => ⟨a, rfl, fun j hj => ?_⟩⟩
    rw [List.length_take] at hj
    rw [hcell j (by omega)]
    congr 2
    rw [List.getD_eq_getElem?_getD, List.getD_eq_getElem?_getD, List.getElem?_take_of_lt (by omega)]
theorem open_intc {fuel : Nat} {cs : List Value} {x : DataW H × List MemPlace} (hf : DataW.trod enc Try.prog W base spare held fuel 3 cs = some x) : ∃ n, cs = [.int .i64 n] := by
  obtain ⟨n, e, -⟩ := DataW.trod_int Try.underlying3 hf
  exact ⟨n, e⟩
theorem cells27 : Try.prog.cellsOf 27 = 3 := by kernel_rfl
theorem cells29 : Try.prog.cellsOf 29 = 6 := by kernel_rfl
theorem cells31 : Try.prog.cellsOf 31 = 2 := by kernel_rfl
theorem cells25 : Try.prog.cellsOf 25 = 1 := by kernel_rfl
theorem cells3 : Try.prog.cellsOf 3 = 1 := by kernel_rfl
set_option maxRecDepth 100000 in
theorem open_field {fuel : Nat} {cs : List Value} {x : DataW H × List MemPlace} (hf : DataW.trod enc Try.prog W base spare held fuel 27 cs = some x) :
    ∃ P M A c l, cs = [.int .i64 P, .int .i64 M, .slice A (l : List Int).length c] ∧ l.length ≤ c ∧ Kd.C (Kd.int .i64) W A l.length l := by
  obtain ⟨xs, n, -, -, hl, hx, hg⟩ := DataW.trod_struct Try.underlying27 hf
  rw [cells27] at hl
  match cs, hl with
  | [a, b, c], _ =>
    match xs, hx with
    | [x0, x1, x2], _ =>
      have h0 : DataW.trod enc Try.prog W base spare held n 3 (List.take (Try.prog.cellsOf 3) (List.drop 0 [a, b, c])) = some x0 := hg 0 _ rfl
      rw [cells3] at h0
      have h1 : DataW.trod enc Try.prog W base spare held n 3 (List.take (Try.prog.cellsOf 3) (List.drop 1 [a, b, c])) = some x1 := hg 1 _ rfl
      rw [cells3] at h1
      have h2 : DataW.trod enc Try.prog W base spare held n 25 (List.take (Try.prog.cellsOf 25) (List.drop 2 [a, b, c])) = some x2 := hg 2 _ rfl
      rw [cells25] at h2
      obtain ⟨P, e0⟩ := open_intc h0
      obtain ⟨M, e1⟩ := open_intc h1
      obtain ⟨A, cp, l, e2, h3, h4⟩ := open_list h2
      simp at e0 e1 e2
      subst e0 e1 e2
      exact ⟨P, M, A, cp, l, rfl, h3, h4⟩
set_option maxRecDepth 100000 in
theorem open_GRS {base0 : Nat} {v : Value} {d : DataW H} {p : List MemPlace} (hv : Value.okWide Try.prog W .any base0 29 v) (h : DataW.Trod enc Try.prog W base spare held 29 v d p) : ∃ s, GArg W v s := by
  obtain ⟨cs, rfl, hsz⟩ := okWide_struct Try.underlying29 hv
  obtain ⟨fuel, hf⟩ := h
  obtain ⟨l⟩ := cs
  rw [cells29] at hsz
  obtain ⟨xs, n, -, -, hl, hx, hg⟩ := DataW.trod_struct Try.underlying29 hf
  match l, hsz with
  | [a, b, c, k, pp, mm], _ =>
    match xs, hx with
    | [x0, x1, x2, x3], _ =>
      have h0 : DataW.trod enc Try.prog W base spare held n 27 (List.take (Try.prog.cellsOf 27) (List.drop 0 [a, b, c, k, pp, mm])) = some x0 := hg 0 _ rfl
      rw [cells27] at h0
      have h1 : DataW.trod enc Try.prog W base spare held n 3 (List.take (Try.prog.cellsOf 3) (List.drop 3 [a, b, c, k, pp, mm])) = some x1 := hg 1 _ rfl
      rw [cells3] at h1
      have h2 : DataW.trod enc Try.prog W base spare held n 25 (List.take (Try.prog.cellsOf 25) (List.drop 4 [a, b, c, k, pp, mm])) = some x2 := hg 2 _ rfl
      rw [cells25] at h2
      have h3 : DataW.trod enc Try.prog W base spare held n 25 (List.take (Try.prog.cellsOf 25) (List.drop 5 [a, b, c, k, pp, mm])) = some x3 := hg 3 _ rfl
      rw [cells25] at h3
      obtain ⟨P, M, A, cp, l, e0, h4, h5⟩ := open_field h0
      obtain ⟨K, e1⟩ := open_intc h1
      obtain ⟨A2, cp2, l2, e2, h6, h7⟩ := open_list h2
      obtain ⟨A3, cp3, l3, e3, h8, h9⟩ := open_list h3
      simp at e0 e1 e2 e3
      obtain ⟨rfl, rfl, rfl⟩ := e0
      subst e1 e2 e3
      exact ⟨⟨P, M, l, K, l2, l3⟩, _, _, _, _, _, _, rfl, h5, h4, h7, h6, h9, h8⟩
set_option maxRecDepth 100000 in
theorem open_Recv {base0 : Nat} {v : Value} {d : DataW H} {p : List MemPlace} (hv : Value.okWide Try.prog W .any base0 31 v) (h : DataW.Trod enc Try.prog W base spare held 31 v d p) :
    ∃ A c l A2 c2 l2, v = .agg #[.slice A (l : List Int).length c, .slice A2 (l2 : List Int).length c2] ∧ l.length ≤ c ∧ Kd.C (Kd.int .i64) W A l.length l ∧ l2.length ≤ c2 ∧ Kd.C (Kd.int .i64) W A2 l2.length l2 := by
  obtain ⟨cs, rfl, hsz⟩ := okWide_struct Try.underlying31 hv
  obtain ⟨fuel, hf⟩ := h
  obtain ⟨l⟩ := cs
  rw [cells31] at hsz
  obtain ⟨xs, n, -, -, hl, hx, hg⟩ := DataW.trod_struct Try.underlying31 hf
  match l, hsz with
  | [a, b], _ =>
    match xs, hx with
    | [x0, x1], _ =>
      have h0 : DataW.trod enc Try.prog W base spare held n 25 (List.take (Try.prog.cellsOf 25) (List.drop 0 [a, b])) = some x0 := hg 0 _ rfl
      rw [cells25] at h0
      have h1 : DataW.trod enc Try.prog W base spare held n 25 (List.take (Try.prog.cellsOf 25) (List.drop 1 [a, b])) = some x1 := hg 1 _ rfl
      rw [cells25] at h1
      obtain ⟨A2, cp2, l2, e2, h6, h7⟩ := open_list h0
      obtain ⟨A3, cp3, l3, e3, h8, h9⟩ := open_list h1
      simp at e2 e3
      subst e2 e3
      exact ⟨_, _, _, _, _, _, rfl, h6, h7, h8, h9⟩
end
theorem trod_blocks {H : Type} {enc : TypeId × Value → H} {W : World} {t : TypeId} {v : Value} {d : DataW H} {p : List MemPlace} (k : DataW.Trod enc Try.prog W 0 (fun _ => true) true t v d p) : ∀ x ∈ p, x.block < W.heap.size := by
  obtain ⟨m, hm⟩ := k
  exact DataW.trod_lt m _ _ _ hm
end Go.Proofs.Yticgblagimmlfaa
