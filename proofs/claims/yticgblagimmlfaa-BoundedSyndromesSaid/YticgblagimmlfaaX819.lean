/- Parts of the proof: WRepsOne, WInv, WInvWords, WGuard, RF, R16, R17, R18, R19, R20, A13 (those that begin with W: words that print.sh wrote, shortened to what this claim uses). -/
import Derived.Test.YticgblagimmlfaaX800
import Derived.Test.YticgblagimmlfaaX818
import Derived.Test.YticgblagimmlfaaX816
import Derived.Test.YticgblagimmlfaaProg
import Derived.Below
import Derived.Deep.Draws
import Derived.Deep.AppendLies
import Derived.Maps.AppendAt
import Derived.OwnWalk
import Derived.Laws.BytesArg
import Derived.Laws.MakeOwn
import Derived.Laws.OwnMore
import Derived.Deep.OwnRows
import Derived.Tactics
import Derived.Lib.ConvBytes
import Derived.Laws.Slices
import Derived.WalkKit
import Derived.KernelRfl
import Derived.RowKit3
import Derived.Deep.LoopGhost
import Derived.Deep.QuietTactic
import Derived.BigQuiet
import Derived.WideLaws
import Derived.Deep.DeepCutAuto
import Derived.Deep.CutBlock
import Derived.Deep.RegionHeld3
import Derived.Laws.Rows
import Derived.Lib.AppendStr
import Derived.ArgAppend
import Derived.Laws.IdiomCopy
import Derived.OrdersHeld
import Derived.Laws.BitsLemmas
import Derived.RowKit
import Derived.Test.YticgblagimmlfaaX801
import Derived.Test.YticgblagimmlfaaX802
import Derived.Test.YticgblagimmlfaaX812
section
/-! ### 55. Reps told from the front, no append: for rows of one-cell elements and of wider ones -/
namespace Go.Proofs.YticgblagimmlfaaW.PrintWords
/-- One cell an element. -/
theorem Reps.one {α : Type} {R : α → List Value → Prop} {ps : List α} {cs : List Value} {p : α} {v : Value} (hp : R p [v]) (h : Reps R 1 ps cs) : Reps R 1 (p :: ps) (v :: cs) := by
  refine ⟨by simp [h.1], fun j q hq => ?_⟩
  cases j with
  | zero =>
    simp only [List.getElem?_cons_zero, Option.some.injEq] at hq
    subst hq
    simpa using hp
  | succ j =>
    simp only [List.getElem?_cons_succ] at hq
    have h1 := h.2 j q hq
    simpa [Nat.mul_one] using h1
/-- More cells an element: told apart by the cells' list. -/
theorem Reps.front {α : Type} {R : α → List Value → Prop} {size : Nat} {ps : List α} {cs c all : List Value} {p : α} (hp : R p c) (hc : c.length = size) (h : Reps R size ps cs) (ha : c ++ cs = all) : Reps R size (p :: ps) all := by
  subst ha
  refine ⟨by rw [List.length_append, hc, h.1, List.length_cons, Nat.succ_mul, Nat.add_comm], fun j q hq => ?_⟩
  cases j with
  | zero =>
    simp only [List.getElem?_cons_zero, Option.some.injEq] at hq
    subst hq
    rw [Nat.zero_mul, List.drop_zero, List.take_append_of_le_length (by omega), List.take_of_length_le (by omega)]
    exact hp
  | succ j =>
    simp only [List.getElem?_cons_succ] at hq
    have h1 := h.2 j q hq
    rw [Nat.succ_mul, List.drop_append, List.drop_of_length_le (by rw [hc]; exact Nat.le_add_left _ _), List.nil_append, hc, Nat.add_sub_cancel]
    exact h1
theorem Reps.c2 {α : Type} {R : α → List Value → Prop} {ps : List α} {cs : List Value} {p : α} {va vb : Value} (hp : R p [va, vb]) (h : Reps R 2 ps cs) : Reps R 2 (p :: ps) (va :: vb :: cs) := Reps.front hp rfl h rfl
theorem Reps.c3 {α : Type} {R : α → List Value → Prop} {ps : List α} {cs : List Value} {p : α} {va vb vc : Value} (hp : R p [va, vb, vc]) (h : Reps R 3 ps cs) : Reps R 3 (p :: ps) (va :: vb :: vc :: cs) := Reps.front hp rfl h rfl
theorem Reps.c4 {α : Type} {R : α → List Value → Prop} {ps : List α} {cs : List Value} {p : α} {va vb vc vd : Value} (hp : R p [va, vb, vc, vd]) (h : Reps R 4 ps cs) : Reps R 4 (p :: ps) (va :: vb :: vc :: vd :: cs) := Reps.front hp rfl h rfl
theorem Reps.c5 {α : Type} {R : α → List Value → Prop} {ps : List α} {cs : List Value} {p : α} {va vb vc vd ve : Value} (hp : R p [va, vb, vc, vd, ve]) (h : Reps R 5 ps cs) : Reps R 5 (p :: ps) (va :: vb :: vc :: vd :: ve :: cs) := Reps.front hp rfl h rfl
theorem Reps.c6 {α : Type} {R : α → List Value → Prop} {ps : List α} {cs : List Value} {p : α} {va vb vc vd ve vf : Value} (hp : R p [va, vb, vc, vd, ve, vf]) (h : Reps R 6 ps cs) : Reps R 6 (p :: ps) (va :: vb :: vc :: vd :: ve :: vf :: cs) := Reps.front hp rfl h rfl
theorem Reps.c7 {α : Type} {R : α → List Value → Prop} {ps : List α} {cs : List Value} {p : α} {va vb vc vd ve vf vg : Value} (hp : R p [va, vb, vc, vd, ve, vf, vg]) (h : Reps R 7 ps cs) : Reps R 7 (p :: ps) (va :: vb :: vc :: vd :: ve :: vf :: vg :: cs) := Reps.front hp rfl h rfl
theorem Reps.c8 {α : Type} {R : α → List Value → Prop} {ps : List α} {cs : List Value} {p : α} {va vb vc vd ve vf vg vh : Value} (hp : R p [va, vb, vc, vd, ve, vf, vg, vh]) (h : Reps R 8 ps cs) : Reps R 8 (p :: ps) (va :: vb :: vc :: vd :: ve :: vf :: vg :: vh :: cs) := Reps.front hp rfl h rfl
theorem Reps.c9 {α : Type} {R : α → List Value → Prop} {ps : List α} {cs : List Value} {p : α} {va vb vc vd ve vf vg vh vi : Value} (hp : R p [va, vb, vc, vd, ve, vf, vg, vh, vi]) (h : Reps R 9 ps cs) : Reps R 9 (p :: ps) (va :: vb :: vc :: vd :: ve :: vf :: vg :: vh :: vi :: cs) := Reps.front hp rfl h rfl
theorem Reps.c10 {α : Type} {R : α → List Value → Prop} {ps : List α} {cs : List Value} {p : α} {va vb vc vd ve vf vg vh vi vj : Value} (hp : R p [va, vb, vc, vd, ve, vf, vg, vh, vi, vj]) (h : Reps R 10 ps cs) : Reps R 10 (p :: ps) (va :: vb :: vc :: vd :: ve :: vf :: vg :: vh :: vi :: vj :: cs) := Reps.front hp rfl h rfl
end Go.Proofs.YticgblagimmlfaaW.PrintWords
end
section
/-! ### 57. A region of open order by ONE relation over what is listed so far: each operation is shown once, whatever came up before it -/
namespace Go.Proofs.YticgblagimmlfaaW.PrintLast
/-- Number i is listed too. -/
def up (b : Nat → Bool) (i : Nat) : Nat → Bool := fun j => if j = i then true else b j
/-- What is listed: O's operations by b, all else already. -/
def lof (n : Nat) (O : List Nat) (b : Nat → Bool) : List Bool := (List.range n).map fun j => if O.contains j then b j else true
/-- The destinations of what is listed are filled. -/
def putSel (a : Act) (b : Nat → Bool) : List (Nat × Tmp × Value) → Act
  | [] => a
  | e :: r => putSel (if b e.1 = true then a.put (some e.2.1) e.2.2 else a) b r
section
variable {P : Program} {ops : Array Oper} {Q : Exit → Act → World → Prop} {md : Region.Mode} {T : Bool × List (List Nat × List Nat)} {B : List Nat} {O : List Nat} {b : Nat → Bool} {i j n : Nat}
/-- The step of operation i: out of the relation, it not being listed, all it waits for being so, and nothing that waits for it. -/
def StepAt (P : Program) (ops : Array Oper) (Q : Exit → Act → World → Prop) (B : List Nat) (O : List Nat) (I : (Nat → Bool) → Act → World → Prop) (i : Nat) : Prop :=
  ∀ b a w, I b a w → b i = false → (∀ j, (O.contains j && (B.getD i 0).testBit j) = true → b j = true) → (∀ d, (O.contains d && (B.getD d 0).testBit i) = true → b d = false) →
    ∃ oi, ops[i]? = some oi ∧ ∀ K : Act → World → Prop, Shut (∀ a' w', I (up b i) a' w' → K a' w') → if Region.wanted oi (yielded ops a.tmps) = true then Oper.wp P oi a w K Q else K (a.put oi.dst undef) w
/-- Every edge goes to an earlier operation; what is listed already waits for nothing of O; O's numbers are the region's, each once. -/
def baseOk (T : List (List Nat × List Nat)) (O : List Nat) : Bool :=
  (List.range T.length).all (fun d => match T[d]? with
    | some r => (O.contains d || r.1.all fun n => !O.contains n) && r.1.all fun n => decide (n < d)
    | none => false) && O.all (fun i => decide (i < T.length)) && decide O.Nodup
def Closed (T : List (List Nat × List Nat)) (O : List Nat) (b : Nat → Bool) : Prop := ∀ d r, T[d]? = some r → O.contains d = true → b d = true → ∀ n ∈ r.1, O.contains n = true → b n = true
/-! The frame: what is listed has its destination filled. -/
end
end Go.Proofs.YticgblagimmlfaaW.PrintLast
end
section
namespace Go.Proofs.YticgblagimmlfaaW.PrintWords
open Go.RowKit
end Go.Proofs.YticgblagimmlfaaW.PrintWords
namespace Go.Proofs.YticgblagimmlfaaW.PrintLast
section
variable {ops : Array Oper} {a : Act} {o og : Oper} {g : Nat} {t : Tmp} {u : Bool}
end
end Go.Proofs.YticgblagimmlfaaW.PrintLast
end
section
/-! ### 58. A guarded operation whose guard is known to want it: the same goal without the guard -/
namespace Go.Proofs.YticgblagimmlfaaW.PrintWords
open Go.RowKit
section
variable {P : Program} {ops : Array Oper} {rest : List Oper} {o : Oper} {a : Act} {Q : Exit → Act → World → Prop} {W : World}
end
end Go.Proofs.YticgblagimmlfaaW.PrintWords
end
section
/- The reference's Field: what print.sh wrote for this law. -/
namespace Go.Proofs.Yticgblagimmlfaa
open Go.RowKit Go.Proofs.YticgblagimmlfaaW.PrintWords Go.Proofs.YticgblagimmlfaaW.PrintLast Go.Proofs.YticgblagimmlfaaW.PrintMore
attribute [local go_sem] max2_int min2_int max_two min_two max_three min_three max_four min_four   -- for this text's walks alone
set_option linter.unusedVariables false
set_option linter.unusedSimpArgs false

/-! ### codewrightref12_Field: function 115 -/
def codewrightref12_Field.f (a0_0 : Int) (a0_1 : Int) (l0_2 : List Int) : Option (Int × Int × List Int) := (some (([] : List Int) : List Int)).bind fun y769 => (if y769.length + l0_2.length < 17592186044416 then (some (a0_0, a0_1, (y769 ++ l0_2))) else (none))
def codewrightref12_Field.T1 : Bool × List (List Nat × List Nat) := (true, [([], []), ([0], [0]), ([], []), ([2], [2]), ([], []), ([], []), ([5], [5]), ([4, 6], [4, 6]), ([1, 3, 7], [1, 3, 7]), ([8, 7, 0, 1, 2, 3, 4, 5, 6, 7, 8], [8])])
def codewrightref12_Field.B1 : List Nat := [0, 1, 0, 4, 0, 0, 32, 112, 255, 511]
theorem codewrightref12_Field.tab1 : rtab .any (opsOf Try.f115 1) = codewrightref12_Field.T1 := by kernel_rfl
theorem codewrightref12_Field.bits1 : waitsOk codewrightref12_Field.T1.2 codewrightref12_Field.B1 = true := by kernel_rfl
set_option maxHeartbeats 8000000 in
set_option maxRecDepth 100000 in
theorem codewrightref12_Field.calls (a0_0 : Int) (a0_1 : Int) (A0_2 : Option Addr) (c0_2 : Nat) (l0_2 : List Int) (r1 : Int) (r2 : Int) (r3 : List Int) (w : World) (hr0_2 : Kd.C (Kd.int .i64) w A0_2 l0_2.length l0_2) (hc0_2 : l0_2.length ≤ c0_2) (h : codewrightref12_Field.f a0_0 a0_1 l0_2 = some (r1, r2, r3)) :
    Calls Try.prog 115 #[.agg #[.int .i64 a0_0, .int .i64 a0_1, .slice A0_2 l0_2.length c0_2]] w fun e w' => ∃ v2_ : Value, e = .returned (.agg #[.int .i64 r1, .int .i64 r2, v2_]) ∧ Kd.R (Kd.int .i64) 3 w' w.heap.size (fun _ => True) v2_ r3 ∧ Below w.heap.size w w' := by
  have hu27 := Try.underlying27
  have HR0_2 := Aside0.mk hr0_2
  have HC0_2 := Aside0.mk hc0_2
  clear hr0_2 hc0_2
  have HB := Aside0.mk (Below.refl w.heap.size w)
  have H : ((some (([] : List Int) : List Int)).bind fun y769 => (if y769.length + l0_2.length < 17592186044416 then (some (a0_0, a0_1, (y769 ++ l0_2))) else (none))) = some (r1, r2, r3) := h
  clear h
  obtain ⟨y769, hy769⟩ : ∃ y_ : List Int, y_ = (([] : List Int)) := ⟨_, rfl⟩
  replace H : (if y769.length + l0_2.length < 17592186044416 then (some (a0_0, a0_1, (y769 ++ l0_2))) else (none)) = some (r1, r2, r3) := by first | (rw [hy769]; with_reducible exact H) | (have H2_ := (Option.bind_some _ _).symm.trans H; rw [hy769]; with_reducible exact H2_) | (have H2_ := (Option.bind_some _ _).symm.trans H; with_reducible exact H2_) | with_reducible exact H | (rw [hy769]; exact H) | exact H
  have Ny769 := Aside0.mk hy769
  clear hy769
  by_cases c2 : y769.length + l0_2.length < 17592186044416
  · rw [if_pos c2] at H
    have LMc2 := Aside0.mk c2
    clear c2
    obtain ⟨y772, hy772⟩ : ∃ y_ : List Int, y_ = (y769 ++ l0_2) := ⟨_, rfl⟩
    replace H : (some (a0_0, a0_1, y772)) = some (r1, r2, r3) := by first | (rw [hy772]; with_reducible exact H) | (have H2_ := (Option.bind_some _ _).symm.trans H; rw [hy772]; with_reducible exact H2_) | (have H2_ := (Option.bind_some _ _).symm.trans H; with_reducible exact H2_) | with_reducible exact H | (rw [hy772]; exact H) | exact H
    have Ny772 := Aside0.mk hy772
    clear hy772
    simp only [Option.some.injEq, Prod.mk.injEq] at H
    obtain ⟨rfl, rfl, rfl⟩ := H
    go_enter Try.func115, Try.ntmps115
    try go_wp2_with (first | ((with_reducible refine gate_dst (N := 1) rfl ?_); refine box_event ?hg (N := 1) ?hd (cs := #[.int .i64 a0_0, .int .i64 a0_1, .slice A0_2 l0_2.length c0_2]) (t := 27) ?hr ?_; (case hd => rfl); (case hg => rfl); (case hr => first | (go_simp; done) | (go_simp; rfl)); intro gb767 hg w3 hbox hb; have n0_ := Aside0.mk (below_step (by repeat (first | (with_reducible first | exact HB.out | apply below_alloc | apply pw_below_drewN | apply below_drew1) | exact HB.out)) hb); have n1_ := Aside0.mk (hbox); have n2_ := Aside0.mk ((by rw [hg]; exact (below_size (by repeat (first | (with_reducible first | exact HB.out | apply below_alloc | apply pw_below_drewN | apply below_drew1) | exact HB.out))) : w.heap.size ≤ gb767)); have n3_ := Aside0.mk ((by rw [hg]; exact (below_size (by repeat (first | (with_reducible first | exact HB.out | apply below_alloc | apply pw_below_drewN | apply below_drew1) | exact HB.out))) : w.heap.size ≤ gb767)); clear HB; have HB := n0_; have BK767 := n1_; have GW767 := n2_; have GE767 := n3_; clear n0_ n1_ n2_ n3_; clear hb hbox hg) | ((with_reducible refine gate_dst (N := 2) rfl ?_); refine box_event ?hg (N := 2) ?hd (cs := #[.int .i64 0, .int .i64 0, .slice none 0 0]) (t := 27) ?hr ?_; (case hd => rfl); (case hg => rfl); (case hr => first | (go_simp; done) | (go_simp; rfl)); intro gb768 hg w4 hbox hb; have n0_ := Aside0.mk (blk_below (g := gb767) (o := .cells #[.int .i64 a0_0, .int .i64 a0_1, .slice A0_2 l0_2.length c0_2] 27 (0, 0)) (by (with_reducible repeat (first | refine blk_drewN ?_ _ | refine blk_drew ?_ | refine blk_alloc ?_ _)); exact BK767.out) hb); have n1_ := Aside0.mk (below_step (by repeat (first | (with_reducible first | exact HB.out | apply below_alloc | apply pw_below_drewN | apply below_drew1 | refine below_set ?_ GE767.out) | exact HB.out)) hb); have n2_ := Aside0.mk (hbox); have n3_ := Aside0.mk ((by rw [hg]; exact (below_size (by repeat (first | (with_reducible first | exact HB.out | apply below_alloc | apply pw_below_drewN | apply below_drew1 | refine below_set ?_ GE767.out) | exact HB.out))) : w.heap.size ≤ gb768)); have n4_ := Aside0.mk ((by rw [hg]; exact (below_size (by repeat (first | (with_reducible first | exact HB.out | apply below_alloc | apply pw_below_drewN | apply below_drew1 | refine below_set ?_ GE767.out) | exact HB.out))) : w.heap.size ≤ gb768)); have n5_ := Aside0.mk ((by rw [hg]; exact Nat.ne_of_lt (blk_lt (g := gb767) (o := .cells #[.int .i64 a0_0, .int .i64 a0_1, .slice A0_2 l0_2.length c0_2] 27 (0, 0)) (by (with_reducible repeat (first | refine blk_drewN ?_ _ | refine blk_drew ?_ | refine blk_alloc ?_ _)); exact BK767.out)) : gb767 ≠ gb768)); have n6_ := Aside0.mk ((by rw [hg]; exact Nat.ne_of_gt (blk_lt (g := gb767) (o := .cells #[.int .i64 a0_0, .int .i64 a0_1, .slice A0_2 l0_2.length c0_2] 27 (0, 0)) (by (with_reducible repeat (first | refine blk_drewN ?_ _ | refine blk_drew ?_ | refine blk_alloc ?_ _)); exact BK767.out)) : gb768 ≠ gb767)); clear BK767; clear HB; have BK767 := n0_; have HB := n1_; have BK768 := n2_; have GW768 := n3_; have GE768 := n4_; have NB767_768 := n5_; have NB768_767 := n6_; clear n0_ n1_ n2_ n3_ n4_ n5_ n6_; clear hb hbox hg))
    have n0_ := Aside0.mk (blk_drew BK767.out)
    have n1_ := Aside0.mk (blk_drew BK768.out)
    have n2_ := Aside0.mk (below_drew1 HB.out)
    clear BK767
    clear BK768
    clear HB
    have BK767 := n0_
    have BK768 := n1_
    have HB := n2_
    clear n0_ n1_ n2_
    refine start_ (n := 10) (S := fun w' => w'.cell? ⟨gb767, 0, none⟩ = some (.int .i64 a0_0) ∧ w'.cell? ⟨gb767, 1, none⟩ = some (.int .i64 a0_1) ∧ w'.cell? ⟨gb767, 2, none⟩ = some (.slice A0_2 l0_2.length c0_2)) (ds := []) #[false, false, false, false, false, false, false, false, false, false] (by kernel_rfl) rfl rfl ⟨(blk_cell BK767.out 0).trans rfl, (blk_cell BK767.out 1).trans rfl, (blk_cell BK767.out 2).trans rfl⟩ (fun hHeld => ?_); refine with_tabW codewrightref12_Field.tab1 codewrightref12_Field.bits1 (fun HT_ HW_ => ?_)
    generalize w4.drew = w5 at BK767 BK768 HB hHeld ⊢
    refine pure_ (i := 0) (N := some 3) (v := ?_) (a' := ?_) #[true, false, false, false, false, false, false, false, false, false] rfl rfl (any_of HT_.out (by kernel_rfl)) (fun _ _ _ h => h) (Or.inl ⟨by rfl, ?_⟩) ?_ ?_
    rotate_left
    · intro w'
      go_simp
      with_reducible rfl
    rotate_left
    · simp only [Act.put, List.setIfInBounds_toArray, List.set_cons_zero, List.set_cons_succ, i64_w, i32_w]
      rfl
    refine pure_ (i := 2) (N := some 5) (v := ?_) (a' := ?_) #[true, false, true, false, false, false, false, false, false, false] rfl rfl (any_of HT_.out (by kernel_rfl)) (fun _ _ _ h => h) (Or.inl ⟨by rfl, ?_⟩) ?_ ?_
    rotate_left
    · intro w'
      go_simp
      with_reducible rfl
    rotate_left
    · simp only [Act.put, List.setIfInBounds_toArray, List.set_cons_zero, List.set_cons_succ, i64_w, i32_w]
      rfl
    refine pure_ (i := 5) (N := some 8) (v := ?_) (a' := ?_) #[true, false, true, false, false, true, false, false, false, false] rfl rfl (any_of HT_.out (by kernel_rfl)) (fun _ _ _ h => h) (Or.inl ⟨by rfl, ?_⟩) ?_ ?_
    rotate_left
    · intro w'
      go_simp
      with_reducible rfl
    rotate_left
    · simp only [Act.put, List.setIfInBounds_toArray, List.set_cons_zero, List.set_cons_succ, i64_w, i32_w]
      rfl
    refine take_ (i := 1) (N := some 4) (v := ?_) (a' := ?_) #[true, true, true, false, false, true, false, false, false, false] rfl rfl (take_ofW HT_.out HW_.out (by kernel_rfl)) (fun _ _ _ h => h) (Or.inl ⟨by rfl, ?_⟩) hHeld ?_ ?_
    rotate_left
    · rintro w' ⟨s0, s1, s2⟩
      go_simp
      with_reducible rfl
    rotate_left
    · simp only [Act.put, List.setIfInBounds_toArray, List.set_cons_zero, List.set_cons_succ, i64_w, i32_w]
      rfl
    refine take_ (i := 3) (N := some 6) (v := ?_) (a' := ?_) #[true, true, true, true, false, true, false, false, false, false] rfl rfl (take_ofW HT_.out HW_.out (by kernel_rfl)) (fun _ _ _ h => h) (Or.inl ⟨by rfl, ?_⟩) hHeld ?_ ?_
    rotate_left
    · rintro w' ⟨s0, s1, s2⟩
      go_simp
      with_reducible rfl
    rotate_left
    · simp only [Act.put, List.setIfInBounds_toArray, List.set_cons_zero, List.set_cons_succ, i64_w, i32_w]
      rfl
    refine take_ (i := 6) (N := some 9) (v := ?_) (a' := ?_) #[true, true, true, true, false, true, true, false, false, false] rfl rfl (take_ofW HT_.out HW_.out (by kernel_rfl)) (fun _ _ _ h => h) (Or.inl ⟨by rfl, ?_⟩) hHeld ?_ ?_
    rotate_left
    · rintro w' ⟨s0, s1, s2⟩
      go_simp
      with_reducible rfl
    rotate_left
    · simp only [Act.put, List.setIfInBounds_toArray, List.set_cons_zero, List.set_cons_succ, i64_w, i32_w]
      rfl
    refine one_ (i := 4) (N := some 7) #[true, true, true, true, true, true, true, false, false, false] rfl rfl (one_of HT_.out (by kernel_rfl)) (by decide) (fun K hK => ?_)
    refine Kd.R_lit_step (Kd.int .i64) _ 3 ?hg (N := 7) ?hd (xs := ([] : List Int)) (inner := []) (ok := fun _ => True) (okp := fun _ => True) ?hr ?hp (fun _ hk => hk) trivial (Below.refl _ _) (Nat.le_refl _) (by simp) ?_; (case hd => rfl); (case hg => rfl); (case hr => first | (go_simp; done) | (go_simp; rfl)); (case hp => exact (Reps.none _ _))
    intro v770 w6 ho7 hb hg_ hnew_
    clear hg_ hnew_
    (first | rw [← Ny769.out] at ho7 | (simp only [Int.reduceToNat] at ho7; rw [← Ny769.out] at ho7))
    have n0_ := Aside0.mk (Kd.R_lower ho7 (below_size (by repeat (first | (with_reducible first | exact HB.out | apply below_alloc | apply pw_below_drewN | apply below_drew1 | refine below_set ?_ GE767.out | refine below_set ?_ GE768.out) | exact HB.out))))
    have n1_ := Aside0.mk (blk_below (g := gb767) (o := .cells #[.int .i64 a0_0, .int .i64 a0_1, .slice A0_2 l0_2.length c0_2] 27 (0, 0)) (by (with_reducible repeat (first | refine blk_drewN ?_ _ | refine blk_drew ?_ | refine blk_alloc ?_ _)); exact BK767.out) hb)
    have n2_ := Aside0.mk (blk_below (g := gb768) (o := .cells #[.int .i64 0, .int .i64 0, .slice none 0 0] 27 (0, 0)) (by (with_reducible repeat (first | refine blk_drewN ?_ _ | refine blk_drew ?_ | refine blk_alloc ?_ _)); exact BK768.out) hb)
    have n3_ := Aside0.mk (below_step (by repeat (first | (with_reducible first | exact HB.out | apply below_alloc | apply pw_below_drewN | apply below_drew1 | refine below_set ?_ GE767.out | refine below_set ?_ GE768.out) | exact HB.out)) hb)
    clear BK767
    clear BK768
    clear HB
    have HO771 := n0_
    have BK767 := n1_
    have BK768 := n2_
    have HB := n3_
    clear n0_ n1_ n2_ n3_
    clear hb ho7
    refine hK.out _ _ ⟨(blk_cell BK767.out 0).trans rfl, (blk_cell BK767.out 1).trans rfl, (blk_cell BK767.out 2).trans rfl⟩ (fun hHeld => ?_)
    clear hK K
    refine norm_ (a' := ?_) ?_ ?_
    rotate_left
    · show Act.put _ (some 7) _ = _
      simp only [Act.put, List.setIfInBounds_toArray, List.set_cons_zero, List.set_cons_succ, i64_w, i32_w]
      rfl
    refine one_ (i := 7) (N := some 10) #[true, true, true, true, true, true, true, true, false, false] rfl rfl (one_of HT_.out (by kernel_rfl)) (by decide) (fun K hK => ?_)
    refine Kd.R_append_rows_step (Kd.int .i64) (w0 := w) w.heap.size (by rfl) (.tmp 7) (.tmp 9) 25 3 (.int .i64 0) 8 rfl Try.underlying25 info3 rfl (by decide) (by omega) v770 y769 l0_2 _ _ _ (fun _ => True) (fun _ => False) rfl rfl ?aO ?aR (fun _ _ h => h) (fun _ h => h.elim) ?aF ?aB ?aS ?aL ?_
    (case aR => repeat (first | exact (Kd.C_below HR0_2.out HB.out) | (with_reducible refine Kd.C_alloc ?_ _) | (with_reducible refine Kd.C_drewN ?_ _) | (with_reducible refine Kd.C_drew ?_)))
    (case aB => exact (by repeat (first | (with_reducible first | exact HB.out | apply below_alloc | apply pw_below_drewN | apply below_drew1 | refine below_set ?_ GE767.out | refine below_set ?_ GE768.out) | exact HB.out)))
    (case aF => exact (fun _ _ => trivial))
    (case aO => exact (by (with_reducible repeat (first | apply Kd.R_alloc | apply Kd.R_drewN | apply Kd.R_drew)); exact HO771.out))
    (case aS => exact (below_size (by repeat (first | (with_reducible first | exact HB.out | apply below_alloc | apply pw_below_drewN | apply below_drew1 | refine below_set ?_ GE767.out | refine below_set ?_ GE768.out) | exact HB.out))))
    (case aL => have := LMc2.out; omega)
    intro v773 w8 ho hb hg hat
    rw [← Ny772.out] at ho
    have n0_ := Aside0.mk (blk_grown (g := gb767) (o := .cells #[.int .i64 a0_0, .int .i64 a0_1, .slice A0_2 l0_2.length c0_2] 27 (0, 0)) (by (with_reducible repeat (first | refine blk_drewN ?_ _ | refine blk_drew ?_ | refine blk_alloc ?_ _)); exact BK767.out) hg (Kd.R_ne HO771.out BK767.out (by decide)))
    have n1_ := Aside0.mk (blk_grown (g := gb768) (o := .cells #[.int .i64 0, .int .i64 0, .slice none 0 0] 27 (0, 0)) (by (with_reducible repeat (first | refine blk_drewN ?_ _ | refine blk_drew ?_ | refine blk_alloc ?_ _)); exact BK768.out) hg (Kd.R_ne HO771.out BK768.out (by decide)))
    have n2_ := Aside0.mk (hb)
    have n3_ := Aside0.mk (ho)
    clear BK767
    clear BK768
    clear HB
    clear HO771
    have BK767 := n0_
    have BK768 := n1_
    have HB := n2_
    have HO774 := n3_
    clear n0_ n1_ n2_ n3_
    clear ho hb hg hat
    obtain ⟨Ao9, co9, eo9⟩ := Kd.R_slice HO774.out
    (first | subst eo9 | (injection eo9 with f1_ f2_ f3_; have f4_ := f1_.symm; have f5_ := f3_.symm; clear f1_ f2_ f3_; subst f4_; subst f5_))
    refine hK.out _ _ ⟨(blk_cell BK767.out 0).trans rfl, (blk_cell BK767.out 1).trans rfl, (blk_cell BK767.out 2).trans rfl⟩ (fun hHeld => ?_)
    clear hK K
    refine norm_ (a' := ?_) ?_ ?_
    rotate_left
    · show Act.put _ (some 10) _ = _
      simp only [Act.put, List.setIfInBounds_toArray, List.set_cons_zero, List.set_cons_succ, i64_w, i32_w]
      rfl
    refine pure_ (i := 8) (N := some 11) (v := ?_) (a' := ?_) #[true, true, true, true, true, true, true, true, true, false] rfl rfl (any_of HT_.out (by kernel_rfl)) (fun _ _ _ h => h) (Or.inl ⟨by rfl, ?_⟩) ?_ ?_
    rotate_left
    · intro w'
      go_simp
      with_reducible rfl
    rotate_left
    · simp only [Act.put, List.setIfInBounds_toArray, List.set_cons_zero, List.set_cons_succ, i64_w, i32_w]
      rfl
    refine one_ (i := 9) (N := none) #[true, true, true, true, true, true, true, true, true, true] rfl rfl (one_of HT_.out (by kernel_rfl)) (by decide) (fun K hK => ?_)
    have hs10 : w8.cell? ⟨gb768, 0, none⟩ = some (.int .i64 0) := (blk_cell BK768.out 0).trans rfl
    have hfs10 := blk_frozen BK768.out 0
    have hns10_0 := NB767_768.out
    have hms10_0 := NB768_767.out
    have hs11 : w8.cell? ⟨gb768, 1, none⟩ = some (.int .i64 0) := (blk_cell BK768.out 1).trans rfl
    have hfs11 := blk_frozen BK768.out 1
    have hns11_0 := NB767_768.out
    have hms11_0 := NB768_767.out
    have hs12 : w8.cell? ⟨gb768, 2, none⟩ = some (.slice none 0 0) := (blk_cell BK768.out 2).trans rfl
    have hfs12 := blk_frozen BK768.out 2
    have hns12_0 := NB767_768.out
    have hms12_0 := NB768_767.out
    refine skip_ (w1 := ?_) (by rfl) rfl ?_ ?_
    rotate_left
    · go_simp
      rfl
    refine hK.out _ _ ⟨((cell_far (p := ⟨gb768, _, none⟩) NB767_768.out _).trans (((cell_far (p := ⟨gb768, _, none⟩) NB767_768.out _).trans (((cell_far (p := ⟨gb768, _, none⟩) NB767_768.out _).trans (hHeld.1)))))), ((cell_far (p := ⟨gb768, _, none⟩) NB767_768.out _).trans (((cell_far (p := ⟨gb768, _, none⟩) NB767_768.out _).trans (((cell_far (p := ⟨gb768, _, none⟩) NB767_768.out _).trans (hHeld.2.1)))))), ((cell_far (p := ⟨gb768, _, none⟩) NB767_768.out _).trans (((cell_far (p := ⟨gb768, _, none⟩) NB767_768.out _).trans (((cell_far (p := ⟨gb768, _, none⟩) NB767_768.out _).trans (hHeld.2.2))))))⟩ (fun hHeld => ?_)
    clear hK K
    refine done_ (done_of HT_.out (by kernel_rfl)) ?_
    try go_wp2
    refine bodyPost_ret (results_cell_row rfl _ _ gb768 27 #[.int .i64 a0_0, .int .i64 a0_1, .slice Ao9 y772.length co9] (0, 0) _ rfl (by (with_reducible repeat (first | refine blk_drewN ?_ _ | refine blk_drew ?_ | refine blk_alloc ?_ _)); refine blk_put (cs := #[.int .i64 a0_0, .int .i64 a0_1, .slice none 0 0]) ?_ 2 _ rfl; (with_reducible repeat (first | refine blk_drewN ?_ _ | refine blk_drew ?_ | refine blk_alloc ?_ _)); refine blk_put (cs := #[.int .i64 a0_0, .int .i64 0, .slice none 0 0]) ?_ 1 _ rfl; (with_reducible repeat (first | refine blk_drewN ?_ _ | refine blk_drew ?_ | refine blk_alloc ?_ _)); refine blk_put (cs := #[.int .i64 0, .int .i64 0, .slice none 0 0]) ?_ 0 _ rfl; (with_reducible repeat (first | refine blk_drewN ?_ _ | refine blk_drew ?_ | refine blk_alloc ?_ _)); exact BK768.out) Try.underlying27 rfl (by kernel_rfl)) rfl ?_
    exact ⟨_, by first | rfl | (simp [errW_none, errW_some] <;> rfl) | (simp [*, errW_none, errW_some] <;> rfl), by (with_reducible repeat (first | apply Kd.R_alloc | apply Kd.R_drewN | apply Kd.R_drew)); exact Kd.R_mono (Kd.R_far (p := ⟨gb768, 2, none⟩) (Kd.R_far (p := ⟨gb768, 1, none⟩) (Kd.R_far (p := ⟨gb768, 0, none⟩) (Kd.R_types HO774.out BK768.out (by decide)) (fun _ hk => hk.2) (.int .i64 a0_0)) (fun _ hk => hk.2) (.int .i64 a0_1)) (fun _ hk => hk.2) (.slice Ao9 y772.length co9)) (fun _ hk => trivial), by repeat (first | (with_reducible first | exact HB.out | apply below_alloc | apply pw_below_drewN | apply below_drew1 | refine below_set ?_ GE767.out | refine below_set ?_ GE768.out) | exact HB.out)⟩
  · rw [if_neg c2] at H
    exact absurd H (by simp)

-- NOT PRINTED: function 75 (codewrightref12_Make)

-- NOT PRINTED: function 45 (codewrightref18_Code)

-- NOT PRINTED: function 20 (codewrightref18_Has)

-- NOT PRINTED: function 4 (codewrightlaw39_BoundedHonest)

end Go.Proofs.Yticgblagimmlfaa
end
section
/- The reference: Make. -/
namespace Go.Proofs.Yticgblagimmlfaa
open Go.RowKit Go.Proofs.YticgblagimmlfaaW.PrintWords Go.Proofs.YticgblagimmlfaaW.PrintLast Go.Proofs.YticgblagimmlfaaW.PrintMore
set_option linter.unusedVariables false
set_option linter.unusedSimpArgs false

/-- A store into an older block. -/
theorem OA.older {w : World} {base b k : Nat} {A : Option Addr} {ls : List (List Int)} (h : OA w base A ls) (hb : b < base) (u : Value) : OA (w.setCell ⟨b, k, none⟩ u) base A ls := by
  have hgb : ∀ g, base ≤ g → (w.setCell ⟨b, k, none⟩ u).heap[g]? = w.heap[g]? := fun g hg => Below.heap_setCell w ⟨b, k, none⟩ u g (by show g ≠ b; omega)
  have hcell : ∀ g i, base ≤ g → (w.setCell ⟨b, k, none⟩ u).cell? ⟨g, i, none⟩ = w.cell? ⟨g, i, none⟩ := fun g i hg => by unfold World.cell?; rw [hgb g hg]
  refine ⟨fun i hi => ?_, fun i hi g v k' e hc h0 hk => ?_, fun g e hp => ?_⟩
  · obtain ⟨g, v, e, hbg, hc, hf, hr⟩ := h.out i hi
    refine ⟨g, v, e, hbg, by rw [hcell g i hbg]; exact hc, by rw [World.frozen?_setCell]; exact hf, ?_⟩
    by_cases h0 : 0 < (ls.getD i []).length
    · exact hr.keepBlk fun k' hk _ => hgb k' (h.inb i hi g v k' e hc h0 hk)
    · obtain ⟨B, d, rfl, hl, hC⟩ := hr.out
      exact ⟨B, d, rfl, hl, ⟨rfl, hC.2.1, fun hn => absurd hn h0⟩⟩
  · obtain ⟨g', v', e', hbg, hc', -, -⟩ := h.out i hi
    rw [e] at e'
    cases e'
    rw [hcell g i hbg] at hc
    exact h.inb i hi g v k' e hc h0 hk
  · obtain ⟨g', v', e', hbg, -⟩ := h.out 0 hp
    rw [e] at e'
    cases e'
    obtain ⟨cs, hcs⟩ := h.blk g e hp
    exact ⟨cs, (hgb g hbg).trans hcs⟩
/-- What Make returns. -/
structure MakeOut (K : FD) (rows : List (List Int)) (n : Nat) (w' : World) (base : Nat) (e : Ending) : Prop where mk ::
  out : ∃ (A0 : Option Addr) (c0 : Nat) (A1 : Option Addr) (c1 : Nat) (l : List (List Int)) (pv : List Int) (t cc : Nat), e = .returned (.agg #[.int .i64 K.P, .int .i64 (K.m : Int), .slice A0 K.Mod.length c0, .int .i64 n, .slice A1 t c1]) ∧ Own w' base (.slice A0 K.Mod.length c0) K.Mod ∧ OA w' base A1 (l.take t) ∧ (l.take t).length = t ∧ t ≤ c1 ∧ t ≤ rows.length ∧ Reach K.D rows cc t l pv ∧ cc ≤ n ∧ (cc = n ∨ t = rows.length)
theorem rField {w : World} {A : Option Addr} {c : Nat} (K : FD) (hC : Kd.C (Kd.int .i64) w A K.Mod.length K.Mod) (hc : K.Mod.length ≤ c) :
    Calls Try.prog 115 #[.agg #[.int .i64 K.P, .int .i64 (K.m : Int), .slice A K.Mod.length c]] w fun e w' => ∃ v, e = .returned (.agg #[.int .i64 K.P, .int .i64 (K.m : Int), v]) ∧ Own w' w.heap.size v K.Mod ∧ Below w.heap.size w w' := by
  refine (codewrightref12_Field.calls K.P (K.m : Int) A c K.Mod K.P (K.m : Int) K.Mod w hC hc ?_).mono ?_
  · unfold codewrightref12_Field.f
    have hml : K.Mod.length ≤ 8 := by
      by_cases h : K.m = 1
      · rw [K.one h]; exact Nat.zero_le _
      · rw [K.len (by have := K.m1; omega)]; exact K.m8
    show (if ([] : List Int).length + K.Mod.length < 17592186044416 then some (K.P, (K.m : Int), [] ++ K.Mod) else none) = _
    rw [if_pos (by rw [List.length_nil]; omega)]
    rfl
  · rintro e w' ⟨v, rfl, h1, h2⟩
    exact ⟨v, rfl, ⟨h1⟩, h2⟩

set_option maxHeartbeats 8000000 in
set_option maxRecDepth 100000 in
theorem rMake {w : World} {A B : Option Addr} {c d n : Nat} (K : FD) (hC : Kd.C (Kd.int .i64) w A K.Mod.length K.Mod) (hc : K.Mod.length ≤ c) {ls : List (List Int)} (hl : Kd.C (Kd.slice 3 (Kd.int .i64)) w B ls.length ls) (h1 : ls.length ≤ 1000) (hn : n ≤ 1000) (hs : Shp K.D n ls) :
    Calls Try.prog 75 #[.agg #[.int .i64 K.P, .int .i64 (K.m : Int), .slice A K.Mod.length c], .slice B ls.length d, .int .i64 n] w fun e w' => MakeOut K ls n w' w.heap.size e ∧ Below w.heap.size w w' := by
  have hF0 := FAt.new w K.P (K.m : Int) A K.Mod.length c
  obtain ⟨w0, hw0⟩ : ∃ w0, w.alloc (.cells #[.int .i64 K.P, .int .i64 (K.m : Int), .slice A K.Mod.length c] 27) = w0 := ⟨_, rfl⟩
  have hB0 : Below w.heap.size w w0 := by rw [← hw0]; exact below_alloc (Below.refl _ _) _
  rw [hw0] at hF0
  obtain ⟨w1, hw1⟩ : ∃ w1, w0.alloc (.cells #[.int .i64 0, .int .i64 0, .slice none 0 0, .int .i64 0, .slice none 0 0] 63) = w1 := ⟨_, rfl⟩
  have hB1 : Below w0.heap.size w0 w1 := by rw [← hw1]; exact below_alloc (Below.refl _ _) _
  have hz0 : w0.heap.size = w.heap.size + 1 := by rw [← hw0]; simp
  have hz : w1.heap[w0.heap.size]? = some (.cells #[.int .i64 0, .int .i64 0, .slice none 0 0, .int .i64 0, .slice none 0 0] 63 (0, 0)) := by rw [← hw1]; exact blk_new _ _
  rw [hz0] at hz
  have HB1 := Aside0.mk (below_later hB0 hB0.size hB1)
  have HF := Aside0.mk (hF0.below hB1)
  have HZ := Aside0.mk hz
  have HW0 := Aside0.mk hw0
  have HW1 := Aside0.mk hw1
  have HZs := Aside0.mk hB0.size
  have HMod := Aside0.mk (Kd.C_below hC HB1.out)
  have HCa := Aside0.mk (rCanon (c := c) (d := d) K HMod.out (Kd.C_below hl HB1.out) h1 hn hs)
  have HFi := Aside0.mk (fun (w2 : World) (hb : Below w1.heap.size w1 w2) => rField (c := c) K (Kd.C_below HMod.out hb) hc)
  have HMk := Aside0.mk (fun (w' : World) (base : Nat) (e : Ending) (h : _) => (MakeOut.mk h : MakeOut K ls n w' base e))
  obtain ⟨cP, cM, cD⟩ := HF.out
  clear hF0 hB0 hw0 hw1 hB1 hz hz0 hC hl hs
  go_enter Try.func75, Try.ntmps75
  go_upto_region 1 with (fail)
  rw [HW0.out, HW1.out]
  go_wp2_with (first
    | (go_at_call 114; (with_reducible refine Calls.mono HCa.out ?_); rintro e w2 ⟨hO, hB⟩; obtain ⟨A1, c1, l, v2, pv, t, cc, rfl, ho, hlt, hc1, htN, hr, hcn, hend⟩ := hO.out; have HO2 := Aside0.mk ho; have HR := Aside0.mk hr; have HEnd := Aside0.mk hend; have Hlt := Aside0.mk hlt; have HB2 := Aside0.mk hB; obtain ⟨cP2, cM2, cD2⟩ := HF.out.below hB; have HZ2 := Aside0.mk (blk_below HZ.out hB); clear hO hB ho hr hend hlt)
    | (go_at_call 115; (with_reducible refine Calls.mono (HFi.out _ HB2.out) ?_); rintro e w3 ⟨v3, rfl, hO, hB⟩; obtain ⟨A0, c0, rfl, -, hC0⟩ := hO.slice; have HOw := Aside0.mk hO; have HO3 := Aside0.mk (HO2.out.below hB); have HB3 := Aside0.mk (below_later HB2.out HB2.out.size hB); have HZ3 := Aside0.mk (blk_below HZ2.out hB); have z0 := blk_cell HZ3.out 0; have z1 := blk_cell HZ3.out 1; have z2 := blk_cell HZ3.out 2; have z3 := blk_cell HZ3.out 3; have z4 := blk_cell HZ3.out 4; have f0 := blk_frozen HZ3.out 0; have f1 := blk_frozen HZ3.out 1; have f2 := blk_frozen HZ3.out 2; have f3 := blk_frozen HZ3.out 3; have f4 := blk_frozen HZ3.out 4; simp at z0 z1 z2 z3 z4; clear hO hB hC0))
  have hb := blk_set (blk_set (blk_set (blk_set (blk_set HZ3.out 0 (.int .i64 K.P)) 1 (.int .i64 (K.m : Int))) 2 (.slice A0 K.Mod.length c0)) 3 (.int .i64 n)) 4 (.slice A1 t c1)
  refine bodyPost_ret (results_cell_row rfl _ _ _ _ _ _ _ rfl hb Try.underlying63 rfl (by kernel_rfl)) rfl ?_
  have hlt : w.heap.size + 1 < w1.heap.size := blk_lt HZ.out
  have hlt2 : w.heap.size + 1 < w2.heap.size := by have := HB2.out.size; omega
  have hOw := ((((HOw.out.far (p := ⟨w.heap.size + 1, 0, none⟩) hlt2 (.int .i64 K.P)).far (p := ⟨w.heap.size + 1, 1, none⟩) hlt2 (.int .i64 (K.m : Int))).far (p := ⟨w.heap.size + 1, 2, none⟩) hlt2 (.slice A0 K.Mod.length c0)).far (p := ⟨w.heap.size + 1, 3, none⟩) hlt2 (.int .i64 n)).far (p := ⟨w.heap.size + 1, 4, none⟩) hlt2 (.slice A1 t c1)
  have hOA := ((((HO3.out.older (k := 0) hlt (.int .i64 K.P)).older (k := 1) hlt (.int .i64 (K.m : Int))).older (k := 2) hlt (.slice A0 K.Mod.length c0)).older (k := 3) hlt (.int .i64 n)).older (k := 4) hlt (.slice A1 t c1)
  have hle : w.heap.size ≤ w.heap.size + 1 := Nat.le_succ _
  have hBe := (((((below_later HB1.out HB1.out.size HB3.out).setCell (p := ⟨w.heap.size + 1, 0, none⟩) hle (.int .i64 K.P)).setCell (p := ⟨w.heap.size + 1, 1, none⟩) hle (.int .i64 (K.m : Int))).setCell (p := ⟨w.heap.size + 1, 2, none⟩) hle (.slice A0 K.Mod.length c0)).setCell (p := ⟨w.heap.size + 1, 3, none⟩) hle (.int .i64 n)).setCell (p := ⟨w.heap.size + 1, 4, none⟩) hle (.slice A1 t c1)
  exact ⟨⟨A0, c0, A1, c1, l, pv, t, cc, rfl, hOw.lower (by omega), hOA.lower HB1.out.size, Hlt.out, hc1, htN, HR.out, hcn, HEnd.out⟩, hBe⟩
end Go.Proofs.Yticgblagimmlfaa
end
section
/- The reference: Rows. -/
namespace Go.Proofs.Yticgblagimmlfaa
open Go.RowKit Go.Proofs.YticgblagimmlfaaW.PrintWords Go.Proofs.YticgblagimmlfaaW.PrintLast Go.Proofs.YticgblagimmlfaaW.PrintMore
set_option linter.unusedVariables false
set_option linter.unusedSimpArgs false

set_option maxHeartbeats 8000000 in
set_option maxRecDepth 100000 in
theorem rRows {w : World} {v : Value} {s : GD} (h : GArg w v s) (K : FD) (hK : s.over K) (hml : s.mults.length = s.pts.length) (hpl : s.pts.length ≤ 1000) (kn : Nat) (hk : s.K = kn) (hkn : kn ≤ 1000) :
    Calls Try.prog 26 #[v] w fun e w' => ∃ u, e = .returned u ∧ NR w' w.heap.size u (rowsZ K.D s.pts s.mults kn) ∧ Below w.heap.size w w' := by
  obtain ⟨A1, c1, A2, c2, A3, c3, rfl, g1, l1, g2, l2, g3, l3⟩ := h.out
  have hS0 := SAt.new w s A1 c1 A2 c2 A3 c3
  obtain ⟨w0, hw0⟩ : ∃ w0, w.alloc (.cells #[.int .i64 s.P, .int .i64 s.M, .slice A1 s.Mod.length c1, .int .i64 s.K, .slice A2 s.pts.length c2, .slice A3 s.mults.length c3] 29) = w0 := ⟨_, rfl⟩
  have hB0 : Below w.heap.size w w0 := by rw [← hw0]; exact below_alloc (Below.refl _ _) _
  rw [hw0] at hS0
  have HB0 := Aside0.mk hB0
  have HW := Aside0.mk hw0
  have HS := Aside0.mk hS0
  have HG := Aside0.mk (h.below hB0)
  have HPo := Aside0.mk (fun (w2 : World) (k : Nat) (hk : k ≤ 1000) => rPower (w := w2) k hk)
  have HWo := Aside0.mk (fun (w2 : World) (hb : Below w0.heap.size w0 w2) (B : Option Addr) (d : Nat) (m : List Int) (hm : Kd.C (Kd.int .i64) w2 B m.length m) => rWord (d := d) (HG.out.below hb) K hK hml hpl hm)
  obtain ⟨f, hf⟩ : ∃ f, rowsZ K.D s.pts s.mults = f := ⟨_, rfl⟩
  have HF : Aside0 (∀ k, f (k + 1) = f k ++ [encZ K.D s.pts s.mults (powZ k)]) := ⟨fun k => by rw [← hf]; simp [rowsZ, List.range_succ]⟩
  have HFl : Aside0 (∀ k, (f k).length = k) := ⟨fun k => by rw [← hf]; exact rowsZ_length _ _ _ _⟩
  have H0 : Aside0 (NR w0 w0.heap.size (.slice none 0 0) (f 0)) := ⟨by rw [← hf]; exact NR.nil _ _⟩
  have HBz := Aside0.mk (Below.refl w0.heap.size w0)
  rw [hf]
  have HK := Aside0.mk hk
  simp only [hk] at HWo
  clear h g1 g2 g3 hS0 hB0 hw0 hf hK hk hml hpl
  go_enter Try.func26, Try.ntmps26
  go_upto_region 1 with (fail)
  rw [HW.out]
  go_wp2
  go_loopw [3, 4] (fun v3 v4 w' => ∃ k : Nat, v4 = .int .i64 k ∧ k ≤ kn ∧ Aside0 (NR w' w0.heap.size v3 (f k)) ∧ Aside0 (Below w0.heap.size w0 w')) (fun _ v4 _ => kn - (intOf v4).toNat)
  case atStart => exact ⟨0, rfl, by omega, H0, HBz⟩
  case round =>
    clear H0 HBz
    obtain ⟨k, rfl, hkk, HO, HB⟩ := hrel
    obtain ⟨cP, cM, cMod, cK, cPts, cMul⟩ := HS.out.below HB.out
    rw [HK.out] at cK
    obtain ⟨A3', c3', e3, -, -⟩ := HO.out.slice
    rw [HFl.out] at e3
    subst e3
    by_cases hlk : k < kn
    · have ik : (k : Int) < (kn : Int) := by omega
      have HFk := Aside0.mk (HF.out k)
      have hkl := HPo.out
      have HPk := Aside0.mk (fun (w2 : World) => HPo.out w2 k (by omega))
      clear hkl
      go_upto_region 5 with (fail)
      go_region_held3 (fun w' => w'.cell? ⟨w.heap.size, 0, none⟩ = some (.int .i64 s.P) ∧ w'.cell? ⟨w.heap.size, 1, none⟩ = some (.int .i64 s.M) ∧ w'.cell? ⟨w.heap.size, 2, none⟩ = some (.slice A1 s.Mod.length c1) ∧ w'.cell? ⟨w.heap.size, 3, none⟩ = some (.int .i64 kn) ∧ w'.cell? ⟨w.heap.size, 4, none⟩ = some (.slice A2 s.pts.length c2) ∧ w'.cell? ⟨w.heap.size, 5, none⟩ = some (.slice A3 s.mults.length c3)) (first | exact ⟨‹_›, ‹_›, ‹_›, ‹_›, ‹_›, ‹_›⟩ | go_keep) (first
        | (go_at_call 52; refine Calls.mono (HPk.out _) ?_; rintro e w4 ⟨v4, rfl, hO, hB⟩; obtain ⟨Ap, cp, rfl, -, hCp⟩ := hO.slice; have HCp := Aside0.mk hCp; have HB4 : Aside0 (Below wr.heap.size wr w4) := ⟨below_step (below_drew1 (Below.refl _ _)) hB⟩; obtain ⟨cP4, cM4, cMod4, cK4, cPts4, cMul4⟩ := HS.out.below (below_later HB.out HB.out.size HB4.out); rw [HK.out] at cK4; clear hO hB hCp)
        | (go_at_call 21; (with_reducible refine Calls.mono (HWo.out _ (below_later HB.out HB.out.size HB4.out) _ _ _ HCp.out) ?_); rintro e w5 ⟨v5, rfl, hO, hB⟩; obtain ⟨Aw, cw, rfl, -, -⟩ := hO.slice; have HO5 := Aside0.mk hO; have HB4s := Aside0.mk HB4.out.size; have HB5 : Aside0 (Below wr.heap.size wr w5) := ⟨below_later HB4.out HB4.out.size hB⟩; obtain ⟨cP5, cM5, cMod5, cK5, cPts5, cMul5⟩ := HS.out.below (below_later HB.out HB.out.size HB5.out); rw [HK.out] at cK5; clear hO hB)
        | (refine append_row_step (w0 := w0) (W := w5) (base := w0.heap.size) (by rfl) (.tmp 11) (.tmp 16) rfl rfl rfl (HO.out.below HB5.out) HO5.out (Nat.le_trans HB.out.size HB4s.out) (Nat.le_trans HB.out.size HB5.out.size) (below_later HB.out HB.out.size HB5.out) (by rw [HFl.out]; omega) ?_; intro v6 w6 h6 hb6; rw [← HFk.out] at h6; have HO6 := Aside0.mk h6; have HB6 := Aside0.mk hb6; obtain ⟨cP6, cM6, cMod6, cK6, cPts6, cMul6⟩ := HS.out.below hb6; rw [HK.out] at cK6; clear h6 hb6))
      go_wp2_with (fail)
      go_roundw
      case rel => exact ⟨k + 1, by go_num, by omega, HO6, HB6⟩
      case measure => simp [intOf]; omega
    · obtain rfl : k = kn := by omega
      go_wp2
      go_ret
      exact ⟨_, rfl, HO.out.lower HB0.out.size, below_later HB0.out HB0.out.size HB.out⟩
end Go.Proofs.Yticgblagimmlfaa
end
section
/- The reference: Code. -/
namespace Go.Proofs.Yticgblagimmlfaa
open Go.RowKit Go.Proofs.YticgblagimmlfaaW.PrintWords Go.Proofs.YticgblagimmlfaaW.PrintLast Go.Proofs.YticgblagimmlfaaW.PrintMore
set_option linter.unusedVariables false
set_option linter.unusedSimpArgs false

set_option maxHeartbeats 8000000 in
set_option maxRecDepth 100000 in
theorem rCode {w : World} {v : Value} {s : GD} (h : GArg w v s) (K : FD) (hK : s.over K) (hml : s.mults.length = s.pts.length) (hpl : s.pts.length ≤ 1000) (kn : Nat) (hk : s.K = kn) (hkn : kn ≤ 1000) :
    Calls Try.prog 45 #[v] w fun e w' => MakeOut K (rowsZ K.D s.pts s.mults kn) s.pts.length w' w.heap.size e ∧ Below w.heap.size w w' := by
  obtain ⟨A1, c1, A2, c2, A3, c3, rfl, g1, l1, g2, l2, g3, l3⟩ := h.out
  have hS0 := SAt.new w s A1 c1 A2 c2 A3 c3
  obtain ⟨w0, hw0⟩ : ∃ w0, w.alloc (.cells #[.int .i64 s.P, .int .i64 s.M, .slice A1 s.Mod.length c1, .int .i64 s.K, .slice A2 s.pts.length c2, .slice A3 s.mults.length c3] 29) = w0 := ⟨_, rfl⟩
  have hB0 : Below w.heap.size w w0 := by rw [← hw0]; exact below_alloc (Below.refl _ _) _
  rw [hw0] at hS0
  obtain ⟨w1, hw1⟩ : ∃ w1, w0.alloc (.cells #[.int .i64 0, .int .i64 0, .slice none 0 0, .int .i64 0, .slice none 0 0] 63) = w1 := ⟨_, rfl⟩
  have hB1 : Below w0.heap.size w0 w1 := by rw [← hw1]; exact below_alloc (Below.refl _ _) _
  have hz0 : w0.heap.size = w.heap.size + 1 := by rw [← hw0]; simp
  have hz : w1.heap[w0.heap.size]? = some (.cells #[.int .i64 0, .int .i64 0, .slice none 0 0, .int .i64 0, .slice none 0 0] 63 (0, 0)) := by rw [← hw1]; exact blk_new _ _
  rw [hz0] at hz
  have HB1 := Aside0.mk (below_later hB0 hB0.size hB1)
  have HS := Aside0.mk (hS0.below hB1)
  have HZ := Aside0.mk hz
  have HW0 := Aside0.mk hw0
  have HW1 := Aside0.mk hw1
  have HRo := Aside0.mk (fun (w2 : World) (hb : Below w1.heap.size w1 w2) => rRows ((h.below HB1.out).below hb) K hK hml hpl kn hk hkn)
  have HMod := Aside0.mk (Kd.C_below g1 HB1.out)
  obtain ⟨hP, hM, hMo⟩ := hK
  have hsh := K.shp_rows s.pts s.mults kn hml
  have hrl := rowsZ_length K.D s.pts s.mults kn
  obtain ⟨rows, hrows⟩ : ∃ r, rowsZ K.D s.pts s.mults kn = r := ⟨_, rfl⟩
  rw [hrows] at HRo hsh hrl ⊢
  have HMa : Aside0 (∀ (w2 : World) (B : Option Addr) (d : Nat), Below w1.heap.size w1 w2 → Kd.C (Kd.slice 3 (Kd.int .i64)) w2 B rows.length rows → Calls Try.prog 75 #[.agg #[.int .i64 s.P, .int .i64 s.M, .slice A1 s.Mod.length c1], .slice B rows.length d, .int .i64 s.pts.length] w2 fun e w' => MakeOut K rows s.pts.length w' w2.heap.size e ∧ Below w2.heap.size w2 w') := ⟨fun w2 B d hb hC => by
    rw [← hP, ← hM, ← hMo]
    exact rMake (c := c1) (d := d) K (by rw [hMo]; exact Kd.C_below HMod.out hb) (by rw [hMo]; exact l1) hC (by omega) hpl hsh⟩
  have hcells := HS.out
  obtain ⟨cP, cM, cMod, cK, cPts, cMul⟩ := hcells
  clear h g1 g2 g3 hS0 hB0 hB1 hw0 hw1 hz hz0 hk hml hpl hP hM hMo hsh hrl hrows
  go_enter Try.func45, Try.ntmps45
  go_upto_region 1 with (fail)
  rw [HW0.out, HW1.out]
  have n1 : w.heap.size + 1 ≠ w.heap.size := by omega
  refine wp_region_last (S := fun w' => w'.cell? ⟨w.heap.size, 0, none⟩ = some (.int .i64 s.P) ∧ w'.cell? ⟨w.heap.size, 1, none⟩ = some (.int .i64 s.M) ∧ w'.cell? ⟨w.heap.size, 2, none⟩ = some (.slice A1 s.Mod.length c1) ∧ w'.cell? ⟨w.heap.size, 3, none⟩ = some (.int .i64 s.K) ∧ w'.cell? ⟨w.heap.size, 4, none⟩ = some (.slice A2 s.pts.length c2) ∧ w'.cell? ⟨w.heap.size, 5, none⟩ = some (.slice A3 s.mults.length c3)) (L := 8) (by kernel_rfl) ⟨cP, cM, cMod, cK, cPts, cMul⟩ (fun hHeld => ?_)
  refine wpAnyZ_pure 0 (v := ?_) rfl (by kernel_rfl) (by kernel_rfl) (by kernel_rfl) (by decide) (fun _ _ _ h => h) (by rfl) ?_ (fun _ => by assumption) ?_
  rotate_left
  focus (intro wq; go_simp; try (with_reducible rfl))
  try simp only [Act.put, List.setIfInBounds_toArray, List.set_cons_zero, List.set_cons_succ]
  refine wpAnyZ_load 1 (v := ?_) rfl (by kernel_rfl) (by kernel_rfl) (by kernel_rfl) (by kernel_rfl) (by kernel_rfl) (fun _ _ _ h => h) (by rfl) ?_ (by assumption) ?_
  rotate_left
  focus (intro wq hq; (try dsimp only at hq); go_split_ands; go_simp; try (with_reducible rfl))
  try simp only [Act.put, List.setIfInBounds_toArray, List.set_cons_zero, List.set_cons_succ]
  refine wpAnyZ_load 2 (v := ?_) rfl (by kernel_rfl) (by kernel_rfl) (by kernel_rfl) (by kernel_rfl) (by kernel_rfl) (fun _ _ _ h => h) (by rfl) ?_ (by assumption) ?_
  rotate_left
  focus (intro wq hq; (try dsimp only at hq); go_split_ands; go_simp; try (with_reducible rfl))
  try simp only [Act.put, List.setIfInBounds_toArray, List.set_cons_zero, List.set_cons_succ]
  refine wpAnyZ_pure 4 (v := ?_) rfl (by kernel_rfl) (by kernel_rfl) (by kernel_rfl) (by decide) (fun _ _ _ h => h) (by rfl) ?_ (fun _ => by assumption) ?_
  rotate_left
  focus (intro wq; go_simp; try (with_reducible rfl))
  try simp only [Act.put, List.setIfInBounds_toArray, List.set_cons_zero, List.set_cons_succ]
  refine wpAnyZ_load 5 (v := ?_) rfl (by kernel_rfl) (by kernel_rfl) (by kernel_rfl) (by kernel_rfl) (by kernel_rfl) (fun _ _ _ h => h) (by rfl) ?_ (by assumption) ?_
  rotate_left
  focus (intro wq hq; (try dsimp only at hq); go_split_ands; go_simp; try (with_reducible rfl))
  try simp only [Act.put, List.setIfInBounds_toArray, List.set_cons_zero, List.set_cons_succ]
  refine wpAnyZ_pure 6 (v := ?_) rfl (by kernel_rfl) (by kernel_rfl) (by kernel_rfl) (by decide) (fun _ _ _ h => h) (by rfl) ?_ (fun _ => by assumption) ?_
  rotate_left
  focus (intro wq; go_simp; try (with_reducible rfl))
  try simp only [Act.put, List.setIfInBounds_toArray, List.set_cons_zero, List.set_cons_succ]
  refine wpAnyZ_one 3 rfl (by kernel_rfl) (fun K' hK => ?_)
  go_simp
  go_at_call 26; refine Calls.mono (HRo.out _ (below_drew1 (Below.refl _ _))) ?_; rintro e w4 ⟨u, rfl, hO, hB⟩; obtain ⟨AR, cR, rfl, -, hCR⟩ := hO.slice; have HCR := Aside0.mk hCR; have HB4 : Aside0 (Below w1.heap.size w1 w4) := ⟨below_step (below_drew1 (Below.refl _ _)) hB⟩; have cP4 := pw_cell_below HB4.out cP; have cM4 := pw_cell_below HB4.out cM; have cMod4 := pw_cell_below HB4.out cMod; have cK4 := pw_cell_below HB4.out cK; have cPts4 := pw_cell_below HB4.out cPts; have cMul4 := pw_cell_below HB4.out cMul; clear hO hB hCR
  refine hK.out _ _ (fun _ => ⟨cP4, cM4, cMod4, cK4, cPts4, cMul4⟩) ?_
  clear hK K'
  try simp only [Act.put, List.setIfInBounds_toArray, List.set_cons_zero, List.set_cons_succ]
  refine wpAnyZ_one 7 rfl (by kernel_rfl) (fun K' hK => ?_)
  go_simp
  go_at_call 75; (with_reducible refine Calls.mono (HMa.out _ _ _ HB4.out HCR.out) ?_); rintro e w5 ⟨hO, hB⟩; obtain ⟨A0, c0, AG, cG, l, pv, t, cc, rfl, ho0, ho1, ho2, ho3, ho4, ho5, ho6, ho7⟩ := hO.out; have HB4s := Aside0.mk HB4.out.size; have HB5 : Aside0 (Below w1.heap.size w1 w5) := ⟨below_later HB4.out HB4.out.size hB⟩; have HQ0 := Aside0.mk ho0; have HQ1 := Aside0.mk ho1; have HQ2 := Aside0.mk ho2; have HQ5 := Aside0.mk ho5; have HQ7 := Aside0.mk ho7; have cP5 := pw_cell_below HB5.out cP; have cM5 := pw_cell_below HB5.out cM; have cMod5 := pw_cell_below HB5.out cMod; have cK5 := pw_cell_below HB5.out cK; have cPts5 := pw_cell_below HB5.out cPts; have cMul5 := pw_cell_below HB5.out cMul; have HZ5 := Aside0.mk (blk_below HZ.out HB5.out); have z0 := blk_cell HZ5.out 0; have z1 := blk_cell HZ5.out 1; have z2 := blk_cell HZ5.out 2; have z3 := blk_cell HZ5.out 3; have z4 := blk_cell HZ5.out 4; have f0 := blk_frozen HZ5.out 0; have f1 := blk_frozen HZ5.out 1; have f2 := blk_frozen HZ5.out 2; have f3 := blk_frozen HZ5.out 3; have f4 := blk_frozen HZ5.out 4; simp at z0 z1 z2 z3 z4; clear hO hB ho0 ho1 ho2 ho5 ho7
  refine hK.out _ _ (fun _ => ⟨cP5, cM5, cMod5, cK5, cPts5, cMul5⟩) ?_
  clear hK K'
  try simp only [Act.put, List.setIfInBounds_toArray, List.set_cons_zero, List.set_cons_succ]
  refine wpAnyZ_one 8 rfl (by kernel_rfl) (fun K' hK => ?_)
  go_simp
  refine hK.out _ _ (unlistedZ (by kernel_rfl)) ?_
  clear hK K'
  try simp only [Act.put, List.setIfInBounds_toArray, List.set_cons_zero, List.set_cons_succ]
  refine wpAnyZ_done (by kernel_rfl) ?_ _
  go_wp2_with (fail)
  have hlt : w.heap.size + 1 < w1.heap.size := blk_lt HZ.out
  have hlt4 : w.heap.size + 1 < w4.heap.size := by have := HB4.out.size; omega
  have hb := blk_set (blk_set (blk_set (blk_set (blk_set HZ5.out 0 (.int .i64 K.P)) 1 (.int .i64 (K.m : Int))) 2 (.slice A0 K.Mod.length c0)) 3 (.int .i64 s.pts.length)) 4 (.slice AG t cG)
  refine bodyPost_ret (results_cell_row rfl _ _ _ _ _ _ _ rfl hb Try.underlying63 rfl (by kernel_rfl)) rfl ?_
  have hOw := ((((HQ0.out.far (p := ⟨w.heap.size + 1, 0, none⟩) hlt4 (.int .i64 K.P)).far (p := ⟨w.heap.size + 1, 1, none⟩) hlt4 (.int .i64 (K.m : Int))).far (p := ⟨w.heap.size + 1, 2, none⟩) hlt4 (.slice A0 K.Mod.length c0)).far (p := ⟨w.heap.size + 1, 3, none⟩) hlt4 (.int .i64 s.pts.length)).far (p := ⟨w.heap.size + 1, 4, none⟩) hlt4 (.slice AG t cG)
  have hOA := ((((HQ1.out.older (k := 0) hlt4 (.int .i64 K.P)).older (k := 1) hlt4 (.int .i64 (K.m : Int))).older (k := 2) hlt4 (.slice A0 K.Mod.length c0)).older (k := 3) hlt4 (.int .i64 s.pts.length)).older (k := 4) hlt4 (.slice AG t cG)
  have hle : w.heap.size ≤ w.heap.size + 1 := Nat.le_succ _
  have hBe := (((((below_later HB1.out HB1.out.size HB5.out).setCell (p := ⟨w.heap.size + 1, 0, none⟩) hle (.int .i64 K.P)).setCell (p := ⟨w.heap.size + 1, 1, none⟩) hle (.int .i64 (K.m : Int))).setCell (p := ⟨w.heap.size + 1, 2, none⟩) hle (.slice A0 K.Mod.length c0)).setCell (p := ⟨w.heap.size + 1, 3, none⟩) hle (.int .i64 s.pts.length)).setCell (p := ⟨w.heap.size + 1, 4, none⟩) hle (.slice AG t cG)
  exact ⟨⟨A0, c0, AG, cG, l, pv, t, cc, rfl, hOw.lower (by omega), hOA.lower (by omega), HQ2.out, ho3, ho4, HQ5.out, ho6, HQ7.out⟩, hBe⟩
end Go.Proofs.Yticgblagimmlfaa
end
section
/- The reference: Has. -/
namespace Go.Proofs.Yticgblagimmlfaa
open Go.RowKit Go.Proofs.YticgblagimmlfaaW.PrintWords Go.Proofs.YticgblagimmlfaaW.PrintLast Go.Proofs.YticgblagimmlfaaW.PrintMore
set_option linter.unusedVariables false
set_option linter.unusedSimpArgs false

set_option maxHeartbeats 8000000 in
set_option maxRecDepth 100000 in
theorem rHas {w : World} {v : Value} {s : GD} (h : GArg w v s) (K : FD) (hK : s.over K) (hml : s.mults.length = s.pts.length) (hn1 : 1 ≤ s.pts.length) (hpl : s.pts.length ≤ 64) (kn : Nat) (hk : s.K = kn) (hkn : kn ≤ 64) {V : Option Addr} {cv : Nat} {u : List Int} (hu : Kd.C (Kd.int .i64) w V u.length u) (hul : u.length = s.pts.length) (hua : ∀ j, K.D.is (u.getD j 0) = true) (b : Bool) (hb : b = true ↔ ∃ m : List Int, m.length = kn ∧ m.all K.D.is = true ∧ encZ K.D s.pts s.mults m = u) :
    Calls Try.prog 20 #[v, .slice V u.length cv] w fun e w' => e = .returned (.bool b) ∧ Below w.heap.size w w' := by
  obtain ⟨A1, c1, A2, c2, A3, c3, rfl, g1, l1, g2, l2, g3, l3⟩ := h.out
  have hS0 := SAt.new w s A1 c1 A2 c2 A3 c3
  obtain ⟨w0, hw0⟩ : ∃ w0, w.alloc (.cells #[.int .i64 s.P, .int .i64 s.M, .slice A1 s.Mod.length c1, .int .i64 s.K, .slice A2 s.pts.length c2, .slice A3 s.mults.length c3] 29) = w0 := ⟨_, rfl⟩
  have hB0 : Below w.heap.size w w0 := by rw [← hw0]; exact below_alloc (Below.refl _ _) _
  rw [hw0] at hS0
  have HB0 := Aside0.mk hB0
  have HW := Aside0.mk hw0
  have HU := Aside0.mk (Kd.C_below hu hB0)
  have HCo := Aside0.mk (rCode (h.below hB0) K hK hml (by omega) kn hk (by omega))
  have hsh := K.shp_rows s.pts s.mults kn hml
  have hrl := rowsZ_length K.D s.pts s.mults kn
  have HCh : Aside0 (∀ (w2 : World) (A B : Option Addr) (c d t cc : Nat) (l : List (List Int)) (pv : List Int), Below w0.heap.size w0 w2 → Own w2 w0.heap.size (.slice A K.Mod.length c) K.Mod → OA w2 w0.heap.size B (l.take t) → (l.take t).length = t → t ≤ (rowsZ K.D s.pts s.mults kn).length → Reach K.D (rowsZ K.D s.pts s.mults kn) cc t l pv → cc ≤ s.pts.length → (cc = s.pts.length ∨ t = (rowsZ K.D s.pts s.mults kn).length) →
      Calls Try.prog 44 #[.agg #[.int .i64 K.P, .int .i64 (K.m : Int), .slice A K.Mod.length c, .int .i64 s.pts.length, .slice B t d], .slice V u.length cv] w2 fun e w' => e = .returned (.tuple #[.bool b, .int .i64 0]) ∧ Below w2.heap.size w2 w') := ⟨fun w2 A B c d t cc l pv hb2 hO hOA hlt htl hr hcc hend => by
    obtain ⟨p, hG, -, -, hz⟩ := FD.Reach.rre K hsh hr hcc hend
    have hi := K.has_iff s.pts s.mults u kn hml ⟨hul, hua⟩ hr hG hlt hz
    have hbe : inZ K.D (l.take t) p u = b := by
      cases hx : inZ K.D (l.take t) p u with
      | true => exact (hb.2 (hi.1 hx)).symm
      | false =>
        cases b with
        | false => rfl
        | true => have := hi.2 (hb.1 rfl); rw [hx] at this; cases this
    have q := rCHas (c := c) (d := d) (cv := cv) K hO.reads.2.2 hG (hOA.C (by omega)) (by omega) hn1 hpl (Kd.C_below HU.out hb2) hul hua
    rw [hbe, hlt] at q
    exact q⟩
  obtain ⟨rows, hrows⟩ : ∃ r, rowsZ K.D s.pts s.mults kn = r := ⟨_, rfl⟩
  rw [hrows] at HCo HCh
  obtain ⟨cP, cM, cMod, cK, cPts, cMul⟩ := hS0
  clear h g1 g2 g3 hB0 hw0 hk hml hpl hn1 hK hsh hrl hrows hu hul hua hb
  go_enter Try.func20, Try.ntmps20
  go_upto_region 1 with (fail)
  rw [HW.out]
  go_wp2_with (first
    | (go_at_call 45; (with_reducible refine Calls.mono HCo.out ?_); rintro e w2 ⟨hO, hB⟩; obtain ⟨A0, c0, AG, cG, l, pv, t, cc, rfl, ho0, ho1, ho2, ho3, ho4, ho5, ho6, ho7⟩ := hO.out; have HCh2 := Aside0.mk (HCh.out w2 A0 AG c0 cG t cc l pv hB ho0 ho1 ho2 ho4 ho5 ho6 ho7); have HB2 := Aside0.mk hB; clear hO hB ho0 ho1 ho2 ho5 ho7)
    | (go_at_call 44; (with_reducible refine Calls.mono HCh2.out ?_); rintro e w3 ⟨rfl, hB⟩; have HB3 := Aside0.mk (below_later HB2.out HB2.out.size hB); clear hB))
  go_ret
  exact ⟨rfl, below_later HB0.out HB0.out.size HB3.out⟩
end Go.Proofs.Yticgblagimmlfaa
end
section
/- The law's right. -/
namespace Go.Proofs.Yticgblagimmlfaa
open Go.RowKit Go.Proofs.YticgblagimmlfaaW.PrintWords Go.Proofs.YticgblagimmlfaaW.PrintLast Go.Proofs.YticgblagimmlfaaW.PrintMore
set_option linter.unusedVariables false
set_option linter.unusedSimpArgs false

end Go.Proofs.Yticgblagimmlfaa
end
section
/- What a decoding that fails gives. -/
namespace Go.Proofs.Yticgblagimmlfaa
set_option linter.unusedVariables false
set_option linter.unusedSimpArgs false

theorem isR_D (s : GD) (h : s.open = 0) : isR s.P s.M = s.D.is := by
  obtain ⟨f1, -⟩ := open_factsP s h
  obtain ⟨K, e1, e2, e3, e4⟩ := exists_K s f1
  funext x
  rw [e4, ← K.isR_eq, e1, e2]
end Go.Proofs.Yticgblagimmlfaa
end
