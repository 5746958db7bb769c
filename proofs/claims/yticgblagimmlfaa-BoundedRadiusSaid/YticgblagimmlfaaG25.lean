/- same, alive. -/
import Derived.Test.YticgblagimmlfaaG24
namespace Go.Proofs.Yticgblagimmlfaa
open Go.RowKit Go.Proofs.YticgblagimmlfaaW.PrintWords Go.Proofs.YticgblagimmlfaaW.PrintLast Go.Proofs.YticgblagimmlfaaW.PrintMore
set_option linter.unusedVariables false
set_option linter.unusedSimpArgs false

theorem take_ne_of (a b : List Int) (k : Nat) (hl : a.length = b.length) (hk : k < a.length) (h : a.getD k 0 ≠ b.getD k 0) : a ≠ b := by
  rintro rfl; exact h rfl
theorem take_eq_succ (a b : List Int) (k : Nat) (hl : a.length = b.length) (hk : k < a.length) (h : a.getD k 0 = b.getD k 0) (ht : a.take k = b.take k) : a.take (k + 1) = b.take (k + 1) := by
  rw [take_succ_rd a k hk, take_succ_rd b k (by omega), h, ht]

theorem same_any {w : World} {A B : Option Addr} {c d : Nat} {a b : List Int} (ha : Kd.C (Kd.int .i64) w A a.length a) (hb : Kd.C (Kd.int .i64) w B b.length b) :
    Calls Try.prog 23 #[.slice A a.length c, .slice B b.length d] w fun e w' => e = .returned (.bool (decide (a = b))) ∧ Drawn0 w w' := by
  have HA := Aside0.mk ha
  have HB := Aside0.mk hb
  have hm := Kd.C_max ha
  have hm2 := Kd.C_max hb
  obtain ⟨R, hR⟩ : ∃ R, decide (a = b) = R := ⟨_, rfl⟩
  rw [hR]
  by_cases hl : a.length = b.length
  · have hlb : ((a.length : Int) != (b.length : Int)) = false := by simp [hl]
    have HR := Aside0.mk hR
    have HL := Aside0.mk hl
    clear hR ha hb hl
    go_enter Try.func23, Try.ntmps23
    go_wp2
    go_loopw [13] (fun v13 w' => ∃ k : Nat, v13 = .int .i64 k ∧ k ≤ a.length ∧ Aside0 (a.take k = b.take k) ∧ Drawn0 w w') (fun v13 _ => a.length - (intOf v13).toNat)
    case atStart => exact ⟨0, rfl, by omega, ⟨by simp⟩, Drawn0.refl _⟩
    case round =>
      obtain ⟨k, rfl, hk, HT, hd⟩ := hrel
      by_cases hlk : k < a.length
      · obtain ⟨ad, e, hx⟩ := C_nat (Kd.C_below HA.out hd.below) k hlk
        cases e
        have hlk2 : k < b.length := by have := HL.out; omega
        obtain ⟨ad2, e, hy⟩ := C_nat (Kd.C_below HB.out hd.below) k hlk2
        cases e
        have hne := take_ne_of a b k HL.out hlk
        have heq := take_eq_succ a b k HL.out hlk
        obtain ⟨x, hx'⟩ : ∃ x, a.getD k 0 = x := ⟨_, rfl⟩
        obtain ⟨y, hy'⟩ : ∃ x, b.getD k 0 = x := ⟨_, rfl⟩
        rw [hx'] at hx hne heq
        rw [hy'] at hy hne heq
        by_cases hxy : x = y
        · have HT2 := Aside0.mk (heq hxy HT.out)
          have hxb : (x != y) = false := by simp [hxy]
          clear hne heq hx' hy' HT hxy
          go_wp2
          go_quiet (fail)
          go_wp2
          go_roundw
          case rel => exact ⟨k + 1, by go_num, by omega, HT2, Drawn0.trans hd ⟨_, rfl⟩⟩
          case measure => simp [intOf]; omega
        · have hRf : false = R := by rw [← HR.out]; simp [hne hxy]
          have hxb : (x != y) = true := by simp [hxy]
          subst hRf
          clear hne heq hx' hy' HT hxy HR
          go_wp2
          go_quiet (fail)
          go_wp2
          go_ret
          exact ⟨rfl, Drawn0.trans hd ⟨_, rfl⟩⟩
      · obtain rfl : k = a.length := by omega
        have hab : a = b := by
          have := HT.out
          rw [List.take_length, HL.out, List.take_length] at this
          exact this
        have hRt : true = R := by rw [← HR.out]; simp [hab]
        subst hRt
        clear HT HR hab
        go_wp2
        go_ret
        exact ⟨rfl, hd⟩
  · have hRf : false = R := by rw [← hR]; simp; intro e; exact hl (by rw [e])
    subst hRf
    have hlb : ((a.length : Int) != (b.length : Int)) = true := by simp only [bne_iff_ne, ne_eq]; omega
    clear hR ha hb hl
    go_enter Try.func23, Try.ntmps23
    go_wp2
    go_ret
    exact ⟨rfl, Drawn0.refl _⟩

theorem same_n {w : World} {A B : Option Addr} {c d n m : Nat} {a b : List Int} (ha : Kd.C (Kd.int .i64) w A n a) (hb : Kd.C (Kd.int .i64) w B m b) (r : Bool) (hr : decide (a = b) = r) :
    Calls Try.prog 23 #[.slice A n c, .slice B m d] w fun e w' => e = .returned (.bool r) ∧ Drawn0 w w' := by
  have h1 := Kd.C_len ha
  have h2 := Kd.C_len hb
  subst h1 h2 hr
  exact same_any ha hb

theorem radius_30 (w : World) : Calls Try.prog 12 #[.int .i64 3, .int .i64 0] w fun e w' => e = .returned (.int .i64 1) ∧ Drawn0 w w' := by
  have h := radius_any 3 0 w
  rw [radiusW_eq 3 0 (by omega) (by omega) (by omega) (by omega), show radiusZ 3 0 = 1 from by unfold radiusZ; rw [if_neg (by omega)]; rfl] at h
  exact h
def aliveS : GD := { P := 2, M := 2, Mod := [1, 1], K := 2, pts := [0, 1, 2, 3], mults := [1, 1, 1, 1] }
theorem alive_decode : aliveS.decode [1, 1, 1, 0] [] = ([1, 1, 1, 1], [3], 0) := by decide +kernel
theorem alive_eucl : (aliveS.eucl [1, 1, 1, 0] (marksZ 4 [])).isSome = true := by decide +kernel

theorem lit4 (w : World) (a b c d : Int) : Kd.C (Kd.int .i64) (w.alloc (.cells #[.int .i64 a, .int .i64 b, .int .i64 c, .int .i64 d] 3)) (some ⟨w.heap.size, 0, none⟩) 4 [a, b, c, d] := by
  have h : Own (w.alloc (.cells #[.int .i64 a, .int .i64 b, .int .i64 c, .int .i64 d] 3)) w.heap.size (.slice (some ⟨w.heap.size, 0, none⟩) 4 4) [a, b, c, d] :=
    ⟨Kd.R_of_own (enc := Value.int .i64) (own_lit_of w w.heap.size 3 [a, b, c, d] (Nat.le_refl _) (by simp)) (fun _ _ => trivial)⟩
  obtain ⟨A, c, e, -, hC⟩ := h.slice
  injection e with e1 e2 e3
  subst e1
  exact hC
theorem lit1 (w : World) (a : Int) : Kd.C (Kd.int .i64) (w.alloc (.cells #[.int .i64 a] 3)) (some ⟨w.heap.size, 0, none⟩) 1 [a] := by
  obtain ⟨A, c, e, -, hC⟩ := (own_lit1 w a).slice
  injection e with e1 e2 e3
  subst e1
  exact hC
theorem lit2 (w : World) (a b : Int) : Kd.C (Kd.int .i64) (w.alloc (.cells #[.int .i64 a, .int .i64 b] 3)) (some ⟨w.heap.size, 0, none⟩) 2 [a, b] := by
  obtain ⟨A, c, e, -, hC⟩ := (own_lit2 w a b).slice
  injection e with e1 e2 e3
  subst e1
  exact hC

theorem lit4_at (w : World) (u : Nat) (h : u = w.heap.size) (a b c d : Int) : Kd.C (Kd.int .i64) (w.alloc (.cells #[.int .i64 a, .int .i64 b, .int .i64 c, .int .i64 d] 3)) (some ⟨u, 0, none⟩) 4 [a, b, c, d] := by subst h; exact lit4 w a b c d
theorem lit1_at (w : World) (u : Nat) (h : u = w.heap.size) (a : Int) : Kd.C (Kd.int .i64) (w.alloc (.cells #[.int .i64 a] 3)) (some ⟨u, 0, none⟩) 1 [a] := by subst h; exact lit1 w a
/-- The call of alive. -/
theorem alive_call (w : World) : Calls Try.prog 15 #[.agg #[.int .i64 2, .int .i64 2, .slice (some ⟨w.heap.size, 0, none⟩) 2 2, .int .i64 2, .slice (some ⟨w.heap.size + 1, 0, none⟩) 4 4, .slice (some ⟨w.heap.size + 1 + 1, 0, none⟩) 4 4], .slice (some ⟨w.heap.size + 1 + 1 + 1 + 1, 0, none⟩) 4 4, .slice none 0 0]
    (((((w.alloc (.cells #[.int .i64 1, .int .i64 1] 3)).alloc (.cells #[.int .i64 0, .int .i64 1, .int .i64 2, .int .i64 3] 3)).alloc (.cells #[.int .i64 1, .int .i64 1, .int .i64 1, .int .i64 1] 3)).alloc
      (.cells #[.int .i64 2, .int .i64 2, .slice (some ⟨w.heap.size, 0, none⟩) 2 2, .int .i64 2, .slice (some ⟨w.heap.size + 1, 0, none⟩) 4 4, .slice (some ⟨w.heap.size + 1 + 1, 0, none⟩) 4 4] 29)).alloc (.cells #[.int .i64 1, .int .i64 1, .int .i64 1, .int .i64 0] 3))
    fun e w' => ∃ v1 v2, e = .returned (.tuple #[.agg #[v1, v2], .int .i64 0]) ∧ Rd w' v1 [1, 1, 1, 1] ∧ Rd w' v2 [3] ∧ Below w.heap.size w w' := by
  have a1 := lit2 w 1 1
  have b1 := below_alloc (Below.refl w.heap.size w) (.cells #[.int .i64 1, .int .i64 1] 3)
  have s1 : (w.alloc (.cells #[.int .i64 1, .int .i64 1] 3)).heap.size = w.heap.size + 1 := by simp
  obtain ⟨w1, hw1⟩ : ∃ w1, w.alloc (.cells #[.int .i64 1, .int .i64 1] 3) = w1 := ⟨_, rfl⟩
  rw [hw1] at a1 b1 s1 ⊢
  have a2 := lit4 w1 0 1 2 3
  have b2 := below_alloc (Below.refl w1.heap.size w1) (.cells #[.int .i64 0, .int .i64 1, .int .i64 2, .int .i64 3] 3)
  have s2 : (w1.alloc (.cells #[.int .i64 0, .int .i64 1, .int .i64 2, .int .i64 3] 3)).heap.size = w1.heap.size + 1 := by simp
  obtain ⟨w2, hw2⟩ : ∃ w2, w1.alloc (.cells #[.int .i64 0, .int .i64 1, .int .i64 2, .int .i64 3] 3) = w2 := ⟨_, rfl⟩
  rw [hw2] at a2 b2 s2 ⊢
  have a3 := lit4 w2 1 1 1 1
  have b3 := below_alloc (Below.refl w2.heap.size w2) (.cells #[.int .i64 1, .int .i64 1, .int .i64 1, .int .i64 1] 3)
  have s3 : (w2.alloc (.cells #[.int .i64 1, .int .i64 1, .int .i64 1, .int .i64 1] 3)).heap.size = w2.heap.size + 1 := by simp
  obtain ⟨w3, hw3⟩ : ∃ w3, w2.alloc (.cells #[.int .i64 1, .int .i64 1, .int .i64 1, .int .i64 1] 3) = w3 := ⟨_, rfl⟩
  rw [hw3] at a3 b3 s3 ⊢
  have b4 := below_alloc (Below.refl w3.heap.size w3) (.cells #[.int .i64 2, .int .i64 2, .slice (some ⟨w.heap.size, 0, none⟩) 2 2, .int .i64 2, .slice (some ⟨w.heap.size + 1, 0, none⟩) 4 4, .slice (some ⟨w.heap.size + 1 + 1, 0, none⟩) 4 4] 29)
  have s4 : (w3.alloc (.cells #[.int .i64 2, .int .i64 2, .slice (some ⟨w.heap.size, 0, none⟩) 2 2, .int .i64 2, .slice (some ⟨w.heap.size + 1, 0, none⟩) 4 4, .slice (some ⟨w.heap.size + 1 + 1, 0, none⟩) 4 4] 29)).heap.size = w3.heap.size + 1 := by simp
  obtain ⟨w4, hw4⟩ : ∃ w4, w3.alloc (.cells #[.int .i64 2, .int .i64 2, .slice (some ⟨w.heap.size, 0, none⟩) 2 2, .int .i64 2, .slice (some ⟨w.heap.size + 1, 0, none⟩) 4 4, .slice (some ⟨w.heap.size + 1 + 1, 0, none⟩) 4 4] 29) = w4 := ⟨_, rfl⟩
  rw [hw4] at b4 s4 ⊢
  have a5 := lit4 w4 1 1 1 0
  have b5 := below_alloc (Below.refl w4.heap.size w4) (.cells #[.int .i64 1, .int .i64 1, .int .i64 1, .int .i64 0] 3)
  obtain ⟨w5, hw5⟩ : ∃ w5, w4.alloc (.cells #[.int .i64 1, .int .i64 1, .int .i64 1, .int .i64 0] 3) = w5 := ⟨_, rfl⟩
  rw [hw5] at a5 b5 ⊢
  rw [show w.heap.size + 1 = w1.heap.size from s1.symm, show w1.heap.size + 1 = w2.heap.size from s2.symm, show w2.heap.size + 1 = w3.heap.size from s3.symm, show w3.heap.size + 1 = w4.heap.size from s4.symm]
  have c1 := Kd.C_below (Kd.C_below (Kd.C_below (Kd.C_below a1 b2) b3) b4) b5
  have c2 := Kd.C_below (Kd.C_below (Kd.C_below a2 b3) b4) b5
  have c3 := Kd.C_below (Kd.C_below a3 b4) b5
  have hbz : Below w.heap.size w w5 := below_later (below_later (below_later (below_later b1 b1.size b2) (by omega) b3) (by omega) b4) (by omega) b5
  have hG : GArg w5 (.agg #[.int .i64 2, .int .i64 2, .slice (some ⟨w.heap.size, 0, none⟩) 2 2, .int .i64 2, .slice (some ⟨w1.heap.size, 0, none⟩) 4 4, .slice (some ⟨w2.heap.size, 0, none⟩) 4 4]) aliveS :=
    ⟨_, _, _, _, _, _, rfl, c1, Nat.le_refl _, c2, Nat.le_refl _, c3, Nat.le_refl _⟩
  have hM := GRS_any (dd := 4) (ee := 0) (l := [1, 1, 1, 0]) (er := []) hG a5 (Kd.C_nil _ w5) (fun _ _ _ => by
    have := alive_eucl
    exact Option.isSome_iff_exists.1 this)
  rw [alive_decode] at hM
  refine hM.mono ?_
  rintro e w' ⟨v', rfl, ⟨v1, v2, rfl, h1, h2⟩, hB⟩
  exact ⟨v1, v2, rfl, h1, h2, below_later hbz hbz.size hB⟩

set_option maxHeartbeats 1000000 in
set_option maxRecDepth 100000 in
theorem alive_any (w : World) : Calls Try.prog 11 #[] w fun e w' => e = .returned (.bool true) ∧ Below w.heap.size w w' := by
  have HC := Aside0.mk (alive_call w)
  go_enter Try.func11, Try.ntmps11
  go_wp2_with (first
    | (go_at_call 15; refine HC.out.mono ?_; rintro e w6 ⟨v1, v2, rfl, hr1, hr2, hB⟩; obtain ⟨B1, d1, rfl, -, hC1⟩ := hr1.out; obtain ⟨B2, d2, rfl, -, hC2⟩ := hr2.out; have HC1 : Aside0 (Kd.C (Kd.int .i64) w6 B1 4 [1, 1, 1, 1]) := ⟨hC1⟩; have HC2 : Aside0 (Kd.C (Kd.int .i64) w6 B2 1 [3]) := ⟨hC2⟩; have HB := Aside0.mk hB; clear hr1 hr2 hC1 hC2 hB)
    | (go_at_call 23; (with_reducible refine Calls.mono (same_n (A := B1) (n := 4) (m := 4) (c := d1) (d := 4) (a := [1, 1, 1, 1]) (b := [1, 1, 1, 1]) ?ca ?cb true rfl) ?_); (case ca => exact Kd.C_below HC1.out (below_alloc (below_alloc (Below.refl _ _) _) _)); (case cb => exact lit4_at _ _ (by simp) 1 1 1 1); rintro e w7 ⟨rfl, hd⟩; have cD1 := pw_cell_below hd.below (pw_cell_below (below_alloc (Below.refl _ _) (.cells #[.int .i64 1, .int .i64 1, .int .i64 1, .int .i64 1] 3)) (cell_alloc2_1 w6 (.slice B1 4 d1) (.slice B2 1 d2) 34)); have HC7 := Aside0.mk (Kd.C_below (Kd.C_below HC2.out (below_alloc (below_alloc (Below.refl _ _) (.cells #[.slice B1 4 d1, .slice B2 1 d2] 34)) (.cells #[.int .i64 1, .int .i64 1, .int .i64 1, .int .i64 1] 3))) hd.below); have HB7 := Aside0.mk ((below_alloc (below_alloc HB.out (.cells #[.slice B1 4 d1, .slice B2 1 d2] 34)) (.cells #[.int .i64 1, .int .i64 1, .int .i64 1, .int .i64 1] 3)).below'' hd); clear hd)
    | (go_at_call 23; (with_reducible refine Calls.mono (same_n (A := B2) (n := 1) (m := 1) (c := d2) (d := 1) (a := [3]) (b := [3]) ?ca ?cb true rfl) ?_); (case ca => exact Kd.C_below HC7.out (below_alloc (Below.refl _ _) _)); (case cb => exact lit1_at _ _ (by simp) 3); rintro e w8 ⟨rfl, hd⟩; have HB8 := Aside0.mk ((below_alloc HB7.out (.cells #[.int .i64 3] 3)).below'' hd); clear hd)
    | (go_at_call 12; (with_reducible refine Calls.mono (radius_30 _) ?_); rintro e w9 ⟨rfl, hd⟩; have HB9 := Aside0.mk (HB8.out.below'' hd); clear hd))
  go_ret
  exact ⟨rfl, HB9.out⟩

set_option maxHeartbeats 8000000 in
set_option maxRecDepth 100000 in
theorem lawRadius_any (w : World) (d f : Int) : Calls Try.prog 3 #[.int .i64 d, .int .i64 f] w fun e w' => e = .returned (.bool true) ∧ Below w.heap.size w w' := by
  obtain ⟨r, hr⟩ : ∃ r, radiusW d f = r := ⟨_, rfl⟩
  have H1 := fun (w1 : World) => Aside0.mk (radius_any d f w1)
  have H2 := fun (w1 : World) => Aside0.mk (refRadius_any d f w1)
  rw [hr] at H1 H2
  have H1 := Aside0.mk H1
  have H2 := Aside0.mk H2
  clear hr
  go_enter Try.func3, Try.ntmps3
  go_wp2_with (first
    | (go_at_call 11; refine (alive_any _).mono ?_; rintro e w1 ⟨rfl, hB⟩; have HB1 := Aside0.mk hB; clear hB)
    | (go_at_call 12; refine (H1.out _).out.mono ?_; rintro e w2 ⟨rfl, hd⟩; have HB2 := Aside0.mk (HB1.out.below'' hd); clear hd)
    | (go_at_call 13; refine (H2.out _).out.mono ?_; rintro e w3 ⟨rfl, hd⟩; have HB3 := Aside0.mk (HB2.out.below'' hd); clear hd))
  go_ret
  exact ⟨by simp, HB3.out⟩
end Go.Proofs.Yticgblagimmlfaa
