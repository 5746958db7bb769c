/- Parts of the proof: R5, R6, E1, E2, A11, A12, E3, E4. -/
import Derived.Test.YticgblagimmlfaaX811
section
/- The reference: Entries, Zero, SameInts, Inv, Power. -/
namespace Go.Proofs.Yticgblagimmlfaa
open Go.RowKit Go.Proofs.YticgblagimmlfaaW.PrintWords Go.Proofs.YticgblagimmlfaaW.PrintLast Go.Proofs.YticgblagimmlfaaW.PrintMore
set_option linter.unusedVariables false
set_option linter.unusedSimpArgs false

set_option maxHeartbeats 8000000 in
set_option maxRecDepth 100000 in
theorem rEntries {w : World} {A B : Option Addr} {n c d : Nat} (K : FD) {l : List Int} (hl : Kd.C (Kd.int .i64) w B l.length l) (hall : ∀ i, i < l.length → K.D.is (l.getD i 0) = true) :
    Calls Try.prog 143 #[.agg #[.int .i64 K.P, .int .i64 (K.m : Int), .slice A n c], .slice B l.length d] w fun e w' => e = .returned (.int .i64 0) ∧ Below w.heap.size w w' := by
  have hF0 := FAt.new w K.P (K.m : Int) A n c
  obtain ⟨w0, hw0⟩ : ∃ w0, w.alloc (.cells #[.int .i64 K.P, .int .i64 (K.m : Int), .slice A n c] 27) = w0 := ⟨_, rfl⟩
  have hB0 : Below w.heap.size w w0 := by rw [← hw0]; exact below_alloc (Below.refl _ _) _
  rw [hw0] at hF0
  have HB0 := Aside0.mk hB0
  have HW := Aside0.mk hw0
  have HF := Aside0.mk hF0
  have HL := Aside0.mk (Kd.C_below hl hB0)
  have hmx := Kd.C_max hl
  have HAll := Aside0.mk hall
  have HI := Aside0.mk (fun (w1 : World) (x : Int) => refIs_any (w := w1) (A := A) (n := n) (c := c) K.P (K.m : Int) x)
  have HBz := Aside0.mk (Below.refl w0.heap.size w0)
  clear hF0 hB0 hw0 hl hall
  go_enter Try.func143, Try.ntmps143
  go_upto_region 1 with (fail)
  rw [HW.out]
  go_wp2
  go_loopw [5] (fun v5 w' => ∃ k : Nat, v5 = .int .i64 k ∧ k ≤ l.length ∧ Aside0 (Below w0.heap.size w0 w')) (fun v5 _ => l.length - (intOf v5).toNat)
  case atStart => exact ⟨0, rfl, by omega, HBz⟩
  case round =>
    clear HBz
    obtain ⟨k, rfl, hk, HB⟩ := hrel
    by_cases hlk : k < l.length
    · obtain ⟨ad, e, hx⟩ := C_nat (Kd.C_below HL.out HB.out) k hlk
      cases e
      have hb := HAll.out k hlk
      obtain ⟨x, hx'⟩ : ∃ x, l.getD k 0 = x := ⟨_, rfl⟩
      rw [hx'] at hx hb
      obtain ⟨cP, cM, cD⟩ := HF.out.below HB.out
      have HI1 := Aside0.mk (fun (w1 : World) => by have q := HI.out w1 x; rw [K.isR_eq, hb] at q; exact q)
      have hcP : ∀ j : Ext wr, j.wd.cell? ⟨w.heap.size, 0, none⟩ = some (.int .i64 K.P) := fun j => j.cell cP
      have hcM : ∀ j : Ext wr, j.wd.cell? ⟨w.heap.size, 1, none⟩ = some (.int .i64 (K.m : Int)) := fun j => j.cell cM
      have hcD : ∀ j : Ext wr, j.wd.cell? ⟨w.heap.size, 2, none⟩ = some (.slice A n c) := fun j => j.cell cD
      have hcx : ∀ j : Ext wr, j.wd.cell? (ad.add k) = some (.int .i64 x) := fun j => j.cell hx
      have i0 : (0 : Int) ≤ (k : Int) := by omega
      have i1 : (k : Int) < (l.length : Int) := by omega
      clear hx' hb cP cM cD hx
      go_wp2
      refine wp_region_ext (by kernel_rfl) (by kernel_rfl) ?_
      repeat (go_big_quiet_step ((go_at_call 43; with_reducible exact Ext.call _ (HI1.out _))))
      refine wpQuiet_nil ?_
      intro w1 hB1
      have HB1 := Aside0.mk (below_later HB.out HB.out.size hB1)
      clear hcP hcM hcD hcx hB1
      go_wp2
      go_roundw
      case rel => exact ⟨k + 1, by go_num, by omega, HB1⟩
      case measure => simp [intOf]; omega
    · obtain rfl : k = l.length := by omega
      go_wp2
      go_ret
      exact ⟨rfl, below_later HB0.out HB0.out.size HB.out⟩

set_option maxHeartbeats 8000000 in
set_option maxRecDepth 100000 in
theorem rZero {w : World} {A : Option Addr} {c : Nat} {l : List Int} (hl : Kd.C (Kd.int .i64) w A l.length l) (r : Bool) (hr : l.all (fun x => decide (x = 0)) = r) :
    Calls Try.prog 112 #[.slice A l.length c] w fun e w' => e = .returned (.bool r) ∧ Below w.heap.size w w' := by
  have HL := Aside0.mk hl
  have hmx := Kd.C_max hl
  have HR := Aside0.mk hr
  have HBz := Aside0.mk (Below.refl w.heap.size w)
  clear hl hr
  go_enter Try.func112, Try.ntmps112
  go_wp2
  go_loopw [3] (fun v3 w' => ∃ k : Nat, v3 = .int .i64 k ∧ k ≤ l.length ∧ Aside0 ((l.take k).all (fun x => decide (x = 0)) = true) ∧ Aside0 (Below w.heap.size w w')) (fun v3 _ => l.length - (intOf v3).toNat)
  case atStart => exact ⟨0, rfl, by omega, ⟨rfl⟩, HBz⟩
  case round =>
    clear HBz
    obtain ⟨k, rfl, hk, HT, HB⟩ := hrel
    by_cases hlk : k < l.length
    · obtain ⟨ad, e, hx⟩ := C_nat (Kd.C_below HL.out HB.out) k hlk
      cases e
      have hs := all_take_succ (fun x => decide (x = 0)) l k hlk
      obtain ⟨x, hx'⟩ : ∃ x, l.getD k 0 = x := ⟨_, rfl⟩
      rw [hx'] at hx hs
      rw [HT.out, Bool.true_and] at hs
      have i0 : (0 : Int) ≤ (k : Int) := by omega
      have i1 : (k : Int) < (l.length : Int) := by omega
      by_cases hx0 : x = 0
      · subst hx0
        have HT2 := Aside0.mk hs
        clear hs HT hx'
        go_wp2
        go_roundw
        case rel => exact ⟨k + 1, by go_num, by omega, ⟨by simpa using HT2.out⟩, ⟨by first | exact HB.out | exact below_drew1 HB.out | exact pw_below_drewN HB.out _⟩⟩
        case measure => simp [intOf]; omega
      · have hxb : (x != 0) = true := by simp [hx0]
        have hs2 : (l.take (k + 1)).all (fun x => decide (x = 0)) = false := by rw [hs]; simp [hx0]
        have hff := all_of_take (fun x => decide (x = 0)) l (k + 1) hs2
        have hRf : false = r := by rw [← HR.out, hff]
        subst hRf
        clear hs HT hx' hs2 hff HR
        go_wp2
        go_ret
        exact ⟨rfl, by first | exact HB.out | exact below_drew1 HB.out | exact pw_below_drewN HB.out _⟩
    · obtain rfl : k = l.length := by omega
      rw [List.take_length] at HT
      have hRf : true = r := by rw [← HR.out, HT.out]
      subst hRf
      clear HR HT
      go_wp2
      go_ret
      exact ⟨rfl, HB.out⟩

set_option maxHeartbeats 8000000 in
set_option maxRecDepth 100000 in
theorem rSameInts {w : World} {A B : Option Addr} {c d : Nat} {l : List Int} (ha : Kd.C (Kd.int .i64) w A l.length l) (hb : Kd.C (Kd.int .i64) w B l.length l) :
    Calls Try.prog 173 #[.slice A l.length c, .slice B l.length d] w fun e w' => e = .returned (.bool true) ∧ Below w.heap.size w w' := by
  have HA := Aside0.mk ha
  have HBb := Aside0.mk hb
  have hmx := Kd.C_max ha
  have HBz := Aside0.mk (Below.refl w.heap.size w)
  have hn : ((l.length : Int) != (l.length : Int)) = false := by simp
  clear ha hb
  go_enter Try.func173, Try.ntmps173
  go_wp2
  go_loopw [5] (fun v5 w' => ∃ k : Nat, v5 = .int .i64 k ∧ k ≤ l.length ∧ Aside0 (Below w.heap.size w w')) (fun v5 _ => l.length - (intOf v5).toNat)
  case atStart => exact ⟨0, rfl, by omega, HBz⟩
  case round =>
    clear HBz
    obtain ⟨k, rfl, hk, HB⟩ := hrel
    by_cases hlk : k < l.length
    · obtain ⟨ad, e, hx⟩ := C_nat (Kd.C_below HA.out HB.out) k hlk
      cases e
      obtain ⟨ad2, e, hy⟩ := C_nat (Kd.C_below HBb.out HB.out) k hlk
      cases e
      obtain ⟨x, hx'⟩ : ∃ x, l.getD k 0 = x := ⟨_, rfl⟩
      rw [hx'] at hx hy
      have i0 : (0 : Int) ≤ (k : Int) := by omega
      have i1 : (k : Int) < (l.length : Int) := by omega
      have hxx : (x != x) = false := by simp
      clear hx'
      have hcx : ∀ j : Ext wr, j.wd.cell? (ad.add k) = some (.int .i64 x) := fun j => j.cell hx
      have hcy : ∀ j : Ext wr, j.wd.cell? (ad2.add k) = some (.int .i64 x) := fun j => j.cell hy
      clear hx hy
      go_wp2
      refine wp_region_ext (by kernel_rfl) (by kernel_rfl) ?_
      repeat (go_big_quiet_step (fail))
      refine wpQuiet_nil ?_
      intro w1 hB1
      have HB1 := Aside0.mk (below_later HB.out HB.out.size hB1)
      clear hcx hcy hB1
      go_wp2
      go_roundw
      case rel => exact ⟨k + 1, by go_num, by omega, HB1⟩
      case measure => simp [intOf]; omega
    · obtain rfl : k = l.length := by omega
      go_wp2
      go_ret
      exact ⟨rfl, HB.out⟩

end Go.Proofs.Yticgblagimmlfaa
end
section
/- The reference: Inv, Power, List. -/
namespace Go.Proofs.Yticgblagimmlfaa
open Go.RowKit Go.Proofs.YticgblagimmlfaaW.PrintWords Go.Proofs.YticgblagimmlfaaW.PrintLast Go.Proofs.YticgblagimmlfaaW.PrintMore
set_option linter.unusedVariables false
set_option linter.unusedSimpArgs false
open CW

theorem FD.mul_inv_eq (K : FD) {x : Int} (hx : K.D.is x = true) (h0 : x ≠ 0) : K.D.mul x (K.D.inv x) = 1 := by
  refine K.el_inj (K.is_mul _ _) K.is_one ?_
  rw [K.el_mul, K.el_inv, K.el_one]
  exact mul_finv (fun h => h0 (K.el_inj hx K.is_zero (by rw [h, K.el_zero])))
theorem FD.inv_unique (K : FD) {x y : Int} (hy : K.D.is y = true) (h : K.D.mul x y = 1) : y = K.D.inv x := by
  refine K.el_inj hy (by rw [K.inv_eq]; exact K.is_val _) ?_
  rw [K.el_inv]
  refine finv_unique ?_
  rw [← K.el_mul, h, K.el_one]
theorem FD.is_inv (K : FD) (x : Int) : K.D.is (K.D.inv x) = true := by rw [K.inv_eq]; exact K.is_val _
theorem FD.is_iff (K : FD) (x : Int) : K.D.is x = true ↔ 0 ≤ x ∧ x < K.P ^ K.m := by
  rw [← K.isR_eq]; unfold isR; rw [K.ord]; simp
theorem FD.inv_one_le (K : FD) {x : Int} (hx : K.D.is x = true) (h0 : x ≠ 0) : 1 ≤ K.D.inv x := by
  have h1 := ((K.is_iff _).1 (K.is_inv x)).1
  have h2 := K.mul_inv_eq hx h0
  by_cases h : K.D.inv x = 0
  · exfalso
    rw [h] at h2
    have := congrArg K.el h2
    rw [K.el_mul, K.el_zero, mul_zero, K.el_one] at this
    exact one_ne_zero this.symm
  · omega

set_option maxHeartbeats 8000000 in
set_option maxRecDepth 100000 in
theorem rInv {w : World} {A : Option Addr} {c : Nat} (K : FD) (hC : Kd.C (Kd.int .i64) w A K.Mod.length K.Mod) {x : Int} (hx : K.D.is x = true) (h0 : x ≠ 0) :
    Calls Try.prog 54 #[.agg #[.int .i64 K.P, .int .i64 (K.m : Int), .slice A K.Mod.length c], .int .i64 x] w fun e w' => e = .returned (.int .i64 (K.D.inv x)) ∧ Below w.heap.size w w' := by
  have hF0 := FAt.new w K.P (K.m : Int) A K.Mod.length c
  obtain ⟨w0, hw0⟩ : ∃ w0, w.alloc (.cells #[.int .i64 K.P, .int .i64 (K.m : Int), .slice A K.Mod.length c] 27) = w0 := ⟨_, rfl⟩
  have hB0 : Below w.heap.size w w0 := by rw [← hw0]; exact below_alloc (Below.refl _ _) _
  rw [hw0] at hF0
  have HB0 := Aside0.mk hB0
  have HW := Aside0.mk hw0
  have HF := Aside0.mk hF0
  have HMod := Aside0.mk (Kd.C_below hC hB0)
  have HMul := Aside0.mk (fun (w1 : World) (hb : Below w0.heap.size w0 w1) (y : Int) => rMul (c := c) K (Kd.C_below HMod.out hb) x y)
  have HOrd := Aside0.mk (fun (w1 : World) => refOrder_any (w := w1) (A := A) (n := K.Mod.length) (c := c) K.P (K.m : Int))
  have h1 := K.mul_inv_eq hx h0
  have h2 := K.inv_one_le hx h0
  have h3 := ((K.is_iff _).1 (K.is_inv x)).2
  have h256 := K.q256
  have hun : ∀ y, 0 ≤ y → y < K.P ^ K.m → K.D.mul x y = 1 → y = K.D.inv x := fun y a b c => K.inv_unique ((K.is_iff y).2 ⟨a, b⟩) c
  rw [K.ord] at HOrd
  obtain ⟨q, hq⟩ : ∃ q, K.P ^ K.m = q := ⟨_, rfl⟩
  obtain ⟨i, hi⟩ : ∃ i, K.D.inv x = i := ⟨_, rfl⟩
  rw [hq] at HOrd h3 h256 hun
  rw [hi] at h1 h2 h3 hun ⊢
  have HUn := Aside0.mk hun
  have H1 := Aside0.mk h1
  have HBz := Aside0.mk (Below.refl w0.heap.size w0)
  clear hF0 hB0 hw0 hC hq hi hun h1
  go_enter Try.func54, Try.ntmps54
  go_upto_region 1 with (fail)
  rw [HW.out]
  go_wp2
  go_loopw [5] (fun v5 w' => ∃ k : Int, v5 = .int .i64 k ∧ 1 ≤ k ∧ k ≤ i ∧ Aside0 (Below w0.heap.size w0 w')) (fun v5 _ => (i - intOf v5).toNat)
  case atStart => exact ⟨1, rfl, by omega, by omega, HBz⟩
  case round =>
    clear HBz
    obtain ⟨k, rfl, hk1, hki, HB⟩ := hrel
    obtain ⟨cP, cM, cD⟩ := HF.out.below HB.out
    have hkq : decide (k < q) = true := decide_eq_true (by omega)
    by_cases hk : k = i
    · subst hk
      have HM1 := Aside0.mk (fun (w1 : World) (hb : Below w0.heap.size w0 w1) => by have q := HMul.out w1 hb k; rw [H1.out] at q; exact q)
      go_wp2_with (first
        | (go_at_call 70; refine (HOrd.out _).mono ?_; rintro e w1 ⟨rfl, hB⟩; have HB1 := Aside0.mk (below_later HB.out HB.out.size hB); obtain ⟨cP1, cM1, cD1⟩ := HF.out.below HB1.out; clear hB)
        | (go_at_call 46; refine (HM1.out _ HB1.out).mono ?_; rintro e w2 ⟨rfl, hB⟩; have HB2 := Aside0.mk (below_later HB1.out HB1.out.size hB); clear hB))
      go_ret
      exact ⟨rfl, below_later HB0.out HB0.out.size HB2.out⟩
    · have hne : K.D.mul x k ≠ 1 := fun h => hk (HUn.out k (by omega) (by omega) h)
      obtain ⟨m, hm⟩ : ∃ m, K.D.mul x k = m := ⟨_, rfl⟩
      rw [hm] at hne
      have hmb : (m == 1) = false := by simp [hne]
      have HM1 := Aside0.mk (fun (w1 : World) (hb : Below w0.heap.size w0 w1) => by have q := HMul.out w1 hb k; rw [hm] at q; exact q)
      clear hm hne
      go_wp2_with (first
        | (go_at_call 70; refine (HOrd.out _).mono ?_; rintro e w1 ⟨rfl, hB⟩; have HB1 := Aside0.mk (below_later HB.out HB.out.size hB); obtain ⟨cP1, cM1, cD1⟩ := HF.out.below HB1.out; clear hB)
        | (go_at_call 46; refine (HM1.out _ HB1.out).mono ?_; rintro e w2 ⟨rfl, hB⟩; have HB2 := Aside0.mk (below_later HB1.out HB1.out.size hB); clear hB))
      go_roundw
      case rel => exact ⟨k + 1, by go_num, by omega, by omega, HB2⟩
      case measure => simp [intOf]; omega

/-- The power of x. -/
def powZ (n : Nat) : List Int := (List.replicate (n + 1) 0).set n 1
set_option maxHeartbeats 8000000 in
set_option maxRecDepth 100000 in
theorem rPower {w : World} (n : Nat) (hn : n ≤ 1000) :
    Calls Try.prog 52 #[.int .i64 n] w fun e w' => ∃ v, e = .returned v ∧ Own w' w.heap.size v (powZ n) ∧ Below w.heap.size w w' := by
  have HN : Aside0 (((n : Int) + 1) = ((n + 1 : Nat) : Int)) := ⟨by omega⟩
  have hnl : (List.replicate (n + 1) (0 : Int)).length = n + 1 := List.length_replicate
  obtain ⟨Z, hZ⟩ : ∃ Z : List Int, List.replicate (n + 1) 0 = Z := ⟨_, rfl⟩
  have hp : powZ n = Z.set n 1 := by rw [← hZ]; rfl
  rw [hZ] at hnl
  rw [hp]
  have HZ := Aside0.mk hZ
  have HZl := Aside0.mk hnl
  have i1 : (n : Int) < ((n : Int) + 1) := by omega
  clear hp hZ hnl
  go_enter Try.func52, Try.ntmps52
  go_wp2_with ((with_reducible refine gate_dst (N := 6) rfl ?_); refine make_ownI rfl (N := 6) rfl _ _ rfl HN rfl rfl (by omega) ?_; intro v1 w1 hO hB; rw [HZ.out] at hO; have HO1 := Aside0.mk hO; have HB1 := Aside0.mk hB; obtain ⟨g1, cap, e1, h11, h12⟩ := HO1.out.form (by rw [HZl.out]; omega); rw [HZl.out] at e1; subst e1; obtain ⟨hcl, hfz⟩ := HO1.out.cell' HZl.out.symm n (by omega); clear hO hB)
  go_ret
  have hO3 := HO1.out.set (cap := cap) HZl.out.symm n 1
  exact ⟨_, rfl, hO3, HB1.out.setCell (p := ⟨g1, n, none⟩) h11 _⟩

end Go.Proofs.Yticgblagimmlfaa
end
section
/- Elimination as a relation on lists of rows. -/
namespace Go.Proofs.Yticgblagimmlfaa
open CW
set_option linter.unusedVariables false
set_option linter.unusedSimpArgs false

def swapL (l : List (List Int)) (i k : Nat) : List (List Int) := (l.set i (l.getD k [])).set k (l.getD i [])
def normR (D : GFD) (c : Nat) (r : List Int) : List Int := if r.getD c 0 ≠ 1 then scaleZ D (D.inv (r.getD c 0)) r else r
def clearRow (D : GFD) (c : Nat) (r v : List Int) : List Int := if v.getD c 0 ≠ 0 then addToZ D v (D.neg (v.getD c 0)) r else v
def clearL (D : GFD) (c t : Nat) (l : List (List Int)) : List (List Int) := (List.range l.length).map fun i => if i ≠ t then clearRow D c (l.getD t []) (l.getD i []) else l.getD i []
def normL (D : GFD) (c t : Nat) (l : List (List Int)) : List (List Int) := l.set t (normR D c (l.getD t []))
def nextL (D : GFD) (c t k : Nat) (l : List (List Int)) : List (List Int) := clearL D c t (normL D c t (swapL l t k))

inductive Reach (D : GFD) (rows : List (List Int)) : Nat → Nat → List (List Int) → List Int → Prop
  | start : Reach D rows 0 0 rows []
  | skip {c t : Nat} {l : List (List Int)} {pv : List Int} (h : Reach D rows c t l pv) (ht : t < l.length) (hz : ∀ j, t ≤ j → j < l.length → (l.getD j []).getD c 0 = 0) : Reach D rows (c + 1) t l pv
  | step {c t k : Nat} {l : List (List Int)} {pv : List Int} (h : Reach D rows c t l pv) (htk : t ≤ k) (hk : k < l.length) (hz : ∀ j, t ≤ j → j < k → (l.getD j []).getD c 0 = 0) (hn : (l.getD k []).getD c 0 ≠ 0) : Reach D rows (c + 1) (t + 1) (nextL D c t k l) (pv ++ [(c : Int)])

/-- Rows of n elements. -/
def Shp (D : GFD) (n : Nat) (l : List (List Int)) : Prop := ∀ r ∈ l, r.length = n ∧ ∀ j, D.is (r.getD j 0) = true
theorem getD_mem_rows {l : List (List Int)} {i : Nat} (h : i < l.length) : l.getD i [] ∈ l := by
  rw [List.getD_eq_getElem?_getD, List.getElem?_eq_getElem h]
  exact List.getElem_mem h
theorem Shp.set {D : GFD} {n : Nat} {l : List (List Int)} (h : Shp D n l) (i : Nat) {r : List Int} (hr : r.length = n ∧ ∀ j, D.is (r.getD j 0) = true) : Shp D n (l.set i r) := by
  intro x hx
  rcases List.mem_or_eq_of_mem_set hx with h1 | h1
  · exact h x h1
  · rw [h1]; exact hr
theorem scaleZ_at (D : GFD) (a : Int) (v : List Int) (i : Nat) : (scaleZ D a v).getD i 0 = if i < v.length then D.mul a (v.getD i 0) else 0 := by
  split
  · rename_i h; exact scaleZ_getD D a v i h
  · rename_i h
    rw [List.getD_eq_getElem?_getD, List.getElem?_eq_none (by rw [scaleZ_length]; omega)]
    rfl
theorem addToZ_at (D : GFD) (v : List Int) (a : Int) (u : List Int) (i : Nat) : (addToZ D v a u).getD i 0 = if i < v.length then (if u.getD i 0 ≠ 0 then D.add (v.getD i 0) (D.mul a (u.getD i 0)) else v.getD i 0) else 0 := by
  split
  · rename_i h; exact addToZ_getD D v a u i h
  · rename_i h
    rw [List.getD_eq_getElem?_getD, List.getElem?_eq_none (by rw [addToZ_length]; omega)]
    rfl
theorem FD.shp_scale (K : FD) {n : Nat} {v : List Int} (a : Int) (h : v.length = n) : (scaleZ K.D a v).length = n ∧ ∀ j, K.D.is ((scaleZ K.D a v).getD j 0) = true := by
  refine ⟨by rw [scaleZ_length, h], fun j => ?_⟩
  rw [scaleZ_at]
  split
  · exact K.is_mul _ _
  · exact K.is_zero
theorem FD.shp_addTo (K : FD) {n : Nat} {v u : List Int} (a : Int) (h : v.length = n ∧ ∀ j, K.D.is (v.getD j 0) = true) : (addToZ K.D v a u).length = n ∧ ∀ j, K.D.is ((addToZ K.D v a u).getD j 0) = true := by
  refine ⟨by rw [addToZ_length, h.1], fun j => ?_⟩
  rw [addToZ_at]
  split
  · split
    · exact K.is_add _ _
    · exact h.2 j
  · exact K.is_zero
theorem FD.shp_norm (K : FD) {n c : Nat} {r : List Int} (h : r.length = n ∧ ∀ j, K.D.is (r.getD j 0) = true) : (normR K.D c r).length = n ∧ ∀ j, K.D.is ((normR K.D c r).getD j 0) = true := by
  unfold normR
  split
  · exact K.shp_scale _ h.1
  · exact h
theorem FD.shp_clear (K : FD) {n c : Nat} {r v : List Int} (h : v.length = n ∧ ∀ j, K.D.is (v.getD j 0) = true) : (clearRow K.D c r v).length = n ∧ ∀ j, K.D.is ((clearRow K.D c r v).getD j 0) = true := by
  unfold clearRow
  split
  · exact K.shp_addTo _ h
  · exact h
theorem swapL_length (l : List (List Int)) (i k : Nat) : (swapL l i k).length = l.length := by simp [swapL]
theorem normL_length (D : GFD) (c t : Nat) (l : List (List Int)) : (normL D c t l).length = l.length := by simp [normL]
theorem clearL_length (D : GFD) (c t : Nat) (l : List (List Int)) : (clearL D c t l).length = l.length := by simp [clearL]
theorem nextL_length (D : GFD) (c t k : Nat) (l : List (List Int)) : (nextL D c t k l).length = l.length := by
  unfold nextL; rw [clearL_length, normL_length, swapL_length]
theorem clearL_getD (D : GFD) (c t : Nat) (l : List (List Int)) (i : Nat) (h : i < l.length) : (clearL D c t l).getD i [] = if i ≠ t then clearRow D c (l.getD t []) (l.getD i []) else l.getD i [] := by
  unfold clearL
  rw [List.getD_eq_getElem?_getD, List.getElem?_map, List.getElem?_range h]
  rfl
theorem FD.shp_swap (K : FD) {n : Nat} {l : List (List Int)} (h : Shp K.D n l) {i k : Nat} (hi : i < l.length) (hk : k < l.length) : Shp K.D n (swapL l i k) :=
  (h.set i (h _ (getD_mem_rows hk))).set k (h _ (getD_mem_rows hi))
theorem FD.shp_normL (K : FD) {n c t : Nat} {l : List (List Int)} (h : Shp K.D n l) (ht : t < l.length) : Shp K.D n (normL K.D c t l) :=
  h.set t (K.shp_norm (h _ (getD_mem_rows ht)))
theorem FD.shp_clearL (K : FD) {n c t : Nat} {l : List (List Int)} (h : Shp K.D n l) : Shp K.D n (clearL K.D c t l) := by
  intro r hr
  obtain ⟨i, hi, rfl⟩ := List.mem_map.1 hr
  have hi' := List.mem_range.1 hi
  split
  · exact K.shp_clear (h _ (getD_mem_rows hi'))
  · exact h _ (getD_mem_rows hi')
theorem FD.shp_next (K : FD) {n c t k : Nat} {l : List (List Int)} (h : Shp K.D n l) (htk : t ≤ k) (hk : k < l.length) : Shp K.D n (nextL K.D c t k l) :=
  K.shp_clearL (K.shp_normL (K.shp_swap h (by omega) hk) (by rw [swapL_length]; omega))
theorem Reach.facts {K : FD} {n : Nat} {rows : List (List Int)} (hs : Shp K.D n rows) {c t : Nat} {l : List (List Int)} {pv : List Int} (h : Reach K.D rows c t l pv) :
    l.length = rows.length ∧ t ≤ l.length ∧ t ≤ c ∧ pv.length = t ∧ Shp K.D n l := by
  induction h with
  | start => exact ⟨rfl, Nat.zero_le _, Nat.le_refl _, rfl, hs⟩
  | skip h ht hz ih => obtain ⟨h1, h2, h3, h4, h5⟩ := ih; exact ⟨h1, h2, by omega, h4, h5⟩
  | step h htk hk hz hn ih =>
    obtain ⟨h1, h2, h3, h4, h5⟩ := ih
    exact ⟨by rw [nextL_length]; exact h1, by rw [nextL_length]; omega, by omega, by simp [h4], K.shp_next h5 htk hk⟩
end Go.Proofs.Yticgblagimmlfaa
end
section
/- Reduced row echelon form. -/
namespace Go.Proofs.Yticgblagimmlfaa
open CW CW.PS
set_option linter.unusedVariables false
set_option linter.unusedSimpArgs false

theorem swapL_getD (l : List (List Int)) (t k i : Nat) (ht : t < l.length) (hk : k < l.length) : (swapL l t k).getD i [] = if i = k then l.getD t [] else if i = t then l.getD k [] else l.getD i [] := by
  unfold swapL
  split
  · rename_i h
    subst h
    rw [List.getD_eq_getElem?_getD, List.getElem?_set_self (by rw [List.length_set]; exact hk)]
    rfl
  · rename_i h
    rw [List.getD_eq_getElem?_getD, List.getElem?_set_ne (fun e => h e.symm)]
    split
    · rename_i h2
      subst h2
      rw [List.getElem?_set_self ht]
      rfl
    · rename_i h2
      rw [List.getElem?_set_ne (fun e => h2 e.symm), ← List.getD_eq_getElem?_getD]
theorem normL_getD (D : GFD) (c t : Nat) (l : List (List Int)) (i : Nat) (ht : t < l.length) : (normL D c t l).getD i [] = if i = t then normR D c (l.getD t []) else l.getD i [] := by
  unfold normL
  split
  · rename_i h
    subst h
    rw [List.getD_eq_getElem?_getD, List.getElem?_set_self ht]
    rfl
  · rename_i h
    rw [List.getD_eq_getElem?_getD, List.getElem?_set_ne (fun e => h e.symm), ← List.getD_eq_getElem?_getD]
/-- The rows of the next state. -/
theorem nextL_getD (D : GFD) (c t k i : Nat) (l : List (List Int)) (htk : t ≤ k) (hk : k < l.length) (hi : i < l.length) :
    (nextL D c t k l).getD i [] = if i = t then normR D c (l.getD k []) else clearRow D c (normR D c (l.getD k [])) (if i = k then l.getD t [] else l.getD i []) := by
  have h1 : (swapL l t k).getD t [] = l.getD k [] := by
    rw [swapL_getD _ _ _ _ (by omega) hk]
    by_cases h : t = k
    · rw [if_pos h, h]
    · rw [if_neg h, if_pos rfl]
  unfold nextL
  rw [clearL_getD _ _ _ _ _ (by rw [normL_length, swapL_length]; exact hi), normL_getD _ _ _ _ _ (by rw [swapL_length]; omega), if_pos rfl, h1, normL_getD _ _ _ _ _ (by rw [swapL_length]; omega), h1]
  by_cases hit : i = t
  · simp [hit]
  · simp only [hit, if_neg, ne_eq, not_false_iff, if_true, if_false]
    rw [swapL_getD _ _ _ _ (by omega) hk, if_neg hit]

open RE
namespace FD
variable (K : FD)
def vec (r : List Int) : Nat → K.E := fun j => K.el (r.getD j 0)
theorem vec_scale (a : Int) (v : List Int) (j : Nat) : K.vec (scaleZ K.D a v) j = K.el a * K.vec v j := by
  unfold vec
  rw [scaleZ_at]
  split
  · exact K.el_mul _ _
  · rename_i h
    rw [show v.getD j 0 = 0 from by rw [List.getD_eq_getElem?_getD, List.getElem?_eq_none (by omega)]; rfl, K.el_zero, mul_zero]
theorem vec_addTo (v : List Int) (a : Int) (u : List Int) (h : u.length = v.length) (j : Nat) : K.vec (addToZ K.D v a u) j = K.vec v j + K.el a * K.vec u j := by
  unfold vec
  rw [addToZ_at]
  split
  · split
    · rw [K.el_add, K.el_mul]
    · rename_i h0
      rw [show u.getD j 0 = 0 from Classical.not_not.1 h0, K.el_zero, mul_zero, add_zero]
  · rename_i h0
    rw [show v.getD j 0 = 0 from by rw [List.getD_eq_getElem?_getD, List.getElem?_eq_none (by omega)]; rfl, show u.getD j 0 = 0 from by rw [List.getD_eq_getElem?_getD, List.getElem?_eq_none (by omega)]; rfl, K.el_zero, mul_zero, add_zero]
/-- Closed under linear combinations. -/
structure Lin (P : (Nat → K.E) → Prop) : Prop where
  zero : P (fun _ => 0)
  add : ∀ v u a, P v → P u → P (fun j => v j + a * u j)
theorem Lin.smul {K : FD} {P : (Nat → K.E) → Prop} (h : K.Lin P) {u : Nat → K.E} (a : K.E) (hu : P u) : P (fun j => a * u j) := by
  have := h.add (fun _ => 0) u a h.zero hu
  simpa [zero_add] using this
def AllP (P : (Nat → K.E) → Prop) (l : List (List Int)) : Prop := ∀ i, i < l.length → P (K.vec (l.getD i []))

theorem norm_fwd {P : (Nat → K.E) → Prop} (h : K.Lin P) (c : Nat) {r : List Int} (hr : P (K.vec r)) : P (K.vec (normR K.D c r)) := by
  unfold normR
  split
  · have := h.smul (K.el (K.D.inv (r.getD c 0))) hr
    rwa [show (fun j => K.el (K.D.inv (r.getD c 0)) * K.vec r j) = K.vec (scaleZ K.D (K.D.inv (r.getD c 0)) r) from by funext j; rw [K.vec_scale]] at this
  · exact hr
theorem norm_bwd {P : (Nat → K.E) → Prop} (h : K.Lin P) (c : Nat) {r : List Int} (hs : K.D.is (r.getD c 0) = true) (h0 : r.getD c 0 ≠ 0) (hr : P (K.vec (normR K.D c r))) : P (K.vec r) := by
  unfold normR at hr
  split at hr
  · have := h.smul (K.el (r.getD c 0)) hr
    rwa [show (fun j => K.el (r.getD c 0) * K.vec (scaleZ K.D (K.D.inv (r.getD c 0)) r) j) = K.vec r from by
      funext j
      rw [K.vec_scale, ← mul_assoc, ← K.el_mul, K.mul_inv_eq hs h0, K.el_one, one_mul]] at this
  · exact hr
theorem clear_fwd {P : (Nat → K.E) → Prop} (h : K.Lin P) (c : Nat) {r v : List Int} (hl : r.length = v.length) (hr : P (K.vec r)) (hv : P (K.vec v)) : P (K.vec (clearRow K.D c r v)) := by
  unfold clearRow
  split
  · have := h.add _ _ (K.el (K.D.neg (v.getD c 0))) hv hr
    rwa [show (fun j => K.vec v j + K.el (K.D.neg (v.getD c 0)) * K.vec r j) = K.vec (addToZ K.D v (K.D.neg (v.getD c 0)) r) from by funext j; rw [K.vec_addTo _ _ _ hl]] at this
  · exact hv
theorem clear_bwd {P : (Nat → K.E) → Prop} (h : K.Lin P) (c : Nat) {r v : List Int} (hl : r.length = v.length) (hr : P (K.vec r)) (hv : P (K.vec (clearRow K.D c r v))) : P (K.vec v) := by
  unfold clearRow at hv
  split at hv
  · have := h.add _ _ (K.el (v.getD c 0)) hv hr
    rwa [show (fun j => K.vec (addToZ K.D v (K.D.neg (v.getD c 0)) r) j + K.el (v.getD c 0) * K.vec r j) = K.vec v from by
      funext j
      rw [K.vec_addTo _ _ _ hl, K.el_neg]
      exact ring_id [K.vec v j, K.el (v.getD c 0), K.vec r j] (x0 + -x1 * x2 + x1 * x2) x0 rfl] at this
  · exact hv

theorem Reach.fwd {P : (Nat → K.E) → Prop} (hP : K.Lin P) {n : Nat} {rows : List (List Int)} (hs : Shp K.D n rows) (h0 : K.AllP P rows) {c t : Nat} {l : List (List Int)} {pv : List Int} (h : Reach K.D rows c t l pv) : K.AllP P l := by
  induction h with
  | start => exact h0
  | skip h ht hz ih => exact ih
  | @step c t k l pv h htk hk hz hn ih =>
    have hf := Reach.facts hs h
    have hr := K.norm_fwd hP c (ih k hk)
    have hrl := K.shp_norm (c := c) (hf.2.2.2.2 _ (getD_mem_rows hk))
    intro i hi
    rw [nextL_length] at hi
    rw [nextL_getD _ _ _ _ _ _ htk hk hi]
    split
    · exact hr
    · have ht : t < l.length := by omega
      split
      · exact K.clear_fwd hP c (by rw [hrl.1, (hf.2.2.2.2 _ (getD_mem_rows ht)).1]) hr (ih t ht)
      · exact K.clear_fwd hP c (by rw [hrl.1, (hf.2.2.2.2 _ (getD_mem_rows hi)).1]) hr (ih i hi)
theorem Reach.bwd {P : (Nat → K.E) → Prop} (hP : K.Lin P) {n : Nat} {rows : List (List Int)} (hs : Shp K.D n rows) {c t : Nat} {l : List (List Int)} {pv : List Int} (h : Reach K.D rows c t l pv) (h0 : K.AllP P l) : K.AllP P rows := by
  induction h with
  | start => exact h0
  | skip h ht hz ih => exact ih h0
  | @step c t k l pv h htk hk hz hn ih =>
    have hf := Reach.facts hs h
    have ht : t < l.length := by omega
    have hrl := K.shp_norm (c := c) (hf.2.2.2.2 _ (getD_mem_rows hk))
    have hg := fun i hi => nextL_getD K.D c t k i l htk hk hi
    have hr : P (K.vec (normR K.D c (l.getD k []))) := by
      have := h0 t (by rw [nextL_length]; exact ht)
      rwa [hg t ht, if_pos rfl] at this
    have hk' : P (K.vec (l.getD k [])) := K.norm_bwd hP c ((hf.2.2.2.2 _ (getD_mem_rows hk)).2 c) hn hr
    refine ih fun i hi => ?_
    by_cases hik : i = k
    · rw [hik]; exact hk'
    · by_cases hit : i = t
      · subst hit
        have := h0 k (by rw [nextL_length]; exact hk)
        rw [hg k hk, if_neg (fun e => hik e.symm), if_pos rfl] at this
        exact K.clear_bwd hP c (by rw [hrl.1, (hf.2.2.2.2 _ (getD_mem_rows ht)).1]) hr this
      · have := h0 i (by rw [nextL_length]; exact hi)
        rw [hg i hi, if_neg hit, if_neg hik] at this
        exact K.clear_bwd hP c (by rw [hrl.1, (hf.2.2.2.2 _ (getD_mem_rows hi)).1]) hr this

/-- The state: row i < t has its first nonzero entry, a one, at p i; the others have 0 there. -/
structure Ech (D : GFD) (c t : Nat) (l : List (List Int)) (p : Nat → Nat) : Prop where
  lt : ∀ i, i < t → p i < c
  mono : ∀ i j, i < j → j < t → p i < p j
  one : ∀ i j, i < t → j < l.length → (l.getD j []).getD (p i) 0 = if j = i then 1 else 0
  low : ∀ i q, i < t → q < p i → (l.getD i []).getD q 0 = 0
  rest : ∀ j q, t ≤ j → j < l.length → q < c → (l.getD j []).getD q 0 = 0
theorem getD_ge {l : List Int} {i : Nat} (h : l.length ≤ i) : l.getD i 0 = 0 := by
  rw [List.getD_eq_getElem?_getD, List.getElem?_eq_none h]; rfl
theorem norm_zero {c q : Nat} {r : List Int} (h : r.getD q 0 = 0) : (normR K.D c r).getD q 0 = 0 := by
  unfold normR
  split
  · rw [scaleZ_at]
    split
    · rw [h]
      refine K.el_inj (K.is_mul _ _) K.is_zero ?_
      rw [K.el_mul, K.el_zero, mul_zero]
    · rfl
  · exact h
theorem norm_one {c : Nat} {r : List Int} (hs : K.D.is (r.getD c 0) = true) (h0 : r.getD c 0 ≠ 0) : (normR K.D c r).getD c 0 = 1 := by
  have hl : c < r.length := Classical.byContradiction fun hn => h0 (getD_ge (by omega))
  unfold normR
  split
  · rw [scaleZ_at, if_pos hl]
    refine K.el_inj (K.is_mul _ _) K.is_one ?_
    have := K.mul_inv_eq hs h0
    rw [K.el_mul, mul_comm, ← K.el_mul, this]
  · rename_i h; exact Classical.not_not.1 h
theorem clear_keep {c q : Nat} {r v : List Int} (h : r.getD q 0 = 0) : (clearRow K.D c r v).getD q 0 = v.getD q 0 := by
  unfold clearRow
  split
  · rw [addToZ_at]
    split
    · rw [if_neg (fun hh => hh h)]
    · rename_i hl; rw [getD_ge (by omega)]
  · rfl
theorem clear_zero {c : Nat} {r v : List Int} (hs : K.D.is (v.getD c 0) = true) (h : r.getD c 0 = 1) : (clearRow K.D c r v).getD c 0 = 0 := by
  unfold clearRow
  split
  · rw [addToZ_at]
    split
    · rw [if_pos (by rw [h]; decide), h]
      refine K.el_inj (K.is_add _ _) K.is_zero ?_
      rw [K.el_add, K.el_mul, K.el_neg, K.el_one, K.el_zero]
      exact ring_id [K.el (v.getD c 0)] (x0 + -x0 * 1) 0 rfl
    · rfl
  · rename_i h0; exact Classical.not_not.1 h0
theorem Reach.ech {n : Nat} {rows : List (List Int)} (hs : Shp K.D n rows) {c t : Nat} {l : List (List Int)} {pv : List Int} (h : Reach K.D rows c t l pv) : ∃ p : Nat → Nat, Ech K.D c t l p ∧ ∀ i, i < t → pv.getD i 0 = (p i : Int) := by
  induction h with
  | start => exact ⟨fun _ => 0, ⟨fun i h => by omega, fun i j _ h => by omega, fun i j h => by omega, fun i q h => by omega, fun j q _ _ h => by omega⟩, fun i h => by omega⟩
  | @skip c t l pv h ht hz ih =>
    obtain ⟨p, hE, hp⟩ := ih
    refine ⟨p, ⟨fun i hi => by have := hE.lt i hi; omega, hE.mono, hE.one, hE.low, fun j q hj hjl hq => ?_⟩, hp⟩
    by_cases hqc : q = c
    · rw [hqc]; exact hz j hj hjl
    · exact hE.rest j q hj hjl (by omega)
  | @step c t k l pv h htk hk hz hn ih =>
    obtain ⟨p, hE, hp⟩ := ih
    have hf := Reach.facts hs h
    have ht : t < l.length := by omega
    have hg := fun i hi => nextL_getD K.D c t k i l htk hk hi
    have hke := (hf.2.2.2.2 _ (getD_mem_rows hk)).2 c
    have hrz : ∀ q, q < c → (normR K.D c (l.getD k [])).getD q 0 = 0 := fun q hq => K.norm_zero (hE.rest k q htk hk hq)
    have hr1 := K.norm_one hke hn
    have hsw : ∀ i q, i < l.length → q < c → t ≤ i → (if i = k then l.getD t [] else l.getD i []).getD q 0 = 0 := fun i q hi hq hti => by
      split
      · exact hE.rest t q (Nat.le_refl _) ht hq
      · exact hE.rest i q hti hi hq
    have hcl : ∀ i q, i < l.length → q < c → i ≠ t → ((nextL K.D c t k l).getD i []).getD q 0 = (if i = k then l.getD t [] else l.getD i []).getD q 0 := fun i q hi hq hit => by
      rw [hg i hi, if_neg hit, K.clear_keep (hrz q hq)]
    have hcc : ∀ i, i < l.length → i ≠ t → ((nextL K.D c t k l).getD i []).getD c 0 = 0 := fun i hi hit => by
      rw [hg i hi, if_neg hit]
      refine K.clear_zero ?_ hr1
      split
      · exact (hf.2.2.2.2 _ (getD_mem_rows ht)).2 c
      · exact (hf.2.2.2.2 _ (getD_mem_rows hi)).2 c
    have hct : (nextL K.D c t k l).getD t [] = normR K.D c (l.getD k []) := by rw [hg t ht, if_pos rfl]
    have hlow : ∀ i, i < t → i ≠ k := fun i hi => by omega
    refine ⟨fun i => if i = t then c else p i, ⟨fun i hi => ?_, fun i j hij hj => ?_, fun i j hi hj => ?_, fun i q hi hq => ?_, fun j q hj hjl hq => ?_⟩, fun i hi => ?_⟩
    · show (if i = t then c else p i) < c + 1
      split
      · omega
      · have := hE.lt i (by omega); omega
    · show (if i = t then c else p i) < (if j = t then c else p j)
      rw [if_neg (by omega : ¬ i = t)]
      split
      · exact hE.lt i (by omega)
      · exact hE.mono i j hij (by omega)
    · rw [nextL_length] at hj
      show ((nextL K.D c t k l).getD j []).getD (if i = t then c else p i) 0 = _
      by_cases hit : i = t
      · rw [if_pos hit]
        by_cases hjt : j = t
        · rw [if_pos (by omega), hjt, hct]; exact hr1
        · rw [if_neg (by omega)]; exact hcc j hj hjt
      · rw [if_neg hit]
        have hic := hE.lt i (by omega)
        by_cases hjt : j = t
        · rw [if_neg (by omega), hjt, hct]; exact hrz _ hic
        · rw [hcl j _ hj hic hjt]
          by_cases hjlt : j < t
          · rw [if_neg (hlow j hjlt)]; exact hE.one i j (by omega) hj
          · rw [if_neg (by omega : ¬ j = i)]; exact hsw j _ hj hic (by omega)
    · have hq : q < (if i = t then c else p i) := hq
      by_cases hit : i = t
      · rw [if_pos hit] at hq
        rw [hit, hct]; exact hrz q hq
      · rw [if_neg hit] at hq
        have hic := hE.lt i (by omega)
        rw [hcl i q (by omega) (by omega) hit, if_neg (hlow i (by omega))]
        exact hE.low i q (by omega) hq
    · rw [nextL_length] at hjl
      by_cases hqc : q = c
      · rw [hqc]; exact hcc j hjl (by omega)
      · rw [hcl j q hjl (by omega) (by omega)]; exact hsw j q hjl (by omega) (by omega)
    · show (pv ++ [(c : Int)]).getD i 0 = ((if i = t then c else p i : Nat) : Int)
      have hpl := hf.2.2.2.1
      by_cases hit : i = t
      · rw [if_pos hit, hit, ← hpl, List.getD_eq_getElem?_getD, List.getElem?_append_right (Nat.le_refl _)]
        simp
      · rw [if_neg hit, ← hp i (by omega), List.getD_eq_getElem?_getD, List.getElem?_append_left (by omega), ← List.getD_eq_getElem?_getD]

/-- Reduced row echelon form with the pivots p. -/
structure RRE (n : Nat) (G : List (List Int)) (p : Nat → Nat) : Prop where
  shp : Shp K.D n G
  lt : ∀ i, i < G.length → p i < n
  mono : ∀ i j, i < j → j < G.length → p i < p j
  one : ∀ i j, i < G.length → j < G.length → (G.getD j []).getD (p i) 0 = if j = i then 1 else 0
  low : ∀ i q, i < G.length → q < p i → (G.getD i []).getD q 0 = 0
theorem Reach.rre {n : Nat} {rows : List (List Int)} (hs : Shp K.D n rows) {c t : Nat} {l : List (List Int)} {pv : List Int} (h : Reach K.D rows c t l pv) (hc : c ≤ n) (hend : c = n ∨ t = rows.length) :
    ∃ p, K.RRE n (l.take t) p ∧ (∀ i, i < t → pv.getD i 0 = (p i : Int)) ∧ (l.take t).length = t ∧ ∀ j, t ≤ j → j < l.length → ∀ q, (l.getD j []).getD q 0 = 0 := by
  obtain ⟨p, hE, hp⟩ := Reach.ech K hs h
  obtain ⟨f1, f2, f3, f4, f5⟩ := Reach.facts hs h
  have hlt : (l.take t).length = t := by simp; omega
  have hgd : ∀ i, i < t → (l.take t).getD i [] = l.getD i [] := fun i hi => by rw [List.getD_eq_getElem?_getD, List.getElem?_take_of_lt hi, ← List.getD_eq_getElem?_getD]
  refine ⟨p, ⟨fun r hr => f5 r (List.mem_of_mem_take hr), fun i hi => ?_, fun i j hij hj => hE.mono i j hij (by omega), fun i j hi hj => ?_, fun i q hi hq => ?_⟩, hp, hlt, fun j hj hjl q => ?_⟩
  · have := hE.lt i (by omega); omega
  · rw [hgd j (by omega)]; exact hE.one i j (by omega) (by omega)
  · rw [hgd i (by omega)]; exact hE.low i q (by omega) hq
  · rcases hend with h | h
    · by_cases hq : q < c
      · exact hE.rest j q hj hjl hq
      · exact getD_ge (by rw [(f5 _ (getD_mem_rows hjl)).1]; omega)
    · omega
/-- Elimination of a reduced form. -/
theorem RRE.again {n : Nat} {G : List (List Int)} {p : Nat → Nat} (hG : K.RRE n G p) {c t : Nat} {l : List (List Int)} {pv : List Int} (h : Reach K.D G c t l pv) : l = G ∧ (∀ i, i < t → p i < c) ∧ ∀ i, t ≤ i → i < G.length → c ≤ p i := by
  induction h with
  | start => exact ⟨rfl, fun i hi => by omega, fun i _ _ => by omega⟩
  | @skip c t l pv h ht hz ih =>
    obtain ⟨rfl, h1, h2⟩ := ih
    refine ⟨rfl, fun i hi => by have := h1 i hi; omega, fun i hi hil => ?_⟩
    have h3 := h2 t (Nat.le_refl _) ht
    have h4 : p t ≠ c := fun e => by
      have := hz t (Nat.le_refl _) ht
      rw [← e, hG.one t t ht ht, if_pos rfl] at this
      exact absurd this (by decide)
    by_cases hit : i = t
    · rw [hit]; omega
    · have := hG.mono t i (by omega) hil; omega
  | @step c t k l pv h htk hk hz hn ih =>
    obtain ⟨rfl, h1, h2⟩ := ih
    have ht : t < l.length := by omega
    have h3 := h2 t (Nat.le_refl _) ht
    have h4 : p t = c := by
      refine Classical.byContradiction fun hne => hn (hG.low k c hk ?_)
      by_cases hkt : k = t
      · rw [hkt]; omega
      · have := hG.mono t k (by omega) hk; omega
    have h5 : (l.getD t []).getD c 0 = 1 := by rw [← h4, hG.one t t ht ht, if_pos rfl]
    have hkt : k = t := by
      refine Classical.byContradiction fun hne => ?_
      have := hz t (Nat.le_refl _) (by omega)
      rw [h5] at this
      exact absurd this (by decide)
    subst hkt
    have hnr : normR K.D c (l.getD k []) = l.getD k [] := by unfold normR; rw [if_neg (by rw [h5]; simp)]
    refine ⟨?_, fun i hi => ?_, fun i hi hil => ?_⟩
    · apply List.ext_getElem?
      intro i
      by_cases hi : i < l.length
      · have := nextL_getD K.D c k k i l (Nat.le_refl _) hk hi
        rw [hnr] at this
        have e : (nextL K.D c k k l).getD i [] = l.getD i [] := by
          rw [this]
          by_cases hik : i = k
          · rw [if_pos hik, hik]
          · rw [if_neg hik, if_neg hik]
            unfold clearRow
            rw [if_neg]
            rw [← h4, hG.one k i hk hi, if_neg hik]
            simp
        rw [List.getD_eq_getElem?_getD, List.getD_eq_getElem?_getD, List.getElem?_eq_getElem (by rw [nextL_length]; exact hi), List.getElem?_eq_getElem hi] at e
        rw [List.getElem?_eq_getElem (by rw [nextL_length]; exact hi), List.getElem?_eq_getElem hi]
        exact congrArg some e
      · rw [List.getElem?_eq_none (by rw [nextL_length]; omega), List.getElem?_eq_none (by omega)]
    · by_cases hik : i = k
      · rw [hik]; omega
      · have := h1 i (by omega); omega
    · have := hG.mono k i (by omega) hil; omega
theorem RRE.fix {n : Nat} {G : List (List Int)} {p : Nat → Nat} (hG : K.RRE n G p) {c t : Nat} {l : List (List Int)} {pv : List Int} (h : Reach K.D G c t l pv) (hend : c = n ∨ t = G.length) : l = G ∧ t = G.length := by
  obtain ⟨h1, h2, h3⟩ := RRE.again K hG h
  have hf := Reach.facts hG.shp h
  refine ⟨h1, ?_⟩
  rcases hend with h | h
  · refine Classical.byContradiction fun hne => ?_
    have ht : t < G.length := by have := hf.2.1; rw [h1] at this; omega
    have h4 := h3 t (Nat.le_refl _) ht
    have h5 := hG.lt t ht
    omega
  · exact h
end FD
end Go.Proofs.Yticgblagimmlfaa
end
section
/- The document's test of a description is the program's; the laws Corrects and Shifts; plain Lean. -/
namespace Go.Proofs.Yticgblagimmlfaa
open CW CW.PS
set_option linter.unusedVariables false
set_option linter.unusedSimpArgs false

theorem all_range (f : Int → Bool) (l : List Int) : (List.range l.length).all (fun i => f (l.getD i 0)) = l.all f := by
  rw [Bool.eq_iff_iff, List.all_eq_true, List.all_eq_true]
  constructor
  · intro h x hx
    obtain ⟨i, hi, e⟩ := List.getElem_of_mem hx
    have := h i (List.mem_range.2 hi)
    rwa [List.getD_eq_getElem?_getD, List.getElem?_eq_getElem hi, Option.getD_some, e] at this
  · intro h i hi
    exact h _ (mem_getD l i (List.mem_range.1 hi))
theorem checkR_open (s : GD) : checkR s = s.open := by
  have hf := fcheckR_iff s.P s.M s.Mod
  unfold checkR GD.open
  by_cases h1 : fcheckR s.P s.M s.Mod = 0
  · have hfo := hf.1 h1
    obtain ⟨K, e1, e2, e3, e4⟩ := exists_K s hfo
    have his : isR s.P s.M = s.D.is := by
      funext x
      rw [e4, ← K.isR_eq, e1, e2]
    rw [if_neg (show ¬ fcheckR s.P s.M s.Mod ≠ 0 from fun h => h h1), if_neg (show ¬ fieldOk s.P s.M s.Mod = false by rw [hfo]; simp)]
    by_cases h2 : s.pts.length < 1 ∨ 64 < s.pts.length
    · rw [if_pos h2, if_pos h2]
    rw [if_neg h2, if_neg h2]
    by_cases h3 : s.mults.length ≠ s.pts.length
    · rw [if_pos h3, if_pos h3]
    rw [if_neg h3, if_neg h3]
    have h3' : s.mults.length = s.pts.length := Classical.not_not.1 h3
    unfold tailR
    rw [his]
    have hb : bothIs s.D.is s.pts s.mults s.pts.length = (s.pts.all s.D.is && s.mults.all s.D.is) := by
      rw [← all_range s.D.is s.pts, ← all_range s.D.is s.mults, h3']
      unfold bothIs
      rw [Bool.eq_iff_iff, Bool.and_eq_true, List.all_eq_true, List.all_eq_true, List.all_eq_true]
      constructor
      · intro h
        exact ⟨fun i hi => (Bool.and_eq_true _ _ ▸ h i hi).1, fun i hi => (Bool.and_eq_true _ _ ▸ h i hi).2⟩
      · intro h i hi
        rw [Bool.and_eq_true]
        exact ⟨h.1 i hi, h.2 i hi⟩
    have hz : (List.range s.pts.length).all (fun i => decide (s.mults.getD i 0 ≠ 0)) = false ↔ (0 : Int) ∈ s.mults := by
      rw [← h3']
      have := all_range (fun x => decide (x ≠ 0)) s.mults
      rw [this]
      rw [← Bool.not_eq_true, List.all_eq_true]
      constructor
      · intro h
        refine Classical.byContradiction fun hn => h fun x hx => decide_eq_true fun e => hn (e ▸ hx)
      · intro h hn
        exact of_decide_eq_true (hn 0 h) rfl
    rw [hb]
    by_cases h4 : s.pts.all s.D.is = false
    · rw [if_pos (by rw [h4]; rfl), if_pos h4]
    rw [if_neg h4]
    have h4' : s.pts.all s.D.is = true := by simpa using h4
    by_cases h5 : s.mults.all s.D.is = false
    · rw [if_pos (by rw [h4', h5]; rfl), if_pos h5]
    have h5' : s.mults.all s.D.is = true := by simpa using h5
    rw [if_neg (by rw [h4', h5']; simp), if_neg h5]
    by_cases h6 : ¬ s.pts.Nodup
    · rw [if_pos h6, if_pos h6]
    rw [if_neg h6, if_neg h6]
    by_cases h7 : (0 : Int) ∈ s.mults
    · rw [if_pos (hz.2 h7), if_pos h7]
    rw [if_neg (fun h => h7 (hz.1 h)), if_neg h7]
    by_cases h8 : s.K < 0
    · rw [if_pos (.inl h8), if_pos h8]
    by_cases h9 : (s.pts.length : Int) < s.K
    · rw [if_pos (.inr h9), if_neg h8, if_pos h9]
    · rw [if_neg (by omega), if_neg h8, if_neg h9]
  · rw [if_pos h1]
    have : fieldOk s.P s.M s.Mod = false := by
      cases h : fieldOk s.P s.M s.Mod with
      | false => rfl
      | true => exact absurd (hf.2 h) h1
    rw [if_pos this]
end Go.Proofs.Yticgblagimmlfaa
end
section
/- A codeword added to the received word is added to the result; plain Lean. -/
namespace Go.Proofs.Yticgblagimmlfaa
open CW CW.PS
set_option linter.unusedVariables false
set_option linter.unusedSimpArgs false

def minusZ (D : GFD) (a b : List Int) : List Int := (List.range a.length).map fun i => D.sub (a.getD i 0) (b.getD i 0)
namespace FD
variable (K : FD)
theorem encZ_all (pts mults msg : List Int) : (encZ K.D pts mults msg).all K.D.is = true := by
  rw [List.all_eq_true]
  intro x hx
  obtain ⟨t, -, rfl⟩ := List.mem_map.1 hx
  exact K.is_mul _ _
theorem el_encZ (pts mults msg : List Int) (i : Nat) (h1 : i < pts.length) (h2 : i < mults.length) : K.el ((encZ K.D pts mults msg).getD i 0) = K.el (mults.getD i 0) * pv (K.toP msg) (K.el (pts.getD i 0)) := by
  rw [encZ_getD _ _ _ _ _ h1 h2, el_mul, el_eval]
theorem is_encZ (pts mults msg : List Int) (i : Nat) : K.D.is ((encZ K.D pts mults msg).getD i 0) = true := by
  by_cases h : i < (encZ K.D pts mults msg).length
  · exact all_getD _ _ (K.encZ_all _ _ _) i h
  · rw [getD_out _ i (by omega)]; exact K.is_zero
end FD
end Go.Proofs.Yticgblagimmlfaa
end
section
/- Words in the row space. -/
namespace Go.Proofs.Yticgblagimmlfaa
open CW CW.PS RE
set_option linter.unusedVariables false
set_option linter.unusedSimpArgs false

/-- v minus the combination of the rows. -/
def restZ (D : GFD) (G : List (List Int)) (p : Nat → Nat) (v : List Int) : Nat → List Int
  | 0 => v
  | k + 1 => addToZ D (restZ D G p v k) (D.neg (v.getD (p k) 0)) (G.getD k [])
theorem restZ_length (D : GFD) (G : List (List Int)) (p : Nat → Nat) (v : List Int) : ∀ k, (restZ D G p v k).length = v.length
  | 0 => rfl
  | k + 1 => by show (addToZ D _ _ _).length = _; rw [addToZ_length, restZ_length D G p v k]
def inZ (D : GFD) (G : List (List Int)) (p : Nat → Nat) (v : List Int) : Bool := (restZ D G p v G.length).all fun x => decide (x = 0)

namespace FD
variable (K : FD)
def lc (G : List (List Int)) (p : Nat → Nat) (x : Nat → K.E) : Nat → Nat → K.E
  | 0, _ => 0
  | k + 1, j => lc G p x k j + x (p k) * K.vec (G.getD k []) j
theorem restZ_is {n : Nat} {G : List (List Int)} {p : Nat → Nat} {v : List Int} (hv : v.length = n ∧ ∀ j, K.D.is (v.getD j 0) = true) : ∀ k j, K.D.is ((restZ K.D G p v k).getD j 0) = true
  | 0, j => hv.2 j
  | k + 1, j => (K.shp_addTo (n := n) _ ⟨by rw [restZ_length]; exact hv.1, fun j => restZ_is hv k j⟩).2 j
theorem vec_rest {n : Nat} {G : List (List Int)} {p : Nat → Nat} {v : List Int} (hv : v.length = n) (hG : Shp K.D n G) : ∀ k, k ≤ G.length → ∀ j, K.vec (restZ K.D G p v k) j = K.vec v j - K.lc G p (K.vec v) k j
  | 0, _, j => by
    show K.vec v j = _ - 0
    exact ring_id [K.vec v j] x0 (x0 - 0) rfl
  | k + 1, hk, j => by
    show K.vec (addToZ K.D _ _ _) j = _ - (K.lc G p (K.vec v) k j + _)
    rw [K.vec_addTo _ _ _ (by rw [restZ_length, hv]; exact (hG _ (getD_mem_rows (by omega))).1), vec_rest hv hG k (by omega) j, K.el_neg]
    exact ring_id [K.vec v j, K.lc G p (K.vec v) k j, K.el (v.getD (p k) 0), K.vec (G.getD k []) j] (x0 - x1 + -x2 * x3) (x0 - (x1 + x2 * x3)) rfl
theorem lc_lin (G : List (List Int)) (p : Nat → Nat) (x y : Nat → K.E) (a : K.E) (j : Nat) : ∀ k, K.lc G p (fun j => x j + a * y j) k j = K.lc G p x k j + a * K.lc G p y k j
  | 0 => by
    show (0 : K.E) = 0 + a * 0
    exact ring_id [a] 0 (0 + x0 * 0) rfl
  | k + 1 => by
    show K.lc G p _ k j + (x (p k) + a * y (p k)) * _ = K.lc G p x k j + _ + a * (K.lc G p y k j + _)
    rw [lc_lin G p x y a j k]
    exact ring_id [K.lc G p x k j, a, K.lc G p y k j, x (p k), y (p k), K.vec (G.getD k []) j] (x0 + x1 * x2 + (x3 + x1 * x4) * x5) (x0 + x3 * x5 + x1 * (x2 + x4 * x5)) rfl
theorem lc_zero (G : List (List Int)) (p : Nat → Nat) (j : Nat) : ∀ k, K.lc G p (fun _ => 0) k j = 0
  | 0 => rfl
  | k + 1 => by
    show K.lc G p _ k j + 0 * _ = 0
    rw [lc_zero G p j k]
    exact ring_id [K.vec (G.getD k []) j] (0 + 0 * x0) 0 rfl
theorem lin_lc (G : List (List Int)) (p : Nat → Nat) (k : Nat) : K.Lin (fun x => ∀ j, x j = K.lc G p x k j) :=
  ⟨fun j => (K.lc_zero G p j k).symm, fun v u a hv hu j => by rw [K.lc_lin G p v u a j k, ← hv j, ← hu j]⟩
theorem lc_row {n : Nat} {G : List (List Int)} {p : Nat → Nat} (hG : K.RRE n G p) {i : Nat} (hi : i < G.length) (j : Nat) : ∀ k, k ≤ G.length → K.lc G p (K.vec (G.getD i [])) k j = if i < k then K.vec (G.getD i []) j else 0
  | 0, _ => by rw [if_neg (by omega)]; rfl
  | k + 1, hk => by
    show K.lc G p _ k j + K.vec (G.getD i []) (p k) * _ = _
    rw [lc_row hG hi j k (by omega)]
    have h1 : K.vec (G.getD i []) (p k) = if i = k then 1 else 0 := by
      show K.el ((G.getD i []).getD (p k) 0) = _
      rw [hG.one k i (by omega) hi]
      split
      · exact K.el_one
      · exact K.el_zero
    rw [h1]
    by_cases hik : i = k
    · subst hik
      rw [if_pos rfl, if_neg (by omega), if_pos (by omega)]
      exact ring_id [K.vec (G.getD i []) j] (0 + 1 * x0) x0 rfl
    · rw [if_neg hik]
      by_cases h2 : i < k
      · rw [if_pos h2, if_pos (by omega)]
        exact ring_id [K.vec (G.getD i []) j, K.vec (G.getD k []) j] (x0 + 0 * x1) x0 rfl
      · rw [if_neg h2, if_neg (by omega)]
        exact ring_id [K.vec (G.getD k []) j] (0 + 0 * x0) 0 rfl
/-- A word is reduced to 0 just if it lies in the row space. -/
theorem inZ_span {n : Nat} {G : List (List Int)} {p : Nat → Nat} (hG : K.RRE n G p) {v : List Int} (hv : v.length = n ∧ ∀ j, K.D.is (v.getD j 0) = true) :
    inZ K.D G p v = true ↔ ∀ P, K.Lin P → K.AllP P G → P (K.vec v) := by
  have hr := K.vec_rest (p := p) hv.1 hG.shp G.length (Nat.le_refl _)
  unfold inZ
  rw [List.all_eq_true]
  constructor
  · intro h P hP hA
    have hz : ∀ j, K.vec (restZ K.D G p v G.length) j = 0 := fun j => by
      show K.el ((restZ K.D G p v G.length).getD j 0) = 0
      rw [← K.el_zero]
      congr 1
      by_cases hj : j < (restZ K.D G p v G.length).length
      · rw [List.getD_eq_getElem?_getD, List.getElem?_eq_getElem hj]
        exact of_decide_eq_true (h _ (List.getElem_mem hj))
      · exact getD_ge (by omega)
    have hlc : ∀ k, k ≤ G.length → P (K.lc G p (K.vec v) k) := by
      intro k
      induction k with
      | zero => intro _; exact hP.zero
      | succ k ih => intro hk; exact hP.add _ _ _ (ih (by omega)) (hA k (by omega))
    have he : K.vec v = K.lc G p (K.vec v) G.length := by
      funext j
      have := hr j
      rw [hz j] at this
      have h2 : K.vec v j = K.lc G p (K.vec v) G.length j + (K.vec v j - K.lc G p (K.vec v) G.length j) := ring_id [K.vec v j, K.lc G p (K.vec v) G.length j] x0 (x1 + (x0 - x1)) rfl
      rw [h2, ← this, add_zero]
    rw [he]
    exact hlc _ (Nat.le_refl _)
  · intro h x hx
    have h1 := h _ (K.lin_lc G p G.length) (fun i hi j => by rw [K.lc_row hG hi j _ (Nat.le_refl _), if_pos hi])
    obtain ⟨j, hj, rfl⟩ := List.mem_iff_getElem.1 hx
    have h2 := hr j
    rw [← h1 j] at h2
    have h3 : K.vec v j - K.vec v j = 0 := ring_id [K.vec v j] (x0 - x0) 0 rfl
    rw [h3] at h2
    have h4 : (restZ K.D G p v G.length).getD j 0 = 0 := K.el_inj (K.restZ_is hv _ _) K.is_zero (by rw [K.el_zero]; exact h2)
    rw [List.getD_eq_getElem?_getD, List.getElem?_eq_getElem hj] at h4
    exact decide_eq_true h4
end FD
end Go.Proofs.Yticgblagimmlfaa
end
section
/- The rows of a Reed-Solomon code and its words. -/
namespace Go.Proofs.Yticgblagimmlfaa
open CW CW.PS RE
set_option linter.unusedVariables false
set_option linter.unusedSimpArgs false

def rowsZ (D : GFD) (pts mults : List Int) (k : Nat) : List (List Int) := (List.range k).map fun i => encZ D pts mults (powZ i)
theorem rowsZ_length (D : GFD) (pts mults : List Int) (k : Nat) : (rowsZ D pts mults k).length = k := by simp [rowsZ]
theorem rowsZ_getD (D : GFD) (pts mults : List Int) (k i : Nat) (h : i < k) : (rowsZ D pts mults k).getD i [] = encZ D pts mults (powZ i) := by
  unfold rowsZ
  rw [List.getD_eq_getElem?_getD, List.getElem?_map, List.getElem?_range h]
  rfl
namespace FD
variable (K : FD)
theorem shp_rows (pts mults : List Int) (k : Nat) (h : mults.length = pts.length) : Shp K.D pts.length (rowsZ K.D pts mults k) := by
  intro r hr
  obtain ⟨i, _, rfl⟩ := List.mem_map.1 hr
  exact ⟨encZ_len K.D pts mults _ h, fun j => K.is_encZ _ _ _ _⟩
theorem toP_powZ (i : Nat) : K.toP (powZ i) = C (K.el 1) * mon i := by
  unfold powZ
  rw [K.toP_set _ _ _ (by simp) (by rw [List.getD_eq_getElem?_getD, List.getElem?_replicate, if_pos (by omega)]; rfl), K.toP_replicate, zero_add]
theorem vec_encZ (pts mults m : List Int) (h : mults.length = pts.length) (j : Nat) : K.vec (encZ K.D pts mults m) j = if j < pts.length then K.el (mults.getD j 0) * pv (K.toP m) (K.el (pts.getD j 0)) else 0 := by
  split
  · rename_i hj
    exact K.el_encZ _ _ _ _ hj (by omega)
  · rename_i hj
    show K.el _ = 0
    rw [getD_ge (by rw [encZ_len K.D pts mults m h]; omega), K.el_zero]
/-- A word lies in the row space just if it is a codeword. -/
theorem rows_span (pts mults w : List Int) (k : Nat) (h : mults.length = pts.length) (hw : w.length = pts.length ∧ ∀ j, K.D.is (w.getD j 0) = true) :
    (∀ P, K.Lin P → K.AllP P (rowsZ K.D pts mults k) → P (K.vec w)) ↔ ∃ m : List Int, m.length = k ∧ m.all K.D.is = true ∧ encZ K.D pts mults m = w := by
  constructor
  · intro hP
    have hlin : K.Lin (fun x => ∃ q : PS K.E, Dg q k ∧ ∀ j, x j = if j < pts.length then K.el (mults.getD j 0) * pv q (K.el (pts.getD j 0)) else 0) := by
      refine ⟨⟨0, Dg.zero k, fun j => ?_⟩, ?_⟩
      · split
        · rw [pv_zero, mul_zero]
        · rfl
      · rintro v u a ⟨q1, d1, e1⟩ ⟨q2, d2, e2⟩
        refine ⟨q1 + C a * q2, d1.add (d2.C_mul a), fun j => ?_⟩
        show v j + a * u j = _
        rw [e1, e2]
        split
        · rw [pv_add d1 (d2.C_mul a), pv_C_mul d2]
          exact ring_id [K.el (mults.getD j 0), pv q1 (K.el (pts.getD j 0)), a, pv q2 (K.el (pts.getD j 0))] (x0 * x1 + x2 * (x0 * x3)) (x0 * (x1 + x2 * x3)) rfl
        · rw [mul_zero, add_zero]
    obtain ⟨q, dq, hq⟩ := hP _ hlin (fun i hi => by
      rw [rowsZ_length] at hi
      rw [rowsZ_getD _ _ _ _ _ hi]
      exact ⟨K.toP (powZ i), by rw [K.toP_powZ]; exact ((Dg.mon i).C_mul _).mono (by omega), fun j => K.vec_encZ _ _ _ h j⟩)
    refine ⟨(List.range k).map fun i => (q i).1, by simp, ?_, ?_⟩
    · rw [List.all_eq_true]
      intro x hx
      obtain ⟨i, _, rfl⟩ := List.mem_map.1 hx
      exact K.is_val _
    · have htp : K.toP ((List.range k).map fun i => (q i).1) = q := by
        funext i
        show K.el _ = _
        rw [List.getD_eq_getElem?_getD, List.getElem?_map]
        by_cases hi : i < k
        · rw [List.getElem?_range hi]
          exact K.el_val (q i)
        · rw [List.getElem?_eq_none (by simp; omega), dq i (by omega)]
          exact K.el_zero
      refine List.ext_getElem (by rw [encZ_len K.D _ _ _ h, hw.1]) fun j h1 h2 => ?_
      have e1 : (encZ K.D pts mults ((List.range k).map fun i => (q i).1))[j] = (encZ K.D pts mults ((List.range k).map fun i => (q i).1)).getD j 0 := by rw [List.getD_eq_getElem?_getD, List.getElem?_eq_getElem h1]; rfl
      have e2 : w[j] = w.getD j 0 := by rw [List.getD_eq_getElem?_getD, List.getElem?_eq_getElem h2]; rfl
      rw [e1, e2]
      refine K.el_inj (K.is_encZ _ _ _ _) (hw.2 j) ?_
      have := K.vec_encZ pts mults ((List.range k).map fun i => (q i).1) h j
      rw [htp, ← hq j] at this
      exact this
  · rintro ⟨m, hm, hma, rfl⟩ P hP hA
    have key : ∀ i, i ≤ m.length → P (fun j => if j < pts.length then K.el (mults.getD j 0) * pv (K.toP (m.take i)) (K.el (pts.getD j 0)) else 0) := by
      intro i
      induction i with
      | zero =>
        intro _
        have := hP.zero
        rwa [show (fun j : Nat => if j < pts.length then K.el (mults.getD j 0) * pv (K.toP (m.take 0)) (K.el (pts.getD j 0)) else 0) = (fun _ => (0 : K.E)) from by
          funext j
          split
          · rw [List.take_zero, K.toP_nil, pv_zero, mul_zero]
          · rfl]
      | succ i ih =>
        intro hi
        have hr := hA i (by rw [rowsZ_length]; omega)
        rw [rowsZ_getD _ _ _ _ _ (by omega)] at hr
        have := hP.add _ _ (K.el (m.getD i 0)) (ih (by omega)) hr
        rwa [show (fun j => (if j < pts.length then K.el (mults.getD j 0) * pv (K.toP (m.take i)) (K.el (pts.getD j 0)) else 0) + K.el (m.getD i 0) * K.vec (encZ K.D pts mults (powZ i)) j) = (fun j : Nat => if j < pts.length then K.el (mults.getD j 0) * pv (K.toP (m.take (i + 1))) (K.el (pts.getD j 0)) else 0) from by
          funext j
          rw [K.vec_encZ _ _ _ h]
          split
          · rw [K.toP_take_succ, K.toP_powZ, pv_add (K.Dg_toP _) ((Dg.mon i).C_mul _), pv_C_mul (Dg.mon i), pv_C_mul (Dg.mon i), K.el_one]
            exact ring_id [K.el (mults.getD j 0), pv (K.toP (m.take i)) (K.el (pts.getD j 0)), K.el (m.getD i 0), pv (mon i) (K.el (pts.getD j 0))] (x0 * x1 + x2 * (x0 * (1 * x3))) (x0 * (x1 + x2 * x3)) rfl
          · rw [mul_zero, add_zero]] at this
    have h1 := key m.length (Nat.le_refl _)
    rw [List.take_length] at h1
    rwa [show K.vec (encZ K.D pts mults m) = (fun j : Nat => if j < pts.length then K.el (mults.getD j 0) * pv (K.toP m) (K.el (pts.getD j 0)) else 0) from by funext j; exact K.vec_encZ _ _ _ h j]
/-- What Has answers. -/
theorem has_iff (pts mults w : List Int) (k : Nat) (h : mults.length = pts.length) (hw : w.length = pts.length ∧ ∀ j, K.D.is (w.getD j 0) = true) {c t : Nat} {l : List (List Int)} {pv : List Int} (hr : Reach K.D (rowsZ K.D pts mults k) c t l pv) {p : Nat → Nat} (hG : K.RRE pts.length (l.take t) p) (hlt : (l.take t).length = t)
    (hz : ∀ j, t ≤ j → j < l.length → ∀ q, (l.getD j []).getD q 0 = 0) : inZ K.D (l.take t) p w = true ↔ ∃ m : List Int, m.length = k ∧ m.all K.D.is = true ∧ encZ K.D pts mults m = w := by
  rw [K.inZ_span hG hw, ← K.rows_span pts mults w k h hw]
  have hs := K.shp_rows pts mults k h
  have hf := Reach.facts hs hr
  have hgd : ∀ i, i < t → (l.take t).getD i [] = l.getD i [] := fun i hi => by rw [List.getD_eq_getElem?_getD, List.getElem?_take_of_lt hi, ← List.getD_eq_getElem?_getD]
  constructor
  · intro h1 P hP hA
    refine h1 P hP fun i hi => ?_
    rw [hlt] at hi
    rw [hgd i hi]
    exact Reach.fwd K hP hs hA hr i (by omega)
  · intro h1 P hP hA
    refine h1 P hP (Reach.bwd K hP hs hr fun i hi => ?_)
    by_cases hit : i < t
    · have := hA i (by omega)
      rwa [hgd i hit] at this
    · have := hP.zero
      rwa [show K.vec (l.getD i []) = fun _ => 0 from by
        funext j
        show K.el _ = 0
        rw [hz i (by omega) hi j, K.el_zero]]
end FD
end Go.Proofs.Yticgblagimmlfaa
end
