/- Parts of the proof: R4, R5, R6, R7, E1, QL, WFootNe (those that begin with W: words that print.sh wrote, shortened to what this claim uses). -/
import Derived.Test.YticgblagimmlfaaX411
import Derived.Deep.RegionHeld
import Derived.Test.YticgblagimmlfaaX402
section
/- The reference: rows over a field: scale, AddTo. -/
namespace Go.Proofs.Yticgblagimmlfaa
open Go.RowKit Go.Proofs.YticgblagimmlfaaW.PrintWords Go.Proofs.YticgblagimmlfaaW.PrintLast Go.Proofs.YticgblagimmlfaaW.PrintMore
set_option linter.unusedVariables false
set_option linter.unusedSimpArgs false

/-- v plus a times u. -/
def addToZ (D : GFD) (v : List Int) (a : Int) (u : List Int) : List Int := (List.range v.length).map fun i => if u.getD i 0 ≠ 0 then D.add (v.getD i 0) (D.mul a (u.getD i 0)) else v.getD i 0
theorem addToZ_length (D : GFD) (v : List Int) (a : Int) (u : List Int) : (addToZ D v a u).length = v.length := by simp [addToZ]
theorem addToZ_getD (D : GFD) (v : List Int) (a : Int) (u : List Int) (i : Nat) (h : i < v.length) : (addToZ D v a u).getD i 0 = if u.getD i 0 ≠ 0 then D.add (v.getD i 0) (D.mul a (u.getD i 0)) else v.getD i 0 := by
  unfold addToZ
  exact range_map_getD _ _ _ h
/-- a times v. -/
def scaleZ (D : GFD) (a : Int) (v : List Int) : List Int := v.map (D.mul a)
theorem scaleZ_length (D : GFD) (a : Int) (v : List Int) : (scaleZ D a v).length = v.length := by simp [scaleZ]
theorem scaleZ_getD (D : GFD) (a : Int) (v : List Int) (i : Nat) (h : i < v.length) : (scaleZ D a v).getD i 0 = D.mul a (v.getD i 0) := by
  simp only [scaleZ, List.getD_eq_getElem?_getD, List.getElem?_map, List.getElem?_eq_getElem h, Option.map_some, Option.getD_some]

set_option maxHeartbeats 8000000 in
set_option maxRecDepth 100000 in
theorem rScale {w : World} {A B : Option Addr} {c d : Nat} (K : FD) (hC : Kd.C (Kd.int .i64) w A K.Mod.length K.Mod) (x : Int) {a : List Int} (ha : Kd.C (Kd.int .i64) w B a.length a) (hla : a.length ≤ 1000) :
    Calls Try.prog 163 #[.agg #[.int .i64 K.P, .int .i64 (K.m : Int), .slice A K.Mod.length c], .int .i64 x, .slice B a.length d] w fun e w' => ∃ v, e = .returned v ∧ Own w' w.heap.size v (scaleZ K.D x a) ∧ Below w.heap.size w w' := by
  have hF0 := FAt.new w K.P (K.m : Int) A K.Mod.length c
  obtain ⟨w0, hw0⟩ : ∃ w0, w.alloc (.cells #[.int .i64 K.P, .int .i64 (K.m : Int), .slice A K.Mod.length c] 27) = w0 := ⟨_, rfl⟩
  have hB0 : Below w.heap.size w w0 := by rw [← hw0]; exact below_alloc (Below.refl _ _) _
  rw [hw0] at hF0
  have HB0 := Aside0.mk hB0
  have HW := Aside0.mk hw0
  have HF := Aside0.mk hF0
  have HA := Aside0.mk (Kd.C_below ha hB0)
  have HMod := Aside0.mk (Kd.C_below hC hB0)
  have HMul := Aside0.mk (fun (w1 : World) (hb : Below w0.heap.size w0 w1) (y : Int) => rMul (c := c) K (Kd.C_below HMod.out hb) x y)
  obtain ⟨T, hT⟩ : ∃ T, scaleZ K.D x a = T := ⟨_, rfl⟩
  have hTl : T.length = a.length := by rw [← hT]; exact scaleZ_length _ _ _
  have hTg : ∀ i, i < a.length → T.getD i 0 = K.D.mul x (a.getD i 0) := fun i hi => by rw [← hT]; exact scaleZ_getD _ _ _ _ hi
  rw [hT]
  obtain ⟨Z, hZ⟩ : ∃ Z : List Int, List.replicate a.length 0 = Z := ⟨_, rfl⟩
  have hZl : Z.length = a.length := by rw [← hZ]; exact List.length_replicate
  obtain ⟨F, hF⟩ : ∃ F : Int → Int → Int, (fun _ c => c) = F := ⟨_, rfl⟩
  have hconst : updZ F Z T = T := by rw [← hF]; exact updZ_const Z T (by rw [hZl, hTl])
  have HTl := Aside0.mk hTl
  have HTg := Aside0.mk hTg
  have HZ := Aside0.mk hZ
  have HZl := Aside0.mk hZl
  have HFe := Aside0.mk hF
  have HCo := Aside0.mk hconst
  have HN : Aside0 ((a.length : Int) = (a.length : Nat)) := ⟨rfl⟩
  clear hF0 hB0 hw0 ha hC hT hTl hTg hZ hZl hF hconst
  go_enter Try.func163, Try.ntmps163
  go_upto_region 1 with (fail)
  rw [HW.out]
  go_wp2_with ((with_reducible refine gate_dst (N := 11) rfl ?_); refine make_ownI rfl (N := 11) rfl _ _ rfl HN rfl rfl (by omega) ?_; intro v1 w1 hO hB; rw [HZ.out] at hO; have HO1 := Aside0.mk hO; have HB1 := Aside0.mk hB; clear hO hB)
  obtain ⟨A1, c1, e1, -, -⟩ := HO1.out.slice
  rw [HZl.out] at e1
  subst e1
  have H0 : Aside0 (Own w1 w0.heap.size (.slice A1 a.length c1) (updZ F Z (T.take 0))) := ⟨by simpa [updZ_nil] using HO1.out⟩
  clear HO1
  go_wp2
  go_loopw [8] (fun v8 w' => ∃ k : Nat, v8 = .int .i64 k ∧ k ≤ a.length ∧ Aside0 (Own w' w0.heap.size (.slice A1 a.length c1) (updZ F Z (T.take k))) ∧ Aside0 (Below w0.heap.size w0 w')) (fun v8 _ => a.length - (intOf v8).toNat)
  case atStart => exact ⟨0, rfl, by omega, H0, HB1⟩
  case round =>
    clear H0 HB1
    obtain ⟨k, rfl, hk, HO, HB⟩ := hrel
    obtain ⟨cP, cM, cD⟩ := HF.out.below HB.out
    have hlen : (updZ F Z (T.take k)).length = a.length := by rw [updZ_length]; exact HZl.out
    by_cases hlk : k < a.length
    · obtain ⟨ad, e, hx⟩ := C_nat (Kd.C_below HA.out HB.out) k hlk
      cases e
      have hg := HTg.out k hlk
      have hstep := updZ_set F 0 k Z T (by rw [HTl.out]; exact hlk) (by rw [HZl.out]; exact hlk)
      obtain ⟨y, hy'⟩ : ∃ z, a.getD k 0 = z := ⟨_, rfl⟩
      rw [hy'] at hx hg
      have HA1 := Aside0.mk (fun (w1 : World) (hb : Below wr.heap.size wr w1) => HMul.out w1 (below_later HB.out HB.out.size hb) y)
      rw [← hg] at HA1
      rw [show F (Z.getD k 0) (T.getD k 0) = T.getD k 0 from by rw [← HFe.out]] at hstep
      obtain ⟨u, hu⟩ : ∃ u, T.getD k 0 = u := ⟨_, rfl⟩
      rw [hu] at HA1 hstep
      obtain ⟨g1, cap, e, h11, h12⟩ := HO.out.form (by rw [hlen]; omega)
      rw [hlen] at e
      cases e
      have HSt := Aside0.mk hstep
      have Hlen := Aside0.mk hlen
      have hcP : ∀ j : Ext wr, j.wd.cell? ⟨w.heap.size, 0, none⟩ = some (.int .i64 K.P) := fun j => j.cell cP
      have hcM : ∀ j : Ext wr, j.wd.cell? ⟨w.heap.size, 1, none⟩ = some (.int .i64 (K.m : Int)) := fun j => j.cell cM
      have hcD : ∀ j : Ext wr, j.wd.cell? ⟨w.heap.size, 2, none⟩ = some (.slice A K.Mod.length c) := fun j => j.cell cD
      have hcx : ∀ j : Ext wr, j.wd.cell? (ad.add k) = some (.int .i64 y) := fun j => j.cell hx
      have i0 : (0 : Int) ≤ (k : Int) := by omega
      have i1 : (k : Int) < (a.length : Int) := by omega
      clear hy' hg hu hstep hlen cP cM cD hx
      go_wp2
      refine wp_region_ext_tail 9 (by kernel_rfl) (by kernel_rfl) ?_
      simp only [List.take_succ_cons, List.take_zero, List.drop_succ_cons, List.drop_zero]
      repeat (go_big_quiet_step ((go_at_call 46; with_reducible exact Ext.call _ (HA1.out _ (Ext.below _)))))
      refine wpQuiet_nil ?_
      intro w2 hB2
      have hO2 := HO.out.below hB2
      obtain ⟨hcl, hfz⟩ := hO2.cell' Hlen.out.symm k hlk
      have hO3 := hO2.set Hlen.out.symm k u
      rw [HSt.out] at hO3
      have HO3 := Aside0.mk hO3
      have HB3 := Aside0.mk ((below_later HB.out HB.out.size hB2).setCell (p := ⟨g1, k, none⟩) h11 (.int .i64 u))
      clear hcP hcM hcD hcx hB2 hO2 hO3
      go_wp2
      go_roundw
      case rel => exact ⟨k + 1, by go_num, by omega, HO3, HB3⟩
      case measure => simp [intOf]; omega
    · obtain rfl : k = a.length := by omega
      rw [← HTl.out, List.take_length, HCo.out] at HO
      clear hlen cP cM cD
      go_wp2
      go_ret
      rw [HTl.out] at HO
      exact ⟨_, rfl, HO.out.lower HB0.out.size, below_later HB0.out HB0.out.size HB.out⟩

set_option maxHeartbeats 8000000 in
set_option maxRecDepth 100000 in
theorem rAddTo {w : World} {A B E : Option Addr} {c d ee : Nat} (K : FD) (hC : Kd.C (Kd.int .i64) w A K.Mod.length K.Mod) (x : Int) {a b : List Int} (ha : Kd.C (Kd.int .i64) w B a.length a) (hb : Kd.C (Kd.int .i64) w E b.length b) (hl : a.length ≤ b.length) (hla : a.length ≤ 1000) :
    Calls Try.prog 145 #[.agg #[.int .i64 K.P, .int .i64 (K.m : Int), .slice A K.Mod.length c], .slice B a.length d, .int .i64 x, .slice E b.length ee] w fun e w' => ∃ v, e = .returned v ∧ Own w' w.heap.size v (addToZ K.D a x b) ∧ Below w.heap.size w w' := by
  have hF0 := FAt.new w K.P (K.m : Int) A K.Mod.length c
  obtain ⟨w0, hw0⟩ : ∃ w0, w.alloc (.cells #[.int .i64 K.P, .int .i64 (K.m : Int), .slice A K.Mod.length c] 27) = w0 := ⟨_, rfl⟩
  have hB0 : Below w.heap.size w w0 := by rw [← hw0]; exact below_alloc (Below.refl _ _) _
  rw [hw0] at hF0
  have HB0 := Aside0.mk hB0
  have HZs : Aside0 (w.heap.size + 1 ≤ w0.heap.size) := ⟨by rw [← hw0]; simp⟩
  have HW := Aside0.mk hw0
  have HF := Aside0.mk hF0
  have HA := Aside0.mk (Kd.C_below ha hB0)
  have HBb := Aside0.mk (Kd.C_below hb hB0)
  have hmb := Kd.C_max hb
  have HMod := Aside0.mk (Kd.C_below hC hB0)
  have HMul := Aside0.mk (fun (w1 : World) (hb : Below w0.heap.size w0 w1) (y : Int) => rMul (c := c) K (Kd.C_below HMod.out hb) x y)
  have HAdd := Aside0.mk (fun (w1 : World) (x y : Int) => rAdd (w := w1) (A := A) (n := K.Mod.length) (c := c) K x y)
  obtain ⟨T, hT⟩ : ∃ T, addToZ K.D a x b = T := ⟨_, rfl⟩
  have hTl : T.length = a.length := by rw [← hT]; exact addToZ_length _ _ _ _
  have hTg : ∀ i, i < a.length → T.getD i 0 = (if b.getD i 0 ≠ 0 then K.D.add (a.getD i 0) (K.D.mul x (b.getD i 0)) else a.getD i 0) := fun i hi => by rw [← hT]; exact addToZ_getD _ _ _ _ _ hi
  rw [hT]
  obtain ⟨Z, hZ⟩ : ∃ Z : List Int, List.replicate a.length 0 = Z := ⟨_, rfl⟩
  have hZl : Z.length = a.length := by rw [← hZ]; exact List.length_replicate
  obtain ⟨F, hF⟩ : ∃ F : Int → Int → Int, (fun _ c => c) = F := ⟨_, rfl⟩
  have hconst : updZ F Z T = T := by rw [← hF]; exact updZ_const Z T (by rw [hZl, hTl])
  have HTl := Aside0.mk hTl
  have HTg := Aside0.mk hTg
  have HZ := Aside0.mk hZ
  have HZl := Aside0.mk hZl
  have HFe := Aside0.mk hF
  have HCo := Aside0.mk hconst
  have HN : Aside0 ((a.length : Int) = (a.length : Nat)) := ⟨rfl⟩
  clear hF0 hB0 hw0 ha hb hC hT hTl hTg hZ hZl hF hconst
  go_enter Try.func145, Try.ntmps145
  go_upto_region 1 with (fail)
  rw [HW.out]
  go_wp2_with ((with_reducible refine gate_dst (N := 13) rfl ?_); refine make_ownI rfl (N := 13) rfl _ _ rfl HN rfl rfl (by omega) ?_; intro v1 w1 hO hB; rw [HZ.out] at hO; have HO1 := Aside0.mk hO; have HB1 := Aside0.mk hB; clear hO hB)
  obtain ⟨A1, c1, e1, -, -⟩ := HO1.out.slice
  rw [HZl.out] at e1
  subst e1
  have H0 : Aside0 (Own w1 w0.heap.size (.slice A1 a.length c1) (updZ F Z (T.take 0))) := ⟨by simpa [updZ_nil] using HO1.out⟩
  clear HO1
  go_wp2
  go_loopw [10] (fun v8 w' => ∃ k : Nat, v8 = .int .i64 k ∧ k ≤ a.length ∧ Aside0 (Own w' w0.heap.size (.slice A1 a.length c1) (updZ F Z (T.take k))) ∧ Aside0 (Below w0.heap.size w0 w')) (fun v8 _ => a.length - (intOf v8).toNat)
  case atStart => exact ⟨0, rfl, by omega, H0, HB1⟩
  case round =>
    clear H0 HB1
    obtain ⟨k, rfl, hk, HO, HB⟩ := hrel
    obtain ⟨cP, cM, cD⟩ := HF.out.below HB.out
    have hlen : (updZ F Z (T.take k)).length = a.length := by rw [updZ_length]; exact HZl.out
    by_cases hlk : k < a.length
    · obtain ⟨ad, e, hx⟩ := C_nat (Kd.C_below HA.out HB.out) k hlk
      cases e
      obtain ⟨ad2, e, hy⟩ := C_nat (Kd.C_below HBb.out HB.out) k (by omega)
      cases e
      have hg := HTg.out k hlk
      have hstep := updZ_set F 0 k Z T (by rw [HTl.out]; exact hlk) (by rw [HZl.out]; exact hlk)
      obtain ⟨y, hy'⟩ : ∃ z, a.getD k 0 = z := ⟨_, rfl⟩
      obtain ⟨z, hz'⟩ : ∃ z, b.getD k 0 = z := ⟨_, rfl⟩
      rw [hy'] at hx
      rw [hz'] at hy
      simp only [hy', hz'] at hg
      rw [show F (Z.getD k 0) (T.getD k 0) = T.getD k 0 from by rw [← HFe.out]] at hstep
      obtain ⟨g1, cap, e, h11, h12⟩ := HO.out.form (by rw [hlen]; omega)
      rw [hlen] at e
      cases e
      have HSt := Aside0.mk hstep
      have Hlen := Aside0.mk hlen
      have i0 : (0 : Int) ≤ (k : Int) := by omega
      have i1 : (k : Int) < (a.length : Int) := by omega
      have i2 : (k : Int) < (b.length : Int) := by omega
      obtain ⟨hcl, hfz⟩ := HO.out.cell' Hlen.out.symm k hlk
      have hO3 := HO.out.set Hlen.out.symm k y
      have hB3 := HB.out.setCell (p := ⟨g1, k, none⟩) h11 (.int .i64 y)
      have hn1 : g1 ≠ w.heap.size := by have := HB0.out.size; have := HZs.out; omega
      have hx2 := Kd.C_below HA.out hB3
      obtain ⟨ad', e', hx3⟩ := C_nat hx2 k hlk
      cases e'
      rw [hy'] at hx3
      obtain ⟨ad', e', hy3⟩ := C_nat (Kd.C_below HBb.out hB3) k (by omega)
      cases e'
      rw [hz'] at hy3
      obtain ⟨cP3, cM3, cD3⟩ := HF.out.below hB3
      obtain ⟨w3, hw3⟩ : ∃ w3, wr.setCell ⟨g1, k, none⟩ (.int .i64 y) = w3 := ⟨_, rfl⟩
      rw [hw3] at hO3 hB3 hx3 hy3 cP3 cM3 cD3
      have HW3 := Aside0.mk hw3
      have HO3 := Aside0.mk hO3
      have HB3 := Aside0.mk hB3
      clear hy' hz' hstep hlen hO3 hB3 hx2 hw3
      by_cases hz0 : z = 0
      · rw [if_neg (by simpa using hz0)] at hg
        rw [hg] at HSt
        clear hg
        subst hz0
        go_upto_region 6 with (fail)
        rw [HW3.out]
        clear hx hy hcl hfz cP cM cD
        go_wp2
        rw [HSt.out] at HO3
        go_roundw
        case rel => exact ⟨k + 1, by go_num, by omega, HO3, HB3⟩
        case measure => simp [intOf]; omega
      · rw [if_pos hz0] at hg
        have hzb : (z != 0) = true := by simp [hz0]
        have HA1 := Aside0.mk (fun (w1 : World) (hb : Below w3.heap.size w3 w1) => HMul.out w1 (below_later HB3.out HB3.out.size hb) z)
        obtain ⟨m, hm⟩ : ∃ m, K.D.mul x z = m := ⟨_, rfl⟩
        rw [hm] at HA1 hg
        have HA2 := Aside0.mk (fun (w1 : World) => HAdd.out w1 y m)
        rw [← hg] at HA2
        obtain ⟨u, hu⟩ : ∃ u, T.getD k 0 = u := ⟨_, rfl⟩
        rw [hu] at HA2 HSt
        clear hg hm hu
        go_upto_region 6 with (fail)
        rw [HW3.out]
        clear hx hy hcl hfz cP cM cD
        go_upto_region 7 with (fail)
        have hcP : ∀ j : Ext w3, j.wd.cell? ⟨w.heap.size, 0, none⟩ = some (.int .i64 K.P) := fun j => j.cell cP3
        have hcM : ∀ j : Ext w3, j.wd.cell? ⟨w.heap.size, 1, none⟩ = some (.int .i64 (K.m : Int)) := fun j => j.cell cM3
        have hcD : ∀ j : Ext w3, j.wd.cell? ⟨w.heap.size, 2, none⟩ = some (.slice A K.Mod.length c) := fun j => j.cell cD3
        have hcx : ∀ j : Ext w3, j.wd.cell? (ad.add k) = some (.int .i64 y) := fun j => j.cell hx3
        have hcy : ∀ j : Ext w3, j.wd.cell? (ad2.add k) = some (.int .i64 z) := fun j => j.cell hy3
        clear cP3 cM3 cD3 hx3 hy3 hzb
        refine wp_region_ext_tail 15 (by kernel_rfl) (by kernel_rfl) ?_
        simp only [List.take_succ_cons, List.take_zero, List.drop_succ_cons, List.drop_zero]
        repeat (go_big_quiet_step (first | (go_at_call 46; with_reducible exact Ext.call _ (HA1.out _ (Ext.below _))) | (go_at_call 48; with_reducible exact Ext.call _ (HA2.out _))))
        refine wpQuiet_nil ?_
        intro w2 hB2
        have hO2 := HO3.out.below hB2
        have hl2 : a.length = ((updZ F Z (List.take k T)).set k y).length := by rw [List.length_set]; exact Hlen.out.symm
        obtain ⟨hcl, hfz⟩ := hO2.cell' hl2 k hlk
        have hO4 := hO2.set hl2 k u
        rw [List.set_set, HSt.out] at hO4
        have HO4 := Aside0.mk hO4
        have HB4 := Aside0.mk ((below_later HB3.out HB3.out.size hB2).setCell (p := ⟨g1, k, none⟩) h11 (.int .i64 u))
        clear hcP hcM hcD hcx hcy hB2 hO2 hO4 hl2
        go_wp2
        go_roundw
        case rel => exact ⟨k + 1, by go_num, by omega, HO4, HB4⟩
        case measure => simp [intOf]; omega
    · obtain rfl : k = a.length := by omega
      rw [← HTl.out, List.take_length, HCo.out] at HO
      clear hlen cP cM cD
      go_wp2
      go_ret
      rw [HTl.out] at HO
      exact ⟨_, rfl, HO.out.lower HB0.out.size, below_later HB0.out HB0.out.size HB.out⟩

end Go.Proofs.Yticgblagimmlfaa
end
section
/- The reference: Entries, Zero, SameInts, Inv, Power. -/
namespace Go.Proofs.Yticgblagimmlfaa
open Go.RowKit Go.Proofs.YticgblagimmlfaaW.PrintWords Go.Proofs.YticgblagimmlfaaW.PrintLast Go.Proofs.YticgblagimmlfaaW.PrintMore
set_option linter.unusedVariables false
set_option linter.unusedSimpArgs false

set_option maxHeartbeats 8000000 in
set_option maxRecDepth 100000 in
theorem rEntries {w : World} {A B : Option Addr} {n c d : Nat} (K : FD) {l : List Int} (hl : Kd.C (Kd.int .i64) w B l.length l) (hall : ∀ i, i < l.length → K.D.is (l.getD i 0) = true) :
    Calls Try.prog 143 #[.agg #[.int .i64 K.P, .int .i64 (K.m : Int), .slice A n c], .slice B l.length d] w fun e w' => e = .returned (.int .i64 0) ∧ Below w.heap.size w w' := by
  have hF0 := FAt.new w K.P (K.m : Int) A n c
  obtain ⟨w0, hw0⟩ : ∃ w0, w.alloc (.cells #[.int .i64 K.P, .int .i64 (K.m : Int), .slice A n c] 27) = w0 := ⟨_, rfl⟩
  have hB0 : Below w.heap.size w w0 := by rw [← hw0]; exact below_alloc (Below.refl _ _) _
  rw [hw0] at hF0
  have HB0 := Aside0.mk hB0
  have HW := Aside0.mk hw0
  have HF := Aside0.mk hF0
  have HL := Aside0.mk (Kd.C_below hl hB0)
  have hmx := Kd.C_max hl
  have HAll := Aside0.mk hall
  have HI := Aside0.mk (fun (w1 : World) (x : Int) => refIs_any (w := w1) (A := A) (n := n) (c := c) K.P (K.m : Int) x)
  have HBz := Aside0.mk (Below.refl w0.heap.size w0)
  clear hF0 hB0 hw0 hl hall
  go_enter Try.func143, Try.ntmps143
  go_upto_region 1 with (fail)
  rw [HW.out]
  go_wp2
  go_loopw [5] (fun v5 w' => ∃ k : Nat, v5 = .int .i64 k ∧ k ≤ l.length ∧ Aside0 (Below w0.heap.size w0 w')) (fun v5 _ => l.length - (intOf v5).toNat)
  case atStart => exact ⟨0, rfl, by omega, HBz⟩
  case round =>
    clear HBz
    obtain ⟨k, rfl, hk, HB⟩ := hrel
    by_cases hlk : k < l.length
    · obtain ⟨ad, e, hx⟩ := C_nat (Kd.C_below HL.out HB.out) k hlk
      cases e
      have hb := HAll.out k hlk
      obtain ⟨x, hx'⟩ : ∃ x, l.getD k 0 = x := ⟨_, rfl⟩
      rw [hx'] at hx hb
      obtain ⟨cP, cM, cD⟩ := HF.out.below HB.out
      have HI1 := Aside0.mk (fun (w1 : World) => by have q := HI.out w1 x; rw [K.isR_eq, hb] at q; exact q)
      have hcP : ∀ j : Ext wr, j.wd.cell? ⟨w.heap.size, 0, none⟩ = some (.int .i64 K.P) := fun j => j.cell cP
      have hcM : ∀ j : Ext wr, j.wd.cell? ⟨w.heap.size, 1, none⟩ = some (.int .i64 (K.m : Int)) := fun j => j.cell cM
      have hcD : ∀ j : Ext wr, j.wd.cell? ⟨w.heap.size, 2, none⟩ = some (.slice A n c) := fun j => j.cell cD
      have hcx : ∀ j : Ext wr, j.wd.cell? (ad.add k) = some (.int .i64 x) := fun j => j.cell hx
      have i0 : (0 : Int) ≤ (k : Int) := by omega
      have i1 : (k : Int) < (l.length : Int) := by omega
      clear hx' hb cP cM cD hx
      go_wp2
      refine wp_region_ext (by kernel_rfl) (by kernel_rfl) ?_
      repeat (go_big_quiet_step ((go_at_call 43; with_reducible exact Ext.call _ (HI1.out _))))
      refine wpQuiet_nil ?_
      intro w1 hB1
      have HB1 := Aside0.mk (below_later HB.out HB.out.size hB1)
      clear hcP hcM hcD hcx hB1
      go_wp2
      go_roundw
      case rel => exact ⟨k + 1, by go_num, by omega, HB1⟩
      case measure => simp [intOf]; omega
    · obtain rfl : k = l.length := by omega
      go_wp2
      go_ret
      exact ⟨rfl, below_later HB0.out HB0.out.size HB.out⟩

set_option maxHeartbeats 8000000 in
set_option maxRecDepth 100000 in
theorem rZero {w : World} {A : Option Addr} {c : Nat} {l : List Int} (hl : Kd.C (Kd.int .i64) w A l.length l) (r : Bool) (hr : l.all (fun x => decide (x = 0)) = r) :
    Calls Try.prog 112 #[.slice A l.length c] w fun e w' => e = .returned (.bool r) ∧ Below w.heap.size w w' := by
  have HL := Aside0.mk hl
  have hmx := Kd.C_max hl
  have HR := Aside0.mk hr
  have HBz := Aside0.mk (Below.refl w.heap.size w)
  clear hl hr
  go_enter Try.func112, Try.ntmps112
  go_wp2
  go_loopw [3] (fun v3 w' => ∃ k : Nat, v3 = .int .i64 k ∧ k ≤ l.length ∧ Aside0 ((l.take k).all (fun x => decide (x = 0)) = true) ∧ Aside0 (Below w.heap.size w w')) (fun v3 _ => l.length - (intOf v3).toNat)
  case atStart => exact ⟨0, rfl, by omega, ⟨rfl⟩, HBz⟩
  case round =>
    clear HBz
    obtain ⟨k, rfl, hk, HT, HB⟩ := hrel
    by_cases hlk : k < l.length
    · obtain ⟨ad, e, hx⟩ := C_nat (Kd.C_below HL.out HB.out) k hlk
      cases e
      have hs := all_take_succ (fun x => decide (x = 0)) l k hlk
      obtain ⟨x, hx'⟩ : ∃ x, l.getD k 0 = x := ⟨_, rfl⟩
      rw [hx'] at hx hs
      rw [HT.out, Bool.true_and] at hs
      have i0 : (0 : Int) ≤ (k : Int) := by omega
      have i1 : (k : Int) < (l.length : Int) := by omega
      by_cases hx0 : x = 0
      · subst hx0
        have HT2 := Aside0.mk hs
        clear hs HT hx'
        go_wp2
        go_roundw
        case rel => exact ⟨k + 1, by go_num, by omega, ⟨by simpa using HT2.out⟩, ⟨by first | exact HB.out | exact below_drew1 HB.out | exact pw_below_drewN HB.out _⟩⟩
        case measure => simp [intOf]; omega
      · have hxb : (x != 0) = true := by simp [hx0]
        have hs2 : (l.take (k + 1)).all (fun x => decide (x = 0)) = false := by rw [hs]; simp [hx0]
        have hff := all_of_take (fun x => decide (x = 0)) l (k + 1) hs2
        have hRf : false = r := by rw [← HR.out, hff]
        subst hRf
        clear hs HT hx' hs2 hff HR
        go_wp2
        go_ret
        exact ⟨rfl, by first | exact HB.out | exact below_drew1 HB.out | exact pw_below_drewN HB.out _⟩
    · obtain rfl : k = l.length := by omega
      rw [List.take_length] at HT
      have hRf : true = r := by rw [← HR.out, HT.out]
      subst hRf
      clear HR HT
      go_wp2
      go_ret
      exact ⟨rfl, HB.out⟩

set_option maxHeartbeats 8000000 in
set_option maxRecDepth 100000 in
theorem rSameInts {w : World} {A B : Option Addr} {c d : Nat} {l : List Int} (ha : Kd.C (Kd.int .i64) w A l.length l) (hb : Kd.C (Kd.int .i64) w B l.length l) :
    Calls Try.prog 173 #[.slice A l.length c, .slice B l.length d] w fun e w' => e = .returned (.bool true) ∧ Below w.heap.size w w' := by
  have HA := Aside0.mk ha
  have HBb := Aside0.mk hb
  have hmx := Kd.C_max ha
  have HBz := Aside0.mk (Below.refl w.heap.size w)
  have hn : ((l.length : Int) != (l.length : Int)) = false := by simp
  clear ha hb
  go_enter Try.func173, Try.ntmps173
  go_wp2
  go_loopw [5] (fun v5 w' => ∃ k : Nat, v5 = .int .i64 k ∧ k ≤ l.length ∧ Aside0 (Below w.heap.size w w')) (fun v5 _ => l.length - (intOf v5).toNat)
  case atStart => exact ⟨0, rfl, by omega, HBz⟩
  case round =>
    clear HBz
    obtain ⟨k, rfl, hk, HB⟩ := hrel
    by_cases hlk : k < l.length
    · obtain ⟨ad, e, hx⟩ := C_nat (Kd.C_below HA.out HB.out) k hlk
      cases e
      obtain ⟨ad2, e, hy⟩ := C_nat (Kd.C_below HBb.out HB.out) k hlk
      cases e
      obtain ⟨x, hx'⟩ : ∃ x, l.getD k 0 = x := ⟨_, rfl⟩
      rw [hx'] at hx hy
      have i0 : (0 : Int) ≤ (k : Int) := by omega
      have i1 : (k : Int) < (l.length : Int) := by omega
      have hxx : (x != x) = false := by simp
      clear hx'
      have hcx : ∀ j : Ext wr, j.wd.cell? (ad.add k) = some (.int .i64 x) := fun j => j.cell hx
      have hcy : ∀ j : Ext wr, j.wd.cell? (ad2.add k) = some (.int .i64 x) := fun j => j.cell hy
      clear hx hy
      go_wp2
      refine wp_region_ext (by kernel_rfl) (by kernel_rfl) ?_
      repeat (go_big_quiet_step (fail))
      refine wpQuiet_nil ?_
      intro w1 hB1
      have HB1 := Aside0.mk (below_later HB.out HB.out.size hB1)
      clear hcx hcy hB1
      go_wp2
      go_roundw
      case rel => exact ⟨k + 1, by go_num, by omega, HB1⟩
      case measure => simp [intOf]; omega
    · obtain rfl : k = l.length := by omega
      go_wp2
      go_ret
      exact ⟨rfl, HB.out⟩

end Go.Proofs.Yticgblagimmlfaa
end
section
/- The reference: Inv, Power, List. -/
namespace Go.Proofs.Yticgblagimmlfaa
open Go.RowKit Go.Proofs.YticgblagimmlfaaW.PrintWords Go.Proofs.YticgblagimmlfaaW.PrintLast Go.Proofs.YticgblagimmlfaaW.PrintMore
set_option linter.unusedVariables false
set_option linter.unusedSimpArgs false
open CW

theorem FD.mul_inv_eq (K : FD) {x : Int} (hx : K.D.is x = true) (h0 : x ≠ 0) : K.D.mul x (K.D.inv x) = 1 := by
  refine K.el_inj (K.is_mul _ _) K.is_one ?_
  rw [K.el_mul, K.el_inv, K.el_one]
  exact mul_finv (fun h => h0 (K.el_inj hx K.is_zero (by rw [h, K.el_zero])))
theorem FD.inv_unique (K : FD) {x y : Int} (hy : K.D.is y = true) (h : K.D.mul x y = 1) : y = K.D.inv x := by
  refine K.el_inj hy (by rw [K.inv_eq]; exact K.is_val _) ?_
  rw [K.el_inv]
  refine finv_unique ?_
  rw [← K.el_mul, h, K.el_one]
theorem FD.is_inv (K : FD) (x : Int) : K.D.is (K.D.inv x) = true := by rw [K.inv_eq]; exact K.is_val _
theorem FD.is_iff (K : FD) (x : Int) : K.D.is x = true ↔ 0 ≤ x ∧ x < K.P ^ K.m := by
  rw [← K.isR_eq]; unfold isR; rw [K.ord]; simp
theorem FD.inv_one_le (K : FD) {x : Int} (hx : K.D.is x = true) (h0 : x ≠ 0) : 1 ≤ K.D.inv x := by
  have h1 := ((K.is_iff _).1 (K.is_inv x)).1
  have h2 := K.mul_inv_eq hx h0
  by_cases h : K.D.inv x = 0
  · exfalso
    rw [h] at h2
    have := congrArg K.el h2
    rw [K.el_mul, K.el_zero, mul_zero, K.el_one] at this
    exact one_ne_zero this.symm
  · omega

set_option maxHeartbeats 8000000 in
set_option maxRecDepth 100000 in
theorem rInv {w : World} {A : Option Addr} {c : Nat} (K : FD) (hC : Kd.C (Kd.int .i64) w A K.Mod.length K.Mod) {x : Int} (hx : K.D.is x = true) (h0 : x ≠ 0) :
    Calls Try.prog 54 #[.agg #[.int .i64 K.P, .int .i64 (K.m : Int), .slice A K.Mod.length c], .int .i64 x] w fun e w' => e = .returned (.int .i64 (K.D.inv x)) ∧ Below w.heap.size w w' := by
  have hF0 := FAt.new w K.P (K.m : Int) A K.Mod.length c
  obtain ⟨w0, hw0⟩ : ∃ w0, w.alloc (.cells #[.int .i64 K.P, .int .i64 (K.m : Int), .slice A K.Mod.length c] 27) = w0 := ⟨_, rfl⟩
  have hB0 : Below w.heap.size w w0 := by rw [← hw0]; exact below_alloc (Below.refl _ _) _
  rw [hw0] at hF0
  have HB0 := Aside0.mk hB0
  have HW := Aside0.mk hw0
  have HF := Aside0.mk hF0
  have HMod := Aside0.mk (Kd.C_below hC hB0)
  have HMul := Aside0.mk (fun (w1 : World) (hb : Below w0.heap.size w0 w1) (y : Int) => rMul (c := c) K (Kd.C_below HMod.out hb) x y)
  have HOrd := Aside0.mk (fun (w1 : World) => refOrder_any (w := w1) (A := A) (n := K.Mod.length) (c := c) K.P (K.m : Int))
  have h1 := K.mul_inv_eq hx h0
  have h2 := K.inv_one_le hx h0
  have h3 := ((K.is_iff _).1 (K.is_inv x)).2
  have h256 := K.q256
  have hun : ∀ y, 0 ≤ y → y < K.P ^ K.m → K.D.mul x y = 1 → y = K.D.inv x := fun y a b c => K.inv_unique ((K.is_iff y).2 ⟨a, b⟩) c
  rw [K.ord] at HOrd
  obtain ⟨q, hq⟩ : ∃ q, K.P ^ K.m = q := ⟨_, rfl⟩
  obtain ⟨i, hi⟩ : ∃ i, K.D.inv x = i := ⟨_, rfl⟩
  rw [hq] at HOrd h3 h256 hun
  rw [hi] at h1 h2 h3 hun ⊢
  have HUn := Aside0.mk hun
  have H1 := Aside0.mk h1
  have HBz := Aside0.mk (Below.refl w0.heap.size w0)
  clear hF0 hB0 hw0 hC hq hi hun h1
  go_enter Try.func54, Try.ntmps54
  go_upto_region 1 with (fail)
  rw [HW.out]
  go_wp2
  go_loopw [5] (fun v5 w' => ∃ k : Int, v5 = .int .i64 k ∧ 1 ≤ k ∧ k ≤ i ∧ Aside0 (Below w0.heap.size w0 w')) (fun v5 _ => (i - intOf v5).toNat)
  case atStart => exact ⟨1, rfl, by omega, by omega, HBz⟩
  case round =>
    clear HBz
    obtain ⟨k, rfl, hk1, hki, HB⟩ := hrel
    obtain ⟨cP, cM, cD⟩ := HF.out.below HB.out
    have hkq : decide (k < q) = true := decide_eq_true (by omega)
    by_cases hk : k = i
    · subst hk
      have HM1 := Aside0.mk (fun (w1 : World) (hb : Below w0.heap.size w0 w1) => by have q := HMul.out w1 hb k; rw [H1.out] at q; exact q)
      go_wp2_with (first
        | (go_at_call 70; refine (HOrd.out _).mono ?_; rintro e w1 ⟨rfl, hB⟩; have HB1 := Aside0.mk (below_later HB.out HB.out.size hB); obtain ⟨cP1, cM1, cD1⟩ := HF.out.below HB1.out; clear hB)
        | (go_at_call 46; refine (HM1.out _ HB1.out).mono ?_; rintro e w2 ⟨rfl, hB⟩; have HB2 := Aside0.mk (below_later HB1.out HB1.out.size hB); clear hB))
      go_ret
      exact ⟨rfl, below_later HB0.out HB0.out.size HB2.out⟩
    · have hne : K.D.mul x k ≠ 1 := fun h => hk (HUn.out k (by omega) (by omega) h)
      obtain ⟨m, hm⟩ : ∃ m, K.D.mul x k = m := ⟨_, rfl⟩
      rw [hm] at hne
      have hmb : (m == 1) = false := by simp [hne]
      have HM1 := Aside0.mk (fun (w1 : World) (hb : Below w0.heap.size w0 w1) => by have q := HMul.out w1 hb k; rw [hm] at q; exact q)
      clear hm hne
      go_wp2_with (first
        | (go_at_call 70; refine (HOrd.out _).mono ?_; rintro e w1 ⟨rfl, hB⟩; have HB1 := Aside0.mk (below_later HB.out HB.out.size hB); obtain ⟨cP1, cM1, cD1⟩ := HF.out.below HB1.out; clear hB)
        | (go_at_call 46; refine (HM1.out _ HB1.out).mono ?_; rintro e w2 ⟨rfl, hB⟩; have HB2 := Aside0.mk (below_later HB1.out HB1.out.size hB); clear hB))
      go_roundw
      case rel => exact ⟨k + 1, by go_num, by omega, by omega, HB2⟩
      case measure => simp [intOf]; omega

/-- The power of x. -/
def powZ (n : Nat) : List Int := (List.replicate (n + 1) 0).set n 1
set_option maxHeartbeats 8000000 in
set_option maxRecDepth 100000 in
theorem rPower {w : World} (n : Nat) (hn : n ≤ 1000) :
    Calls Try.prog 52 #[.int .i64 n] w fun e w' => ∃ v, e = .returned v ∧ Own w' w.heap.size v (powZ n) ∧ Below w.heap.size w w' := by
  have HN : Aside0 (((n : Int) + 1) = ((n + 1 : Nat) : Int)) := ⟨by omega⟩
  have hnl : (List.replicate (n + 1) (0 : Int)).length = n + 1 := List.length_replicate
  obtain ⟨Z, hZ⟩ : ∃ Z : List Int, List.replicate (n + 1) 0 = Z := ⟨_, rfl⟩
  have hp : powZ n = Z.set n 1 := by rw [← hZ]; rfl
  rw [hZ] at hnl
  rw [hp]
  have HZ := Aside0.mk hZ
  have HZl := Aside0.mk hnl
  have i1 : (n : Int) < ((n : Int) + 1) := by omega
  clear hp hZ hnl
  go_enter Try.func52, Try.ntmps52
  go_wp2_with ((with_reducible refine gate_dst (N := 6) rfl ?_); refine make_ownI rfl (N := 6) rfl _ _ rfl HN rfl rfl (by omega) ?_; intro v1 w1 hO hB; rw [HZ.out] at hO; have HO1 := Aside0.mk hO; have HB1 := Aside0.mk hB; obtain ⟨g1, cap, e1, h11, h12⟩ := HO1.out.form (by rw [HZl.out]; omega); rw [HZl.out] at e1; subst e1; obtain ⟨hcl, hfz⟩ := HO1.out.cell' HZl.out.symm n (by omega); clear hO hB)
  go_ret
  have hO3 := HO1.out.set (cap := cap) HZl.out.symm n 1
  exact ⟨_, rfl, hO3, HB1.out.setCell (p := ⟨g1, n, none⟩) h11 _⟩

end Go.Proofs.Yticgblagimmlfaa
end
section
/- Rows in memory; the reference's Copy. -/
namespace Go.Proofs.Yticgblagimmlfaa
open Go.RowKit Go.Proofs.YticgblagimmlfaaW.PrintWords Go.Proofs.YticgblagimmlfaaW.PrintLast Go.Proofs.YticgblagimmlfaaW.PrintMore
set_option linter.unusedVariables false
set_option linter.unusedSimpArgs false

theorem info25 : (Try.prog.info? 25).map (fun i => (i.zero, i.size, i.bytes)) = some (some (.slice none 0 0), 1, 24) := by kernel_rfl
/-- Rows that the call made. -/
structure NR (w : World) (base : Nat) (v : Value) (ls : List (List Int)) : Prop where mk ::
  out : Kd.N (Kd.slice 3 (Kd.int .i64)) 25 w base (fun k => base ≤ k) v ls
theorem NR.nil (w : World) (base : Nat) : NR w base (.slice none 0 0) [] := ⟨Kd.N_nil _ _ _ _ _⟩
theorem NR.below {w w1 : World} {base : Nat} {v : Value} {ls : List (List Int)} (h : NR w base v ls) (hb : Below w.heap.size w w1) : NR w1 base v ls := ⟨Kd.N_below h.out hb⟩
theorem NR.lower {w : World} {base base' : Nat} {v : Value} {ls : List (List Int)} (h : NR w base v ls) (hb : base' ≤ base) : NR w base' v ls := ⟨Kd.N_mono (Kd.N_lower h.out hb) (fun k hk => Nat.le_trans hb hk)⟩
theorem Own.fk {w : World} {base base' : Nat} {vO v : Value} {ls : List (List Int)} {l : List Int} (h : Own w base v l) (hN : NR w base' vO ls) (hbb : base' ≤ base) :
    Kd.FK (Kd.slice 3 (Kd.int .i64)) w (fun k => some k = v.ownBlock) l [v] ∧ ∀ k, some k = v.ownBlock → base' ≤ k ∧ some k ≠ vO.ownBlock := by
  obtain ⟨A, c, e, hl, -⟩ := h.slice
  subst e
  exact ⟨Kd.FK_slice_mk hl (Kd.R_F (Kd.R_tight rfl h.out)), fun k hk => ⟨Nat.le_trans hbb (h.base_le k hk.symm), ((Kd.R_apart' h.out (Kd.N_typed hN.out) (by decide)).1 k hk.symm).2⟩⟩
/-- A row's cell in a list of rows that is read. -/
theorem rows_at {w : World} {A : Option Addr} {n : Nat} {xs : List (List Int)} (h : Kd.C (Kd.slice 3 (Kd.int .i64)) w A n xs) (i : Nat) (h1 : i < n) :
    ∃ ad A0 c0, A = some ad ∧ w.cell? (ad.add i) = some (.slice A0 (xs.getD i []).length c0) ∧ (xs.getD i []).length ≤ c0 ∧ Kd.C (Kd.int .i64) w A0 (xs.getD i []).length (xs.getD i []) := by
  obtain ⟨ad, c, e, _, hK, hc0⟩ := Kd.C_get h ([] : List Int) (i : Int) (by omega) (by omega)
  have hc : ∀ j u, c[j]? = some u → w.cell? (ad.add (((i : Int).toNat) * 1 + j)) = some u := hc0
  obtain ⟨A0, c0, rfl, l0, g0⟩ := hK
  exact ⟨ad, A0, c0, e, by have hq := hc 0 _ rfl; rwa [Nat.mul_one, Nat.add_zero, Int.toNat_natCast] at hq, l0, g0⟩

section
variable {ops : Array Oper} {rest : List Oper} {o : Oper} {a : Act} {Q : Exit → Act → World → Prop} {Kc : Act → World → Prop}
/-- append(rows, row) -/
theorem append_row {w0 W : World} (hgd : o.guard = none) (s x : Operand) (ho : o.op = .call { callee := .builtin .append, args := #[s, x], argTypes := #[51, 51] })
    {base b2 : Nat} {v vr : Value} {ls : List (List Int)} {l : List Int} (hs : a.eval s = v) (hx : a.eval x = .slice (some ⟨W.heap.size, 0, none⟩) 1 1) (HO : NR W base v ls) (HL : Own W b2 vr l) (hb2 : base ≤ b2) (hbase : base ≤ W.heap.size) (HB : Below base w0 W) (hl : ls.length ≤ 1000000000)
    (h : ∀ v1 w1, NR w1 base v1 (ls ++ [l]) → Below base w0 w1 → wpList Try.prog ops Q rest (a.put o.dst v1) w1) :
    wpList Try.prog ops Q (o :: rest) a (W.alloc (.cells #[vr] 25)) := by
  obtain ⟨h1, h2⟩ := HL.fk HO hb2
  refine Kd.N_append (Kd.slice 3 (Kd.int .i64)) (w0 := w0) base hgd s x 51 25 (.slice none 0 0) 24 ho Try.underlying51 info25 rfl (by decide) (by omega) v ls l [vr] (fun k => base ≤ k) (fun k => some k = vr.ownBlock) hs hx h1 h2 (fun k hk => Nat.le_trans hbase hk) HO.out HB hbase (by omega) ?_
  intro v1 w1 h3 h4 _ _
  exact h v1 w1 ⟨h3⟩ h4
theorem append_row_step {w0 W : World} (hw : Region.wanted o (yielded ops a.tmps) = true) (s x : Operand) (ho : o.op = .call { callee := .builtin .append, args := #[s, x], argTypes := #[51, 51] })
    {base b2 : Nat} {v vr : Value} {ls : List (List Int)} {l : List Int} (hs : a.eval s = v) (hx : a.eval x = .slice (some ⟨W.heap.size, 0, none⟩) 1 1) (HO : NR W base v ls) (HL : Own W b2 vr l) (hb2 : base ≤ b2) (hbase : base ≤ W.heap.size) (HB : Below base w0 W) (hl : ls.length ≤ 1000000000)
    (h : ∀ v1 w1, NR w1 base v1 (ls ++ [l]) → Below base w0 w1 → Kc (a.put o.dst v1) w1) :
    if Region.wanted o (yielded ops a.tmps) = true then Oper.wp Try.prog o a (W.alloc (.cells #[vr] 25)) Kc Q else Kc (a.put o.dst undef) (W.alloc (.cells #[vr] 25)) := by
  obtain ⟨h1, h2⟩ := HL.fk HO hb2
  refine Kd.N_append_step (Kd.slice 3 (Kd.int .i64)) (w0 := w0) base hw s x 51 25 (.slice none 0 0) 24 ho Try.underlying51 info25 rfl (by decide) (by omega) v ls l [vr] (fun k => base ≤ k) (fun k => some k = vr.ownBlock) hs hx h1 h2 (fun k hk => Nat.le_trans hbase hk) HO.out HB hbase (by omega) ?_
  intro v1 w1 h3 h4 _ _
  exact h v1 w1 ⟨h3⟩ h4
end
theorem NR.slice {w : World} {base : Nat} {v : Value} {ls : List (List Int)} (h : NR w base v ls) : ∃ A c, v = .slice A ls.length c ∧ ls.length ≤ c ∧ Kd.C (Kd.slice 3 (Kd.int .i64)) w A ls.length ls := Kd.N_reads h.out
theorem take_succ_rows (ls : List (List Int)) (k : Nat) (h : k < ls.length) : ls.take (k + 1) = ls.take k ++ [ls.getD k []] := by
  rw [List.take_add_one, List.getElem?_eq_getElem h, List.getD_eq_getElem?_getD, List.getElem?_eq_getElem h]
  rfl

set_option maxHeartbeats 8000000 in
set_option maxRecDepth 100000 in
theorem rCopy {w : World} {A : Option Addr} {c : Nat} {ls : List (List Int)} (hl : Kd.C (Kd.slice 3 (Kd.int .i64)) w A ls.length ls) (h1 : ls.length ≤ 1000) (h2 : ∀ i, i < ls.length → (ls.getD i []).length ≤ 1000) :
    Calls Try.prog 162 #[.slice A ls.length c] w fun e w' => ∃ v, e = .returned v ∧ NR w' w.heap.size v ls ∧ Below w.heap.size w w' := by
  have HL := Aside0.mk hl
  have H2 := Aside0.mk h2
  have HT := Aside0.mk (take_succ_rows ls)
  have HBz := Aside0.mk (Below.refl w.heap.size w)
  obtain ⟨Df, hDf⟩ : ∃ f : Nat → List (List Int), (fun k => ls.take k) = f := ⟨_, rfl⟩
  have HD : Aside0 (∀ k, ls.take k = Df k) := ⟨fun k => by rw [← hDf]⟩
  have H0 : Aside0 (NR w w.heap.size (.slice none 0 0) (Df 0)) := ⟨by rw [← hDf]; exact NR.nil _ _⟩
  have HDl : Aside0 (∀ k, k ≤ ls.length → (Df k).length = k) := ⟨fun k hk => by rw [← hDf]; simp; omega⟩
  clear hl h2 hDf
  go_enter Try.func162, Try.ntmps162
  go_wp2
  go_loopw [3, 4] (fun v3 v4 w' => ∃ (k : Nat) (vD : Value), v4 = .int .i64 k ∧ v3 = vD ∧ k ≤ ls.length ∧ Aside0 (NR w' w.heap.size vD (Df k)) ∧ Aside0 (Below w.heap.size w w')) (fun _ v4 _ => ls.length - (intOf v4).toNat)
  case atStart => exact ⟨0, _, rfl, rfl, by omega, H0, HBz⟩
  case round =>
    clear H0 HBz
    obtain ⟨k, vD, rfl, rfl, hk, HO, HB⟩ := hrel
    by_cases hlk : k < ls.length
    · obtain ⟨ad, A1, c1, e, hx, hx2, hx3⟩ := rows_at (Kd.C_below HL.out HB.out) k hlk
      cases e
      have hl2 := H2.out k hlk
      have htk := HT.out k hlk
      rw [HD.out, HD.out] at htk
      obtain ⟨l, hle⟩ : ∃ l, ls.getD k [] = l := ⟨_, rfl⟩
      rw [hle] at hx hx2 hx3 hl2 htk
      have HDk := Aside0.mk htk
      have HX3 := Aside0.mk hx3
      have i0 : (0 : Int) ≤ (k : Int) := by omega
      have i1 : (k : Int) < (ls.length : Int) := by omega
      have hdl := HDl.out k hk
      have HDl2 := Aside0.mk hdl
      obtain ⟨A3, c3, e3, -, -⟩ := HO.out.slice
      rw [hdl] at e3
      subst e3
      have hba := below_alloc (Below.refl wr.heap.size wr) (.cells #[] 3)
      have hx4 := pw_cell_below hba hx
      have HLit := Aside0.mk (own_lit0 wr)
      have HBa := Aside0.mk hba
      clear hle htk hx3 hdl hba
      go_wp2_with (first
        | ((with_reducible refine gate_builtin (b := .append) (xs := #[.tmp 12, .tmp 16]) rfl ?_); at_builtin; refine append_list (w0 := wr) (base := wr.heap.size) rfl (.tmp 12) (.tmp 16) rfl rfl rfl HLit.out HBa.out.size (Kd.C_below HX3.out HBa.out) HBa.out (by simp; omega) ?_; intro v6 w6 h6 hb6; rw [List.nil_append] at h6; obtain ⟨A6, c6, rfl, -, -⟩ := h6.slice; have HO6 := Aside0.mk h6; have HB6 := Aside0.mk hb6; clear h6 hb6)
        | ((with_reducible refine gate_builtin (b := .append) (xs := #[.tmp 11, .tmp 18]) rfl ?_); at_builtin; refine append_row (w0 := w) (W := w6) (base := w.heap.size) rfl (.tmp 11) (.tmp 18) rfl rfl rfl (HO.out.below HB6.out) HO6.out HB.out.size (Nat.le_trans HB.out.size HB6.out.size) (below_later HB.out HB.out.size HB6.out) (by rw [HDl2.out]; omega) ?_; intro v7 w7 h7 hb7; rw [← HDk.out] at h7; have HO7 := Aside0.mk h7; have HB7 := Aside0.mk hb7; clear h7 hb7))
      go_roundw
      case rel => exact ⟨k + 1, _, by go_num, rfl, by omega, HO7, HB7⟩
      case measure => simp [intOf]; omega
    · obtain rfl : k = ls.length := by omega
      have hT := HD.out ls.length
      rw [List.take_length] at hT
      rw [← hT] at HO
      clear hT
      go_wp2
      go_ret
      exact ⟨_, rfl, HO.out, HB.out⟩

end Go.Proofs.Yticgblagimmlfaa
end
section
/- Elimination as a relation on lists of rows. -/
namespace Go.Proofs.Yticgblagimmlfaa
open CW
set_option linter.unusedVariables false
set_option linter.unusedSimpArgs false

def swapL (l : List (List Int)) (i k : Nat) : List (List Int) := (l.set i (l.getD k [])).set k (l.getD i [])
def normR (D : GFD) (c : Nat) (r : List Int) : List Int := if r.getD c 0 ≠ 1 then scaleZ D (D.inv (r.getD c 0)) r else r
def clearRow (D : GFD) (c : Nat) (r v : List Int) : List Int := if v.getD c 0 ≠ 0 then addToZ D v (D.neg (v.getD c 0)) r else v
def clearL (D : GFD) (c t : Nat) (l : List (List Int)) : List (List Int) := (List.range l.length).map fun i => if i ≠ t then clearRow D c (l.getD t []) (l.getD i []) else l.getD i []
def normL (D : GFD) (c t : Nat) (l : List (List Int)) : List (List Int) := l.set t (normR D c (l.getD t []))
def nextL (D : GFD) (c t k : Nat) (l : List (List Int)) : List (List Int) := clearL D c t (normL D c t (swapL l t k))

inductive Reach (D : GFD) (rows : List (List Int)) : Nat → Nat → List (List Int) → List Int → Prop
  | start : Reach D rows 0 0 rows []
  | skip {c t : Nat} {l : List (List Int)} {pv : List Int} (h : Reach D rows c t l pv) (ht : t < l.length) (hz : ∀ j, t ≤ j → j < l.length → (l.getD j []).getD c 0 = 0) : Reach D rows (c + 1) t l pv
  | step {c t k : Nat} {l : List (List Int)} {pv : List Int} (h : Reach D rows c t l pv) (htk : t ≤ k) (hk : k < l.length) (hz : ∀ j, t ≤ j → j < k → (l.getD j []).getD c 0 = 0) (hn : (l.getD k []).getD c 0 ≠ 0) : Reach D rows (c + 1) (t + 1) (nextL D c t k l) (pv ++ [(c : Int)])

/-- Rows of n elements. -/
def Shp (D : GFD) (n : Nat) (l : List (List Int)) : Prop := ∀ r ∈ l, r.length = n ∧ ∀ j, D.is (r.getD j 0) = true
theorem getD_mem_rows {l : List (List Int)} {i : Nat} (h : i < l.length) : l.getD i [] ∈ l := by
  rw [List.getD_eq_getElem?_getD, List.getElem?_eq_getElem h]
  exact List.getElem_mem h
theorem Shp.set {D : GFD} {n : Nat} {l : List (List Int)} (h : Shp D n l) (i : Nat) {r : List Int} (hr : r.length = n ∧ ∀ j, D.is (r.getD j 0) = true) : Shp D n (l.set i r) := by
  intro x hx
  rcases List.mem_or_eq_of_mem_set hx with h1 | h1
  · exact h x h1
  · rw [h1]; exact hr
theorem scaleZ_at (D : GFD) (a : Int) (v : List Int) (i : Nat) : (scaleZ D a v).getD i 0 = if i < v.length then D.mul a (v.getD i 0) else 0 := by
  split
  · rename_i h; exact scaleZ_getD D a v i h
  · rename_i h
    rw [List.getD_eq_getElem?_getD, List.getElem?_eq_none (by rw [scaleZ_length]; omega)]
    rfl
theorem addToZ_at (D : GFD) (v : List Int) (a : Int) (u : List Int) (i : Nat) : (addToZ D v a u).getD i 0 = if i < v.length then (if u.getD i 0 ≠ 0 then D.add (v.getD i 0) (D.mul a (u.getD i 0)) else v.getD i 0) else 0 := by
  split
  · rename_i h; exact addToZ_getD D v a u i h
  · rename_i h
    rw [List.getD_eq_getElem?_getD, List.getElem?_eq_none (by rw [addToZ_length]; omega)]
    rfl
theorem FD.shp_scale (K : FD) {n : Nat} {v : List Int} (a : Int) (h : v.length = n) : (scaleZ K.D a v).length = n ∧ ∀ j, K.D.is ((scaleZ K.D a v).getD j 0) = true := by
  refine ⟨by rw [scaleZ_length, h], fun j => ?_⟩
  rw [scaleZ_at]
  split
  · exact K.is_mul _ _
  · exact K.is_zero
theorem FD.shp_addTo (K : FD) {n : Nat} {v u : List Int} (a : Int) (h : v.length = n ∧ ∀ j, K.D.is (v.getD j 0) = true) : (addToZ K.D v a u).length = n ∧ ∀ j, K.D.is ((addToZ K.D v a u).getD j 0) = true := by
  refine ⟨by rw [addToZ_length, h.1], fun j => ?_⟩
  rw [addToZ_at]
  split
  · split
    · exact K.is_add _ _
    · exact h.2 j
  · exact K.is_zero
theorem FD.shp_norm (K : FD) {n c : Nat} {r : List Int} (h : r.length = n ∧ ∀ j, K.D.is (r.getD j 0) = true) : (normR K.D c r).length = n ∧ ∀ j, K.D.is ((normR K.D c r).getD j 0) = true := by
  unfold normR
  split
  · exact K.shp_scale _ h.1
  · exact h
theorem FD.shp_clear (K : FD) {n c : Nat} {r v : List Int} (h : v.length = n ∧ ∀ j, K.D.is (v.getD j 0) = true) : (clearRow K.D c r v).length = n ∧ ∀ j, K.D.is ((clearRow K.D c r v).getD j 0) = true := by
  unfold clearRow
  split
  · exact K.shp_addTo _ h
  · exact h
theorem swapL_length (l : List (List Int)) (i k : Nat) : (swapL l i k).length = l.length := by simp [swapL]
theorem normL_length (D : GFD) (c t : Nat) (l : List (List Int)) : (normL D c t l).length = l.length := by simp [normL]
theorem clearL_length (D : GFD) (c t : Nat) (l : List (List Int)) : (clearL D c t l).length = l.length := by simp [clearL]
theorem nextL_length (D : GFD) (c t k : Nat) (l : List (List Int)) : (nextL D c t k l).length = l.length := by
  unfold nextL; rw [clearL_length, normL_length, swapL_length]
theorem clearL_getD (D : GFD) (c t : Nat) (l : List (List Int)) (i : Nat) (h : i < l.length) : (clearL D c t l).getD i [] = if i ≠ t then clearRow D c (l.getD t []) (l.getD i []) else l.getD i [] := by
  unfold clearL
  rw [List.getD_eq_getElem?_getD, List.getElem?_map, List.getElem?_range h]
  rfl
theorem FD.shp_swap (K : FD) {n : Nat} {l : List (List Int)} (h : Shp K.D n l) {i k : Nat} (hi : i < l.length) (hk : k < l.length) : Shp K.D n (swapL l i k) :=
  (h.set i (h _ (getD_mem_rows hk))).set k (h _ (getD_mem_rows hi))
theorem FD.shp_normL (K : FD) {n c t : Nat} {l : List (List Int)} (h : Shp K.D n l) (ht : t < l.length) : Shp K.D n (normL K.D c t l) :=
  h.set t (K.shp_norm (h _ (getD_mem_rows ht)))
theorem FD.shp_clearL (K : FD) {n c t : Nat} {l : List (List Int)} (h : Shp K.D n l) : Shp K.D n (clearL K.D c t l) := by
  intro r hr
  obtain ⟨i, hi, rfl⟩ := List.mem_map.1 hr
  have hi' := List.mem_range.1 hi
  split
  · exact K.shp_clear (h _ (getD_mem_rows hi'))
  · exact h _ (getD_mem_rows hi')
theorem FD.shp_next (K : FD) {n c t k : Nat} {l : List (List Int)} (h : Shp K.D n l) (htk : t ≤ k) (hk : k < l.length) : Shp K.D n (nextL K.D c t k l) :=
  K.shp_clearL (K.shp_normL (K.shp_swap h (by omega) hk) (by rw [swapL_length]; omega))
theorem Reach.facts {K : FD} {n : Nat} {rows : List (List Int)} (hs : Shp K.D n rows) {c t : Nat} {l : List (List Int)} {pv : List Int} (h : Reach K.D rows c t l pv) :
    l.length = rows.length ∧ t ≤ l.length ∧ t ≤ c ∧ pv.length = t ∧ Shp K.D n l := by
  induction h with
  | start => exact ⟨rfl, Nat.zero_le _, Nat.le_refl _, rfl, hs⟩
  | skip h ht hz ih => obtain ⟨h1, h2, h3, h4, h5⟩ := ih; exact ⟨h1, h2, by omega, h4, h5⟩
  | step h htk hk hz hn ih =>
    obtain ⟨h1, h2, h3, h4, h5⟩ := ih
    exact ⟨by rw [nextL_length]; exact h1, by rw [nextL_length]; omega, by omega, by simp [h4], K.shp_next h5 htk hk⟩
end Go.Proofs.Yticgblagimmlfaa
end
section
/- A region of open order whose last operation writes what the others read: one condition on the world that holds till the last operation. -/
namespace Go
section
variable {P : Program} {ops : Array Oper} {Q : Exit → Act → World → Prop} {md : Region.Mode} {S : World → Prop} {L : Nat}

/-- Whatever order is picked from here on, and S holds behind every operation as long as number L has not come up. -/
def wpAnyZ (P : Program) (md : Region.Mode) (ops : Array Oper) (Q : Exit → Act → World → Prop) (S : World → Prop) (L : Nat) : Nat → Array Bool → Act → World → Prop
  | 0, listed, a, w => Region.ready md ops listed = [] ∧ Q .normal a w
  | fuel + 1, listed, a, w =>
    (Region.ready md ops listed = [] → Q .normal a w) ∧
    ∀ i ∈ Region.ready md ops listed, wpOp P ops Q i (fun a' w' => ((listed.setIfInBounds i true).getD L true = false → S w') ∧ wpAnyZ P md ops Q S L fuel (listed.setIfInBounds i true) a' w') a w

theorem wpAny_of_lastZ : ∀ (fuel : Nat) (listed : Array Bool) (a : Act) (w : World), wpAnyZ P md ops Q S L fuel listed a w → wpAny P md ops Q fuel listed a w
  | 0, _, _, _, h => h
  | fuel + 1, _, _, _, h => ⟨h.1, fun i hi => wpOp_mono (fun a' w' h' => wpAny_of_lastZ fuel _ a' w' h'.2) (h.2 i hi)⟩

theorem wpAnyZ_first {i : Nat} {oi oL : Oper} {v : Value} (hi : ops[i]? = some oi) (hsel : ∀ (j : Nat) (o : Oper) cs b, ops[j]? = some o → o.op ≠ .select cs b)
    (hQ : ∀ c a w, Q (.panic c) (a.put oi.dst v) w → Q (.panic c) a w) (hL : ops[L]? = some oL) (hLi : L ≠ i) (hw : ∃ e ∈ oL.after, Region.binds md e = true ∧ e.on = i) :
    ∀ (fuel : Nat) (listed : Array Bool) (a : Act) (w : World),
      (∀ j oj, ops[j]? = some oj → j ≠ i → listed.getD j true = false → (∀ e ∈ oj.after, Region.binds md e = true → e.on ≠ i) → oi.apart ops oj = true) →
      i ∈ Region.ready md ops listed → YieldsIf P ops S oi v a → S w → listed.getD L true = false →
      wpAnyZ P md ops Q S L fuel (listed.setIfInBounds i true) (a.put oi.dst v) w → wpAnyZ P md ops Q S L (fuel + 1) listed a w := by
  intro fuel
  induction fuel with
  | zero =>
    intro listed a w _ hr hy hS _ H
    refine ⟨fun h => (by rw [h] at hr; cases hr), fun j hj => ?_⟩
    by_cases hji : j = i
    · subst hji; exact hy.wpOp hi hS ⟨fun _ => hS, H⟩
    · have := ready_mono hj hji
      rw [H.1] at this
      cases this
  | succ fuel ih =>
    intro listed a w hfree hr hy hS hun H
    refine ⟨fun h => (by rw [h] at hr; cases hr), fun j hj => ?_⟩
    by_cases hji : j = i
    · subst hji; exact hy.wpOp hi hS ⟨fun _ => hS, H⟩
    · have h1 := H.2 j (ready_mono hj hji)
      obtain ⟨hjun, oj, hoj, hall⟩ := mem_ready.1 hj
      have hnot : ∀ e ∈ oj.after, Region.binds md e = true → e.on ≠ i := fun e he hb heq => by
        have h1 := hall e he hb
        have h0 := (mem_ready.1 hr).1
        rw [heq] at h1
        rcases Nat.lt_or_ge i listed.size with h' | h'
        · simp [h'] at h0 h1; rw [h0] at h1; cases h1
        · simp [Array.getElem?_eq_none h'] at h1
      have hjL : j ≠ L := by
        rintro rfl
        obtain ⟨e, he, hb, hon⟩ := hw
        rw [hL] at hoj
        cases hoj
        exact hnot e he hb hon
      have h2 := wpOp_putIf hoj (hfree j oj hoj hji hjun hnot) (fun cs b => hsel i oi cs b hi) (fun cs b => hsel j oj cs b hoj) hQ hy h1
      have hfree' : ∀ k ok, ops[k]? = some ok → k ≠ i → (listed.setIfInBounds j true).getD k true = false →
          (∀ e ∈ ok.after, Region.binds md e = true → e.on ≠ i) → oi.apart ops ok = true := fun k ok hk hki hun hno => by
        refine hfree k ok hk hki ?_ hno
        by_cases hjk : j = k
        · subst hjk; exact hjun
        · rw [getD_set_ne true hjk] at hun; exact hun
      have hunj : (listed.setIfInBounds j true).getD L true = false := by rw [getD_set_ne true hjL]; exact hun
      have hunij : ((listed.setIfInBounds i true).setIfInBounds j true).getD L true = false := by rw [getD_set_ne true hjL, getD_set_ne true (Ne.symm hLi)]; exact hun
      refine wpOp_mono (fun a' w' h3 => ⟨fun _ => h3.2.1 hunij, ih (listed.setIfInBounds j true) a' w' hfree' (ready_mono hr (Ne.symm hji)) h3.1 (h3.2.1 hunij) hunj ?_⟩) h2
      rw [Array.setIfInBounds_comm _ _ hji]
      exact h3.2.2

/-- Does L wait for i? -/
def Region.waitsZ (md : Region.Mode) (ops : Array Oper) (L i : Nat) : Bool := match ops[L]? with
  | some o => o.after.any (fun e => Region.binds md e && e.on == i) && (L != i)
  | none => false

theorem wpAnyZ_take {i : Nat} {oi : Oper} {v : Value} {fuel : Nat} {listed : Array Bool} {a : Act} {w : World} (hi : ops[i]? = some oi)
    (hs : Region.noSelect ops = true) (hf : Region.free md ops listed i = true) (hr : (Region.ready md ops listed).contains i = true) (hw : Region.waitsZ md ops L i = true) (hun : listed.getD L true = false)
    (hQ : ∀ c a w, Q (.panic c) (a.put oi.dst v) w → Q (.panic c) a w) (hy : YieldsIf P ops S oi v a) (hS : S w)
    (h : wpAnyZ P md ops Q S L fuel (listed.setIfInBounds i true) (a.put oi.dst v) w) : wpAnyZ P md ops Q S L (fuel + 1) listed a w := by
  unfold Region.waitsZ at hw
  split at hw
  · rename_i oL hoL
    simp only [Bool.and_eq_true, Array.any_eq_true', bne_iff_ne, ne_eq, beq_iff_eq] at hw
    obtain ⟨⟨e, he, hb, hon⟩, hne⟩ := hw
    exact wpAnyZ_first hi (Region.noSelect_spec hs) hQ hoL hne ⟨e, he, hb, hon⟩ fuel listed a w (Region.free_spec hi hf) (by simpa using hr) hy hS hun h
  · cases hw

/-- The same for an operation that yields in every world: L need not wait for it. -/
theorem wpAnyZ_firstA {i : Nat} {oi : Oper} {v : Value} (hi : ops[i]? = some oi) (hsel : ∀ (j : Nat) (o : Oper) cs b, ops[j]? = some o → o.op ≠ .select cs b)
    (hQ : ∀ c a w, Q (.panic c) (a.put oi.dst v) w → Q (.panic c) a w) (hLi : L ≠ i) :
    ∀ (fuel : Nat) (listed : Array Bool) (a : Act) (w : World),
      (∀ j oj, ops[j]? = some oj → j ≠ i → listed.getD j true = false → (∀ e ∈ oj.after, Region.binds md e = true → e.on ≠ i) → oi.apart ops oj = true) →
      i ∈ Region.ready md ops listed → YieldsIf P ops (fun _ => True) oi v a → (listed.getD L true = false → S w) →
      wpAnyZ P md ops Q S L fuel (listed.setIfInBounds i true) (a.put oi.dst v) w → wpAnyZ P md ops Q S L (fuel + 1) listed a w := by
  intro fuel
  induction fuel with
  | zero =>
    intro listed a w _ hr hy hS H
    refine ⟨fun h => (by rw [h] at hr; cases hr), fun j hj => ?_⟩
    by_cases hji : j = i
    · subst hji; exact hy.wpOp hi trivial ⟨fun h => hS (by rwa [getD_set_ne true (Ne.symm hLi)] at h), H⟩
    · have := ready_mono hj hji
      rw [H.1] at this
      cases this
  | succ fuel ih =>
    intro listed a w hfree hr hy hS H
    refine ⟨fun h => (by rw [h] at hr; cases hr), fun j hj => ?_⟩
    by_cases hji : j = i
    · subst hji; exact hy.wpOp hi trivial ⟨fun h => hS (by rwa [getD_set_ne true (Ne.symm hLi)] at h), H⟩
    · have h1 := H.2 j (ready_mono hj hji)
      obtain ⟨hjun, oj, hoj, hall⟩ := mem_ready.1 hj
      have hnot : ∀ e ∈ oj.after, Region.binds md e = true → e.on ≠ i := fun e he hb heq => by
        have h1 := hall e he hb
        have h0 := (mem_ready.1 hr).1
        rw [heq] at h1
        rcases Nat.lt_or_ge i listed.size with h' | h'
        · simp [h'] at h0 h1; rw [h0] at h1; cases h1
        · simp [Array.getElem?_eq_none h'] at h1
      have h2 := wpOp_putIf hoj (hfree j oj hoj hji hjun hnot) (fun cs b => hsel i oi cs b hi) (fun cs b => hsel j oj cs b hoj) hQ hy h1
      have hfree' : ∀ k ok, ops[k]? = some ok → k ≠ i → (listed.setIfInBounds j true).getD k true = false →
          (∀ e ∈ ok.after, Region.binds md e = true → e.on ≠ i) → oi.apart ops ok = true := fun k ok hk hki hun hno => by
        refine hfree k ok hk hki ?_ hno
        by_cases hjk : j = k
        · subst hjk; exact hjun
        · rw [getD_set_ne true hjk] at hun; exact hun
      have hun2 : (listed.setIfInBounds j true).getD L true = false → ((listed.setIfInBounds i true).setIfInBounds j true).getD L true = false := fun h => by
        rw [Array.setIfInBounds_comm _ _ (Ne.symm hji), getD_set_ne true (Ne.symm hLi)]; exact h
      refine wpOp_mono (fun a' w' h3 => ⟨fun h => h3.2.1 (hun2 h), ih (listed.setIfInBounds j true) a' w' hfree' (ready_mono hr (Ne.symm hji)) h3.1 (fun h => h3.2.1 (hun2 h)) ?_⟩) h2
      rw [Array.setIfInBounds_comm _ _ hji]
      exact h3.2.2
theorem drop_get {l : List Oper} {i : Nat} {o : Oper} {r : List Oper} (h : l.drop i = o :: r) : l.toArray[i]? = some o := by
  have h2 : (l.drop i)[0]? = some o := by rw [h]; rfl
  rw [List.getElem?_drop] at h2
  simpa using h2
/-- Number i is a load: it is taken first. -/
theorem wpAnyZ_load {l : List Oper} (i : Nat) {oi : Oper} {r : List Oper} {v : Value} {fuel : Nat} {listed : Array Bool} {a : Act} {w : World} (hd : l.drop i = oi :: r)
    (hs : Region.noSelect l.toArray = true) (hf : Region.free md l.toArray listed i = true) (hr : (Region.ready md l.toArray listed).contains i = true) (hw : Region.waitsZ md l.toArray L i = true) (hun : listed.getD L true = false)
    (hQ : ∀ c a w, Q (.panic c) (a.put oi.dst v) w → Q (.panic c) a w) (hwa : Region.wanted oi (yielded l.toArray a.tmps) = true) (hy : ∀ w, S w → (execOp a.eval oi).run P w = .ok (.value v) w) (hS : S w)
    (h : wpAnyZ P md l.toArray Q S L fuel (listed.setIfInBounds i true) (a.put oi.dst v) w) : wpAnyZ P md l.toArray Q S L (fuel + 1) listed a w :=
  wpAnyZ_take (drop_get hd) hs hf hr hw hun hQ (.inl ⟨hwa, hy⟩) hS h
/-- Number i yields in every world: it is taken first. -/
theorem wpAnyZ_pure {l : List Oper} (i : Nat) {oi : Oper} {r : List Oper} {v : Value} {fuel : Nat} {listed : Array Bool} {a : Act} {w : World} (hd : l.drop i = oi :: r)
    (hs : Region.noSelect l.toArray = true) (hf : Region.free md l.toArray listed i = true) (hr : (Region.ready md l.toArray listed).contains i = true) (hLi : L ≠ i)
    (hQ : ∀ c a w, Q (.panic c) (a.put oi.dst v) w → Q (.panic c) a w) (hwa : Region.wanted oi (yielded l.toArray a.tmps) = true) (hy : ∀ w, (execOp a.eval oi).run P w = .ok (.value v) w) (hS : listed.getD L true = false → S w)
    (h : wpAnyZ P md l.toArray Q S L fuel (listed.setIfInBounds i true) (a.put oi.dst v) w) : wpAnyZ P md l.toArray Q S L (fuel + 1) listed a w :=
  wpAnyZ_firstA (drop_get hd) (Region.noSelect_spec hs) hQ hLi fuel listed a w (Region.free_spec (drop_get hd) hf) (by simpa using hr) (.inl ⟨hwa, fun w _ => hy w⟩) hS h
/-- One operation alone may come up. -/
theorem wpAnyZ_one {l : List Oper} (i : Nat) {o : Oper} {r : List Oper} {fuel : Nat} {listed : Array Bool} {a : Act} {w : World} (ho : l.drop i = o :: r) (hr : Region.ready md l.toArray listed = [i])
    (h : ∀ K' : Act → World → Prop, Shut (∀ a w, ((listed.setIfInBounds i true).getD L true = false → S w) → wpAnyZ P md l.toArray Q S L fuel (listed.setIfInBounds i true) a w → K' a w) → if Region.wanted o (yielded l.toArray a.tmps) = true then Oper.wp P o a w K' Q else K' (a.put o.dst undef) w) : wpAnyZ P md l.toArray Q S L (fuel + 1) listed a w := by
  refine ⟨fun h0 => absurd (hr ▸ h0) (by simp), fun j hj => ?_⟩
  rw [hr] at hj
  obtain rfl := List.mem_singleton.1 hj
  exact wpOp_step (drop_get ho) (fun K' hK => h K' (fun a w hS hW => hK a w ⟨hS, hW⟩))

theorem unlistedZ {l : Array Bool} {L : Nat} {p : Prop} (h : l.getD L true = true) : l.getD L true = false → p := fun h2 => absurd (h.symm.trans h2) (by decide)
theorem wpAnyZ_done {listed : Array Bool} {a : Act} {w : World} (hr : Region.ready md ops listed = []) (h : Q .normal a w) :
    ∀ fuel, wpAnyZ P md ops Q S L fuel listed a w
  | 0 => ⟨hr, h⟩
  | _ + 1 => ⟨fun _ => h, by rw [hr]; simp⟩

theorem wp_region_last {id : Nat} {a : Act} {w : World} (S : World → Prop) (L : Nat) (hm : P.follows .mixedOrders = true) (hS : S w.drew)
    (h : S w.drew → wpAnyZ P .any ops Q S L ops.size (Array.replicate ops.size false) a w.drew) : (Code.region id ops true).wp P Q a w :=
  wp_region_any hm (wpAny_of_lastZ _ _ _ _ (h hS))
end
end Go
end
section
/-! ### 52. A row that stays read whatever happens to a block (a set of blocks) doesn't lie there -/
namespace Go.Proofs.YticgblagimmlfaaW.PrintWords
open Go.RowKit
namespace Kd
section
variable {α : Type} {d : Kd α} {W : World} {g n : Nat} {S ok : Nat → Prop} {A : Option Addr} {ad : Addr} {xs : List α}
/-- What is read with its footprint lies in it. -/
theorem F_in (h : F d W ok A n xs) {ad : Addr} (hA : A = some ad) (hn : 0 < n) (hs : 0 < d.sz) : ok ad.block := by
  subst hA
  have hl := F_len h
  cases xs with
  | nil => simp at hl; omega
  | cons x r =>
    obtain ⟨ad', c, he, _, _, _, hin⟩ := F_get h x 0 (by omega) (by omega)
    injection he with he
    subst he
    exact hin hs
end
end Kd
end Go.Proofs.YticgblagimmlfaaW.PrintWords
end
