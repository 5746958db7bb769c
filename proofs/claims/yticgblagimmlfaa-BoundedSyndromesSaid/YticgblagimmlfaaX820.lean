/- The law BoundedSyndromes. -/
import Derived.Test.YticgblagimmlfaaX816
import Derived.Test.YticgblagimmlfaaX819
namespace Go.Proofs.Yticgblagimmlfaa
open Go.RowKit Go.Proofs.YticgblagimmlfaaW.PrintWords Go.Proofs.YticgblagimmlfaaW.PrintLast Go.Proofs.YticgblagimmlfaaW.PrintMore
set_option linter.unusedVariables false
set_option linter.unusedSimpArgs false

theorem wordZ_nil (D : GFD) (l : List Int) (n : Nat) : wordZ D l n [] = elemsZ D.is l n 4 := by
  unfold wordZ elemsZ
  by_cases h1 : l.length ≠ n
  · rw [if_pos h1, if_pos h1]
  rw [if_neg h1, if_neg h1]
  by_cases h2 : l.all D.is = false
  · rw [if_pos h2, if_pos h2]
  rw [if_neg h2, if_neg h2, if_neg (by simp), if_neg (by simp)]

set_option maxHeartbeats 8000000 in
set_option maxRecDepth 100000 in
theorem lawSyndromes_no {w : World} {v : Value} {s : GD} (h : GArg w v s) {V : Option Addr} {cv : Nat} {u : List Int} (hu : Kd.C (Kd.int .i64) w V u.length u) (hn : (s.pts.length : Int) > 20) :
    Calls Try.prog 8 #[v, .slice V u.length cv] w fun e w' => e = .returned (.bool true) ∧ Below w.heap.size w w' := by
  obtain ⟨A1, c1, A2, c2, A3, c3, rfl, g1, l1, g2, l2, g3, l3⟩ := h.out
  have hmx := Kd.C_max g2
  have hmu := Kd.C_max hu
  have hS0 := SAt.new w s A1 c1 A2 c2 A3 c3
  obtain ⟨w1, hw1⟩ : ∃ w1, w.alloc (.cells #[.int .i64 s.P, .int .i64 s.M, .slice A1 s.Mod.length c1, .int .i64 s.K, .slice A2 s.pts.length c2, .slice A3 s.mults.length c3] 29) = w1 := ⟨_, rfl⟩
  have hB1 : Below w.heap.size w w1 := by rw [← hw1]; exact below_alloc (Below.refl _ _) _
  rw [hw1] at hS0
  have HB1 := Aside0.mk hB1
  have HS := Aside0.mk hS0
  have HG := Aside0.mk (h.below hB1)
  have HMd := Aside0.mk (Kd.C_below g1 hB1)
  have HU := Aside0.mk (Kd.C_below hu hB1)
  have HW1 := Aside0.mk hw1
  have HChk := Aside0.mk (fun (w2 : World) (hb : Below w1.heap.size w1 w2) => refCheck_any (HG.out.below hb))
  have HEl := Aside0.mk (fun (w2 : World) (hb : Below w1.heap.size w1 w2) => refElements_any (A := A1) (n := s.Mod.length) (c := c1) (d := cv) s.P s.M (Kd.C_below HU.out hb) s.pts.length hmx 4)
  rw [checkR_open] at HChk
  clear g1 g2 g3 hu hS0 hB1 hw1
  have hb : decide ((s.pts.length : Int) > 20) = true := decide_eq_true hn
  clear h hn
  go_enter Try.func8, Try.ntmps8
  go_upto_region 1 with (fail)
  rw [HW1.out]
  go_wp2_with (first
    | (go_at_call 11; refine (alive_any _).mono ?_; rintro e w2 ⟨rfl, hB⟩; have HBw2 := Aside0.mk (hB); obtain ⟨cPw2, cMw2, cModw2, cKw2, cPtsw2, cMulw2⟩ := HS.out.below HBw2.out; clear hB))
  go_ret
  exact ⟨rfl, below_later HB1.out HB1.out.size HBw2.out⟩

set_option maxHeartbeats 8000000 in
set_option maxRecDepth 100000 in
theorem lawSyndromes_bad1 {w : World} {v : Value} {s : GD} (h : GArg w v s) {V : Option Addr} {cv : Nat} {u : List Int} (hu : Kd.C (Kd.int .i64) w V u.length u) (hn : (s.pts.length : Int) ≤ 20) (ho : s.open ≠ 0) :
    Calls Try.prog 8 #[v, .slice V u.length cv] w fun e w' => e = .returned (.bool true) ∧ Below w.heap.size w w' := by
  obtain ⟨A1, c1, A2, c2, A3, c3, rfl, g1, l1, g2, l2, g3, l3⟩ := h.out
  have hmx := Kd.C_max g2
  have hmu := Kd.C_max hu
  have hS0 := SAt.new w s A1 c1 A2 c2 A3 c3
  obtain ⟨w1, hw1⟩ : ∃ w1, w.alloc (.cells #[.int .i64 s.P, .int .i64 s.M, .slice A1 s.Mod.length c1, .int .i64 s.K, .slice A2 s.pts.length c2, .slice A3 s.mults.length c3] 29) = w1 := ⟨_, rfl⟩
  have hB1 : Below w.heap.size w w1 := by rw [← hw1]; exact below_alloc (Below.refl _ _) _
  rw [hw1] at hS0
  have HB1 := Aside0.mk hB1
  have HS := Aside0.mk hS0
  have HG := Aside0.mk (h.below hB1)
  have HMd := Aside0.mk (Kd.C_below g1 hB1)
  have HU := Aside0.mk (Kd.C_below hu hB1)
  have HW1 := Aside0.mk hw1
  have HChk := Aside0.mk (fun (w2 : World) (hb : Below w1.heap.size w1 w2) => refCheck_any (HG.out.below hb))
  have HEl := Aside0.mk (fun (w2 : World) (hb : Below w1.heap.size w1 w2) => refElements_any (A := A1) (n := s.Mod.length) (c := c1) (d := cv) s.P s.M (Kd.C_below HU.out hb) s.pts.length hmx 4)
  rw [checkR_open] at HChk
  clear g1 g2 g3 hu hS0 hB1 hw1
  have hb : decide ((s.pts.length : Int) > 20) = false := decide_eq_false (by omega)
  have HSy := Aside0.mk (fun (w2 : World) (hb : Below w1.heap.size w1 w2) => syndromes_bad1 (cv := cv) (HG.out.below hb) ho (Kd.C_below HU.out hb))
  obtain ⟨op, hop⟩ : ∃ op, s.open = op := ⟨_, rfl⟩
  rw [hop] at HSy HChk ho
  have hb2 : (op == 0) = false := by simp [ho]
  have hb3 : (op != 0) = true := by simp [ho]
  clear h hn hop ho
  go_enter Try.func8, Try.ntmps8
  go_upto_region 1 with (fail)
  rw [HW1.out]
  go_wp2_with (first
    | (go_at_call 11; refine (alive_any _).mono ?_; rintro e w2 ⟨rfl, hB⟩; have HBw2 := Aside0.mk (hB); obtain ⟨cPw2, cMw2, cModw2, cKw2, cPtsw2, cMulw2⟩ := HS.out.below HBw2.out; clear hB)
    | (go_at_call 25; (with_reducible refine Calls.mono (HSy.out _ HBw2.out) ?_); rintro e w3 ⟨rfl, hB⟩; have HBw3 := Aside0.mk (below_later HBw2.out HBw2.out.size hB); obtain ⟨cPw3, cMw3, cModw3, cKw3, cPtsw3, cMulw3⟩ := HS.out.below HBw3.out; clear hB)
    | (go_at_call 16; refine (HChk.out _ HBw3.out).mono ?_; rintro e w4 ⟨rfl, hB⟩; have HBw4 := Aside0.mk (below_later HBw3.out HBw3.out.size hB); obtain ⟨cPw4, cMw4, cModw4, cKw4, cPtsw4, cMulw4⟩ := HS.out.below HBw4.out; clear hB))
  go_ret
  exact ⟨rfl, below_later HB1.out HB1.out.size HBw4.out⟩

set_option maxHeartbeats 8000000 in
set_option maxRecDepth 100000 in
theorem lawSyndromes_bad2 {w : World} {v : Value} {s : GD} (h : GArg w v s) {V : Option Addr} {cv : Nat} {u : List Int} (hu : Kd.C (Kd.int .i64) w V u.length u) (hn : (s.pts.length : Int) ≤ 20) (ho : s.open = 0) (hz : elemsZ (isR s.P s.M) u s.pts.length 4 ≠ 0) :
    Calls Try.prog 8 #[v, .slice V u.length cv] w fun e w' => e = .returned (.bool true) ∧ Below w.heap.size w w' := by
  obtain ⟨A1, c1, A2, c2, A3, c3, rfl, g1, l1, g2, l2, g3, l3⟩ := h.out
  have hmx := Kd.C_max g2
  have hmu := Kd.C_max hu
  have hS0 := SAt.new w s A1 c1 A2 c2 A3 c3
  obtain ⟨w1, hw1⟩ : ∃ w1, w.alloc (.cells #[.int .i64 s.P, .int .i64 s.M, .slice A1 s.Mod.length c1, .int .i64 s.K, .slice A2 s.pts.length c2, .slice A3 s.mults.length c3] 29) = w1 := ⟨_, rfl⟩
  have hB1 : Below w.heap.size w w1 := by rw [← hw1]; exact below_alloc (Below.refl _ _) _
  rw [hw1] at hS0
  have HB1 := Aside0.mk hB1
  have HS := Aside0.mk hS0
  have HG := Aside0.mk (h.below hB1)
  have HMd := Aside0.mk (Kd.C_below g1 hB1)
  have HU := Aside0.mk (Kd.C_below hu hB1)
  have HW1 := Aside0.mk hw1
  have HChk := Aside0.mk (fun (w2 : World) (hb : Below w1.heap.size w1 w2) => refCheck_any (HG.out.below hb))
  have HEl := Aside0.mk (fun (w2 : World) (hb : Below w1.heap.size w1 w2) => refElements_any (A := A1) (n := s.Mod.length) (c := c1) (d := cv) s.P s.M (Kd.C_below HU.out hb) s.pts.length hmx 4)
  rw [checkR_open] at HChk
  clear g1 g2 g3 hu hS0 hB1 hw1
  have hb : decide ((s.pts.length : Int) > 20) = false := decide_eq_false (by omega)
  obtain ⟨K, hf, hD⟩ := fit_of_open s ho
  have he : wordZ K.D u s.pts.length [] = elemsZ (isR s.P s.M) u s.pts.length 4 := by rw [wordZ_nil, isR_D s ho, hD]
  have HSy := Aside0.mk (fun (w2 : World) (hb : Below w1.heap.size w1 w2) => syndromes_bad2 (cv := cv) (HG.out.below hb) K hf ho hD (Kd.C_below HU.out hb) (by rw [he]; exact hz))
  rw [he] at HSy
  obtain ⟨z, hz2⟩ : ∃ z, elemsZ (isR s.P s.M) u s.pts.length 4 = z := ⟨_, rfl⟩
  rw [hz2] at HSy HEl hz
  rw [ho] at HChk
  have hb2 : (z == 0) = false := by simp [hz]
  have hb3 : (z != 0) = true := by simp [hz]
  clear h hn ho hf hD he hz hz2
  go_enter Try.func8, Try.ntmps8
  go_upto_region 1 with (fail)
  rw [HW1.out]
  go_wp2_with (first
    | (go_at_call 11; refine (alive_any _).mono ?_; rintro e w2 ⟨rfl, hB⟩; have HBw2 := Aside0.mk (hB); obtain ⟨cPw2, cMw2, cModw2, cKw2, cPtsw2, cMulw2⟩ := HS.out.below HBw2.out; clear hB)
    | (go_at_call 25; (with_reducible refine Calls.mono (HSy.out _ HBw2.out) ?_); rintro e w3 ⟨rfl, hB⟩; have HBw3 := Aside0.mk (below_later HBw2.out HBw2.out.size hB); obtain ⟨cPw3, cMw3, cModw3, cKw3, cPtsw3, cMulw3⟩ := HS.out.below HBw3.out; clear hB)
    | (go_at_call 16; refine (HChk.out _ HBw3.out).mono ?_; rintro e w4 ⟨rfl, hB⟩; have HBw4 := Aside0.mk (below_later HBw3.out HBw3.out.size hB); obtain ⟨cPw4, cMw4, cModw4, cKw4, cPtsw4, cMulw4⟩ := HS.out.below HBw4.out; clear hB)
    | (go_at_call 19; refine (HEl.out _ HBw4.out).mono ?_; rintro e w5 ⟨rfl, hB⟩; have HBw5 := Aside0.mk (below_later HBw4.out HBw4.out.size hB); obtain ⟨cPw5, cMw5, cModw5, cKw5, cPtsw5, cMulw5⟩ := HS.out.below HBw5.out; clear hB))
  go_ret
  exact ⟨rfl, below_later HB1.out HB1.out.size HBw5.out⟩

set_option maxHeartbeats 8000000 in
set_option maxRecDepth 100000 in
theorem lawSyndromes_good {w : World} {v : Value} {s : GD} (h : GArg w v s) {V : Option Addr} {cv : Nat} {u : List Int} (hu : Kd.C (Kd.int .i64) w V u.length u) (hn : (s.pts.length : Int) ≤ 20) (ho : s.open = 0) (hz : elemsZ (isR s.P s.M) u s.pts.length 4 = 0) (K : FD) (hf : s.fit K) (hD : s.D = K.D) (kn rn : Nat) (hk : s.K = kn) (hr : (s.pts.length : Int) - s.K = rn) :
    Calls Try.prog 8 #[v, .slice V u.length cv] w fun e w' => e = .returned (.bool true) ∧ Below w.heap.size w w' := by
  obtain ⟨A1, c1, A2, c2, A3, c3, rfl, g1, l1, g2, l2, g3, l3⟩ := h.out
  have hmx := Kd.C_max g2
  have hmu := Kd.C_max hu
  have hS0 := SAt.new w s A1 c1 A2 c2 A3 c3
  obtain ⟨w1, hw1⟩ : ∃ w1, w.alloc (.cells #[.int .i64 s.P, .int .i64 s.M, .slice A1 s.Mod.length c1, .int .i64 s.K, .slice A2 s.pts.length c2, .slice A3 s.mults.length c3] 29) = w1 := ⟨_, rfl⟩
  have hB1 : Below w.heap.size w w1 := by rw [← hw1]; exact below_alloc (Below.refl _ _) _
  rw [hw1] at hS0
  have HB1 := Aside0.mk hB1
  have HS := Aside0.mk hS0
  have HG := Aside0.mk (h.below hB1)
  have HMd := Aside0.mk (Kd.C_below g1 hB1)
  have HU := Aside0.mk (Kd.C_below hu hB1)
  have HW1 := Aside0.mk hw1
  have HChk := Aside0.mk (fun (w2 : World) (hb : Below w1.heap.size w1 w2) => refCheck_any (HG.out.below hb))
  have HEl := Aside0.mk (fun (w2 : World) (hb : Below w1.heap.size w1 w2) => refElements_any (A := A1) (n := s.Mod.length) (c := c1) (d := cv) s.P s.M (Kd.C_below HU.out hb) s.pts.length hmx 4)
  rw [checkR_open] at HChk
  clear g1 g2 g3 hu hS0 hB1 hw1
  have hb : decide ((s.pts.length : Int) > 20) = false := decide_eq_false (by omega)
  have he : wordZ K.D u s.pts.length [] = elemsZ (isR s.P s.M) u s.pts.length 4 := by rw [wordZ_nil, isR_D s ho, hD]
  have hw0 : wordZ K.D u s.pts.length [] = 0 := he.trans hz
  obtain ⟨hul, hua, -, -⟩ := wordZ_zero _ _ _ _ hw0
  have huj : ∀ j, K.D.is (u.getD j 0) = true := fun j => by
    by_cases hj : j < u.length
    · exact all_getD _ _ hua j hj
    · rw [FD.getD_ge (by omega)]; exact K.is_zero
  have hml := hf.ml
  have hp1 := hf.p1
  have hk0 := hf.k0
  have hrn : rn ≤ 64 := by omega
  obtain ⟨R, hR⟩ : ∃ R, rowsZ K.D s.pts (dualZ K.D s.pts s.mults) rn = R := ⟨_, rfl⟩
  have hRl : R.length = rn := by rw [← hR]; exact rowsZ_length _ _ _ _
  have hRr : ∀ i, i < rn → (R.getD i []).length = s.pts.length := fun i hi => by rw [← hR, rowsZ_getD _ _ _ _ _ hi]; exact encZ_len _ _ _ _ (dualZ_length _ _ _)
  obtain ⟨T, hT⟩ : ∃ T, syndZ K.D s u rn = T := ⟨_, rfl⟩
  have hTl : T.length = rn := by rw [← hT]; exact syndZ_length _ _ _ _
  have hTg : ∀ i, i < rn → T.getD i 0 = dotZ K.D (R.getD i []) u s.pts.length := fun i hi => by rw [← hT, ← hR]; exact syndZ_getD _ _ _ _ _ hi
  have hiff := K.synd_iff s.pts s.mults u kn hml hp1 (by omega) hf.pts hf.inj hf.mults ⟨hul, huj⟩
  have hwt : ((wtZ T T.length : Nat) : Int) == 0 ↔ ∃ m : List Int, m.length = kn ∧ m.all K.D.is = true ∧ encZ K.D s.pts s.mults m = u := by
    rw [← hiff, beq_iff_eq, show (((wtZ T T.length : Nat) : Int) = 0 ↔ wtZ T T.length = 0) from ⟨fun h => by omega, fun h => by omega⟩, wtZ_zero, hTl]
    have hrr : s.pts.length - kn = rn := by omega
    rw [hrr]
    refine forall_congr' fun j => forall_congr' fun hj => ?_
    rw [hTg j hj, ← hR, rowsZ_getD _ _ _ _ _ hj]
  have HSy := Aside0.mk (fun (w2 : World) (hb : Below w1.heap.size w1 w2) => syndromes_good (cv := cv) (HG.out.below hb) K hf ho hD rn hr (Kd.C_below HU.out hb) hw0)
  rw [hT] at HSy
  have HDu := Aside0.mk (fun (w2 : World) (hb : Below w1.heap.size w1 w2) => rDual (HG.out.below hb) K hf)
  have hdf := dual_fit s K hf
  have HRo := Aside0.mk (fun (w2 : World) (ud : Value) (hg : GArg w2 ud (s.dual K.D)) => rRows hg K hdf.over hdf.ml (by have := hdf.pl; omega) rn hr (by omega))
  rw [show rowsZ K.D (s.dual K.D).pts (s.dual K.D).mults rn = R from hR] at HRo
  have HWt := Aside0.mk (fun (w2 : World) (A : Option Addr) (c : Nat) (hc : Kd.C (Kd.int .i64) w2 A T.length T) => rWeight (c := c) hc)
  have HHs := Aside0.mk (fun (w2 : World) (hb : Below w1.heap.size w1 w2) => rHas (cv := cv) (HG.out.below hb) K hf.over hml hp1 hf.pl kn hk (by omega) (Kd.C_below HU.out hb) hul huj _ hwt)
  obtain ⟨wt, hwte⟩ : ∃ x : Int, ((wtZ T T.length : Nat) : Int) = x := ⟨_, rfl⟩
  rw [hwte] at HWt HHs
  obtain ⟨hP, hM, hMo⟩ := hf.over
  have HDt : Aside0 (∀ (w2 : World) (i : Nat) (A0 : Option Addr) (c0 : Nat), Below w1.heap.size w1 w2 → i < rn → Kd.C (Kd.int .i64) w2 A0 (R.getD i []).length (R.getD i []) → Calls Try.prog 28 #[.agg #[.int .i64 s.P, .int .i64 s.M, .slice A1 s.Mod.length c1], .slice A0 (R.getD i []).length c0, .slice V u.length cv] w2 fun e w' => e = .returned (.int .i64 (T.getD i 0)) ∧ Below w2.heap.size w2 w') := ⟨fun w2 i A0 c0 hb hi hc => by
    have h1 := hRr i hi
    have hU2 := Kd.C_below HU.out hb
    have hMd := Kd.C_below HMd.out hb
    rw [hul] at hU2
    rw [h1] at hc
    rw [h1, hul, hTg i hi, ← hP, ← hM]
    rw [← hMo] at hMd ⊢
    exact rDot (c := c1) K hMd h1 hul hc hU2⟩
  rw [ho] at HChk
  rw [hz] at HEl
  subst hRl
  have HTl := Aside0.mk hTl
  have hbl : ((T.length : Int) != (R.length : Int)) = false := by simp [hTl]
  have hpl := hf.pl
  clear h hn ho hz hf hD hk hr he hw0 hul hua huj hml hp1 hk0 hRr hR hT hTl hTg hiff hwt hdf hwte hP hM hMo
  go_enter Try.func8, Try.ntmps8
  go_upto_region 1 with (fail)
  rw [HW1.out]
  go_upto_region 14 with (first
    | (go_at_call 11; refine (alive_any _).mono ?_; rintro e w2 ⟨rfl, hB⟩; have HBw2 := Aside0.mk (hB); obtain ⟨cPw2, cMw2, cModw2, cKw2, cPtsw2, cMulw2⟩ := HS.out.below HBw2.out; clear hB)
    | (go_at_call 25; (with_reducible refine Calls.mono (HSy.out _ HBw2.out) ?_); rintro e w3 ⟨vo, rfl, hO, hB⟩; obtain ⟨AL, cL, rfl, -, hCL⟩ := hO.slice; have HCL := Aside0.mk hCL; have HBw3 := Aside0.mk (below_later HBw2.out HBw2.out.size hB); obtain ⟨cPw3, cMw3, cModw3, cKw3, cPtsw3, cMulw3⟩ := HS.out.below HBw3.out; clear hB hO hCL)
    | (go_at_call 16; refine (HChk.out _ HBw3.out).mono ?_; rintro e w4 ⟨rfl, hB⟩; have HBw4 := Aside0.mk (below_later HBw3.out HBw3.out.size hB); obtain ⟨cPw4, cMw4, cModw4, cKw4, cPtsw4, cMulw4⟩ := HS.out.below HBw4.out; have HCL4 := Aside0.mk (Kd.C_below HCL.out hB); clear hB)
    | (go_at_call 19; refine (HEl.out _ HBw4.out).mono ?_; rintro e w5 ⟨rfl, hB⟩; have HBw5 := Aside0.mk (below_later HBw4.out HBw4.out.size hB); obtain ⟨cPw5, cMw5, cModw5, cKw5, cPtsw5, cMulw5⟩ := HS.out.below HBw5.out; have HCL5 := Aside0.mk (Kd.C_below HCL4.out hB); clear hB)
    | (go_at_call 27; (with_reducible refine Calls.mono (HDu.out _ HBw5.out) ?_); rintro e w6 ⟨ud, rfl, hGd, hB⟩; have HGd := Aside0.mk hGd; have HBw6 := Aside0.mk (below_later HBw5.out HBw5.out.size hB); have HCL6 := Aside0.mk (Kd.C_below HCL5.out hB); obtain ⟨cPw6, cMw6, cModw6, cKw6, cPtsw6, cMulw6⟩ := HS.out.below HBw6.out; clear hGd hB)
    | (go_at_call 26; (with_reducible refine Calls.mono (HRo.out _ _ HGd.out) ?_); rintro e w7 ⟨ur, rfl, hN, hB⟩; obtain ⟨AR, cR, rfl, -, hCN⟩ := hN.slice; have HCN := Aside0.mk hCN; have HBw7 := Aside0.mk (below_later HBw6.out HBw6.out.size hB); have HCL7 := Aside0.mk (Kd.C_below HCL6.out hB); obtain ⟨cPw7, cMw7, cModw7, cKw7, cPtsw7, cMulw7⟩ := HS.out.below HBw7.out; clear hN hB hCN))
  have HBz := Aside0.mk (Below.refl w7.heap.size w7)
  clear cPw2 cMw2 cModw2 cKw2 cPtsw2 cMulw2 cPw3 cMw3 cModw3 cKw3 cPtsw3 cMulw3 cPw4 cMw4 cModw4 cKw4 cPtsw4 cMulw4 cPw5 cMw5 cModw5 cKw5 cPtsw5 cMulw5 cPw6 cMw6 cModw6 cKw6 cPtsw6 cMulw6 cPw7 cMw7 cModw7 cKw7 cPtsw7 cMulw7 hbl
  go_upto_region 15 with (fail)
  go_loopw [57] (fun v57 w' => ∃ k : Nat, v57 = .int .i64 k ∧ k ≤ R.length ∧ Aside0 (Below w7.heap.size w7 w')) (fun v57 _ => R.length - (intOf v57).toNat)
  case atStart => exact ⟨0, rfl, by omega, HBz⟩
  case round =>
    clear HBz
    obtain ⟨k, rfl, hk, HB⟩ := hrel
    have HBr := Aside0.mk (below_later HBw7.out HBw7.out.size HB.out)
    obtain ⟨cP, cM, cD, cK, cS, cU⟩ := HS.out.below HBr.out
    by_cases hlk : k < R.length
    · obtain ⟨ad, A0, c0, e, hx, hx2, hx3⟩ := rows_at (Kd.C_below HCN.out HB.out) k hlk
      cases e
      obtain ⟨ad2, e, hy⟩ := C_nat (Kd.C_below HCL7.out HB.out) k (by have := HTl.out; omega)
      cases e
      have HD1 := Aside0.mk (fun (w2 : World) (hb : Below wr.heap.size wr w2) => HDt.out w2 k A0 c0 (below_later HBr.out HBr.out.size hb) hlk (Kd.C_below hx3 hb))
      obtain ⟨z, hz⟩ : ∃ z, T.getD k 0 = z := ⟨_, rfl⟩
      obtain ⟨r, hr⟩ : ∃ r, R.getD k [] = r := ⟨_, rfl⟩
      rw [hz] at hy
      rw [hr] at hx
      simp only [hz, hr] at HD1
      have hcP : ∀ j : Ext wr, j.wd.cell? ⟨w.heap.size, 0, none⟩ = some (.int .i64 s.P) := fun j => j.cell cP
      have hcM : ∀ j : Ext wr, j.wd.cell? ⟨w.heap.size, 1, none⟩ = some (.int .i64 s.M) := fun j => j.cell cM
      have hcD : ∀ j : Ext wr, j.wd.cell? ⟨w.heap.size, 2, none⟩ = some (.slice A1 s.Mod.length c1) := fun j => j.cell cD
      have hcx : ∀ j : Ext wr, j.wd.cell? (ad.add k) = some (.slice A0 r.length c0) := fun j => j.cell hx
      have hcy : ∀ j : Ext wr, j.wd.cell? (ad2.add k) = some (.int .i64 z) := fun j => j.cell hy
      have i0 : (0 : Int) ≤ (k : Int) := by omega
      have i1 : (k : Int) < (R.length : Int) := by omega
      have i2 : (k : Int) < (T.length : Int) := by have := HTl.out; omega
      clear hz hr hx2 hx3 hx hy cP cM cD cK cS cU
      go_upto_region 17 with (fail)
      refine wp_region_ext (by kernel_rfl) (by kernel_rfl) ?_
      repeat (go_big_quiet_step ((go_at_call 28; with_reducible exact Ext.call _ (HD1.out _ (Ext.below _)))))
      refine wpQuiet_nil ?_
      intro w8 hB8
      have HB8 := Aside0.mk (below_later HB.out HB.out.size hB8)
      clear hcP hcM hcD hcx hcy hB8
      go_wp2
      go_roundw
      case rel => exact ⟨k + 1, by go_num, by omega, HB8⟩
      case measure => simp [intOf]; omega
    · obtain rfl : k = R.length := by omega
      have HWr := Aside0.mk (fun (w2 : World) (hb : Below wr.heap.size wr w2) => HWt.out w2 _ cL (Kd.C_below (Kd.C_below HCL7.out HB.out) hb))
      have HHr := Aside0.mk (fun (w2 : World) (hb : Below wr.heap.size wr w2) => HHs.out w2 (below_later HBr.out HBr.out.size hb))
      have hcP : ∀ j : Ext wr, j.wd.cell? ⟨w.heap.size, 0, none⟩ = some (.int .i64 s.P) := fun j => j.cell cP
      have hcM : ∀ j : Ext wr, j.wd.cell? ⟨w.heap.size, 1, none⟩ = some (.int .i64 s.M) := fun j => j.cell cM
      have hcD : ∀ j : Ext wr, j.wd.cell? ⟨w.heap.size, 2, none⟩ = some (.slice A1 s.Mod.length c1) := fun j => j.cell cD
      have hcK : ∀ j : Ext wr, j.wd.cell? ⟨w.heap.size, 3, none⟩ = some (.int .i64 s.K) := fun j => j.cell cK
      have hcS : ∀ j : Ext wr, j.wd.cell? ⟨w.heap.size, 4, none⟩ = some (.slice A2 s.pts.length c2) := fun j => j.cell cS
      have hcU : ∀ j : Ext wr, j.wd.cell? ⟨w.heap.size, 5, none⟩ = some (.slice A3 s.mults.length c3) := fun j => j.cell cU
      clear cP cM cD cK cS cU
      go_upto_region 20 with (fail)
      refine wp_region_ext (by kernel_rfl) (by kernel_rfl) ?_
      repeat (go_big_quiet_step (first | (go_at_call 29; with_reducible exact Ext.call _ (HWr.out _ (Ext.below _))) | (go_at_call 20; with_reducible exact Ext.call _ (HHr.out _ (Ext.below _)))))
      refine wpQuiet_nil ?_
      intro w8 hB8
      have HB8 := Aside0.mk (below_later HBr.out HBr.out.size hB8)
      clear hcP hcM hcD hcK hcS hcU hB8
      go_wp2
      go_ret
      exact ⟨rfl, below_later HB1.out HB1.out.size HB8.out⟩

theorem lawSyndromes_row {w : World} {v : Value} {s : GD} (h : GArg w v s) {V : Option Addr} {cv : Nat} {u : List Int} (hu : Kd.C (Kd.int .i64) w V u.length u) :
    Calls Try.prog 8 #[v, .slice V u.length cv] w fun e w' => e = .returned (.bool true) ∧ Below w.heap.size w w' := by
  by_cases hn : (s.pts.length : Int) ≤ 20
  · by_cases ho : s.open = 0
    · by_cases hz : elemsZ (isR s.P s.M) u s.pts.length 4 = 0
      · obtain ⟨K, hf, hD⟩ := fit_of_open s ho
        obtain ⟨kn, hk⟩ := Int.eq_ofNat_of_zero_le hf.k0
        obtain ⟨rn, hr⟩ := Int.eq_ofNat_of_zero_le (show (0 : Int) ≤ (s.pts.length : Int) - s.K by have := hf.k1; omega)
        exact lawSyndromes_good h hu hn ho hz K hf hD kn rn hk hr
      · exact lawSyndromes_bad2 h hu hn ho hz
    · exact lawSyndromes_bad1 h hu hn ho
  · exact lawSyndromes_no h hu (by omega)
end Go.Proofs.Yticgblagimmlfaa
