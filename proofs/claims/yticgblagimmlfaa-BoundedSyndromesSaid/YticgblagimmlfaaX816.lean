/- Parts of the proof: P7, WFootNe, R8 (those that begin with W: words that print.sh wrote, shortened to what this claim uses). -/
import Derived.Test.YticgblagimmlfaaX815
import Derived.Test.YticgblagimmlfaaX802
import Derived.Test.YticgblagimmlfaaX812
import Derived.Test.YticgblagimmlfaaX806
import Derived.Test.YticgblagimmlfaaX807
section
/- The program: Syndromes. -/
namespace Go.Proofs.Yticgblagimmlfaa
open Go.RowKit Go.Proofs.YticgblagimmlfaaW.PrintWords Go.Proofs.YticgblagimmlfaaW.PrintLast Go.Proofs.YticgblagimmlfaaW.PrintMore
set_option linter.unusedVariables false
set_option linter.unusedSimpArgs false

/-- The syndromes of a word. -/
def syndZ (D : GFD) (s : GD) (u : List Int) (rn : Nat) : List Int := (List.range rn).map fun j => dotZ D ((rowsZ D s.pts (dualZ D s.pts s.mults) rn).getD j []) u s.pts.length
theorem syndZ_length (D : GFD) (s : GD) (u : List Int) (rn : Nat) : (syndZ D s u rn).length = rn := by simp [syndZ]
theorem syndZ_getD (D : GFD) (s : GD) (u : List Int) (rn j : Nat) (h : j < rn) : (syndZ D s u rn).getD j 0 = dotZ D ((rowsZ D s.pts (dualZ D s.pts s.mults) rn).getD j []) u s.pts.length := range_map_getD _ _ _ h

set_option maxHeartbeats 8000000 in
set_option maxRecDepth 100000 in
theorem syndromes_bad1 {w : World} {v : Value} {s : GD} (h : GArg w v s) (ho : s.open ≠ 0) {V : Option Addr} {cv : Nat} {u : List Int} (hu : Kd.C (Kd.int .i64) w V u.length u) :
    Calls Try.prog 25 #[v, .slice V u.length cv] w fun e w' => e = .returned (.tuple #[.slice none 0 0, .int .i64 s.open]) ∧ Below w.heap.size w w' := by
  obtain ⟨A1, c1, A2, c2, A3, c3, rfl, g1, l1, -⟩ := h.out
  have hmu := Kd.C_max hu
  have hS0 := SAt.new w s A1 c1 A2 c2 A3 c3
  obtain ⟨w0, hw0⟩ : ∃ w0, w.alloc (.cells #[.int .i64 s.P, .int .i64 s.M, .slice A1 s.Mod.length c1, .int .i64 s.K, .slice A2 s.pts.length c2, .slice A3 s.mults.length c3] 29) = w0 := ⟨_, rfl⟩
  have hB0 : Below w.heap.size w w0 := by rw [← hw0]; exact below_alloc (Below.refl _ _) _
  rw [hw0] at hS0
  have HB0 := Aside0.mk hB0
  have HS := Aside0.mk hS0
  have HW0 := Aside0.mk hw0
  have HU := Aside0.mk (Kd.C_below hu hB0)
  have HMd := Aside0.mk (Kd.C_below g1 hB0)
  have HDu := Aside0.mk (dual_bad (h.below hB0) ho)
  obtain ⟨op, hop⟩ : ∃ op, s.open = op := ⟨_, rfl⟩
  rw [hop] at HDu ho ⊢
  have hb : (op != 0) = true := by simp [ho]
  obtain ⟨cP, cM, cD, cK, cS, cU⟩ := HS.out
  clear h hu g1 hS0 hB0 hw0 hop ho
  go_enter Try.func25, Try.ntmps25
  go_upto_region 1 with (fail)
  rw [HW0.out]
  go_wp2_with (go_at_call 49; (with_reducible refine Calls.mono HDu.out ?_); rintro e w2 ⟨rfl, hB⟩; have HB2 := Aside0.mk hB; clear hB)
  go_ret2
  exact ⟨rfl, below_alloc (below_later HB0.out HB0.out.size HB2.out) _⟩

set_option maxHeartbeats 8000000 in
set_option maxRecDepth 100000 in
theorem syndromes_bad2 {w : World} {v : Value} {s : GD} (h : GArg w v s) (K : FD) (hf : s.fit K) (ho : s.open = 0) (hD : s.D = K.D) {V : Option Addr} {cv : Nat} {u : List Int} (hu : Kd.C (Kd.int .i64) w V u.length u) (hz : wordZ K.D u s.pts.length [] ≠ 0) :
    Calls Try.prog 25 #[v, .slice V u.length cv] w fun e w' => e = .returned (.tuple #[.slice none 0 0, .int .i64 (wordZ K.D u s.pts.length [])]) ∧ Below w.heap.size w w' := by
  obtain ⟨A1, c1, A2, c2, A3, c3, rfl, g1, l1, -⟩ := h.out
  have hmu := Kd.C_max hu
  have hS0 := SAt.new w s A1 c1 A2 c2 A3 c3
  obtain ⟨w0, hw0⟩ : ∃ w0, w.alloc (.cells #[.int .i64 s.P, .int .i64 s.M, .slice A1 s.Mod.length c1, .int .i64 s.K, .slice A2 s.pts.length c2, .slice A3 s.mults.length c3] 29) = w0 := ⟨_, rfl⟩
  have hB0 : Below w.heap.size w w0 := by rw [← hw0]; exact below_alloc (Below.refl _ _) _
  rw [hw0] at hS0
  have HB0 := Aside0.mk hB0
  have HS := Aside0.mk hS0
  have HW0 := Aside0.mk hw0
  have HU := Aside0.mk (Kd.C_below hu hB0)
  have HMd := Aside0.mk (Kd.C_below g1 hB0)
  have hfo := (open_factsP s ho).1
  have HDu := Aside0.mk (dual_good (h.below hB0) K hf ho hD)
  have HNw := Aside0.mk (fun (w2 : World) (hb : Below w0.heap.size w0 w2) => new_goodM (c := c1) s (Kd.C_below HMd.out hb) hfo)
  rw [hD] at HNw
  have hpl := hf.pl
  have HWd := Aside0.mk (fun (w2 : World) (g : Nat) (hg : GFat w2 g K.D) (hb : Below w0.heap.size w0 w2) => word_any (er := []) (d := 0) (c := cv) hg s.pts.length (by omega) (Kd.C_below HU.out hb) (Kd.C_nil _ _))
  obtain ⟨wz, hwz⟩ : ∃ z, wordZ K.D u s.pts.length [] = z := ⟨_, rfl⟩
  rw [hwz] at HWd hz ⊢
  have hb : (wz != 0) = true := by simp [hz]
  obtain ⟨cP, cM, cD, cK, cS, cU⟩ := HS.out
  clear h hu g1 hS0 hB0 hw0 hf ho hD hfo hwz hz
  go_enter Try.func25, Try.ntmps25
  go_upto_region 1 with (fail)
  rw [HW0.out]
  go_wp2_with (first
    | (go_at_call 49; (with_reducible refine Calls.mono HDu.out ?_); rintro e w2 ⟨du, rfl, hGd, hB⟩; obtain ⟨B1, d1, B2, d2, B3, d3, rfl, k1, k2, k3, k4, k5, k6⟩ := hGd.out; have HGd := Aside0.mk hGd; have HB2 := Aside0.mk hB; have hba := below_alloc (Below.refl w2.heap.size w2) (.cells #[.int .i64 (s.dual K.D).P, .int .i64 (s.dual K.D).M, .slice B1 (s.dual K.D).Mod.length d1, .int .i64 (s.dual K.D).K, .slice B2 (s.dual K.D).pts.length d2, .slice B3 (s.dual K.D).mults.length d3] 29); have HB3 := Aside0.mk (below_later HB2.out HB2.out.size hba); have HD3 := Aside0.mk (SAt.new w2 (s.dual K.D) B1 d1 B2 d2 B3 d3); have HGd3 := Aside0.mk (HGd.out.below hba); obtain ⟨cP3, cM3, cD3, cK3, cS3, cU3⟩ := HS.out.below HB3.out; clear hB hGd hba k1 k2 k3 k4 k5 k6)
    | (go_at_call 37; (with_reducible refine Calls.mono (HNw.out _ HB3.out) ?_); rintro e w4 ⟨g, rfl, hgf, hgb, hB⟩; have HB4 := Aside0.mk (below_later HB3.out HB3.out.size hB); have HG4 := Aside0.mk hgf; have HD4 := Aside0.mk (HD3.out.below hB); have HGd4 := Aside0.mk (HGd3.out.below hB); obtain ⟨cP4, cM4, cD4, cK4, cS4, cU4⟩ := HS.out.below HB4.out; clear hB hgf hgb)
    | (go_at_call 38; (with_reducible refine Calls.mono (HWd.out _ _ HG4.out HB4.out) ?_); rintro e w5 ⟨rfl, hB⟩; have HB5 := Aside0.mk (below_later HB4.out HB4.out.size hB); have HG5 := Aside0.mk (HG4.out.below hB); have HD5 := Aside0.mk (HD4.out.below hB); have HGd5 := Aside0.mk (HGd4.out.below hB); obtain ⟨dP5, dM5, dD5, dK5, dS5, dU5⟩ := HD5.out; clear hB))
  go_ret2
  exact ⟨rfl, below_later HB0.out HB0.out.size HB5.out⟩

set_option maxHeartbeats 8000000 in
set_option maxRecDepth 100000 in
theorem syndromes_good {w : World} {v : Value} {s : GD} (h : GArg w v s) (K : FD) (hf : s.fit K) (ho : s.open = 0) (hD : s.D = K.D) (rn : Nat) (hr : (s.pts.length : Int) - s.K = rn) {V : Option Addr} {cv : Nat} {u : List Int} (hu : Kd.C (Kd.int .i64) w V u.length u) (hz : wordZ K.D u s.pts.length [] = 0) :
    Calls Try.prog 25 #[v, .slice V u.length cv] w fun e w' => ∃ vo, e = .returned (.tuple #[vo, .int .i64 0]) ∧ Own w' w.heap.size vo (syndZ K.D s u rn) ∧ Below w.heap.size w w' := by
  obtain ⟨A1, c1, A2, c2, A3, c3, rfl, g1, l1, -⟩ := h.out
  have hmu := Kd.C_max hu
  have hS0 := SAt.new w s A1 c1 A2 c2 A3 c3
  obtain ⟨w0, hw0⟩ : ∃ w0, w.alloc (.cells #[.int .i64 s.P, .int .i64 s.M, .slice A1 s.Mod.length c1, .int .i64 s.K, .slice A2 s.pts.length c2, .slice A3 s.mults.length c3] 29) = w0 := ⟨_, rfl⟩
  have hB0 : Below w.heap.size w w0 := by rw [← hw0]; exact below_alloc (Below.refl _ _) _
  rw [hw0] at hS0
  have HB0 := Aside0.mk hB0
  have HS := Aside0.mk hS0
  have HW0 := Aside0.mk hw0
  have HU := Aside0.mk (Kd.C_below hu hB0)
  have HMd := Aside0.mk (Kd.C_below g1 hB0)
  have hdo := dual_open s K hf ho hD
  have hdf := dual_fit s K hf
  have hfo := (open_factsP s ho).1
  have HDu := Aside0.mk (dual_good (h.below hB0) K hf ho hD)
  have HNw := Aside0.mk (fun (w2 : World) (hb : Below w0.heap.size w0 w2) => new_goodM (c := c1) s (Kd.C_below HMd.out hb) hfo)
  rw [hD] at HNw
  have hpl := hf.pl
  have HWd := Aside0.mk (fun (w2 : World) (g : Nat) (hg : GFat w2 g K.D) (hb : Below w0.heap.size w0 w2) => word_any (er := []) (d := 0) (c := cv) hg s.pts.length (by omega) (Kd.C_below HU.out hb) (Kd.C_nil _ _))
  obtain ⟨wz, hwz⟩ : ∃ z, wordZ K.D u s.pts.length [] = z := ⟨_, rfl⟩
  rw [hwz] at HWd hz
  subst hz
  have HGe := Aside0.mk (fun (w2 : World) (du : Value) (hd : GArg w2 du (s.dual K.D)) => Generator_any hd K hdf hdo hD rn hr)
  have hrn : rn ≤ 64 := by have := hf.k0; omega
  have hul : u.length = s.pts.length := (wordZ_zero _ _ _ _ hwz).1
  obtain ⟨R, hR⟩ : ∃ R, rowsZ K.D (s.dual K.D).pts (s.dual K.D).mults rn = R := ⟨_, rfl⟩
  have hRl : R.length = rn := by rw [← hR]; exact rowsZ_length _ _ _ _
  have hRr : ∀ i, i < rn → (R.getD i []).length = s.pts.length := fun i hi => by rw [← hR, rowsZ_getD _ _ _ _ _ hi]; exact encZ_len _ _ _ _ (dualZ_length _ _ _)
  obtain ⟨T, hT⟩ : ∃ T, syndZ K.D s u rn = T := ⟨_, rfl⟩
  have hTl : T.length = rn := by rw [← hT]; exact syndZ_length _ _ _ _
  have hTg : ∀ i, i < rn → T.getD i 0 = dotZ K.D (R.getD i []) u s.pts.length := fun i hi => by rw [← hT, ← hR]; exact syndZ_getD _ _ _ _ _ hi
  rw [hR] at HGe
  rw [hT]
  obtain ⟨Z, hZ⟩ : ∃ Z : List Int, List.replicate rn 0 = Z := ⟨_, rfl⟩
  have hZl : Z.length = rn := by rw [← hZ]; exact List.length_replicate
  obtain ⟨F, hF⟩ : ∃ F : Int → Int → Int, (fun _ c => c) = F := ⟨_, rfl⟩
  have hconst : updZ F Z T = T := by rw [← hF]; exact updZ_const Z T (by rw [hZl, hTl])
  have HTl := Aside0.mk hTl
  have HTg := Aside0.mk hTg
  have HZ := Aside0.mk hZ
  have HZl := Aside0.mk hZl
  have HFe := Aside0.mk hF
  have HCo := Aside0.mk hconst
  subst hRl
  have HRr := Aside0.mk hRr
  have HUl := Aside0.mk hul
  have hok := K.ok

  obtain ⟨cP, cM, cD, cK, cS, cU⟩ := HS.out
  clear h hu g1 hS0 hB0 hw0 hf ho hD hfo hwz hdo hdf hr hul hR hRr hT hTl hTg hZ hZl hF hconst
  go_enter Try.func25, Try.ntmps25
  go_upto_region 1 with (fail)
  rw [HW0.out]
  go_upto_region 8 with (first
    | (go_at_call 49; (with_reducible refine Calls.mono HDu.out ?_); rintro e w2 ⟨du, rfl, hGd, hB⟩; obtain ⟨B1, d1, B2, d2, B3, d3, rfl, k1, k2, k3, k4, k5, k6⟩ := hGd.out; have HGd := Aside0.mk hGd; have HB2 := Aside0.mk hB; have hba := below_alloc (Below.refl w2.heap.size w2) (.cells #[.int .i64 (s.dual K.D).P, .int .i64 (s.dual K.D).M, .slice B1 (s.dual K.D).Mod.length d1, .int .i64 (s.dual K.D).K, .slice B2 (s.dual K.D).pts.length d2, .slice B3 (s.dual K.D).mults.length d3] 29); have HB3 := Aside0.mk (below_later HB2.out HB2.out.size hba); have HD3 := Aside0.mk (SAt.new w2 (s.dual K.D) B1 d1 B2 d2 B3 d3); have HGd3 := Aside0.mk (HGd.out.below hba); obtain ⟨cP3, cM3, cD3, cK3, cS3, cU3⟩ := HS.out.below HB3.out; clear hB hGd hba k1 k2 k3 k4 k5 k6)
    | (go_at_call 37; (with_reducible refine Calls.mono (HNw.out _ HB3.out) ?_); rintro e w4 ⟨g, rfl, hgf, hgb, hB⟩; have HB4 := Aside0.mk (below_later HB3.out HB3.out.size hB); have HG4 := Aside0.mk hgf; have HD4 := Aside0.mk (HD3.out.below hB); have HGd4 := Aside0.mk (HGd3.out.below hB); obtain ⟨cP4, cM4, cD4, cK4, cS4, cU4⟩ := HS.out.below HB4.out; clear hB hgf hgb)
    | (go_at_call 38; (with_reducible refine Calls.mono (HWd.out _ _ HG4.out HB4.out) ?_); rintro e w5 ⟨rfl, hB⟩; have HB5 := Aside0.mk (below_later HB4.out HB4.out.size hB); have HG5 := Aside0.mk (HG4.out.below hB); have HD5 := Aside0.mk (HD4.out.below hB); have HGd5 := Aside0.mk (HGd4.out.below hB); obtain ⟨dP5, dM5, dD5, dK5, dS5, dU5⟩ := HD5.out; clear hB))
  go_upto_region 9 with (go_at_call 50; (with_reducible refine Calls.mono (HGe.out _ _ HGd5.out) ?_); rintro e w6 ⟨ur, rfl, hN, hB⟩; obtain ⟨AR, cR, rfl, -, hCN⟩ := hN.slice; have HNr := Aside0.mk hCN; have HB6 := Aside0.mk (below_later HB5.out HB5.out.size hB); have HG6 := Aside0.mk (HG5.out.below hB); clear hN hB hCN)
  obtain ⟨w7, hw7⟩ : ∃ w7, w6.alloc (.cells #[.int .i64 ((s.dual K.D).pts.length : Int), .slice AR R.length cR] 85) = w7 := ⟨_, rfl⟩
  have hB7 : Below w6.heap.size w6 w7 := by rw [← hw7]; exact below_alloc (Below.refl _ _) _
  have hc7 : w7.cell? ⟨w6.heap.size, 1, none⟩ = some (.slice AR R.length cR) := by rw [← hw7]; exact cell_alloc2_1 _ _ _ _
  have HW7 := Aside0.mk hw7
  have HB7 := Aside0.mk (below_later HB6.out HB6.out.size hB7)
  have HG7 := Aside0.mk (HG6.out.below hB7)
  have HNr7 := Aside0.mk (Kd.C_below HNr.out hB7)
  rw [HW7.out]
  clear hw7 hB7 dP5 dM5 dD5 dK5 dS5 dU5
  clear cP3 cM3 cD3 cK3 cS3 cU3 cP4 cM4 cD4 cK4 cS4 cU4 cP cM cD cK cS cU
  go_upto_region 10 with ((with_reducible refine gate_dst (N := 47) rfl ?_); refine make_own (n := R.length) rfl (N := 47) rfl _ _ rfl rfl rfl (by omega) ?_; intro v8 w8 hO hB; rw [HZ.out] at hO; have HO1 := Aside0.mk hO; have HB8 := Aside0.mk hB; clear hO hB)
  obtain ⟨A4, c4, e4, -, -⟩ := HO1.out.slice
  rw [HZl.out] at e4
  subst e4
  have hc8 := pw_cell_below HB8.out hc7
  go_upto_region 11 with (fail)
  have H0 : Aside0 (Own w8 w7.heap.size (.slice A4 R.length c4) (updZ F Z (T.take 0))) := ⟨by simpa [updZ_nil] using HO1.out⟩
  clear HO1 hc7 hc8
  go_loopw [51] (fun v51 w' => ∃ k : Nat, v51 = .int .i64 k ∧ k ≤ R.length ∧ Aside0 (Own w' w7.heap.size (.slice A4 R.length c4) (updZ F Z (T.take k))) ∧ Aside0 (Below w7.heap.size w7 w')) (fun v51 _ => R.length - (intOf v51).toNat)
  case atStart => exact ⟨0, rfl, by omega, H0, HB8⟩
  case round =>
    clear H0 HB8
    obtain ⟨k, rfl, hk, HO, HB⟩ := hrel
    have hlen : (updZ F Z (T.take k)).length = R.length := by rw [updZ_length]; exact HZl.out
    by_cases hlk : k < R.length
    · obtain ⟨ad, A0, c0, e, hx, hx2, hx3⟩ := rows_at (Kd.C_below HNr7.out HB.out) k hlk
      cases e
      have hrl := HRr.out k hlk
      have hg := HTg.out k hlk
      have hstep := updZ_set F 0 k Z T (by rw [HTl.out]; exact hlk) (by rw [HZl.out]; exact hlk)
      rw [show F (Z.getD k 0) (T.getD k 0) = T.getD k 0 from by rw [← HFe.out]] at hstep
      obtain ⟨r, hr'⟩ : ∃ r, R.getD k [] = r := ⟨_, rfl⟩
      rw [hr'] at hx hx2 hx3 hrl hg
      rw [hrl] at hx hx3
      have HDt : Aside0 (Calls Try.prog 51 #[.pointer (some ⟨g, 0, none⟩), .slice A0 s.pts.length c0, .slice V u.length cv] wr fun e w' => e = .returned (.int .i64 (T.getD k 0)) ∧ Drawn0 wr w') := ⟨by
        rw [hg, HUl.out]
        have hU2 := Kd.C_below HU.out (below_later HB7.out HB7.out.size HB.out)
        rw [HUl.out] at hU2
        exact gfdot_any (HG7.out.below HB.out) hok hrl HUl.out hx3 hU2⟩
      obtain ⟨z, hz'⟩ : ∃ z, T.getD k 0 = z := ⟨_, rfl⟩
      rw [hz'] at HDt hstep
      obtain ⟨g4, cap, e, h11, h12⟩ := HO.out.form (by rw [hlen]; omega)
      rw [hlen] at e
      cases e
      obtain ⟨hcl, hfz⟩ := HO.out.cell' hlen.symm k hlk
      have hO3 := HO.out.set hlen.symm k z
      rw [hstep] at hO3
      have HO3 := Aside0.mk hO3
      have i0 : (0 : Int) ≤ (k : Int) := by omega
      have i1 : (k : Int) < (R.length : Int) := by omega
      clear hrl hg hstep hr' hx2 hx3 hz' hO3 hlen
      go_wp2_with (go_at_call 51; (with_reducible refine Calls.mono HDt.out ?_); rintro e w9 ⟨rfl, ⟨nq, rfl⟩⟩)
      go_roundw
      case rel => exact ⟨k + 1, by go_num, by omega, ⟨HO3.out.drewN nq⟩, ⟨(pw_below_drewN HB.out nq).setCell (p := ⟨g4, k, none⟩) h11 _⟩⟩
      case measure => simp [intOf]; omega
    · obtain rfl : k = R.length := by omega
      rw [← HTl.out, List.take_length, HCo.out] at HO
      clear hlen
      go_wp2
      go_ret2
      rw [HTl.out] at HO
      exact ⟨_, rfl, HO.out.lower (by have := HB0.out.size; have := HB7.out.size; omega), below_later HB0.out HB0.out.size (below_later HB7.out HB7.out.size HB.out)⟩
end Go.Proofs.Yticgblagimmlfaa
end
section
/-! ### 52. A row that stays read whatever happens to a block (a set of blocks) doesn't lie there -/
namespace Go.Proofs.YticgblagimmlfaaW.PrintWords
open Go.RowKit
namespace Kd
section
variable {α : Type} {d : Kd α} {W : World} {g n : Nat} {S ok : Nat → Prop} {A : Option Addr} {ad : Addr} {xs : List α}
/-- What is read with its footprint lies in it. -/
theorem F_in (h : F d W ok A n xs) {ad : Addr} (hA : A = some ad) (hn : 0 < n) (hs : 0 < d.sz) : ok ad.block := by
  subst hA
  have hl := F_len h
  cases xs with
  | nil => simp at hl; omega
  | cons x r =>
    obtain ⟨ad', c, he, _, _, _, hin⟩ := F_get h x 0 (by omega) (by omega)
    injection he with he
    subst he
    exact hin hs
end
end Kd
end Go.Proofs.YticgblagimmlfaaW.PrintWords
end
section
/- Rows in memory that are written. -/
namespace Go.Proofs.Yticgblagimmlfaa
open Go.RowKit Go.Proofs.YticgblagimmlfaaW.PrintWords Go.Proofs.YticgblagimmlfaaW.PrintLast Go.Proofs.YticgblagimmlfaaW.PrintMore
set_option linter.unusedVariables false
set_option linter.unusedSimpArgs false

structure OA (w : World) (base : Nat) (A : Option Addr) (ls : List (List Int)) : Prop where mk ::
  out : ∀ i, i < ls.length → ∃ g v, A = some ⟨g, 0, none⟩ ∧ base ≤ g ∧ w.cell? ⟨g, i, none⟩ = some v ∧ w.frozen? ⟨g, i, none⟩ = false ∧ Rd w v (ls.getD i [])
  inb : ∀ i, i < ls.length → ∀ g v k, A = some ⟨g, 0, none⟩ → w.cell? ⟨g, i, none⟩ = some v → 0 < (ls.getD i []).length → v.ownBlock = some k → base ≤ k
  blk : ∀ g, A = some ⟨g, 0, none⟩ → 0 < ls.length → ∃ cs, w.heap[g]? = some (.cells cs 25 (0, 0))
theorem OA.at {w : World} {base : Nat} {A : Option Addr} {ls : List (List Int)} (h : OA w base A ls) (i : Nat) (hi : i < ls.length) :
    ∃ g B d, A = some ⟨g, 0, none⟩ ∧ base ≤ g ∧ w.cell? ⟨g, i, none⟩ = some (.slice B (ls.getD i []).length d) ∧ w.frozen? ⟨g, i, none⟩ = false ∧ (ls.getD i []).length ≤ d ∧ Kd.C (Kd.int .i64) w B (ls.getD i []).length (ls.getD i []) := by
  obtain ⟨g, v, e, hb, hc, hf, hr⟩ := h.out i hi
  obtain ⟨B, d, rfl, hl, hC⟩ := hr.out
  exact ⟨g, B, d, e, hb, hc, hf, hl, hC⟩
theorem OA.lower {w : World} {base b2 : Nat} {A : Option Addr} {ls : List (List Int)} (h : OA w base A ls) (hb : b2 ≤ base) : OA w b2 A ls :=
  ⟨fun i hi => by obtain ⟨g, v, e, hb', hr⟩ := h.out i hi; exact ⟨g, v, e, Nat.le_trans hb hb', hr⟩, fun i hi g v k e hc h0 hk => Nat.le_trans hb (h.inb i hi g v k e hc h0 hk), h.blk⟩
theorem OA.below {w w1 : World} {base : Nat} {A : Option Addr} {ls : List (List Int)} (h : OA w base A ls) (hb : Below w.heap.size w w1) : OA w1 base A ls :=
  ⟨fun i hi => by
    obtain ⟨g, v, e, hb', hc, hf, hr⟩ := h.out i hi
    exact ⟨g, v, e, hb', pw_cell_below hb hc, (hb.frozen (World.block_lt_of_cell? w _ hc)).trans hf, hr.below hb⟩,
  fun i hi g v k e hc h0 hk => by
    obtain ⟨g', v', e', -, hc', -, -⟩ := h.out i hi
    rw [e] at e'
    cases e'
    have := pw_cell_below hb hc'
    rw [hc] at this
    cases this
    exact h.inb i hi g v k e hc' h0 hk,
  fun g e hp => by obtain ⟨cs, hc⟩ := h.blk g e hp; exact ⟨cs, blk_below hc hb⟩⟩
theorem OA.set {w : World} {base g k : Nat} {ls : List (List Int)} (h : OA w base (some ⟨g, 0, none⟩) ls) (hk : k < ls.length) {v : Value} {r : List Int} (hr : Rd w v r) (hin : ∀ b, v.ownBlock = some b → base ≤ b) : OA (w.setCell ⟨g, k, none⟩ v) base (some ⟨g, 0, none⟩) (ls.set k r) :=
  ⟨fun i hi => by
    rw [List.length_set] at hi
    obtain ⟨g', B, d, e, hb', hc, hf, hl, hC⟩ := h.at k hk
    cases e
    obtain ⟨g', v', e, hb2, hc2, hf2, hr2⟩ := h.out i hi
    cases e
    by_cases hik : i = k
    · subst hik
      refine ⟨g, v, rfl, hb', World.cell?_setCell_same _ _ _ hc, by rw [World.frozen?_setCell]; exact hf, ?_⟩
      rw [List.getD_eq_getElem?_getD, List.getElem?_set_self hi]
      exact hr.setSlot hc _
    · refine ⟨g, v', rfl, hb', by rw [World.cell?_setCell_other _ _ _ _ (by simp)]; exact hc2, by rw [World.frozen?_setCell]; exact hf2, ?_⟩
      rw [List.getD_eq_getElem?_getD, List.getElem?_set_ne (fun e => hik e.symm), ← List.getD_eq_getElem?_getD]
      exact hr2.setSlot hc _,
  fun i hi g' v' b e hc h0 hb => by
    cases e
    rw [List.length_set] at hi
    by_cases hik : i = k
    · subst hik
      obtain ⟨g', v2, e', -, hc', -, -⟩ := h.out i hi
      cases e'
      rw [World.cell?_setCell_same _ _ _ hc'] at hc
      cases hc
      exact hin b hb
    · rw [World.cell?_setCell_other _ _ _ _ (by simp)] at hc
      rw [List.getD_eq_getElem?_getD, List.getElem?_set_ne (fun e => hik e.symm), ← List.getD_eq_getElem?_getD] at h0
      exact h.inb i hi g v' b rfl hc h0 hb,
  fun g' e hp => by
    cases e
    rw [List.length_set] at hp
    obtain ⟨cs, hc⟩ := h.blk g rfl hp
    exact ⟨_, blk_set hc k v⟩⟩
theorem Own.setRow {w : World} {base : Nat} {v : Value} {l : List Int} (h : Own w base v l) {g : Nat} {cs : Array Value} (hg : w.heap[g]? = some (.cells cs 25 (0, 0))) (k : Nat) (u : Value) : Own (w.setCell ⟨g, k, none⟩ u) base v l :=
  h.keep fun b hb => Below.heap_setCell w ⟨g, k, none⟩ u b (by
    rintro rfl
    obtain ⟨cells, hc⟩ := Kd.R_typed h.out _ hb
    rw [hg] at hc
    injection hc with hc
    injection hc with _ ht
    cases ht)
theorem add_block (a : Addr) (n : Nat) : (a.add n).block = a.block := by unfold Addr.add; split <;> rfl
theorem Rd.keepBlk {w w1 : World} {v : Value} {l : List Int} (h : Rd w v l) (hk : ∀ k, v.ownBlock = some k → k < w.heap.size → w1.heap[k]? = w.heap[k]?) : Rd w1 v l := by
  obtain ⟨A, c, rfl, hl, hC⟩ := h.out
  have hR : ReadsOf (Value.int .i64) 0 w A l.length l := Kd.reads_of_C hC
  refine ⟨A, c, rfl, hl, Kd.C_of_reads (enc := Value.int .i64) (d := 0) ⟨hR.1, hR.2.1, fun hn => ?_⟩⟩
  obtain ⟨ad, rfl, hcc⟩ := hR.2.2 hn
  refine ⟨ad, rfl, fun j hj => ?_⟩
  rw [← hcc j hj]
  have hb : w1.heap[ad.block]? = w.heap[ad.block]? := hk _ rfl (by have := World.block_lt_of_cell? w _ (hcc j hj); rwa [show (ad.add j).block = ad.block from add_block ad j] at this)
  unfold World.cell?
  rw [show (ad.add j).block = ad.block from add_block ad j, hb]
/-- The rows lie in other blocks than vP's. -/
def Apt (w : World) (A : Option Addr) (vP : Value) (N : Nat) : Prop := ∀ i, i < N → ∀ g v k, A = some ⟨g, 0, none⟩ → w.cell? ⟨g, i, none⟩ = some v → v.ownBlock = some k → vP.ownBlock ≠ some k
theorem Apt.below {w w1 : World} {base N : Nat} {A : Option Addr} {vP : Value} {ls : List (List Int)} (h : Apt w A vP N) (ho : OA w base A ls) (hN : ls.length = N) (hb : Below w.heap.size w w1) : Apt w1 A vP N := by
  intro i hi g v k e hc hk
  obtain ⟨g', v', e', -, hc', -, -⟩ := ho.out i (by omega)
  rw [e] at e'
  cases e'
  have := pw_cell_below hb hc'
  rw [hc] at this
  cases this
  exact h i hi g v k e hc' hk
theorem Apt.set {w : World} {base N g j : Nat} {vP u : Value} {ls : List (List Int)} (h : Apt w (some ⟨g, 0, none⟩) vP N) (ho : OA w base (some ⟨g, 0, none⟩) ls) (hN : ls.length = N) (hj : j < N) (hu : ∀ b, u.ownBlock = some b → vP.ownBlock ≠ some b) : Apt (w.setCell ⟨g, j, none⟩ u) (some ⟨g, 0, none⟩) vP N := by
  intro i hi g' v k e hc hk
  cases e
  by_cases hij : i = j
  · subst hij
    obtain ⟨g', v', e', -, hc', -, -⟩ := ho.out i (by omega)
    cases e'
    rw [World.cell?_setCell_same _ _ _ hc'] at hc
    cases hc
    exact hu k hk
  · rw [World.cell?_setCell_other _ _ _ _ (by simp)] at hc
    exact h i hi g v k rfl hc hk
theorem Apt.at {w : World} {N g i : Nat} {vP v : Value} (h : Apt w (some ⟨g, 0, none⟩) vP N) (hi : i < N) (hc : w.cell? ⟨g, i, none⟩ = some v) : ∀ b, v.ownBlock = some b → vP.ownBlock ≠ some b := fun b hb => h i hi g v b rfl hc hb
theorem Own.apt {w w1 : World} {base b2 : Nat} {v vP : Value} {l pv : List Int} (h : Own w1 base v l) (hP : Own w b2 vP pv) (hb : w.heap.size ≤ base) : ∀ b, v.ownBlock = some b → vP.ownBlock ≠ some b := fun b hk hk2 => by
  have h1 := h.base_le b hk
  have h2 := hP.lt_size b hk2
  omega
theorem OA.grown {w w1 : World} {base b2 N : Nat} {A : Option Addr} {vP : Value} {ls : List (List Int)} {pv : List Int} (ho : OA w base A ls) (hN : ls.length = N) (hA : Apt w A vP N) (hP : Own w b2 vP pv) (hg : w.grownBy w1 vP.ownBlock) : OA w1 base A ls := by
  have hgb : ∀ g, A = some ⟨g, 0, none⟩ → 0 < ls.length → w1.heap[g]? = w.heap[g]? := fun g e hp => by
    obtain ⟨cs, hcs⟩ := ho.blk g e hp
    refine hg.block g (blk_lt hcs) (fun hk => ?_)
    obtain ⟨cells, hc⟩ := Kd.R_typed hP.out g hk.symm
    rw [hcs] at hc
    injection hc with hc
    injection hc with _ ht
    cases ht
  refine ⟨fun i hi => ?_, fun i hi g v k e hc h0 hk => ?_, fun g e hp => ?_⟩
  · obtain ⟨g, v, e, hb, hc, hf, hr⟩ := ho.out i hi
    have hgg := hgb g e (by omega)
    refine ⟨g, v, e, hb, ?_, ?_, hr.keepBlk fun k hk hkl => ?_⟩
    · unfold World.cell? at hc ⊢
      rw [hgg]; exact hc
    · rw [World.frozen?_of_block (w := w) (a := ⟨g, i, none⟩) hgg]; exact hf
    · exact hg.block k hkl (fun hh => hA i (by omega) g v k e hc hk hh.symm)
  · have hgg := hgb g e (by omega)
    have : w1.cell? ⟨g, i, none⟩ = w.cell? ⟨g, i, none⟩ := by unfold World.cell?; rw [hgg]
    rw [this] at hc
    exact ho.inb i hi g v k e hc h0 hk
  · obtain ⟨cs, hcs⟩ := ho.blk g e hp
    exact ⟨cs, (hgb g e hp).trans hcs⟩
theorem Apt.grown {w w1 : World} {base b2 N : Nat} {A : Option Addr} {vP vP1 : Value} {ls : List (List Int)} {pv : List Int} (ho : OA w base A ls) (hN : ls.length = N) (hA : Apt w A vP N) (hP : Own w b2 vP pv) (hg : w.grownBy w1 vP.ownBlock) (h0 : ∀ i, i < N → 0 < (ls.getD i []).length)
    (hat : vP1.ownBlock = vP.ownBlock ∨ ∃ b, vP1.ownBlock = some b ∧ w.heap.size ≤ b) : Apt w1 A vP1 N := by
  intro i hi g v k e hc hk
  obtain ⟨g', v', e', hb, hc', hf, hr⟩ := ho.out i (by omega)
  rw [e] at e'
  cases e'
  obtain ⟨g', v2, e', hb2, hc2, hf2, hr2⟩ := (ho.grown hN hA hP hg).out i (by omega)
  rw [e] at e'
  cases e'
  have hv : v = v' := by
    obtain ⟨cs, hcs⟩ := ho.blk g e (by omega)
    have hgg : w1.heap[g]? = w.heap[g]? := by
      refine hg.block g (blk_lt hcs) (fun hk => ?_)
      obtain ⟨cells, hc⟩ := Kd.R_typed hP.out g hk.symm
      rw [hcs] at hc
      injection hc with hc
      injection hc with _ ht
      cases ht
    have : w1.cell? ⟨g, i, none⟩ = w.cell? ⟨g, i, none⟩ := by unfold World.cell?; rw [hgg]
    rw [hc, hc'] at this
    cases this
    rfl
  subst hv
  rcases hat with hat | ⟨b, hat, hbb⟩
  · rw [hat]; exact hA i hi g v k e hc' hk
  · rw [hat]
    intro hbk
    cases hbk
    obtain ⟨B, d, rfl, hl, hC⟩ := hr.out
    obtain ⟨ad, rfl, hcc⟩ := C_nat hC 0 (h0 i hi)
    have := World.block_lt_of_cell? w _ hcc
    rw [show (ad.add 0).block = ad.block from add_block ad 0] at this
    cases hk
    omega
theorem NR.oa {w : World} {base : Nat} {v : Value} {ls : List (List Int)} (h : NR w base v ls) : ∃ A c, v = .slice A ls.length c ∧ ls.length ≤ c ∧ ls.length ≤ 9223372036854775807 ∧ OA w base A ls := by
  obtain ⟨A, c, e, hl, hC⟩ := h.slice
  refine ⟨A, c, e, hl, Kd.C_max hC, ⟨fun i hi => ?_, fun i hi g v' k eg hc h0 hk => ?_, fun g eg hp => ?_⟩⟩
  rotate_left
  · obtain ⟨-, rows, hlr, hR, hf⟩ := h.out
    obtain ⟨A2, c2, ev, -, hC2⟩ := Kd.R_reads hR
    rw [e] at ev
    have eA : A = A2 := by injection ev
    obtain ⟨ad, ea, hcell⟩ := hC2.2.2 (by omega)
    rw [← eA, eg] at ea
    cases ea
    obtain ⟨c', hcl, hK, hcc⟩ := hcell i _ (List.getElem?_eq_getElem (by omega))
    have hK1 : c' = rows[i]'(by omega) := hK.1
    have hfk := hf i (ls.getD i []) c' (by rw [List.getD_eq_getElem?_getD, List.getElem?_eq_getElem hi]; rfl) (by rw [hK1]; exact List.getElem?_eq_getElem (by omega))
    obtain ⟨B, d, e3, -, hF⟩ := Kd.FK_slice_open hfk
    have h4 : w.cell? ⟨g, i, none⟩ = some (.slice B (ls.getD i []).length d) := by
      have := hcc 0 (.slice B (ls.getD i []).length d) (by rw [e3]; rfl)
      rw [add_plain] at this
      have e5 : i * (Kd.raw (Kd.slice 3 (Kd.int .i64)).sz).sz + 0 = i := by show i * 1 + 0 = i; omega
      rwa [e5] at this
    rw [h4] at hc
    cases hc
    cases B with
    | none => cases hk
    | some ad' =>
      have h5 := Kd.F_in hF rfl h0 (by decide)
      cases hk
      exact h5.1
  · obtain ⟨g', cap, e2, hb, hg, cells, hcells⟩ := Kd.N_form h.out hp
    rw [e] at e2
    cases e2
    cases eg
    exact ⟨cells, hcells⟩
  obtain ⟨g, cap, e2, hb, hg, cells, hcells⟩ := Kd.N_form h.out (by omega)
  rw [e] at e2
  cases e2
  obtain ⟨ad, B, d, e3, hx, hx2, hx3⟩ := rows_at hC i hi
  cases e3
  rw [add_plain] at hx
  exact ⟨g, _, rfl, hb, hx, blk_frozen hcells i, ⟨B, d, rfl, hx2, hx3⟩⟩
theorem OA.C {w : World} {base : Nat} {A : Option Addr} {ls : List (List Int)} (h : OA w base A ls) (hm : ls.length ≤ 9223372036854775807) : Kd.C (Kd.slice 3 (Kd.int .i64)) w A ls.length ls := by
  refine ⟨rfl, hm, fun hp => ?_⟩
  obtain ⟨g, -, -, e, -⟩ := h.at 0 hp
  refine ⟨_, e, fun j p hj => ?_⟩
  have hjl := (List.getElem?_eq_some_iff.1 hj).1
  obtain ⟨g', B, d, e', -, hc, -, hl, hC⟩ := h.at j hjl
  rw [e] at e'
  cases e'
  have hp' : ls.getD j [] = p := by rw [List.getD_eq_getElem?_getD, hj]; rfl
  rw [hp'] at hc hl hC
  refine ⟨[.slice B p.length d], rfl, ⟨B, d, rfl, hl, hC⟩, fun i u hu => ?_⟩
  have hi : i = 0 := by have := (List.getElem?_eq_some_iff.1 hu).1; simp at this; omega
  subst hi
  simp only [List.getElem?_cons_zero, Option.some.injEq] at hu
  subst hu
  show w.cell? (Addr.add ⟨g, 0, none⟩ (j * 1 + 0)) = _
  rw [add_plain, Nat.mul_one, Nat.add_zero]
  exact hc
end Go.Proofs.Yticgblagimmlfaa
end
