/- The reference: arithmetic over a field; Eval, Word, Differ, Plus. -/
import Derived.Test.YticgblagimmlfaaR2
import Derived.Test.YticgblagimmlfaaA10
namespace Go.Proofs.Yticgblagimmlfaa
open Go.RowKit Go.Proofs.YticgblagimmlfaaW.PrintWords Go.Proofs.YticgblagimmlfaaW.PrintLast Go.Proofs.YticgblagimmlfaaW.PrintMore
set_option linter.unusedVariables false
set_option linter.unusedSimpArgs false

theorem rAdd {w : World} {A : Option Addr} {n c : Nat} (K : FD) (x y : Int) :
    Calls Try.prog 48 #[.agg #[.int .i64 K.P, .int .i64 (K.m : Int), .slice A n c], .int .i64 x, .int .i64 y] w fun e w' => e = .returned (.int .i64 (K.D.add x y)) ∧ Below w.heap.size w w' := by
  rw [← K.addR_eq]; exact refAdd_any K.FOK x y
theorem rNeg {w : World} {A : Option Addr} {n c : Nat} (K : FD) (x : Int) :
    Calls Try.prog 84 #[.agg #[.int .i64 K.P, .int .i64 (K.m : Int), .slice A n c], .int .i64 x] w fun e w' => e = .returned (.int .i64 (K.D.neg x)) ∧ Below w.heap.size w w' := by
  rw [← K.negR_eq]; exact refNeg_any K.FOK x
theorem rSub {w : World} {A : Option Addr} {n c : Nat} (K : FD) (x y : Int) :
    Calls Try.prog 53 #[.agg #[.int .i64 K.P, .int .i64 (K.m : Int), .slice A n c], .int .i64 x, .int .i64 y] w fun e w' => e = .returned (.int .i64 (K.D.sub x y)) ∧ Below w.heap.size w w' := by
  rw [← K.subR_eq]; exact refSub_any K.FOK x y
theorem rMul {w : World} {A : Option Addr} {c : Nat} (K : FD) (hC : Kd.C (Kd.int .i64) w A K.Mod.length K.Mod) (x y : Int) :
    Calls Try.prog 46 #[.agg #[.int .i64 K.P, .int .i64 (K.m : Int), .slice A K.Mod.length c], .int .i64 x, .int .i64 y] w fun e w' => e = .returned (.int .i64 (K.D.mul x y)) ∧ Below w.heap.size w w' := by
  rw [← K.mulR_eq]; exact refMul_raw K.FOK K.len K.rng hC x y

set_option maxHeartbeats 1000000 in
set_option maxRecDepth 100000 in
theorem rEval {w : World} {A B : Option Addr} {c d : Nat} (K : FD) (hC : Kd.C (Kd.int .i64) w A K.Mod.length K.Mod) {p : List Int} (hp : Kd.C (Kd.int .i64) w B p.length p) (x : Int) :
    Calls Try.prog 47 #[.agg #[.int .i64 K.P, .int .i64 (K.m : Int), .slice A K.Mod.length c], .slice B p.length d, .int .i64 x] w fun e w' => e = .returned (.int .i64 (K.D.eval p x)) ∧ Below w.heap.size w w' := by
  have hF0 := FAt.new w K.P (K.m : Int) A K.Mod.length c
  obtain ⟨w0, hw0⟩ : ∃ w0, w.alloc (.cells #[.int .i64 K.P, .int .i64 (K.m : Int), .slice A K.Mod.length c] 27) = w0 := ⟨_, rfl⟩
  have hB0 : Below w.heap.size w w0 := by rw [← hw0]; exact below_alloc (Below.refl _ _) _
  rw [hw0] at hF0
  have HB0 := Aside0.mk hB0
  have HW := Aside0.mk hw0
  have HF := Aside0.mk hF0
  have HMod := Aside0.mk (Kd.C_below hC hB0)
  have HP := Aside0.mk (Kd.C_below hp hB0)
  have hmx := Kd.C_max hp
  have HMul := Aside0.mk (fun (w1 : World) (hb : Below w0.heap.size w0 w1) (x y : Int) => rMul (c := c) K (Kd.C_below HMod.out hb) x y)
  have HAdd := Aside0.mk (fun (w1 : World) (x y : Int) => rAdd (w := w1) (A := A) (n := K.Mod.length) (c := c) K x y)
  have hR := K.evZ_eq p x
  rw [← hR]
  obtain ⟨pwf, hpw⟩ : ∃ f, pwZ K.D x = f := ⟨_, rfl⟩
  obtain ⟨evf, hev⟩ : ∃ f, evZ K.D p x = f := ⟨_, rfl⟩
  have h0p : pwf 0 = 1 := by rw [← hpw]; rfl
  have h0e : evf 0 = 0 := by rw [← hev]; rfl
  have hsp : ∀ k, pwf (k + 1) = K.D.mul (pwf k) x := by intro k; rw [← hpw]; rfl
  have hse : ∀ k, evf (k + 1) = K.D.add (evf k) (K.D.mul (p.getD k 0) (pwf k)) := by intro k; rw [← hev, ← hpw]; rfl
  rw [hev]
  have H0p := Aside0.mk h0p.symm
  have H0e := Aside0.mk h0e.symm
  have Hsp := Aside0.mk hsp
  have Hse := Aside0.mk hse
  have HBz := Aside0.mk (Below.refl w0.heap.size w0)
  clear hF0 hB0 hw0 hC hp hR hpw hev h0p h0e hsp hse
  go_enter Try.func47, Try.ntmps47
  go_upto_region 1 with (fail)
  rw [HW.out]
  go_wp2
  go_loopw [7, 8, 9] (fun v7 v8 v9 w' => ∃ (k : Nat) (ev po : Int), v9 = .int .i64 k ∧ v7 = .int .i64 ev ∧ v8 = .int .i64 po ∧ k ≤ p.length ∧ Aside0 (ev = evf k) ∧ Aside0 (po = pwf k) ∧ Aside0 (Below w0.heap.size w0 w')) (fun _ _ v9 _ => p.length - (intOf v9).toNat)
  case atStart => exact ⟨0, 0, 1, rfl, rfl, rfl, by omega, H0e, H0p, HBz⟩
  case round =>
    clear HBz
    obtain ⟨k, ev, po, rfl, rfl, rfl, hk, HEv, HPo, HB⟩ := hrel
    obtain ⟨cP, cM, cD⟩ := HF.out.below HB.out
    by_cases hlk : k < p.length
    · obtain ⟨ad, e, hx⟩ := C_nat (Kd.C_below HP.out HB.out) k hlk
      cases e
      obtain ⟨z, hz⟩ : ∃ z, p.getD k 0 = z := ⟨_, rfl⟩
      rw [hz] at hx
      have h1 := Hse.out k
      have h2 := Hsp.out k
      rw [← HEv.out, ← HPo.out, hz] at h1
      rw [← HPo.out] at h2
      have HM1 := Aside0.mk (fun (w1 : World) (hb : Below wr.heap.size wr w1) => HMul.out w1 (below_later HB.out HB.out.size hb) z po)
      have HM2 := Aside0.mk (fun (w1 : World) (hb : Below wr.heap.size wr w1) => HMul.out w1 (below_later HB.out HB.out.size hb) po x)
      obtain ⟨u, hu⟩ : ∃ u, K.D.mul z po = u := ⟨_, rfl⟩
      rw [hu] at HM1 h1
      have HA1 := Aside0.mk (fun (w1 : World) => HAdd.out w1 ev u)
      rw [← h1] at HA1
      rw [← h2] at HM2
      obtain ⟨ev2, he2⟩ : ∃ y, evf (k + 1) = y := ⟨_, rfl⟩
      obtain ⟨po2, hp2⟩ : ∃ y, pwf (k + 1) = y := ⟨_, rfl⟩
      rw [he2] at HA1
      rw [hp2] at HM2
      have HE2 := Aside0.mk he2.symm
      have HP2 := Aside0.mk hp2.symm
      have hcP : ∀ j : Ext wr, j.wd.cell? ⟨w.heap.size, 0, none⟩ = some (.int .i64 K.P) := fun j => j.cell cP
      have hcM : ∀ j : Ext wr, j.wd.cell? ⟨w.heap.size, 1, none⟩ = some (.int .i64 (K.m : Int)) := fun j => j.cell cM
      have hcD : ∀ j : Ext wr, j.wd.cell? ⟨w.heap.size, 2, none⟩ = some (.slice A K.Mod.length c) := fun j => j.cell cD
      have hcx : ∀ j : Ext wr, j.wd.cell? (ad.add k) = some (.int .i64 z) := fun j => j.cell hx
      have i0 : (0 : Int) ≤ (k : Int) := by omega
      have i1 : (k : Int) < (p.length : Int) := by omega
      clear hz h1 h2 hu he2 hp2 cP cM cD hx
      go_wp2
      refine wp_region_ext (by kernel_rfl) (by kernel_rfl) ?_
      repeat (go_big_quiet_step (first | (go_at_call 46; with_reducible exact Ext.call _ (HM1.out _ (Ext.below _))) | (go_at_call 48; with_reducible exact Ext.call _ (HA1.out _))))
      refine wpQuiet_nil ?_
      intro w1 hB1
      have HB1 := Aside0.mk (below_later HB.out HB.out.size hB1)
      have HBr := Aside0.mk hB1
      obtain ⟨cP1, cM1, cD1⟩ := HF.out.below HB1.out
      clear hcP hcM hcD hcx hB1
      go_wp2_with (go_at_call 46; refine (HM2.out _ HBr.out).mono ?_; rintro e w2 ⟨rfl, hB⟩; have HB2 := Aside0.mk (below_later HB1.out HB1.out.size hB); clear hB)
      go_roundw
      case rel => exact ⟨k + 1, ev2, po2, by go_num, rfl, rfl, by omega, HE2, HP2, HB2⟩
      case measure => simp [intOf]; omega
    · obtain rfl : k = p.length := by omega
      have he := HEv.out
      subst he
      clear HEv
      go_wp2
      go_ret
      exact ⟨rfl, below_later HB0.out HB0.out.size HB.out⟩

set_option maxHeartbeats 1000000 in
set_option maxRecDepth 100000 in
theorem rPlus {w : World} {A B E : Option Addr} {n c d ee : Nat} (K : FD) {a b : List Int} (ha : Kd.C (Kd.int .i64) w B a.length a) (hb : Kd.C (Kd.int .i64) w E b.length b) (hl : a.length ≤ b.length) (hla : a.length ≤ 1000) :
    Calls Try.prog 24 #[.agg #[.int .i64 K.P, .int .i64 (K.m : Int), .slice A n c], .slice B a.length d, .slice E b.length ee] w fun e w' => ∃ v, e = .returned v ∧ Own w' w.heap.size v (plusZ K.D a b) ∧ Below w.heap.size w w' := by
  have hF0 := FAt.new w K.P (K.m : Int) A n c
  obtain ⟨w0, hw0⟩ : ∃ w0, w.alloc (.cells #[.int .i64 K.P, .int .i64 (K.m : Int), .slice A n c] 27) = w0 := ⟨_, rfl⟩
  have hB0 : Below w.heap.size w w0 := by rw [← hw0]; exact below_alloc (Below.refl _ _) _
  rw [hw0] at hF0
  have HB0 := Aside0.mk hB0
  have HW := Aside0.mk hw0
  have HF := Aside0.mk hF0
  have HA := Aside0.mk (Kd.C_below ha hB0)
  have HBb := Aside0.mk (Kd.C_below hb hB0)
  have hmb := Kd.C_max hb
  have HAdd := Aside0.mk (fun (w1 : World) (x y : Int) => rAdd (w := w1) (A := A) (n := n) (c := c) K x y)
  obtain ⟨T, hT⟩ : ∃ T, plusZ K.D a b = T := ⟨_, rfl⟩
  have hTl : T.length = a.length := by rw [← hT]; exact plusZ_length _ _ _
  have hTg : ∀ i, i < a.length → T.getD i 0 = K.D.add (a.getD i 0) (b.getD i 0) := fun i hi => by rw [← hT]; exact plusZ_getD _ _ _ _ hi
  rw [hT]
  obtain ⟨Z, hZ⟩ : ∃ Z : List Int, List.replicate a.length 0 = Z := ⟨_, rfl⟩
  have hZl : Z.length = a.length := by rw [← hZ]; exact List.length_replicate
  obtain ⟨F, hF⟩ : ∃ F : Int → Int → Int, (fun _ c => c) = F := ⟨_, rfl⟩
  have hconst : updZ F Z T = T := by rw [← hF]; exact updZ_const Z T (by rw [hZl, hTl])
  have HTl := Aside0.mk hTl
  have HTg := Aside0.mk hTg
  have HZ := Aside0.mk hZ
  have HZl := Aside0.mk hZl
  have HFe := Aside0.mk hF
  have HCo := Aside0.mk hconst
  have HN : Aside0 ((a.length : Int) = (a.length : Nat)) := ⟨rfl⟩
  clear hF0 hB0 hw0 ha hb hT hTl hTg hZ hZl hF hconst
  go_enter Try.func24, Try.ntmps24
  go_upto_region 1 with (fail)
  rw [HW.out]
  go_wp2_with ((with_reducible refine gate_dst (N := 11) rfl ?_); refine make_ownI rfl (N := 11) rfl _ _ rfl HN rfl rfl (by omega) ?_; intro v1 w1 hO hB; rw [HZ.out] at hO; have HO1 := Aside0.mk hO; have HB1 := Aside0.mk hB; clear hO hB)
  obtain ⟨A1, c1, e1, -, -⟩ := HO1.out.slice
  rw [HZl.out] at e1
  subst e1
  have H0 : Aside0 (Own w1 w0.heap.size (.slice A1 a.length c1) (updZ F Z (T.take 0))) := ⟨by simpa [updZ_nil] using HO1.out⟩
  clear HO1
  go_wp2
  go_loopw [8] (fun v8 w' => ∃ k : Nat, v8 = .int .i64 k ∧ k ≤ a.length ∧ Aside0 (Own w' w0.heap.size (.slice A1 a.length c1) (updZ F Z (T.take k))) ∧ Aside0 (Below w0.heap.size w0 w')) (fun v8 _ => a.length - (intOf v8).toNat)
  case atStart => exact ⟨0, rfl, by omega, H0, HB1⟩
  case round =>
    clear H0 HB1
    obtain ⟨k, rfl, hk, HO, HB⟩ := hrel
    obtain ⟨cP, cM, cD⟩ := HF.out.below HB.out
    have hlen : (updZ F Z (T.take k)).length = a.length := by rw [updZ_length]; exact HZl.out
    by_cases hlk : k < a.length
    · obtain ⟨ad, e, hx⟩ := C_nat (Kd.C_below HA.out HB.out) k hlk
      cases e
      obtain ⟨ad2, e, hy⟩ := C_nat (Kd.C_below HBb.out HB.out) k (by omega)
      cases e
      have hg := HTg.out k hlk
      have hstep := updZ_set F 0 k Z T (by rw [HTl.out]; exact hlk) (by rw [HZl.out]; exact hlk)
      obtain ⟨x, hx'⟩ : ∃ z, a.getD k 0 = z := ⟨_, rfl⟩
      obtain ⟨y, hy'⟩ : ∃ z, b.getD k 0 = z := ⟨_, rfl⟩
      rw [hx'] at hx hg
      rw [hy'] at hy hg
      have HA1 := Aside0.mk (fun (w1 : World) => HAdd.out w1 x y)
      rw [← hg] at HA1
      rw [show F (Z.getD k 0) (T.getD k 0) = T.getD k 0 from by rw [← HFe.out]] at hstep
      obtain ⟨u, hu⟩ : ∃ u, T.getD k 0 = u := ⟨_, rfl⟩
      rw [hu] at HA1 hstep
      obtain ⟨g1, cap, e, h11, h12⟩ := HO.out.form (by rw [hlen]; omega)
      rw [hlen] at e
      cases e
      have HSt := Aside0.mk hstep
      have Hlen := Aside0.mk hlen
      have hcP : ∀ j : Ext wr, j.wd.cell? ⟨w.heap.size, 0, none⟩ = some (.int .i64 K.P) := fun j => j.cell cP
      have hcM : ∀ j : Ext wr, j.wd.cell? ⟨w.heap.size, 1, none⟩ = some (.int .i64 (K.m : Int)) := fun j => j.cell cM
      have hcD : ∀ j : Ext wr, j.wd.cell? ⟨w.heap.size, 2, none⟩ = some (.slice A n c) := fun j => j.cell cD
      have hcx : ∀ j : Ext wr, j.wd.cell? (ad.add k) = some (.int .i64 x) := fun j => j.cell hx
      have hcy : ∀ j : Ext wr, j.wd.cell? (ad2.add k) = some (.int .i64 y) := fun j => j.cell hy
      have i0 : (0 : Int) ≤ (k : Int) := by omega
      have i1 : (k : Int) < (a.length : Int) := by omega
      have i2 : (k : Int) < (b.length : Int) := by omega
      clear hx' hy' hg hu hstep hlen cP cM cD hx hy
      go_wp2
      refine wp_region_ext_tail 12 (by kernel_rfl) (by kernel_rfl) ?_
      simp only [List.take_succ_cons, List.take_zero, List.drop_succ_cons, List.drop_zero]
      repeat (go_big_quiet_step ((go_at_call 48; with_reducible exact Ext.call _ (HA1.out _))))
      refine wpQuiet_nil ?_
      intro w2 hB2
      have hO2 := HO.out.below hB2
      obtain ⟨hcl, hfz⟩ := hO2.cell' Hlen.out.symm k hlk
      have hO3 := hO2.set Hlen.out.symm k u
      rw [HSt.out] at hO3
      have HO3 := Aside0.mk hO3
      have HB3 := Aside0.mk ((below_later HB.out HB.out.size hB2).setCell (p := ⟨g1, k, none⟩) h11 (.int .i64 u))
      clear hcP hcM hcD hcx hcy hB2 hO2 hO3
      go_wp2
      go_roundw
      case rel => exact ⟨k + 1, by go_num, by omega, HO3, HB3⟩
      case measure => simp [intOf]; omega
    · obtain rfl : k = a.length := by omega
      rw [← HTl.out, List.take_length, HCo.out] at HO
      clear hlen cP cM cD
      go_wp2
      go_ret
      rw [HTl.out] at HO
      exact ⟨_, rfl, HO.out.lower HB0.out.size, below_later HB0.out HB0.out.size HB.out⟩

/-- A description over a field. -/
def GD.over (s : GD) (K : FD) : Prop := K.P = s.P ∧ (K.m : Int) = s.M ∧ K.Mod = s.Mod
set_option maxHeartbeats 1000000 in
set_option maxRecDepth 100000 in
theorem rWord {w : World} {v : Value} {s : GD} (h : GArg w v s) (K : FD) (hK : s.over K) (hml : s.mults.length = s.pts.length) (hpl : s.pts.length ≤ 1000) {B : Option Addr} {d : Nat} {msg : List Int} (hm : Kd.C (Kd.int .i64) w B msg.length msg) :
    Calls Try.prog 21 #[v, .slice B msg.length d] w fun e w' => ∃ v, e = .returned v ∧ Own w' w.heap.size v (encZ K.D s.pts s.mults msg) ∧ Below w.heap.size w w' := by
  obtain ⟨P, M, Mod, kk, pts, mults⟩ := s
  obtain ⟨rfl, rfl, rfl⟩ := hK
  simp only at hml hpl ⊢
  obtain ⟨A1, c1, A2, c2, A3, c3, rfl, g1, l1, g2, l2, g3, l3⟩ := h.out
  simp only at g1 l1 g2 l2 g3 l3
  have hS0 := SAt.new w ⟨K.P, (K.m : Int), K.Mod, kk, pts, mults⟩ A1 c1 A2 c2 A3 c3
  obtain ⟨w0, hw0⟩ : ∃ w0, w.alloc (.cells #[.int .i64 K.P, .int .i64 (K.m : Int), .slice A1 K.Mod.length c1, .int .i64 kk, .slice A2 pts.length c2, .slice A3 mults.length c3] 29) = w0 := ⟨_, rfl⟩
  have hB0 : Below w.heap.size w w0 := by rw [← hw0]; exact below_alloc (Below.refl _ _) _
  simp only at hS0
  rw [hw0] at hS0
  have HB0 := Aside0.mk hB0
  have HS := Aside0.mk hS0
  have HW := Aside0.mk hw0
  have HMod := Aside0.mk (Kd.C_below g1 hB0)
  have HP := Aside0.mk (Kd.C_below g2 hB0)
  have HU := Aside0.mk (Kd.C_below g3 hB0)
  have HMs := Aside0.mk (Kd.C_below hm hB0)
  have hmm := Kd.C_max hm
  have hmu := Kd.C_max g3
  have HEv := Aside0.mk (fun (w1 : World) (hb : Below w0.heap.size w0 w1) (x : Int) => rEval (c := c1) (d := d) K (Kd.C_below HMod.out hb) (Kd.C_below HMs.out hb) x)
  have HMul := Aside0.mk (fun (w1 : World) (hb : Below w0.heap.size w0 w1) (x y : Int) => rMul (c := c1) K (Kd.C_below HMod.out hb) x y)
  obtain ⟨T, hT⟩ : ∃ T, encZ K.D pts mults msg = T := ⟨_, rfl⟩
  have hTl : T.length = pts.length := by rw [← hT]; exact encZ_len _ _ _ _ hml
  have hTg : ∀ i, i < pts.length → T.getD i 0 = K.D.mul (mults.getD i 0) (K.D.eval msg (pts.getD i 0)) := fun i hi => by rw [← hT]; exact encZ_getD _ _ _ _ _ hi (by omega)
  rw [hT]
  obtain ⟨Z, hZ⟩ : ∃ Z : List Int, List.replicate pts.length 0 = Z := ⟨_, rfl⟩
  have hZl : Z.length = pts.length := by rw [← hZ]; exact List.length_replicate
  obtain ⟨F, hF⟩ : ∃ F : Int → Int → Int, (fun _ c => c) = F := ⟨_, rfl⟩
  have hconst : updZ F Z T = T := by rw [← hF]; exact updZ_const Z T (by rw [hZl, hTl])
  have HTl := Aside0.mk hTl
  have HTg := Aside0.mk hTg
  have HZ := Aside0.mk hZ
  have HZl := Aside0.mk hZl
  have HFe := Aside0.mk hF
  have HCo := Aside0.mk hconst
  have HML := Aside0.mk hml
  have hml1 : pts.length ≤ mults.length := by omega
  have HN : Aside0 ((pts.length : Int) = (pts.length : Nat)) := ⟨rfl⟩
  clear hS0 hB0 hw0 hm g1 g2 g3 hT hTl hTg hZ hZl hF hconst hml h
  go_enter Try.func21, Try.ntmps21
  go_upto_region 1 with (fail)
  rw [HW.out]
  have cPts := HS.out.pts
  go_wp2_with ((with_reducible refine gate_dst (N := 10) rfl ?_); refine make_ownI rfl (N := 10) rfl _ _ rfl HN rfl rfl (by omega) ?_; intro v1 w1 hO hB; rw [HZ.out] at hO; have HO1 := Aside0.mk hO; have HB1 := Aside0.mk hB; clear hO hB)
  obtain ⟨A4, c4, e4, -, -⟩ := HO1.out.slice
  rw [HZl.out] at e4
  subst e4
  have H0 : Aside0 (Own w1 w0.heap.size (.slice A4 pts.length c4) (updZ F Z (T.take 0))) := ⟨by simpa [updZ_nil] using HO1.out⟩
  clear HO1 cPts
  go_wp2
  go_loopw [6] (fun v6 w' => ∃ k : Nat, v6 = .int .i64 k ∧ k ≤ pts.length ∧ Aside0 (Own w' w0.heap.size (.slice A4 pts.length c4) (updZ F Z (T.take k))) ∧ Aside0 (Below w0.heap.size w0 w')) (fun v6 _ => pts.length - (intOf v6).toNat)
  case atStart => exact ⟨0, rfl, by omega, H0, HB1⟩
  case round =>
    clear H0 HB1
    obtain ⟨k, rfl, hk, HO, HB⟩ := hrel
    obtain ⟨cP, cM, cD, cK, cS, cU⟩ := HS.out.below HB.out
    simp only at cP cM cD cK cS cU
    have hlen : (updZ F Z (T.take k)).length = pts.length := by rw [updZ_length]; exact HZl.out
    by_cases hlk : k < pts.length
    · obtain ⟨ad, e, hx⟩ := C_nat (Kd.C_below HP.out HB.out) k hlk
      cases e
      obtain ⟨ad2, e, hy⟩ := C_nat (Kd.C_below HU.out HB.out) k (by omega)
      cases e
      have hg := HTg.out k hlk
      have hstep := updZ_set F 0 k Z T (by rw [HTl.out]; exact hlk) (by rw [HZl.out]; exact hlk)
      obtain ⟨x, hx'⟩ : ∃ z, pts.getD k 0 = z := ⟨_, rfl⟩
      obtain ⟨y, hy'⟩ : ∃ z, mults.getD k 0 = z := ⟨_, rfl⟩
      rw [hx'] at hx hg
      rw [hy'] at hy hg
      have HE1 := Aside0.mk (fun (w1 : World) (hb : Below wr.heap.size wr w1) => HEv.out w1 (below_later HB.out HB.out.size hb) x)
      obtain ⟨ev, hev⟩ : ∃ z, K.D.eval msg x = z := ⟨_, rfl⟩
      rw [hev] at HE1 hg
      have HM1 := Aside0.mk (fun (w1 : World) (hb : Below wr.heap.size wr w1) => HMul.out w1 (below_later HB.out HB.out.size hb) y ev)
      rw [← hg] at HM1
      rw [show F (Z.getD k 0) (T.getD k 0) = T.getD k 0 from by rw [← HFe.out]] at hstep
      obtain ⟨u, hu⟩ : ∃ u, T.getD k 0 = u := ⟨_, rfl⟩
      rw [hu] at HM1 hstep
      obtain ⟨g4, cap, e, h11, h12⟩ := HO.out.form (by rw [hlen]; omega)
      rw [hlen] at e
      cases e
      have HSt := Aside0.mk hstep
      have Hlen := Aside0.mk hlen
      have hcP : ∀ j : Ext wr, j.wd.cell? ⟨w.heap.size, 0, none⟩ = some (.int .i64 K.P) := fun j => j.cell cP
      have hcM : ∀ j : Ext wr, j.wd.cell? ⟨w.heap.size, 1, none⟩ = some (.int .i64 (K.m : Int)) := fun j => j.cell cM
      have hcD : ∀ j : Ext wr, j.wd.cell? ⟨w.heap.size, 2, none⟩ = some (.slice A1 K.Mod.length c1) := fun j => j.cell cD
      have hcS : ∀ j : Ext wr, j.wd.cell? ⟨w.heap.size, 4, none⟩ = some (.slice (some ad) pts.length c2) := fun j => j.cell cS
      have hcU : ∀ j : Ext wr, j.wd.cell? ⟨w.heap.size, 5, none⟩ = some (.slice (some ad2) mults.length c3) := fun j => j.cell cU
      have hcx : ∀ j : Ext wr, j.wd.cell? (ad.add k) = some (.int .i64 x) := fun j => j.cell hx
      have hcy : ∀ j : Ext wr, j.wd.cell? (ad2.add k) = some (.int .i64 y) := fun j => j.cell hy
      have i0 : (0 : Int) ≤ (k : Int) := by omega
      have i1 : (k : Int) < (pts.length : Int) := by omega
      have i2 : (k : Int) < (mults.length : Int) := by omega
      clear hx' hy' hg hu hstep hlen hev cP cM cD cK cS cU hx hy
      go_wp2
      refine wp_region_ext_tail 19 (by kernel_rfl) (by kernel_rfl) ?_
      simp only [List.take_succ_cons, List.take_zero, List.drop_succ_cons, List.drop_zero]
      repeat (go_big_quiet_step (first | (go_at_call 47; with_reducible exact Ext.call _ (HE1.out _ (Ext.below _))) | (go_at_call 46; with_reducible exact Ext.call _ (HM1.out _ (Ext.below _)))))
      refine wpQuiet_nil ?_
      intro w2 hB2
      have hO2 := HO.out.below hB2
      obtain ⟨hcl, hfz⟩ := hO2.cell' Hlen.out.symm k hlk
      have hO3 := hO2.set Hlen.out.symm k u
      rw [HSt.out] at hO3
      have HO3 := Aside0.mk hO3
      have HB3 := Aside0.mk ((below_later HB.out HB.out.size hB2).setCell (p := ⟨g4, k, none⟩) h11 (.int .i64 u))
      clear hcP hcM hcD hcS hcU hcx hcy hB2 hO2 hO3
      go_wp2
      go_roundw
      case rel => exact ⟨k + 1, by go_num, by omega, HO3, HB3⟩
      case measure => simp [intOf]; omega
    · obtain rfl : k = pts.length := by omega
      rw [← HTl.out, List.take_length, HCo.out] at HO
      clear hlen cP cM cD cK cS cU
      go_wp2
      go_ret
      rw [HTl.out] at HO
      exact ⟨_, rfl, HO.out.lower HB0.out.size, below_later HB0.out HB0.out.size HB.out⟩

set_option maxHeartbeats 1000000 in
set_option maxRecDepth 100000 in
theorem rDiffer {w : World} {A B E : Option Addr} {ca cb ce : Nat} {c l er : List Int} (hc : Kd.C (Kd.int .i64) w A c.length c) (hl : Kd.C (Kd.int .i64) w B l.length l) (he : Kd.C (Kd.int .i64) w E er.length er) (hcl : c.length ≤ l.length) (hc1 : c.length ≤ 1000) :
    Calls Try.prog 22 #[.slice A c.length ca, .slice B l.length cb, .slice E er.length ce] w fun e w' => ∃ v, e = .returned v ∧ Own w' w.heap.size v (diffZ c l (marksZ c.length er) c.length) ∧ Below w.heap.size w w' := by
  have hml := Kd.C_max hl
  have hme := Kd.C_max he
  have HC := Aside0.mk hc
  have HL := Aside0.mk hl
  have HE := Aside0.mk he
  have HB0 := Aside0.mk (Below.refl w.heap.size w)
  obtain ⟨mk, hmk⟩ : ∃ mk, marksZ c.length er = mk := ⟨_, rfl⟩
  rw [hmk]
  have HMk : Aside0 (∀ i, i < c.length → mk.getD i false = decide ((Int.ofNat i) ∈ er)) := ⟨fun i hi => by rw [← hmk]; exact marksZ_getD _ _ _ hi⟩
  have HDs := Aside0.mk (fun n => diffZ_succ c l mk n)
  have HDl := Aside0.mk (fun n => diffZ_length c l mk n)
  obtain ⟨Df, hDf⟩ : ∃ f, diffZ c l mk = f := ⟨_, rfl⟩
  rw [hDf] at HDs HDl ⊢
  have H0 : Aside0 (Own w w.heap.size (.slice none 0 0) (Df 0)) := ⟨by rw [← hDf]; exact Own.nil _ _⟩
  clear hc hl he hmk hDf
  go_enter Try.func22, Try.ntmps22
  go_wp2
  go_loopw [7, 8] (fun v7 v8 w' => ∃ (k : Nat) (vD : Value), v8 = .int .i64 k ∧ v7 = vD ∧ k ≤ c.length ∧ Aside0 (Own w' w.heap.size vD (Df k)) ∧ Aside0 (Below w.heap.size w w')) (fun _ v8 _ => c.length - (intOf v8).toNat)
  case atStart => exact ⟨0, _, rfl, rfl, by omega, H0, HB0⟩
  case round =>
    clear H0 HB0
    obtain ⟨k, vD, rfl, rfl, hk, HO, HB⟩ := hrel
    obtain ⟨A7, c7, e7, -, -⟩ := HO.out.slice
    by_cases hlk : k < c.length
    · have hHM := HMk.out k hlk
      have hDk := HDs.out k
      obtain ⟨ad, e, hx⟩ := C_nat (Kd.C_below HC.out HB.out) k hlk
      cases e
      obtain ⟨ad2, e, hy⟩ := C_nat (Kd.C_below HL.out HB.out) k (by omega)
      cases e
      obtain ⟨x, hx'⟩ : ∃ z, c.getD k 0 = z := ⟨_, rfl⟩
      obtain ⟨y, hy'⟩ : ∃ z, l.getD k 0 = z := ⟨_, rfl⟩
      rw [hx'] at hx hDk
      rw [hy'] at hy hDk
      obtain ⟨nb, hnb⟩ : ∃ n, (Df k).length = n := ⟨_, rfl⟩
      have hnbk := HDl.out k
      rw [hnb] at e7 hnbk
      subst e7
      obtain ⟨ib, hib⟩ : ∃ b, decide ((Int.ofNat k) ∈ er) = b := ⟨_, rfl⟩
      rw [hHM, hib] at hDk
      have HIb := Aside0.mk hib
      have HDk := Aside0.mk hDk
      have HNb := Aside0.mk hnb
      clear hx' hy' hHM hDk hib hnb
      go_wp2
      go_loop [9, 10] (fun v9 v10 => ∃ (j : Nat) (b : Bool), v10 = .int .i64 j ∧ v9 = .bool b ∧ j ≤ er.length ∧ Aside0 (decide ((Int.ofNat k) ∈ er.take j) = b)) (fun _ v10 => er.length - (intOf v10).toNat)
      case atStart => exact ⟨0, false, rfl, rfl, by omega, ⟨by simp⟩⟩
      case round =>
        obtain ⟨j, b, rfl, rfl, hj, HT⟩ := hrel
        by_cases hlj : j < er.length
        · obtain ⟨ad3, e, hz⟩ := C_nat (Kd.C_below HE.out HB.out) j hlj
          cases e
          have hts := take_succ_rd er j hlj
          obtain ⟨z, hz'⟩ : ∃ z, er.getD j 0 = z := ⟨_, rfl⟩
          rw [hz'] at hz hts
          have i0 : (0 : Int) ≤ (j : Int) := by omega
          have i1 : (j : Int) < (er.length : Int) := by omega
          cases b with
          | true =>
            have HT2 : Aside0 (decide ((Int.ofNat k) ∈ er.take (j + 1)) = true) := ⟨by
              have := of_decide_eq_true HT.out
              rw [hts]; exact decide_eq_true (List.mem_append_left _ this)⟩
            clear hts hz' HT
            go_wp2
            go_round
            case rel => exact ⟨j + 1, true, by go_num, rfl, by omega, HT2⟩
            case measure => simp [intOf]; omega
          | false =>
            by_cases hzk : z = (k : Int)
            · have HT2 : Aside0 (decide ((Int.ofNat k) ∈ er.take (j + 1)) = true) := ⟨by
                rw [hts, hzk]; exact decide_eq_true (List.mem_append_right _ (List.mem_singleton.2 rfl))⟩
              have hzb : (z == (k : Int)) = true := by simp [hzk]
              clear hts hz' HT hzk
              go_wp2
              go_round
              case rel => exact ⟨j + 1, true, by go_num, by first | rfl | simp, by omega, HT2⟩
              case measure => simp [intOf]; omega
            · have HT2 : Aside0 (decide ((Int.ofNat k) ∈ er.take (j + 1)) = false) := ⟨by
                have := of_decide_eq_false HT.out
                rw [hts]; refine decide_eq_false fun hm => ?_
                rcases List.mem_append.1 hm with h | h
                · exact this h
                · exact hzk (List.mem_singleton.1 h).symm⟩
              have hzb : (z == (k : Int)) = false := by simp [hzk]
              clear hts hz' HT hzk
              go_wp2
              go_round
              case rel => exact ⟨j + 1, false, by go_num, by first | rfl | simp, by omega, HT2⟩
              case measure => simp [intOf]; omega
        · obtain rfl : j = er.length := by omega
          rw [List.take_length] at HT
          obtain rfl : b = ib := by rw [← HT.out, ← HIb.out]
          have i0 : (0 : Int) ≤ (k : Int) := by omega
          have i1 : (k : Int) < (c.length : Int) := by omega
          have i2 : (k : Int) < (l.length : Int) := by omega
          cases b with
          | true =>
            have hd := HDk.out
            rw [if_neg (by simp)] at hd
            rw [← hd] at HO
            clear HT hd HIb HDk
            go_wp2
            go_quiet (fail)
            go_wp2
            go_roundw
            case rel => exact ⟨k + 1, _, by go_num, rfl, by omega, ⟨HO.out.drewN _⟩, ⟨pw_below_drewN HB.out _⟩⟩
            case measure => simp [intOf]; omega
          | false =>
            by_cases hxy : x = y
            · have hd := HDk.out
              rw [if_neg (by simp [hxy])] at hd
              rw [← hd] at HO
              have hxb : (x != y) = false := by simp [hxy]
              clear HT hd HIb HDk hxy
              go_wp2
              go_quiet (fail)
              go_wp2
              go_roundw
              case rel => exact ⟨k + 1, _, by go_num, rfl, by omega, ⟨HO.out.drewN _⟩, ⟨pw_below_drewN HB.out _⟩⟩
              case measure => simp [intOf]; omega
            · have hd := HDk.out
              rw [if_pos (by simp [hxy])] at hd
              have hxb : (x != y) = true := by simp [hxy]
              have HDd := Aside0.mk hd.symm
              clear HT hd HIb HDk hxy
              go_wp2
              go_quiet (fail)
              obtain ⟨wq, hwq⟩ : ∃ wq : World, wr.drewN nq = wq := ⟨_, rfl⟩
              have HOq := Aside0.mk (HO.out.drewN nq)
              have HBq := Aside0.mk (pw_below_drewN HB.out nq)
              rw [hwq] at HOq HBq ⊢
              clear hwq HO HB
              go_wp2_with ((with_reducible refine gate_builtin (b := .append) (xs := #[.tmp 45, .tmp 47]) rfl ?_); at_builtin; refine append_own (w0 := w) w.heap.size rfl (.tmp 45) (.tmp 47) rfl (v := .slice A7 nb c7) (xs := Df k) (k : Int) rfl rfl HOq.out HBq.out HBq.out.size (by have := HNb.out; omega) ?_; intro v5 w5 h5 hb5 hg5; rw [HDd.out] at h5; have HO5 := Aside0.mk h5; have HB5 := Aside0.mk hb5; clear h5 hb5 hg5)
              go_roundw
              case rel => exact ⟨k + 1, _, by go_num, rfl, by omega, HO5, HB5⟩
              case measure => simp [intOf]; omega
    · obtain rfl : k = c.length := by omega
      have HOf := HO
      clear HO
      go_wp2
      go_ret
      exact ⟨_, rfl, HOf.out, HB.out⟩
end Go.Proofs.Yticgblagimmlfaa
