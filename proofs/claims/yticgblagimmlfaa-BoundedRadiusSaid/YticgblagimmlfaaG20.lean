/- encode, Encode. -/
import Derived.Test.YticgblagimmlfaaG19
import Derived.Deep.CutBlock
namespace Go.Proofs.Yticgblagimmlfaa
open Go.RowKit Go.Proofs.YticgblagimmlfaaW.PrintWords Go.Proofs.YticgblagimmlfaaW.PrintLast Go.Proofs.YticgblagimmlfaaW.PrintMore
set_option linter.unusedVariables false
set_option linter.unusedSimpArgs false

set_option maxRecDepth 100000 in
theorem encode_any {g : Nat} {w : World} {v : Value} {s : GD} {D : GFD} (hg : GFat w g D) (hD : D.ok) (h : GArg w v s) (hlen : s.mults.length = s.pts.length) (hb : s.pts.length ≤ 1000) {A : Option Addr} {c : Nat} {msg : List Int} (hm : Kd.C (Kd.int .i64) w A msg.length msg) :
    Calls Try.prog 107 #[.pointer (some ⟨g, 0, none⟩), v, .slice A msg.length c] w fun e w' => ∃ v', e = .returned v' ∧ Own w' w.heap.size v' (encZ D s.pts s.mults msg) ∧ Below w.heap.size w w' := by
  obtain ⟨A1, c1, A2, c2, A3, c3, rfl, h1, l1, h2, l2, h3, l3⟩ := h.out
  have hS0 := SAt.new w s A1 c1 A2 c2 A3 c3
  obtain ⟨w0, hw0⟩ : ∃ w0, w.alloc (.cells #[.int .i64 s.P, .int .i64 s.M, .slice A1 s.Mod.length c1, .int .i64 s.K, .slice A2 s.pts.length c2, .slice A3 s.mults.length c3] 29) = w0 := ⟨_, rfl⟩
  have hB0 : Below w.heap.size w w0 := by rw [← hw0]; exact below_alloc (Below.refl _ _) _
  rw [hw0] at hS0
  have HS := Aside0.mk hS0
  have HB0 := Aside0.mk hB0
  have HW := Aside0.mk hw0
  have HG := Aside0.mk (hg.below hB0)
  have HP := Aside0.mk (Kd.C_below h2 hB0)
  have HMu := Aside0.mk (Kd.C_below h3 hB0)
  have HMs := Aside0.mk (Kd.C_below hm hB0)
  obtain ⟨T, hT⟩ : ∃ T, encZ D s.pts s.mults msg = T := ⟨_, rfl⟩
  rw [hT]
  have hTl : T.length = s.pts.length := by rw [← hT]; unfold encZ; simp [hlen]
  obtain ⟨F, hF⟩ : ∃ F : Int → Int → Int, (fun _ c => c) = F := ⟨_, rfl⟩
  obtain ⟨n, hn⟩ : ∃ n, s.pts.length = n := ⟨_, rfl⟩
  obtain ⟨Z, hZ⟩ : ∃ Z : List Int, List.replicate n 0 = Z := ⟨_, rfl⟩
  have hZl : Z.length = n := by rw [← hZ]; simp
  have HT := Aside0.mk hT
  have HTl := Aside0.mk hTl
  have HF := Aside0.mk hF
  have HZ := Aside0.mk hZ
  have HZl := Aside0.mk hZl
  have HLen := Aside0.mk hlen
  have HNn := Aside0.mk hn
  clear h h1 h2 h3 hm hg hS0 hB0 hw0 hT hTl hF hZ hZl hlen hn
  go_enter Try.func107, Try.ntmps107
  go_upto_region 1 with (fail)
  rw [HW.out]
  have cPts := HS.out.pts
  go_wp2_with ((with_reducible refine gate_dst (N := 13) rfl ?_); refine make_own (n := s.pts.length) rfl (N := 13) rfl _ _ rfl rfl rfl (by omega) ?_; intro v1 w1 hO hB; rw [HNn.out, HZ.out] at hO; have HO := Aside0.mk hO; have HB := Aside0.mk hB; have cPts1 := (HS.out.below hB).pts; clear hO hB)
  clear cPts cPts1
  go_loopw [17] (fun v17 w' => ∃ k : Nat, v17 = .int .i64 k ∧ k ≤ s.pts.length ∧ Aside0 (Own w' w0.heap.size v1 (updZ F Z (T.take k))) ∧ Aside0 (Below w0.heap.size w0 w')) (fun v17 _ => s.pts.length - (intOf v17).toNat)
  case atStart => exact ⟨0, rfl, by omega, ⟨by simpa [updZ_nil] using HO.out⟩, HB⟩
  case round =>
    clear HO HB
    obtain ⟨k, rfl, hk, HO, HB⟩ := hrel
    have hlen : (updZ F Z (T.take k)).length = s.pts.length := by rw [updZ_length, HZl.out]; exact HNn.out.symm
    by_cases hlk : k < s.pts.length
    · obtain ⟨ad, e, hx⟩ := C_nat (Kd.C_below HP.out HB.out) k hlk
      cases e
      have hlm : k < s.mults.length := by rw [HLen.out]; exact hlk
      obtain ⟨ad2, e, hy⟩ := C_nat (Kd.C_below HMu.out HB.out) k hlm
      cases e
      have hget := encZ_getD D s.pts s.mults msg k hlk hlm
      rw [HT.out] at hget
      obtain ⟨x, hx'⟩ : ∃ x, s.pts.getD k 0 = x := ⟨_, rfl⟩
      obtain ⟨y, hy'⟩ : ∃ y, s.mults.getD k 0 = y := ⟨_, rfl⟩
      rw [hx'] at hx hget
      rw [hy'] at hy hget
      have hstep := updZ_set F 0 k Z T (by rw [HTl.out]; exact hlk) (by rw [HZl.out, ← HNn.out]; exact hlk)
      rw [hget, show F (Z.getD k 0) (D.mul y (D.eval msg x)) = D.mul y (D.eval msg x) from by rw [← HF.out]] at hstep
      obtain ⟨gb, cap, e, hg1, hg2⟩ := HO.out.form (by omega)
      rw [hlen] at e
      subst e
      have HO2 := Aside0.mk (HO.out.set hlen.symm k (D.mul y (D.eval msg x)))
      rw [hstep] at HO2
      obtain ⟨hcl, hfz⟩ := HO.out.cell' hlen.symm k hlk
      have HGr := Aside0.mk (HG.out.below HB.out)
      have HMr := Aside0.mk (Kd.C_below HMs.out HB.out)
      have cMul := (HS.out.below HB.out).mults
      clear hget hx' hy' hstep hlen HO
      go_wp2
      refine wp_region_quiet_tail 14 (by kernel_rfl) (by kernel_rfl) ?_
      simp only [List.take_succ_cons, List.take_zero, List.drop_succ_cons, List.drop_zero]
      repeat (first | go_big_quiet_step (first | (go_at_call 92; exact quiet_d (eval_any (HGr.out.drewN _) hD (Kd.C_drewN HMr.out _) _)) | (go_at_call 79; exact quiet_d (mul_any (HGr.out.drewN _) hD _ _))) | quiet_step (first | (go_at_call 92; exact quiet_d (eval_any (HGr.out.drewN _) hD (Kd.C_drewN HMr.out _) _)) | (go_at_call 79; exact quiet_d (mul_any (HGr.out.drewN _) hD _ _))))
      refine wpQuiet_nil ?_
      intro _ hw'
      obtain ⟨nq, hw''⟩ := hw'
      subst hw''
      go_wp2
      go_roundw
      case rel => exact ⟨k + 1, by go_num, by omega, ⟨HO2.out.drewN _⟩, ⟨pw_below_drewN (HB.out.setCell (p := ⟨gb, k, none⟩) hg1 _) _⟩⟩
      case measure => simp [intOf]; omega
    · obtain rfl : k = s.pts.length := by omega
      have hfin : updZ F Z (T.take s.pts.length) = T := by
        rw [List.take_of_length_le (by rw [HTl.out]; exact Nat.le_refl _), ← HF.out]
        exact updZ_const Z T (by rw [HZl.out, HTl.out, HNn.out])
      rw [hfin] at HO
      clear hlen hfin
      go_wp2
      go_ret
      exact ⟨_, rfl, HO.out.lower HB0.out.size, below_later HB0.out HB0.out.size HB.out⟩

theorem open_facts (s : GD) (h : s.open = 0) : fieldOk s.P s.M s.Mod = true ∧ 1 ≤ s.pts.length ∧ s.pts.length ≤ 64 ∧ s.mults.length = s.pts.length ∧ s.pts.all s.D.is = true ∧ s.mults.all s.D.is = true ∧ s.pts.Nodup ∧ (0 : Int) ∉ s.mults ∧ 0 ≤ s.K ∧ s.K ≤ s.pts.length := by
  unfold GD.open at h
  by_cases h1 : fieldOk s.P s.M s.Mod = false
  · rw [if_pos h1] at h; cases h
  rw [if_neg h1] at h
  by_cases h2 : s.pts.length < 1 ∨ 64 < s.pts.length
  · rw [if_pos h2] at h; cases h
  rw [if_neg h2] at h
  by_cases h3 : s.mults.length ≠ s.pts.length
  · rw [if_pos h3] at h; cases h
  rw [if_neg h3] at h
  by_cases h4 : s.pts.all s.D.is = false
  · rw [if_pos h4] at h; cases h
  rw [if_neg h4] at h
  by_cases h5 : s.mults.all s.D.is = false
  · rw [if_pos h5] at h; cases h
  rw [if_neg h5] at h
  by_cases h6 : ¬ s.pts.Nodup
  · rw [if_pos h6] at h; cases h
  rw [if_neg h6] at h
  by_cases h7 : (0 : Int) ∈ s.mults
  · rw [if_pos h7] at h; cases h
  rw [if_neg h7] at h
  by_cases h8 : s.K < 0
  · rw [if_pos h8] at h; cases h
  rw [if_neg h8] at h
  by_cases h9 : (s.pts.length : Int) < s.K
  · rw [if_pos h9] at h; cases h
  exact ⟨by simpa using h1, by omega, by omega, by omega, by simpa using h4, by simpa using h5, Classical.not_not.1 h6, h7, by omega, by omega⟩

theorem rdz_range (l : List Int) (q : Int) (hq : 0 < q) (h : ∀ x ∈ l, 0 ≤ x ∧ x < q) (i : Int) : 0 ≤ rdz l i ∧ rdz l i < q := by
  unfold rdz
  rw [List.getD_eq_getElem?_getD]
  cases e : l[i.toNat]? with
  | none => simp; exact hq
  | some x => exact h x (List.mem_of_getElem? e)
theorem setLog_range (q : Int) : ∀ (exp : List Int) (n : Nat) (log : List Int), 0 < q → (n : Int) + exp.length ≤ q → (∀ x ∈ log, 0 ≤ x ∧ x < q) → ∀ x ∈ setLog exp n log, 0 ≤ x ∧ x < q
  | [], _, _, _, _, h => h
  | y :: exp, n, log, hq, hl, h => by
    simp only [List.length_cons] at hl
    refine setLog_range q exp (n + 1) _ hq (by omega) (fun x hx => ?_)
    rcases List.mem_or_eq_of_mem_set hx with hx | hx
    · exact h x hx
    · omega
theorem fieldD_ok (P : Int) (m : Nat) (Mod : List Int) (h : fieldOk P m Mod = true) : (fieldD P m Mod).ok := by
  unfold fieldOk at h
  rw [Bool.and_eq_true] at h
  obtain ⟨hs, hne⟩ := h
  obtain ⟨p1, p2, p3, p4, p5, p6, p7, p8, p9, p10⟩ := shapeZ_true P m Mod hs
  rw [Int.toNat_natCast] at p5 p6 p8 hne
  have hne' : genZ P m Mod (P ^ m) ≠ [] := fun e => by rw [e] at hne; simp at hne
  obtain ⟨g1, g2⟩ := genZ_cases P p1 m (by omega) Mod p6 hne'
  have h2 : 2 ≤ P ^ m := by
    have := pow_le_pow P p1 1 m (by omega)
    rw [Int.pow_one] at this
    omega
  refine ⟨h2, p6, p1, p2, ?_, ?_, fun i => ?_, fun i => ?_⟩
  · show (genZ P m Mod (P ^ m)).length = _
    show _ = (P ^ m - 1).toNat
    omega
  · show (setLog _ 0 _).length = (P ^ m).toNat
    rw [setLog_length, List.length_replicate]
  · have := rdz_range _ (P ^ m - 1) (by omega) (setLog_range (P ^ m - 1) (genZ P m Mod (P ^ m)) 0 (List.replicate (P ^ m).toNat 0) (by omega) (by omega) (fun x hx => by rw [List.eq_of_mem_replicate hx]; omega)) i
    exact this
  · exact rdz_range _ (P ^ m) (by omega) g2 i
theorem GD.D_ok (s : GD) (h : s.open = 0) : s.D.ok := by
  obtain ⟨h1, -⟩ := open_facts s h
  obtain ⟨m, hm⟩ := shapeZ_nat _ _ _ h1
  unfold GD.D
  rw [hm, Int.toNat_natCast]
  exact fieldD_ok s.P m s.Mod (by rw [← hm]; exact h1)

/-- A row, or an error. -/
def ErrOr (w : World) (base : Nat) (v : Value) (r : List Int × Int) : Prop := (r.2 ≠ 0 ∧ v = .slice none 0 0) ∨ (r.2 = 0 ∧ Own w base v r.1)
theorem ErrOr.err {w : World} {base : Nat} {r : List Int × Int} (h : r.2 ≠ 0) : ErrOr w base (.slice none 0 0) r := .inl ⟨h, rfl⟩
theorem ErrOr.val {w : World} {base : Nat} {v : Value} {r : List Int × Int} (h : r.2 = 0) (ho : Own w base v r.1) : ErrOr w base v r := .inr ⟨h, ho⟩

set_option maxRecDepth 100000 in
theorem Encode_any {w : World} {v : Value} {s : GD} (h : GArg w v s) {A : Option Addr} {c : Nat} {msg : List Int} (hm : Kd.C (Kd.int .i64) w A msg.length msg) :
    Calls Try.prog 69 #[v, .slice A msg.length c] w fun e w' => ∃ v', e = .returned (.tuple #[v', .int .i64 (s.encode msg).2]) ∧ ErrOr w' w.heap.size v' (s.encode msg) ∧ Below w.heap.size w w' := by
  obtain ⟨A1, c1, A2, c2, A3, c3, rfl, h1, l1, h2, l2, h3, l3⟩ := h.out
  have hS0 := SAt.new w s A1 c1 A2 c2 A3 c3
  obtain ⟨w0, hw0⟩ : ∃ w0, w.alloc (.cells #[.int .i64 s.P, .int .i64 s.M, .slice A1 s.Mod.length c1, .int .i64 s.K, .slice A2 s.pts.length c2, .slice A3 s.mults.length c3] 29) = w0 := ⟨_, rfl⟩
  have hB0 : Below w.heap.size w w0 := by rw [← hw0]; exact below_alloc (Below.refl _ _) _
  rw [hw0] at hS0
  have HS := Aside0.mk hS0
  have HB0 := Aside0.mk hB0
  have HW := Aside0.mk hw0
  have HO := fun (w1 : World) (hb : Below w.heap.size w w1) => Aside0.mk (open_any (h.below hb))
  have HAr := Aside0.mk h
  have HMs := Aside0.mk (Kd.C_below hm hB0)
  have hmx := Kd.C_max hm
  by_cases ho : s.open ≠ 0
  · have e : s.encode msg = ([], s.open) := by unfold GD.encode; rw [if_pos ho]
    rw [e]
    obtain ⟨o, hoo⟩ : ∃ o, s.open = o := ⟨_, rfl⟩
    simp only [hoo] at HO ⊢
    rw [hoo] at ho
    have hob : (o == 0) = false := by simp [ho]
    have hob2 : (o != 0) = true := by simp [ho]
    clear h h1 h2 h3 hm hS0 hB0 hw0 e hoo ho
    go_enter Try.func69, Try.ntmps69
    go_upto_region 1 with (fail)
    rw [HW.out]
    have cP := HS.out.p
    have cM := HS.out.m
    have cMod := HS.out.mod
    have cK := HS.out.k
    have cPts := HS.out.pts
    have cMul := HS.out.mults
    go_wp2_with (go_at_call 62; refine (HO _ HB0.out).out.mono ?_; rintro e w1 ⟨pv, rfl, hr, hB⟩; have HB1 := Aside0.mk (below_later HB0.out HB0.out.size hB); clear hr hB)
    go_ret2
    exact ⟨_, rfl, ErrOr.err (by simpa using hob2), HB1.out⟩
  · have ho0 : s.open = 0 := Classical.not_not.1 ho
    obtain ⟨f1, f2, f3, f4, f5, f6, f7, f8, f9, f10⟩ := open_facts s ho0
    have hDok := s.D_ok ho0
    have HO' := fun (w1 : World) (hb : Below w.heap.size w w1) => Aside0.mk (show Calls Try.prog 62 _ w1 _ from (HO w1 hb).out)
    simp only [ho0] at HO'
    by_cases hK : (msg.length : Int) ≠ s.K
    · have e : s.encode msg = ([], 3) := by unfold GD.encode; rw [if_neg ho, if_pos hK]
      rw [e]
      have hkb : ((msg.length : Int) != s.K) = true := by simp [hK]
      clear h h1 h2 h3 hm hS0 hB0 hw0 e ho HO hK f1 f2 f3 f4 f5 f6 f7 f8
      go_enter Try.func69, Try.ntmps69
      go_upto_region 1 with (fail)
      rw [HW.out]
      have cP := HS.out.p
      have cM := HS.out.m
      have cMod := HS.out.mod
      have cK := HS.out.k
      have cPts := HS.out.pts
      have cMul := HS.out.mults
      go_wp2_with (go_at_call 62; refine (HO' _ HB0.out).out.mono ?_; rintro e w1 ⟨pv, rfl, hr, hB⟩; have HB1 := Aside0.mk (below_later HB0.out HB0.out.size hB); have cK1 := (HS.out.below hB).k; clear hr hB)
      go_ret2
      exact ⟨_, rfl, ErrOr.err (show _ ≠ _ by decide), HB1.out⟩
    · have hkb : ((msg.length : Int) != s.K) = false := by simpa using hK
      cases hel : msg.all s.D.is with
      | false =>
        have e : s.encode msg = ([], 2) := by unfold GD.encode; rw [if_neg ho, if_neg hK, if_pos hel]
        rw [e]
        have HEl := Aside0.mk hel
        have HO0 := Aside0.mk ho0
        clear h h1 h2 h3 hm hS0 hB0 hw0 e ho HO hK f1 f2 f3 f4 f5 f6 f7 f8 hel ho0
        go_enter Try.func69, Try.ntmps69
        go_upto_region 1 with (fail)
        rw [HW.out]
        have cP := HS.out.p
        have cM := HS.out.m
        have cMod := HS.out.mod
        have cK := HS.out.k
        have cPts := HS.out.pts
        have cMul := HS.out.mults
        go_wp2_with (first
          | (go_at_call 62; refine (HO' _ HB0.out).out.mono ?_; rintro e w1 ⟨pv, rfl, hr, hB⟩; obtain ⟨-, g, rfl, hg, hgb⟩ := hr.resolve_left (fun h => h.1 HO0.out); have HG := Aside0.mk hg; have HM1 := Aside0.mk (Kd.C_below HMs.out hB); have HB1 := Aside0.mk (below_later HB0.out HB0.out.size hB); have cK1 := (HS.out.below hB).k; clear hr hB hg)
          | (go_at_call 98; (with_reducible refine (elements_any (l := msg) HG.out HM1.out).mono ?_); rw [HEl.out]; rintro e w2 ⟨rfl, ⟨n2, rfl⟩⟩))
        go_ret2
        exact ⟨_, rfl, ErrOr.err (show _ ≠ _ by decide), pw_below_drewN HB1.out _⟩
      | true =>
        have e : s.encode msg = (encZ s.D s.pts s.mults msg, 0) := by unfold GD.encode; rw [if_neg ho, if_neg hK, if_neg (by rw [hel]; simp)]
        rw [e]
        have HEl := Aside0.mk hel
        have HO0 := Aside0.mk ho0
        have HF4 := Aside0.mk f4
        clear h h1 h2 h3 hm hS0 hB0 hw0 e ho HO hK f1 f2 f4 f5 f6 f7 f8 hel ho0
        go_enter Try.func69, Try.ntmps69
        go_upto_region 1 with (fail)
        rw [HW.out]
        have cP := HS.out.p
        have cM := HS.out.m
        have cMod := HS.out.mod
        have cK := HS.out.k
        have cPts := HS.out.pts
        have cMul := HS.out.mults
        go_wp2_with (first
          | (go_at_call 62; refine (HO' _ HB0.out).out.mono ?_; rintro e w1 ⟨pv, rfl, hr, hB⟩; obtain ⟨-, g, rfl, hg, hgb⟩ := hr.resolve_left (fun h => h.1 HO0.out); have HG := Aside0.mk hg; have HM1 := Aside0.mk (Kd.C_below HMs.out hB); have HB1 := Aside0.mk (below_later HB0.out HB0.out.size hB); have hS1 := HS.out.below hB; have cP1 := hS1.p; have cM1 := hS1.m; have cMod1 := hS1.mod; have cK1 := hS1.k; have cPts1 := hS1.pts; have cMul1 := hS1.mults; have HA1 := Aside0.mk (HAr.out.below HB1.out); clear hr hB hg hS1)
          | (go_at_call 98; (with_reducible refine (elements_any (l := msg) HG.out HM1.out).mono ?_); rw [HEl.out]; rintro e w2 ⟨rfl, ⟨n2, rfl⟩⟩)
          | (go_at_call 107; refine (encode_any (s := s) (HG.out.drewN _) hDok (HA1.out.below (pw_below_drewN (Below.refl _ _) _)) HF4.out (by omega) (Kd.C_drewN HM1.out _)).mono ?_; rintro e w3 ⟨v', rfl, hO3, hB3⟩; have HO3 := Aside0.mk hO3; have HB3 := Aside0.mk hB3; clear hO3 hB3))
        go_ret2
        exact ⟨_, rfl, ErrOr.val rfl (HO3.out.lower HB1.out.size), below_later (pw_below_drewN HB1.out _) (pw_below_drewN HB1.out _).size HB3.out⟩
end Go.Proofs.Yticgblagimmlfaa
