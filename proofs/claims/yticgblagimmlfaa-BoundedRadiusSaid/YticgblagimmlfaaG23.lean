/- bounded.codeword. -/
import Derived.Test.YticgblagimmlfaaG22
import Derived.Test.YticgblagimmlfaaWZeros
namespace Go.Proofs.Yticgblagimmlfaa
open Go.RowKit Go.Proofs.YticgblagimmlfaaW.PrintWords Go.Proofs.YticgblagimmlfaaW.PrintLast Go.Proofs.YticgblagimmlfaaW.PrintMore
set_option linter.unusedVariables false
set_option linter.unusedSimpArgs false

section
variable {ops : Array Oper} {rest : List Oper} {o : Oper} {a : Act} {Q : Exit → Act → World → Prop} {Kc : Act → World → Prop}
theorem append_own4 {w0 W : World} (base : Nat) (hgd : o.guard = none) (s x : Operand) (ho : o.op = .call { callee := .builtin .append, args := #[s, x], argTypes := #[25, 25] })
    {v : Value} {xs : List Int} (p : Int) (hs : a.eval s = v) (hx : a.eval x = .slice (some ⟨W.heap.size, 0, none⟩) 1 1) (HO : Own W base v xs) (HB : Below base w0 W) (hbase : base ≤ W.heap.size) (hl : xs.length ≤ 1000000000000)
    (h : ∀ v1 w1, Own w1 base v1 (xs ++ [p]) → Below base w0 w1 → W.grownBy w1 v.ownBlock → (v1.ownBlock = v.ownBlock ∨ ∃ b, v1.ownBlock = some b ∧ W.heap.size ≤ b) → wpList Try.prog ops Q rest (a.put o.dst v1) w1) :
    wpList Try.prog ops Q (o :: rest) a (W.alloc (.cells #[.int .i64 p] 3)) := by
  refine Kd.R_append (Kd.int .i64) (w0 := w0) base hgd s x 25 3 (.int .i64 0) 8 ho Try.underlying25 info3 rfl (by decide) (by omega) v xs p [.int .i64 p] (fun _ => True) (fun _ => False) hs hx rfl (fun _ hk => hk.elim) (fun _ _ => trivial) HO.out HB hbase (by omega) ?_
  intro v1 w1 h1 h2 h3 h4
  exact h v1 w1 ⟨h1⟩ h2 h3 h4
theorem append_zeros_step {w0 W : World} (hw : Region.wanted o (yielded ops a.tmps) = true) (s x : Operand) (ho : o.op = .call { callee := .builtin .append, args := #[s, x], argTypes := #[25, 3] })
    {base : Nat} {v : Value} {xs : List Int} (n : Int) (hs : a.eval s = v) (hx : a.eval x = .int .i64 n) (HO : Own W base v xs) (h0 : 0 ≤ n) (hbase : base ≤ W.heap.size) (HB : Below base w0 W) (hl : xs.length + n.toNat ≤ 1000000000000)
    (h : ∀ v1 w1, Own w1 base v1 (xs ++ List.replicate n.toNat 0) → Below base w0 w1 → Kc (a.put o.dst v1) w1) :
    if Region.wanted o (yielded ops a.tmps) = true then Oper.wp Try.prog o a W Kc Q else Kc (a.put o.dst undef) W := by
  refine Kd.R_append_zeros_step (Kd.int .i64) (w0 := w0) base hw s x 25 3 3 (.int .i64 0) 8 ho Try.underlying25 Try.underlying3 info3 rfl (by decide) (by omega) v xs 0 n (fun _ => True) hs hx rfl (fun _ _ => trivial) HO.out h0 HB hbase (by omega) ?_
  intro v1 w1 h1 h2 h3 h4
  exact h v1 w1 ⟨h1⟩ h2
end
/-- Two rows in different blocks. -/
def Dj (v1 v2 : Value) : Prop := ∀ k, v1.ownBlock = some k → v2.ownBlock ≠ some k
theorem Dj.nil (v : Value) : Dj (.slice none 0 0) v := fun k hk => by cases hk
theorem Dj.symm {v1 v2 : Value} (h : Dj v1 v2) : Dj v2 v1 := fun k h1 h2 => h k h2 h1
theorem Own.lt_size {w : World} {base : Nat} {v : Value} {l : List Int} (h : Own w base v l) (k : Nat) (hk : v.ownBlock = some k) : k < w.heap.size := by
  obtain ⟨c, hc⟩ := Kd.R_typed h.out k hk
  exact (Array.getElem?_eq_some_iff.1 hc).1
theorem Dj.grown {w : World} {base : Nat} {v1 v2 v2' : Value} {l : List Int} (h : Dj v1 v2) (ho : Own w base v1 l) (hg : v2'.ownBlock = v2.ownBlock ∨ ∃ b, v2'.ownBlock = some b ∧ w.heap.size ≤ b) : Dj v1 v2' := by
  intro k hk e
  rcases hg with hg | ⟨b, hb, hb2⟩
  · exact h k hk (by rw [← hg]; exact e)
  · have := ho.lt_size k hk
    rw [hb] at e
    simp only [Option.some.injEq] at e
    omega
theorem Own.grown' {w w1 : World} {base : Nat} {v v2 : Value} {l : List Int} (h : Own w base v l) (hg : w.grownBy w1 v2.ownBlock) (hd : Dj v v2) : Own w1 base v l :=
  h.grown hg fun k hk e => hd k hk e.symm

theorem keptX_sub (pts : List Int) (er : List Bool) : ∀ n, n ≤ pts.length → (keptX pts er n).Sublist (pts.take n)
  | 0, _ => by simp [keptX]
  | n + 1, h => by
    rw [keptX_succ, take_succ_rd pts n (by omega)]
    have ih := keptX_sub pts er n (by omega)
    split
    · exact ih.trans (List.sublist_append_left _ _)
    · exact ih.append (List.Sublist.refl _)
theorem keptX_nodup (s : GD) (er : List Bool) (h : s.pts.Nodup) (ha : s.pts.all s.D.is = true) : ((keptX s.pts er s.pts.length).map s.D.inn).Nodup := by
  have h1 := keptX_sub s.pts er s.pts.length (Nat.le_refl _)
  rw [List.take_length] at h1
  have h2 : (keptX s.pts er s.pts.length).map s.D.inn = keptX s.pts er s.pts.length := by
    conv => rhs; rw [← List.map_id (keptX s.pts er s.pts.length)]
    refine List.map_congr_left fun x hx => ?_
    have := List.all_eq_true.1 ha x (h1.subset hx)
    unfold GFD.is at this
    unfold GFD.inn
    have := of_decide_eq_true this
    rw [if_pos this]; rfl
  rw [h2]
  exact h.sublist h1
theorem gao_length (D : GFD) (xs ys : List Int) (k : Nat) (R : List Int × List Int) (h : (D.gao xs ys k R).2 = 0) : (D.gao xs ys k R).1.length ≤ k := by
  unfold GFD.gao at h ⊢
  by_cases h1 : D.canon R.2 = []
  · rw [if_pos h1] at h; cases h
  · rw [if_neg h1] at h ⊢
    by_cases h2 : (D.divC (D.canon R.1) (D.canon R.2)).2 ≠ []
    · rw [if_pos h2] at h; cases h
    · rw [if_neg h2] at h ⊢
      by_cases h3 : (D.divC (D.canon R.1) (D.canon R.2)).1.length > k
      · rw [if_pos h3] at h; cases h
      · rw [if_neg h3] at h ⊢
        split at h
        · cases h
        · rename_i h4
          rw [if_neg h4]
          simpa using h3
theorem gao_err (D : GFD) (xs ys : List Int) (k : Nat) (R : List Int × List Int) : (D.gao xs ys k R).2 = 0 ∨ (D.gao xs ys k R).2 = 12 := by
  unfold GFD.gao
  repeat' split
  all_goals first | exact .inl rfl | exact .inr rfl
set_option maxHeartbeats 8000000 in
set_option maxRecDepth 100000 in
theorem codeword_any {g : Nat} {w : World} {v : Value} {s : GD} (hg : GFat w g s.D) (h : GArg w v s) (ho0 : s.open = 0) {B E : Option Addr} {dd ee : Nat} {l : List Int} {er : List Bool} (hl : Kd.C (Kd.int .i64) w B l.length l) (he : Kd.bool.C w E er.length er)
    (h1 : l.length = s.pts.length) (h2 : er.length = s.pts.length) (hE : s.ends l er) :
    Calls Try.prog 39 #[.pointer (some ⟨g, 0, none⟩), v, .slice B l.length dd, .slice E er.length ee] w fun e w' => ∃ v', e = .returned (.tuple #[v', .int .i64 (s.codeword l er).2]) ∧ ErrOr w' w.heap.size v' (s.codeword l er) ∧ Below w.heap.size w w' := by
  obtain ⟨A1, c1, A2, c2, A3, c3, rfl, g1, l1, g2, l2, g3, l3⟩ := h.out
  obtain ⟨f1, f2, f3, f4, f5, f6, f7, f8, f9, f10⟩ := open_facts s ho0
  have hDok := s.D_ok ho0
  have hnd := keptX_nodup s er f7 f5
  have hXl := keptX_length s.pts er s.pts.length
  have hYl := keptY_length s.D s.mults l s.pts er s.pts.length
  obtain ⟨K, hK⟩ := Int.eq_ofNat_of_zero_le f9
  have hS0 := SAt.new w s A1 c1 A2 c2 A3 c3
  obtain ⟨w0, hw0⟩ : ∃ w0, w.alloc (.cells #[.int .i64 s.P, .int .i64 s.M, .slice A1 s.Mod.length c1, .int .i64 s.K, .slice A2 s.pts.length c2, .slice A3 s.mults.length c3] 29) = w0 := ⟨_, rfl⟩
  have hB0 : Below w.heap.size w w0 := by rw [← hw0]; exact below_alloc (Below.refl _ _) _
  rw [hw0] at hS0
  have HS := Aside0.mk hS0
  have HB0 := Aside0.mk hB0
  have HW := Aside0.mk hw0
  have HG := Aside0.mk (hg.below hB0)
  have HAr := Aside0.mk (h.below hB0)
  have HP := Aside0.mk (Kd.C_below g2 hB0)
  have HMu := Aside0.mk (Kd.C_below g3 hB0)
  have HL := Aside0.mk (Kd.C_below hl hB0)
  have HEr := Aside0.mk (Kd.C_below he hB0)
  have HBr := Aside0.mk (Below.refl w0.heap.size w0)
  obtain ⟨T, hT⟩ : ∃ T, s.codeword l er = T := ⟨_, rfl⟩
  rw [hT]
  unfold GD.codeword at hT
  unfold GD.gaoZ at hT
  unfold GD.ends at hE
  unfold GD.eucl at hT hE
  rw [hK, Int.toNat_natCast] at hT hE
  obtain ⟨n, hn⟩ : ∃ n, s.pts.length = n := ⟨_, rfl⟩
  have HT := Aside0.mk hT
  have HE := Aside0.mk hE
  have HNd := Aside0.mk hnd
  have HXl := Aside0.mk hXl
  have HYl := Aside0.mk hYl
  have HK := Aside0.mk hK
  have HL1 := Aside0.mk h1
  have HL2 := Aside0.mk h2
  have HF4 := Aside0.mk f4
  have HF10 := Aside0.mk f10
  clear h g1 g2 g3 hg hS0 hB0 hw0 hT hE hnd hXl hYl hK hl he f1 f4 f5 f6 f7 f8 f10 ho0 h1 h2 hn n
  go_enter Try.func39, Try.ntmps39
  go_upto_region 1 with (fail)
  rw [HW.out]
  have cPts := HS.out.pts
  go_wp2
  clear cPts
  have HXz := Aside0.mk (Own.nil w0 w0.heap.size)
  go_loopw [10, 11, 21] (fun v10 v11 v21 w' => ∃ k : Nat, v21 = .int .i64 k ∧ k ≤ s.pts.length ∧ Aside0 (Own w' w0.heap.size v10 (keptX s.pts er k)) ∧ Aside0 (Own w' w0.heap.size v11 (keptY s.D s.mults l er k)) ∧ Aside0 (Dj v10 v11) ∧ Aside0 (Below w0.heap.size w0 w')) (fun _ _ v21 _ => s.pts.length - (intOf v21).toNat)
  case atStart => exact ⟨0, rfl, by omega, HXz, HXz, ⟨Dj.nil _⟩, HBr⟩
  case round =>
    clear HXz
    obtain ⟨k, rfl, hk, HX, HY, HD, HB⟩ := hrel
    have hxl := keptX_length s.pts er k
    have hyl := keptY_length s.D s.mults l s.pts er k
    by_cases hlk : k < s.pts.length
    · obtain ⟨ad, e, hx⟩ := C_nat (Kd.C_below HP.out HB.out) k hlk
      cases e
      have hk1 : k < l.length := by rw [HL1.out]; exact hlk
      have hk2 : k < er.length := by rw [HL2.out]; exact hlk
      have hk3 : k < s.mults.length := by rw [HF4.out]; exact hlk
      obtain ⟨ad2, e, hy⟩ := C_nat (Kd.C_below HL.out HB.out) k hk1
      cases e
      obtain ⟨ad3, e, hz⟩ := CB_nat (Kd.C_below HEr.out HB.out) k hk2
      cases e
      obtain ⟨ad4, e, hm⟩ := C_nat (Kd.C_below HMu.out HB.out) k hk3
      cases e
      have hxs := keptX_succ s.pts er k
      have hys := keptY_succ s.D s.mults l er k
      obtain ⟨x, hx'⟩ : ∃ x, s.pts.getD k 0 = x := ⟨_, rfl⟩
      rw [hx'] at hx hxs
      obtain ⟨y, hy'⟩ : ∃ x, l.getD k 0 = x := ⟨_, rfl⟩
      rw [hy'] at hy hys
      obtain ⟨m, hm'⟩ : ∃ x, s.mults.getD k 0 = x := ⟨_, rfl⟩
      rw [hm'] at hm hys
      obtain ⟨z, hz'⟩ : ∃ x, er.getD k false = x := ⟨_, rfl⟩
      rw [hz'] at hz hxs hys
      obtain ⟨X0, hX0⟩ : ∃ X, keptX s.pts er k = X := ⟨_, rfl⟩
      obtain ⟨Y0, hY0⟩ : ∃ X, keptY s.D s.mults l er k = X := ⟨_, rfl⟩
      rw [hX0] at HX hxl hyl hxs
      rw [hY0] at HY hyl hys
      have hyl2 : Y0.length ≤ 64 := by omega
      clear hyl
      cases z with
      | true =>
        rw [if_pos rfl] at hxs hys
        have HXs := Aside0.mk hxs
        have HYs := Aside0.mk hys
        clear hx' hy' hm' hz' hX0 hY0 hxs hys
        go_wp2
        go_roundw
        case rel => exact ⟨k + 1, by go_num, by omega, ⟨by rw [HXs.out]; exact HX.out⟩, ⟨by rw [HYs.out]; exact HY.out⟩, HD, HB⟩
        case measure => simp [intOf]; omega
      | false =>
        rw [if_neg (by simp)] at hxs hys
        obtain ⟨q, hq⟩ : ∃ q, s.D.div y m = q := ⟨_, rfl⟩
        rw [hq] at hys
        have HXs := Aside0.mk hxs
        have HYs := Aside0.mk hys
        have HQ := Aside0.mk hq
        have HGr := Aside0.mk (HG.out.below HB.out)
        have cMul := (HS.out.below HB.out).mults
        clear hx' hy' hm' hz' hX0 hY0 hxs hys hq
        obtain ⟨A10, c10, rfl, -, -⟩ := HX.out.slice
        obtain ⟨A11, c11, rfl, -, -⟩ := HY.out.slice
        go_wp2
        go_quiet (first | (go_at_call 67; exact quiet_d (div_any (HGr.out.drewN _) hDok y m)))
        rw [HQ.out]
        obtain ⟨wq, hwq⟩ : ∃ wq : World, wr.drewN nq = wq := ⟨_, rfl⟩
        have HXq := Aside0.mk (HX.out.drewN nq)
        have HYq := Aside0.mk (HY.out.drewN nq)
        have HBq := Aside0.mk (pw_below_drewN HB.out nq)
        rw [hwq] at HXq HYq HBq ⊢
        clear hwq HX HY HB cMul
        go_wp2_with (first
          | ((with_reducible refine gate_builtin (b := .append) (xs := #[.tmp 45, .tmp 47]) rfl ?_); at_builtin; refine append_own4 (w0 := wq) w0.heap.size rfl (.tmp 45) (.tmp 47) rfl (v := .slice A10 X0.length c10) (xs := X0) x rfl rfl HXq.out (Below.refl _ _) HBq.out.size (by omega) ?_; intro v5 w5 h5 hb5 hg5 ho5; have HD5 := Aside0.mk (Dj.grown (HD.out.symm) HYq.out ho5); have HY5 := Aside0.mk (HYq.out.grown' hg5 HD.out.symm); have HX5 := Aside0.mk h5; have HB5 := Aside0.mk (Below.trans HBq.out hb5); clear h5 hb5 hg5 ho5)
          | ((with_reducible refine gate_builtin (b := .append) (xs := #[.tmp 49, .tmp 51]) rfl ?_); at_builtin; refine append_own4 (w0 := w5) w0.heap.size rfl (.tmp 49) (.tmp 51) rfl (v := .slice A11 Y0.length c11) (xs := Y0) q rfl rfl HY5.out (Below.refl _ _) HB5.out.size (by omega) ?_; intro v6 w6 h6 hb6 hg6 ho6; have HD6 := Aside0.mk (Dj.grown (HD5.out.symm) HX5.out ho6); have HX6 := Aside0.mk (HX5.out.grown' hg6 HD5.out.symm); have HY6 := Aside0.mk h6; have HB6 := Aside0.mk (Below.trans HB5.out hb6); clear h6 hb6 hg6 ho6))
        go_roundw
        case rel => exact ⟨k + 1, by go_num, by omega, ⟨by rw [HXs.out]; exact HX6.out⟩, ⟨by rw [HYs.out]; exact HY6.out⟩, HD6, HB6⟩
        case measure => simp [intOf]; omega
    · obtain rfl : k = s.pts.length := by omega
      have HT2 := HT
      have hnd := HNd.out
      have hE := HE.out
      obtain ⟨X, hX⟩ : ∃ X, keptX s.pts er s.pts.length = X := ⟨_, rfl⟩
      obtain ⟨Y, hY⟩ : ∃ X, keptY s.D s.mults l er s.pts.length = X := ⟨_, rfl⟩
      have hT := HT.out
      rw [hX] at HX hxl hyl hnd hE hT
      rw [hY] at HY hyl hE hT
      have hKe := HK.out
      have cK := (HS.out.below HB.out).k
      have HGr := Aside0.mk (HG.out.below HB.out)
      have HArr := Aside0.mk (HAr.out.below HB.out)
      obtain ⟨A10, c10, rfl, -, hCX⟩ := HX.out.slice
      obtain ⟨A11, c11, rfl, -, hCY⟩ := HY.out.slice
      have HCX := Aside0.mk hCX
      have HCY := Aside0.mk hCY
      have HYl := Aside0.mk hyl
      have hYb : Y.length ≤ 64 := by omega
      have hKb := HF10.out
      rw [hKe] at hKb
      clear HNd HE HT HT2 hX hY hCX hCY hyl HD
      by_cases hlt : ((X.length : Nat) : Int) < s.K
      · rw [if_pos (by omega)] at hT
        subst hT
        clear hE hnd hKe
        go_wp2
        go_ret2
        exact ⟨_, rfl, ErrOr.err (by decide), below_later HB0.out HB0.out.size HB.out⟩
      · rw [if_neg (by omega)] at hT
        have hkx : K ≤ X.length := by omega
        obtain ⟨R, hR⟩ := hE (by omega)
        rw [hR, Option.getD_some] at hT
        have hlen := gao_length s.D X Y K R
        have HGao := Aside0.mk (gao_any (c := c10) (d := c11) HGr.out hDok HCX.out HCY.out (by omega) HYl.out hnd K hkx 1000 (by omega) hR)
        rcases gao_err s.D X Y K R with he | he
        · rw [if_neg (fun h => h he)] at hT
          rw [he, ← HK.out] at HGao
          have hlen := hlen he
          obtain ⟨m, hm⟩ : ∃ m, (s.D.gao X Y K R) = m := ⟨_, rfl⟩
          rw [hm] at HGao he hlen hT
          obtain ⟨m1, m2⟩ := m
          simp only at HGao he hlen hT
          subst he
          obtain ⟨msg, hmsg⟩ : ∃ msg, m1 ++ List.replicate (K - m1.length) 0 = msg := ⟨_, rfl⟩
          rw [hmsg] at hT
          have HMsg := Aside0.mk hmsg
          have HT := Aside0.mk hT
          have hsub : IntKind.i64.wrap (s.K - (m1.length : Int)) = s.K - (m1.length : Int) := w64 _ (by omega) (by omega)
          have hn0 : 0 ≤ s.K - (m1.length : Int) := by omega
          have hnn : (s.K - (m1.length : Int)).toNat = K - m1.length := by omega
          have HNn := Aside0.mk hnn
          clear hE hnd hKe hT hm hR hnn hmsg
          go_wp2_with (go_at_call 68; refine HGao.out.mono ?_; rintro e w1 ⟨v1, rfl, hr, hB⟩; have hO := hr.resolve_left (fun h => by cases h.1); have hO := hO.2; obtain ⟨Am, cm, rfl, hcm, hCm⟩ := hO.slice; have HOm := Aside0.mk hO; have HCm := Aside0.mk hCm; have HBm := Aside0.mk hB; have hS1 := HS.out.below (Below.trans HB.out (hB.mono HB.out.size)); have cP1 := hS1.p; have cM1 := hS1.m; have cMod1 := hS1.mod; have cK1 := hS1.k; have cPts1 := hS1.pts; have cMul1 := hS1.mults; clear hr hO hB hCm hS1)
          have HB1 := Aside0.mk (Below.trans HB.out (HBm.out.mono HB.out.size))
          have HO1 := Aside0.mk (HOm.out.lower HB.out.size)
          have hml : m1.length ≤ 64 := by omega
          go_region_held3 (fun w' => w'.cell? ⟨w.heap.size, 0, none⟩ = some (.int .i64 s.P) ∧ w'.cell? ⟨w.heap.size, 1, none⟩ = some (.int .i64 s.M) ∧ w'.cell? ⟨w.heap.size, 2, none⟩ = some (.slice A1 s.Mod.length c1) ∧ w'.cell? ⟨w.heap.size, 3, none⟩ = some (.int .i64 s.K) ∧ w'.cell? ⟨w.heap.size, 4, none⟩ = some (.slice A2 s.pts.length c2) ∧ w'.cell? ⟨w.heap.size, 5, none⟩ = some (.slice A3 s.mults.length c3)) (first | exact ⟨‹_›, ‹_›, ‹_›, ‹_›, ‹_›, ‹_›⟩ | go_keep)
            (first
              | (refine append_zeros_step (w0 := w0) (base := w0.heap.size) (xs := m1) (by rfl) (.tmp 72) (.tmp 77) rfl (s.K - (m1.length : Int)) rfl rfl ?_ hn0 ?_ ?_ (by omega) ?_; (first | exact HO1.out.drewN 1 | exact HO1.out | (trace_state; fail)); (first | exact (below_drew HB1.out).size | exact HB1.out.size); (first | exact below_drew HB1.out | exact HB1.out); intro v7 w7 hO7 hB7; rw [HNn.out, HMsg.out] at hO7; obtain ⟨A7, c7, rfl, hc7, hC7⟩ := hO7.slice; have HC7 := Aside0.mk hC7; have hS7 := HS.out.below hB7; have cP7 := hS7.p; have cM7 := hS7.m; have cMod7 := hS7.mod; have cK7 := hS7.k; have cPts7 := hS7.pts; have cMul7 := hS7.mults; have HB7 := Aside0.mk hB7; clear hO7 hB7 hC7 hS7)
              | (go_at_call 69; refine (Encode_any (s := s) (msg := msg) (HAr.out.below HB7.out) HC7.out).mono ?_; rw [HT.out]; rintro e w8 ⟨v8, rfl, hr8, hB8⟩; have HR8 := Aside0.mk hr8; have HB8 := Aside0.mk hB8; have hS8 := HS.out.below (Below.trans HB7.out (hB8.mono HB7.out.size)); have cP8 := hS8.p; have cM8 := hS8.m; have cMod8 := hS8.mod; have cK8 := hS8.k; have cPts8 := hS8.pts; have cMul8 := hS8.mults; clear hr8 hB8 hS8))
          all_goals go_wp2
          all_goals go_ret2
          all_goals
            have hb7 := Below.trans HB7.out (HB8.out.mono HB7.out.size)
            refine ⟨_, rfl, ?_, below_later HB0.out HB0.out.size hb7⟩
            rcases HR8.out with ⟨q1, q2⟩ | ⟨q1, q2⟩
            · exact .inl ⟨q1, q2⟩
            · exact .inr ⟨q1, q2.lower (Nat.le_trans HB0.out.size HB7.out.size)⟩
        · rw [if_pos (by rw [he]; decide)] at hT
          rw [he] at hT
          rw [he, ← HK.out] at HGao
          subst hT
          clear hE hnd hKe hR hlen he
          go_wp2_with (go_at_call 68; refine HGao.out.mono ?_; rintro e w1 ⟨v1, rfl, hr, hB⟩; have HB1 := Aside0.mk hB; clear hr hB)
          go_ret2
          exact ⟨_, rfl, ErrOr.err (by decide), below_later HB0.out HB0.out.size (Below.trans HB.out (HB1.out.mono HB.out.size))⟩
end Go.Proofs.Yticgblagimmlfaa
