/- open, Check. -/
import Derived.Test.YticgblagimmlfaaG18
namespace Go.Proofs.Yticgblagimmlfaa
open Go.RowKit Go.Proofs.YticgblagimmlfaaW.PrintWords Go.Proofs.YticgblagimmlfaaW.PrintLast Go.Proofs.YticgblagimmlfaaW.PrintMore
set_option linter.unusedVariables false
set_option linter.unusedSimpArgs false

/-- A description of a code, as a value. -/
structure GArg (w : World) (v : Value) (s : GD) : Prop where mk ::
  out : ∃ A1 c1 A2 c2 A3 c3, v = .agg #[.int .i64 s.P, .int .i64 s.M, .slice A1 s.Mod.length c1, .int .i64 s.K, .slice A2 s.pts.length c2, .slice A3 s.mults.length c3] ∧
    Kd.C (Kd.int .i64) w A1 s.Mod.length s.Mod ∧ s.Mod.length ≤ c1 ∧ Kd.C (Kd.int .i64) w A2 s.pts.length s.pts ∧ s.pts.length ≤ c2 ∧ Kd.C (Kd.int .i64) w A3 s.mults.length s.mults ∧ s.mults.length ≤ c3
theorem GArg.below {w w1 : World} {v : Value} {s : GD} (h : GArg w v s) (hb : Below w.heap.size w w1) : GArg w1 v s := by
  obtain ⟨A1, c1, A2, c2, A3, c3, e, h1, l1, h2, l2, h3, l3⟩ := h.out
  exact ⟨A1, c1, A2, c2, A3, c3, e, Kd.C_below h1 hb, l1, Kd.C_below h2 hb, l2, Kd.C_below h3 hb, l3⟩

/-- What open gives beside the error. -/
def OpenRes (w : World) (base : Nat) (v : Value) (s : GD) : Prop := (s.open ≠ 0 ∧ v = .pointer none) ∨ (s.open = 0 ∧ ∃ g, v = .pointer (some ⟨g, 0, none⟩) ∧ GFat w g s.D ∧ base ≤ g)
theorem OpenRes.bad {w : World} {base : Nat} {s : GD} (h : s.open ≠ 0) : OpenRes w base (.pointer none) s := .inl ⟨h, rfl⟩
theorem OpenRes.good {w : World} {base g : Nat} {s : GD} (h : s.open = 0) (hg : GFat w g s.D) (hb : base ≤ g) : OpenRes w base (.pointer (some ⟨g, 0, none⟩)) s := .inr ⟨h, g, rfl, hg, hb⟩

/-- The boxed description. -/
structure SAt (w : World) (b : Nat) (s : GD) (A1 : Option Addr) (c1 : Nat) (A2 : Option Addr) (c2 : Nat) (A3 : Option Addr) (c3 : Nat) : Prop where
  p : w.cell? ⟨b, 0, none⟩ = some (.int .i64 s.P)
  m : w.cell? ⟨b, 1, none⟩ = some (.int .i64 s.M)
  mod : w.cell? ⟨b, 2, none⟩ = some (.slice A1 s.Mod.length c1)
  k : w.cell? ⟨b, 3, none⟩ = some (.int .i64 s.K)
  pts : w.cell? ⟨b, 4, none⟩ = some (.slice A2 s.pts.length c2)
  mults : w.cell? ⟨b, 5, none⟩ = some (.slice A3 s.mults.length c3)
theorem SAt.below {w w1 : World} {b : Nat} {s : GD} {A1 A2 A3 : Option Addr} {c1 c2 c3 : Nat} (h : SAt w b s A1 c1 A2 c2 A3 c3) (hb : Below w.heap.size w w1) : SAt w1 b s A1 c1 A2 c2 A3 c3 :=
  ⟨pw_cell_below hb h.p, pw_cell_below hb h.m, pw_cell_below hb h.mod, pw_cell_below hb h.k, pw_cell_below hb h.pts, pw_cell_below hb h.mults⟩
theorem SAt.new (w : World) (s : GD) (A1 : Option Addr) (c1 : Nat) (A2 : Option Addr) (c2 : Nat) (A3 : Option Addr) (c3 : Nat) :
    SAt (w.alloc (.cells #[.int .i64 s.P, .int .i64 s.M, .slice A1 s.Mod.length c1, .int .i64 s.K, .slice A2 s.pts.length c2, .slice A3 s.mults.length c3] 29)) w.heap.size s A1 c1 A2 c2 A3 c3 :=
  ⟨(blk_cell (heap_alloc_new w _) 0).trans rfl, (blk_cell (heap_alloc_new w _) 1).trans rfl, (blk_cell (heap_alloc_new w _) 2).trans rfl, (blk_cell (heap_alloc_new w _) 3).trans rfl, (blk_cell (heap_alloc_new w _) 4).trans rfl, (blk_cell (heap_alloc_new w _) 5).trans rfl⟩

theorem shapeZ_nat (P M : Int) (Mod : List Int) (h : fieldOk P M Mod = true) : ∃ m : Nat, M = m := by
  unfold fieldOk at h
  rw [Bool.and_eq_true] at h
  have := shapeZ_true P M Mod h.1
  exact Int.eq_ofNat_of_zero_le (by omega)

set_option maxRecDepth 100000 in
theorem open_bad1 {w : World} {v : Value} {s : GD} (h : GArg w v s) (hb : fieldOk s.P s.M s.Mod = false) :
    Calls Try.prog 62 #[v] w fun e w' => e = .returned (.tuple #[.pointer none, .int .i64 1]) ∧ Below w.heap.size w w' := by
  obtain ⟨A1, c1, A2, c2, A3, c3, rfl, h1, l1, h2, l2, h3, l3⟩ := h.out
  have hS0 := SAt.new w s A1 c1 A2 c2 A3 c3
  obtain ⟨w0, hw0⟩ : ∃ w0, w.alloc (.cells #[.int .i64 s.P, .int .i64 s.M, .slice A1 s.Mod.length c1, .int .i64 s.K, .slice A2 s.pts.length c2, .slice A3 s.mults.length c3] 29) = w0 := ⟨_, rfl⟩
  have hB0 : Below w.heap.size w w0 := by rw [← hw0]; exact below_alloc (Below.refl _ _) _
  rw [hw0] at hS0
  have HS := Aside0.mk hS0
  have HB0 := Aside0.mk hB0
  have HW := Aside0.mk hw0
  have HN := Aside0.mk (new_bad (c := c1) s.P s.M (Kd.C_below h1 hB0) hb)
  clear h h1 h2 h3 hS0 hB0 hw0 hb
  go_enter Try.func62, Try.ntmps62
  go_wp2_with fail
  rw [HW.out]
  have cP := HS.out.p
  have cM := HS.out.m
  have cMod := HS.out.mod
  have cPts := HS.out.pts
  go_wp2_with (go_at_call 37; refine HN.out.mono ?_; rintro e w1 ⟨rfl, hB1⟩; have HB1 := Aside0.mk (below_later HB0.out HB0.out.size hB1); have cP1 := (HS.out.below hB1).p; have cPts1 := (HS.out.below hB1).pts; clear hB1)
  go_ret2
  exact ⟨rfl, HB1.out⟩

set_option maxRecDepth 100000 in
theorem open_rest {w : World} {v : Value} {s : GD} (h : GArg w v s) (hb : fieldOk s.P s.M s.Mod = true) :
    Calls Try.prog 62 #[v] w fun e w' => ∃ pv, e = .returned (.tuple #[pv, .int .i64 s.open]) ∧ OpenRes w' w.heap.size pv s ∧ Below w.heap.size w w' := by
  obtain ⟨A1, c1, A2, c2, A3, c3, rfl, h1, l1, h2, l2, h3, l3⟩ := h.out
  have hS0 := SAt.new w s A1 c1 A2 c2 A3 c3
  obtain ⟨w0, hw0⟩ : ∃ w0, w.alloc (.cells #[.int .i64 s.P, .int .i64 s.M, .slice A1 s.Mod.length c1, .int .i64 s.K, .slice A2 s.pts.length c2, .slice A3 s.mults.length c3] 29) = w0 := ⟨_, rfl⟩
  have hB0 : Below w.heap.size w w0 := by rw [← hw0]; exact below_alloc (Below.refl _ _) _
  rw [hw0] at hS0
  have HS := Aside0.mk hS0
  have HB0 := Aside0.mk hB0
  have HW := Aside0.mk hw0
  obtain ⟨m, hm⟩ := shapeZ_nat _ _ _ hb
  have hng := new_good (c := c1) s.P m (Kd.C_below h1 hB0) (by rw [← hm]; exact hb)
  have hDm : s.D = fieldD s.P m s.Mod := by unfold GD.D; rw [hm]; rfl
  rw [← hDm, ← hm] at hng
  have HN := Aside0.mk hng
  have HP := Aside0.mk h2
  have HMu := Aside0.mk h3
  have hmp := Kd.C_max h2
  have hmm := Kd.C_max h3
  obtain ⟨R, hR⟩ : ∃ R, s.open = R := ⟨_, rfl⟩
  have hop := hR
  unfold GD.open at hop
  rw [if_neg (by rw [hb]; simp)] at hop
  rw [hR]
  have HOe := Aside0.mk hR
  clear h h1 h2 h3 hS0 hB0 hw0 hb hng hDm hm hR
  by_cases c1' : s.pts.length < 1 ∨ 64 < s.pts.length
  · rw [if_pos c1'] at hop
    subst hop
    have HOp : Aside0 (s.open ≠ 0) := ⟨by rw [HOe.out]; decide⟩
    by_cases c0 : s.pts.length < 1
    · clear c1'
      go_enter Try.func62, Try.ntmps62
      go_wp2_with fail
      rw [HW.out]
      have cP := HS.out.p
      have cM := HS.out.m
      have cMod := HS.out.mod
      have cPts := HS.out.pts
      have cMul := HS.out.mults
      have cK := HS.out.k
      go_wp2_with (first | (go_at_call 37; refine HN.out.mono ?_; rintro e w1 ⟨g, rfl, hG, hgg, hB1⟩; have HG := Aside0.mk hG; have HB1 := Aside0.mk (below_later HB0.out HB0.out.size hB1); have hS1 := HS.out.below hB1; have cP1 := hS1.p; have cPts1 := hS1.pts; have cMul1 := hS1.mults; have cK1 := hS1.k; have hgw := Nat.le_trans HB0.out.size hgg; clear hB1 hG hS1))
      go_ret2
      exact ⟨_, rfl, OpenRes.bad HOp.out, HB1.out⟩
    · have c0' : 64 < s.pts.length := by omega
      clear c1'
      go_enter Try.func62, Try.ntmps62
      go_wp2_with fail
      rw [HW.out]
      have cP := HS.out.p
      have cM := HS.out.m
      have cMod := HS.out.mod
      have cPts := HS.out.pts
      have cMul := HS.out.mults
      have cK := HS.out.k
      go_wp2_with (first | (go_at_call 37; refine HN.out.mono ?_; rintro e w1 ⟨g, rfl, hG, hgg, hB1⟩; have HG := Aside0.mk hG; have HB1 := Aside0.mk (below_later HB0.out HB0.out.size hB1); have hS1 := HS.out.below hB1; have cP1 := hS1.p; have cPts1 := hS1.pts; have cMul1 := hS1.mults; have cK1 := hS1.k; have hgw := Nat.le_trans HB0.out.size hgg; clear hB1 hG hS1))
      go_ret2
      exact ⟨_, rfl, OpenRes.bad HOp.out, HB1.out⟩
  · rw [if_neg c1'] at hop
    have n1 : 1 ≤ s.pts.length := by omega
    have n2 : s.pts.length ≤ 64 := by omega
    clear c1'
    by_cases c2' : s.mults.length ≠ s.pts.length
    · rw [if_pos c2'] at hop
      subst hop
      have HOp : Aside0 (s.open ≠ 0) := ⟨by rw [HOe.out]; decide⟩
      have hne : ((s.mults.length : Int) != (s.pts.length : Int)) = true := by simp only [bne_iff_ne]; omega
      clear c2'
      go_enter Try.func62, Try.ntmps62
      go_wp2_with fail
      rw [HW.out]
      have cP := HS.out.p
      have cM := HS.out.m
      have cMod := HS.out.mod
      have cPts := HS.out.pts
      have cMul := HS.out.mults
      have cK := HS.out.k
      go_wp2_with (first | (go_at_call 37; refine HN.out.mono ?_; rintro e w1 ⟨g, rfl, hG, hgg, hB1⟩; have HG := Aside0.mk hG; have HB1 := Aside0.mk (below_later HB0.out HB0.out.size hB1); have hS1 := HS.out.below hB1; have cP1 := hS1.p; have cPts1 := hS1.pts; have cMul1 := hS1.mults; have cK1 := hS1.k; have hgw := Nat.le_trans HB0.out.size hgg; clear hB1 hG hS1))
      go_ret2
      exact ⟨_, rfl, OpenRes.bad HOp.out, HB1.out⟩
    · rw [if_neg c2'] at hop
      have hne : ((s.mults.length : Int) != (s.pts.length : Int)) = false := by simp; omega
      have hlm : s.mults.length ≤ s.pts.length := by omega
      have hlm2 : s.pts.length ≤ s.mults.length := by omega
      clear c2'
      cases he : s.pts.all s.D.is with
      | false =>
        rw [he, if_pos rfl] at hop
        subst hop
        have HOp : Aside0 (s.open ≠ 0) := ⟨by rw [HOe.out]; decide⟩
        have HEp := Aside0.mk he
        clear he
        go_enter Try.func62, Try.ntmps62
        go_wp2_with fail
        rw [HW.out]
        have cP := HS.out.p
        have cM := HS.out.m
        have cMod := HS.out.mod
        have cPts := HS.out.pts
        have cMul := HS.out.mults
        have cK := HS.out.k
        go_wp2_with (first | (go_at_call 37; refine HN.out.mono ?_; rintro e w1 ⟨g, rfl, hG, hgg, hB1⟩; have HG := Aside0.mk hG; have HB1 := Aside0.mk (below_later HB0.out HB0.out.size hB1); have hS1 := HS.out.below hB1; have cP1 := hS1.p; have cPts1 := hS1.pts; have cMul1 := hS1.mults; have cK1 := hS1.k; have hgw := Nat.le_trans HB0.out.size hgg; clear hB1 hG hS1) | (go_at_call 98; (with_reducible refine (elements_any (l := s.pts) HG.out (Kd.C_below HP.out HB1.out)).mono ?_); rw [HEp.out]; rintro e w2 ⟨rfl, ⟨n2, rfl⟩⟩))
        go_ret2
        exact ⟨_, rfl, OpenRes.bad HOp.out, pw_below_drewN HB1.out _⟩
      | true =>
        rw [he, if_neg (by simp)] at hop
        have HEp := Aside0.mk he
        clear he
        cases hf : s.mults.all s.D.is with
        | false =>
          rw [hf, if_pos rfl] at hop
          subst hop
          have HOp : Aside0 (s.open ≠ 0) := ⟨by rw [HOe.out]; decide⟩
          have HEm := Aside0.mk hf
          clear hf
          go_enter Try.func62, Try.ntmps62
          go_wp2_with fail
          rw [HW.out]
          have cP := HS.out.p
          have cM := HS.out.m
          have cMod := HS.out.mod
          have cPts := HS.out.pts
          have cMul := HS.out.mults
          have cK := HS.out.k
          go_wp2_with (first | (go_at_call 37; refine HN.out.mono ?_; rintro e w1 ⟨g, rfl, hG, hgg, hB1⟩; have HG := Aside0.mk hG; have HB1 := Aside0.mk (below_later HB0.out HB0.out.size hB1); have hS1 := HS.out.below hB1; have cP1 := hS1.p; have cPts1 := hS1.pts; have cMul1 := hS1.mults; have cK1 := hS1.k; have hgw := Nat.le_trans HB0.out.size hgg; clear hB1 hG hS1) | (go_at_call 98; (with_reducible refine (elements_any (l := s.pts) HG.out (Kd.C_below HP.out HB1.out)).mono ?_); rw [HEp.out]; rintro e w2 ⟨rfl, ⟨n2, rfl⟩⟩) | (go_at_call 98; (with_reducible refine (elements_any (l := s.mults) (HG.out.drewN _) (Kd.C_below HMu.out (pw_below_drewN HB1.out _))).mono ?_); rw [HEm.out]; rintro e w2 ⟨rfl, ⟨n3, rfl⟩⟩))
          go_ret2
          exact ⟨_, rfl, OpenRes.bad HOp.out, pw_below_drewN HB1.out _⟩
        | true =>
          rw [hf, if_neg (by simp)] at hop
          have HEm := Aside0.mk hf
          clear hf
          by_cases ht : ¬ s.pts.Nodup
          · rw [if_pos ht] at hop
            subst hop
            have HOp : Aside0 (s.open ≠ 0) := ⟨by rw [HOe.out]; decide⟩
            have HTw : Aside0 (decide (¬ s.pts.Nodup) = true) := ⟨by simp [ht]⟩
            clear ht
            go_enter Try.func62, Try.ntmps62
            go_wp2_with fail
            rw [HW.out]
            have cP := HS.out.p
            have cM := HS.out.m
            have cMod := HS.out.mod
            have cPts := HS.out.pts
            have cMul := HS.out.mults
            have cK := HS.out.k
            go_wp2_with (first | (go_at_call 37; refine HN.out.mono ?_; rintro e w1 ⟨g, rfl, hG, hgg, hB1⟩; have HG := Aside0.mk hG; have HB1 := Aside0.mk (below_later HB0.out HB0.out.size hB1); have hS1 := HS.out.below hB1; have cP1 := hS1.p; have cPts1 := hS1.pts; have cMul1 := hS1.mults; have cK1 := hS1.k; have hgw := Nat.le_trans HB0.out.size hgg; clear hB1 hG hS1) | (go_at_call 98; (with_reducible refine (elements_any (l := s.pts) HG.out (Kd.C_below HP.out HB1.out)).mono ?_); rw [HEp.out]; rintro e w2 ⟨rfl, ⟨n2, rfl⟩⟩) | (go_at_call 98; (with_reducible refine (elements_any (l := s.mults) (HG.out.drewN _) (Kd.C_below HMu.out (pw_below_drewN HB1.out _))).mono ?_); rw [HEm.out]; rintro e w2 ⟨rfl, ⟨n3, rfl⟩⟩) | (go_at_call 99; (with_reducible refine (twice_any (l := s.pts) (Kd.C_below HP.out (pw_below_drewN HB1.out _)) l2).mono ?_); rw [HTw.out]; rintro e w2 ⟨rfl, rfl⟩))
            go_ret2
            exact ⟨_, rfl, OpenRes.bad HOp.out, pw_below_drewN HB1.out _⟩
          · rw [if_neg ht] at hop
            have HTw : Aside0 (decide (¬ s.pts.Nodup) = false) := ⟨by simp at ht ⊢; exact ht⟩
            have HOp2 := Aside0.mk hop
            clear ht hop
            go_enter Try.func62, Try.ntmps62
            go_wp2_with fail
            rw [HW.out]
            have cP := HS.out.p
            have cM := HS.out.m
            have cMod := HS.out.mod
            have cPts := HS.out.pts
            have cMul := HS.out.mults
            have cK := HS.out.k
            go_wp2_with (first | (go_at_call 37; refine HN.out.mono ?_; rintro e w1 ⟨g, rfl, hG, hgg, hB1⟩; have HG := Aside0.mk hG; have HB1 := Aside0.mk (below_later HB0.out HB0.out.size hB1); have hS1 := HS.out.below hB1; have cP1 := hS1.p; have cPts1 := hS1.pts; have cMul1 := hS1.mults; have cK1 := hS1.k; have hgw := Nat.le_trans HB0.out.size hgg; clear hB1 hG hS1) | (go_at_call 98; (with_reducible refine (elements_any (l := s.pts) HG.out (Kd.C_below HP.out HB1.out)).mono ?_); rw [HEp.out]; rintro e w2 ⟨rfl, ⟨n2, rfl⟩⟩) | (go_at_call 98; (with_reducible refine (elements_any (l := s.mults) (HG.out.drewN _) (Kd.C_below HMu.out (pw_below_drewN HB1.out _))).mono ?_); rw [HEm.out]; rintro e w2 ⟨rfl, ⟨n3, rfl⟩⟩) | (go_at_call 99; (with_reducible refine (twice_any (l := s.pts) (Kd.C_below HP.out (pw_below_drewN HB1.out _)) l2).mono ?_); rw [HTw.out]; rintro e w2 ⟨rfl, rfl⟩))
            have HMw := Aside0.mk (Kd.C_below HMu.out (pw_below_drewN HB1.out (n2 + n3)))
            go_loop [53] (fun v53 => ∃ k : Nat, v53 = .int .i64 k ∧ k ≤ s.mults.length ∧ Aside0 ((0 : Int) ∉ s.mults.take k)) (fun v53 => s.mults.length - (intOf v53).toNat)
            case atStart => exact ⟨0, rfl, by omega, ⟨by simp⟩⟩
            case round =>
              obtain ⟨k, rfl, hk, HN0⟩ := hrel
              by_cases hlk : k < s.mults.length
              · obtain ⟨ad, e, hx⟩ := C_nat HMw.out k hlk
                cases e
                obtain ⟨x, hx'⟩ : ∃ x, s.mults.getD k 0 = x := ⟨_, rfl⟩
                rw [hx'] at hx
                by_cases hx0 : x = 0
                · have hmem : (0 : Int) ∈ s.mults := by
                    rw [← hx0, ← hx', List.getD_eq_getElem?_getD, List.getElem?_eq_getElem hlk]
                    exact List.getElem_mem hlk
                  have hop := HOp2.out
                  rw [if_pos hmem] at hop
                  subst hop hx0
                  have HOp : Aside0 (s.open ≠ 0) := ⟨by rw [HOe.out]; decide⟩
                  clear hmem hx' HOp2 HN0
                  go_wp2
                  go_ret2
                  exact ⟨_, rfl, OpenRes.bad HOp.out, pw_below_drewN HB1.out _⟩
                · have hxb : (x == 0) = false := by simp [hx0]
                  have HN1 : Aside0 ((0 : Int) ∉ s.mults.take (k + 1)) := ⟨by
                    rw [take_succ_rd _ k hlk, hx']
                    simp only [List.mem_append, List.mem_singleton, not_or]
                    exact ⟨HN0.out, fun e => hx0 e.symm⟩⟩
                  clear hx0 hx' HN0
                  go_wp2
                  go_round
                  case rel => exact ⟨k + 1, by go_num, by omega, HN1⟩
                  case measure => simp [intOf]; omega
              · obtain rfl : k = s.mults.length := by omega
                have hop := HOp2.out
                have hn0 := HN0.out
                rw [List.take_length] at hn0
                rw [if_neg hn0] at hop
                clear HOp2 HN0 hn0
                by_cases hK : s.K < 0
                · rw [if_pos hK] at hop
                  subst hop
                  have HOp : Aside0 (s.open ≠ 0) := ⟨by rw [HOe.out]; decide⟩
                  go_wp2
                  go_ret2
                  exact ⟨_, rfl, OpenRes.bad HOp.out, pw_below_drewN HB1.out _⟩
                · rw [if_neg hK] at hop
                  by_cases hK2 : (s.pts.length : Int) < s.K
                  · rw [if_pos hK2] at hop
                    subst hop
                    have HOp : Aside0 (s.open ≠ 0) := ⟨by rw [HOe.out]; decide⟩
                    go_wp2
                    go_ret2
                    exact ⟨_, rfl, OpenRes.bad HOp.out, pw_below_drewN HB1.out _⟩
                  · rw [if_neg hK2] at hop
                    subst hop
                    go_wp2
                    go_ret2
                    exact ⟨_, rfl, OpenRes.good HOe.out (HG.out.drewN _) hgw, pw_below_drewN HB1.out _⟩

theorem open_any {w : World} {v : Value} {s : GD} (h : GArg w v s) :
    Calls Try.prog 62 #[v] w fun e w' => ∃ pv, e = .returned (.tuple #[pv, .int .i64 s.open]) ∧ OpenRes w' w.heap.size pv s ∧ Below w.heap.size w w' := by
  cases hb : fieldOk s.P s.M s.Mod with
  | true => exact open_rest h hb
  | false =>
    have ho : s.open = 1 := by unfold GD.open; rw [if_pos hb]
    rw [ho]
    exact (open_bad1 h hb).mono fun e w' ⟨he, hB⟩ => ⟨_, he, OpenRes.bad (by rw [ho]; decide), hB⟩

theorem grsCheck_any {w : World} {v : Value} {s : GD} (h : GArg w v s) :
    Calls Try.prog 36 #[v] w fun e w' => e = .returned (.int .i64 s.open) ∧ Below w.heap.size w w' := by
  have H := h
  obtain ⟨A1, c1, A2, c2, A3, c3, rfl, -⟩ := h.out
  have HO := fun (w1 : World) (hb : Below w.heap.size w w1) => Aside0.mk (open_any (H.below hb))
  clear h H
  go_enter Try.func36, Try.ntmps36
  go_wp2_with (go_at_call 62; refine (HO _ (below_alloc (Below.refl _ _) _)).out.mono ?_; rintro e w1 ⟨pv, rfl, hr, hB⟩; have HB1 := Aside0.mk (below_later (below_alloc (Below.refl _ _) _) (below_alloc (Below.refl _ _) _).size hB); clear hr hB)
  go_ret
  exact ⟨rfl, HB1.out⟩
end Go.Proofs.Yticgblagimmlfaa
