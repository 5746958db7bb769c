/- bounded.GRS. -/
import Derived.Test.YticgblagimmlfaaG23
namespace Go.Proofs.Yticgblagimmlfaa
open Go.RowKit Go.Proofs.YticgblagimmlfaaW.PrintWords Go.Proofs.YticgblagimmlfaaW.PrintLast Go.Proofs.YticgblagimmlfaaW.PrintMore
set_option linter.unusedVariables false
set_option linter.unusedSimpArgs false

theorem new_goodM {w : World} {A : Option Addr} {c : Nat} (s : GD) (hl : Kd.C (Kd.int .i64) w A s.Mod.length s.Mod) (hb : fieldOk s.P s.M s.Mod = true) :
    Calls Try.prog 37 #[.agg #[.int .i64 s.P, .int .i64 s.M, .slice A s.Mod.length c]] w fun e w' => ∃ g, e = .returned (.tuple #[.pointer (some ⟨g, 0, none⟩), .int .i64 0]) ∧ GFat w' g s.D ∧ w.heap.size ≤ g ∧ Below w.heap.size w w' := by
  obtain ⟨m, hm⟩ := shapeZ_nat _ _ _ hb
  unfold GD.D
  rw [hm, Int.toNat_natCast]
  rw [hm] at hb
  exact new_good s.P m hl hb
theorem encZ_length (D : GFD) (pts mults msg : List Int) (h : mults.length = pts.length) : (encZ D pts mults msg).length = pts.length := by unfold encZ; simp [h]
theorem encode_length (s : GD) (h0 : s.open = 0) (m : List Int) (h : (s.encode m).2 = 0) : (s.encode m).1.length = s.pts.length := by
  obtain ⟨-, -, -, f4, -⟩ := open_facts s h0
  unfold GD.encode at h ⊢
  rw [if_neg (fun hn => hn h0)] at h ⊢
  split at h
  · cases h
  · rename_i h1
    rw [if_neg h1]
    split at h
    · cases h
    · rename_i h2
      rw [if_neg h2]
      exact encZ_length _ _ _ _ f4
theorem codeword_length (s : GD) (h0 : s.open = 0) (l : List Int) (er : List Bool) (h : (s.codeword l er).2 = 0) : (s.codeword l er).1.length = s.pts.length := by
  unfold GD.codeword at h ⊢
  by_cases h1 : ((keptX s.pts er s.pts.length).length : Int) < s.K
  · rw [if_pos h1] at h; cases h
  · rw [if_neg h1] at h ⊢
    by_cases h2 : (s.gaoZ l er).2 ≠ 0
    · rw [if_pos h2] at h; exact absurd h h2
    · rw [if_neg h2] at h ⊢
      exact encode_length s h0 _ h
theorem wordZ_zero (D : GFD) (l : List Int) (n : Nat) (er : List Int) (h : wordZ D l n er = 0) : l.length = n ∧ l.all D.is = true ∧ er.all (posB n) = true ∧ er.Nodup := by
  unfold wordZ at h
  by_cases h1 : l.length ≠ n
  · rw [if_pos h1] at h; cases h
  rw [if_neg h1] at h
  by_cases h2 : l.all D.is = false
  · rw [if_pos h2] at h; cases h
  rw [if_neg h2] at h
  by_cases h3 : er.all (posB n) = false
  · rw [if_pos h3] at h; cases h
  rw [if_neg h3] at h
  by_cases h4 : ¬ er.Nodup
  · rw [if_pos h4] at h; cases h
  exact ⟨by omega, by simpa using h2, by simpa using h3, Classical.not_not.1 h4⟩

/-- The boxed result, still zero. -/
structure R2 (w : World) (b : Nat) : Prop where
  r0 : w.cell? ⟨b, 0, none⟩ = some (.slice none 0 0)
  r1 : w.cell? ⟨b, 1, none⟩ = some (.slice none 0 0)
  f0 : w.frozen? ⟨b, 0, none⟩ = false
  f1 : w.frozen? ⟨b, 1, none⟩ = false
theorem R2.new (w : World) : R2 (w.alloc (.cells #[.slice none 0 0, .slice none 0 0] 34)) w.heap.size :=
  ⟨cell_alloc2_0 _ _ _ _, cell_alloc2_1 _ _ _ _, World.frozen?_alloc_new _ _ _ _, World.frozen?_alloc_new _ _ _ _⟩
theorem R2.below {w w1 : World} {b : Nat} (h : R2 w b) (hb : Below (b + 1) w w1) : R2 w1 b :=
  ⟨(hb.cell (by simp)).trans h.r0, (hb.cell (by simp)).trans h.r1, (hb.frozen (by simp)).trans h.f0, (hb.frozen (by simp)).trans h.f1⟩
theorem R2.last {w : World} {b : Nat} (h : R2 w b) (v0 v1 : Value) : ((w.setCell ⟨b, 0, none⟩ v0).setCell ⟨b, 1, none⟩ v1).cell? ⟨b, 0, none⟩ = some v0 ∧ ((w.setCell ⟨b, 0, none⟩ v0).setCell ⟨b, 1, none⟩ v1).cell? ⟨b, 1, none⟩ = some v1 := by
  refine ⟨?_, World.cell?_setCell_same _ _ _ (u := .slice none 0 0) ?_⟩
  · rw [World.cell?_setCell_other _ _ _ _ (by simp)]
    exact World.cell?_setCell_same _ _ _ h.r0
  · rw [World.cell?_setCell_other _ _ _ _ (by simp)]; exact h.r1
theorem R2.last0 {w : World} {b : Nat} (v0 v1 : Value) (n : Nat) (hb : n ≤ b) : Below n w ((w.setCell ⟨b, 0, none⟩ v0).setCell ⟨b, 1, none⟩ v1) := ((Below.refl _ _).setCell (p := ⟨b, 0, none⟩) hb _).setCell (p := ⟨b, 1, none⟩) hb _

theorem Rd.setSlot {w : World} {v : Value} {l : List Int} (h : Rd w v l) {p : Addr} {A0 : Option Addr} {n0 c0 : Nat} (hc : w.cell? p = some (.slice A0 n0 c0)) (u : Value) : Rd (w.setCell p u) v l := by
  obtain ⟨A, c, e, hl, hC⟩ := h.out
  have hR : ReadsOf (Value.int .i64) 0 w A l.length l := Kd.reads_of_C hC
  refine ⟨A, c, e, hl, Kd.C_of_reads (enc := Value.int .i64) (d := 0) ⟨hR.1, hR.2.1, fun hn => ?_⟩⟩
  obtain ⟨ad, ea, hcc⟩ := hR.2.2 hn
  refine ⟨ad, ea, fun j hj => ?_⟩
  rw [World.cell?_setCell_other]
  · exact hcc j hj
  · rintro rfl
    rw [hcc j hj] at hc
    cases hc
theorem Rd.last {w : World} {b : Nat} {v : Value} {l : List Int} (h : Rd w v l) (hr : R2 w b) (v0 v1 : Value) : Rd ((w.setCell ⟨b, 0, none⟩ v0).setCell ⟨b, 1, none⟩ v1) v l := by
  refine (h.setSlot hr.r0 v0).setSlot (A0 := none) (n0 := 0) (c0 := 0) ?_ v1
  rw [World.cell?_setCell_other _ _ _ _ (by simp)]
  exact hr.r1

set_option maxHeartbeats 8000000 in
set_option maxRecDepth 100000 in
theorem GRS_any {w : World} {v : Value} {s : GD} (h : GArg w v s) {B E : Option Addr} {dd ee : Nat} {l er : List Int} (hl : Kd.C (Kd.int .i64) w B l.length l) (he : Kd.C (Kd.int .i64) w E er.length er)
    (hE : s.open = 0 → wordZ s.D l s.pts.length er = 0 → s.ends l (marksZ s.pts.length er)) :
    Calls Try.prog 15 #[v, .slice B l.length dd, .slice E er.length ee] w fun e w' => ∃ v', e = .returned (.tuple #[v', .int .i64 (s.decode l er).2.2]) ∧ DecIs w' v' (s.decode l er) ∧ Below w.heap.size w w' := by
  obtain ⟨A1, c1, A2, c2, A3, c3, rfl, g1, l1, g2, l2, g3, l3⟩ := h.out
  have hS0 := SAt.new w s A1 c1 A2 c2 A3 c3
  obtain ⟨w0, hw0⟩ : ∃ w0, w.alloc (.cells #[.int .i64 s.P, .int .i64 s.M, .slice A1 s.Mod.length c1, .int .i64 s.K, .slice A2 s.pts.length c2, .slice A3 s.mults.length c3] 29) = w0 := ⟨_, rfl⟩
  have hB0 : Below w.heap.size w w0 := by rw [← hw0]; exact below_alloc (Below.refl _ _) _
  have hsz : w0.heap.size = w.heap.size + 1 := by rw [← hw0]; simp
  rw [hw0] at hS0
  have hR0 := R2.new w0
  obtain ⟨w1, hw1⟩ : ∃ w1, w0.alloc (.cells #[.slice none 0 0, .slice none 0 0] 34) = w1 := ⟨_, rfl⟩
  have hB1 : Below w0.heap.size w0 w1 := by rw [← hw1]; exact below_alloc (Below.refl _ _) _
  have hsz1 : w1.heap.size = w.heap.size + 2 := by rw [← hw1]; simp; omega
  rw [hw1, hsz] at hR0
  have HB1 := Aside0.mk (below_later hB0 hB0.size hB1)
  have HS := Aside0.mk (hS0.below hB1)
  have HR := Aside0.mk hR0
  have HAr := Aside0.mk (h.below HB1.out)
  have HMod := Aside0.mk (Kd.C_below g1 HB1.out)
  have HL := Aside0.mk (Kd.C_below hl HB1.out)
  have HEr := Aside0.mk (Kd.C_below he HB1.out)
  have HW := Aside0.mk hw0
  have HW1 := Aside0.mk hw1
  have HZ := Aside0.mk hsz1
  have HBr := Aside0.mk (Below.refl w1.heap.size w1)
  have hem := Kd.C_max he
  obtain ⟨T, hT⟩ : ∃ T, s.decode l er = T := ⟨_, rfl⟩
  rw [hT]
  unfold GD.decode at hT
  by_cases ho : s.open ≠ 0
  · rw [if_pos ho] at hT
    subst hT
    have HO := fun (w2 : World) (hb : Below w1.heap.size w1 w2) => Aside0.mk (grsCheck_any (HAr.out.below hb))
    obtain ⟨o, hoo⟩ : ∃ o, s.open = o := ⟨_, rfl⟩
    simp only [hoo] at HO ⊢
    rw [hoo] at ho
    have hob : (o == 0) = false := by simp [ho]
    have hob2 : (o != 0) = true := by simp [ho]
    have r0 := HR.out.r0
    have r1 := HR.out.r1
    have f0 := HR.out.f0
    have f1 := HR.out.f1
    clear h g1 g2 g3 hS0 hB0 hw0 hsz hR0 hw1 hB1 hsz1 hl he hE hoo ho
    go_enter Try.func15, Try.ntmps15
    go_upto_region 1 with (fail)
    rw [HW.out]
    rw [HW1.out]
    have cP := HS.out.p
    have cM := HS.out.m
    have cMod := HS.out.mod
    have cK := HS.out.k
    have cPts := HS.out.pts
    have cMul := HS.out.mults
    go_wp2_with (go_at_call 36; refine (HO _ HBr.out).out.mono ?_; rintro e w2 ⟨rfl, hB⟩; have HB2 := Aside0.mk hB; have hR2 := HR.out.below (hB.mono (by have := HZ.out; omega)); have HR2 := Aside0.mk hR2; have r0 := hR2.r0; have r1 := hR2.r1; have f0 := hR2.f0; have f1 := hR2.f1; clear hB hR2)
    obtain ⟨q0, q1⟩ := HR2.out.last (.slice none 0 0) (.slice none 0 0)
    refine results34 rfl rfl q0 q1 rfl ?_
    exact ⟨_, rfl, ⟨_, _, rfl, Rd.nil _, Rd.nil _⟩, Below.trans (Below.trans HB1.out (HB2.out.mono (by have := HZ.out; omega))) (R2.last0 _ _ _ (by omega))⟩
  · have ho0 : s.open = 0 := Classical.not_not.1 ho
    rw [if_neg ho] at hT
    obtain ⟨f1, f2, f3, f4, f5, f6, f7, f8, f9, f10⟩ := open_facts s ho0
    have HO := fun (w2 : World) (hb : Below w1.heap.size w1 w2) => Aside0.mk (grsCheck_any (HAr.out.below hb))
    simp only [ho0] at HO
    have HN := fun (w2 : World) (hb : Below w1.heap.size w1 w2) => Aside0.mk (new_goodM (c := c1) s (Kd.C_below HMod.out hb) f1)
    have HWd := fun (w2 : World) (hb : Below w1.heap.size w1 w2) (g : Nat) (hg : GFat w2 g s.D) => Aside0.mk (word_any (c := dd) (d := ee) hg s.pts.length (by omega) (Kd.C_below HL.out hb) (Kd.C_below HEr.out hb))
    have HHO := Aside0.mk HO
    have HHN := Aside0.mk HN
    have HHW := Aside0.mk HWd
    have HO0 := Aside0.mk ho0
    have HE := Aside0.mk (hE ho0)
    have HF9 := Aside0.mk f9
    have HF10 := Aside0.mk f10
    have HT := Aside0.mk hT
    clear h g1 g2 g3 hS0 hB0 hw0 hsz hR0 hw1 hB1 hsz1 hl he hE ho ho0 HO HN HWd f1 f4 f5 f6 f7 f8 f9 f10 hT
    obtain ⟨e1, he1⟩ : ∃ e1, wordZ s.D l s.pts.length er = e1 := ⟨_, rfl⟩
    rw [he1] at HE HHW HT
    have HE1 := Aside0.mk he1
    clear he1
    by_cases he1 : e1 ≠ 0
    · have hT := HT.out
      rw [if_pos he1] at hT
      subst hT
      have hob : (e1 == 0) = false := by simp [he1]
      have hob2 : (e1 != 0) = true := by simp [he1]
      clear HT HE he1
      go_enter Try.func15, Try.ntmps15
      go_upto_region 1 with (fail)
      rw [HW.out, HW1.out]
      have cP := HS.out.p
      have cM := HS.out.m
      have cMod := HS.out.mod
      have cK := HS.out.k
      have cPts := HS.out.pts
      have cMul := HS.out.mults
      go_wp2_with (first
        | (go_at_call 36; refine (HHO.out _ HBr.out).out.mono ?_; rintro e w2 ⟨rfl, hB⟩; have HB2 := Aside0.mk hB; have hS2 := HS.out.below (hB.mono (by have := HZ.out; omega)); have cP2 := hS2.p; have cM2 := hS2.m; have cMod2 := hS2.mod; clear hB hS2)
        | (go_at_call 37; refine (HHN.out _ HB2.out).out.mono ?_; rintro e w3 ⟨g, rfl, hg, -, hB⟩; have HB3 := Aside0.mk (below_later HB2.out HB2.out.size hB); have HG3 := Aside0.mk hg; have hS3 := HS.out.below (HB3.out.mono (by have := HZ.out; omega)); have cPts3 := hS3.pts; clear hB hS3 hg)
        | (go_at_call 38; refine (HHW.out _ HB3.out g HG3.out).out.mono ?_; rintro e w4 ⟨rfl, hB⟩; have HB4 := Aside0.mk (below_later HB3.out HB3.out.size hB); have hR2 := HR.out.below (HB4.out.mono (by have := HZ.out; omega)); have HR2 := Aside0.mk hR2; have r0 := hR2.r0; have r1 := hR2.r1; have f0 := hR2.f0; have f1 := hR2.f1; clear hB hR2))
      obtain ⟨q0, q1⟩ := HR2.out.last (.slice none 0 0) (.slice none 0 0)
      refine results34 rfl rfl q0 q1 rfl ?_
      exact ⟨_, rfl, ⟨_, _, rfl, Rd.nil _, Rd.nil _⟩, Below.trans (Below.trans HB1.out (HB4.out.mono (by have := HZ.out; omega))) (R2.last0 _ _ _ (by omega))⟩
    · have he0 : e1 = 0 := Classical.not_not.1 he1
      subst he0
      have hT := HT.out
      rw [if_neg (by simp)] at hT
      obtain ⟨k1, k2, k3, k4⟩ := wordZ_zero _ _ _ _ HE1.out
      have hEnd := HE.out rfl
      have hMl := marksZ_length s.pts.length er
      have HMk := fun (w2 : World) (hb : Below w1.heap.size w1 w2) => Aside0.mk (marks_any (d := ee) s.pts.length (by omega) (Kd.C_below HEr.out hb) k3)
      obtain ⟨Mk, hMk⟩ : ∃ Mk, marksZ s.pts.length er = Mk := ⟨_, rfl⟩
      rw [hMk] at hEnd hMl hT
      simp only [hMk] at HMk
      have hcl := codeword_length s HO0.out l Mk
      have HCw := fun (w2 : World) (hb : Below w1.heap.size w1 w2) (g : Nat) (hg : GFat w2 g s.D) (E' : Option Addr) (e' : Nat) (he' : Kd.bool.C w2 E' Mk.length Mk) => Aside0.mk (codeword_any (dd := dd) (ee := e') hg (HAr.out.below hb) HO0.out (Kd.C_below HL.out hb) he' k1 hMl hEnd)
      obtain ⟨T2, hT2⟩ : ∃ T2, s.codeword l Mk = T2 := ⟨_, rfl⟩
      simp only [hT2] at HCw
      rw [hT2] at hT hcl
      obtain ⟨cw, e2⟩ := T2
      simp only at hT hcl HCw
      have HHM := Aside0.mk HMk
      have HHC := Aside0.mk HCw
      have HMl := Aside0.mk hMl
      have HLl := Aside0.mk k1
      have her : er.length ≤ s.pts.length := nodup_bound s.pts.length er k4 (fun x hx => of_decide_eq_true (List.all_eq_true.1 k3 x hx))
      have HT := Aside0.mk hT
      have HCl := Aside0.mk hcl
      clear HMk HCw k1 k2 k3 k4 hEnd hMl hMk hT2 hT hcl HE he1
      go_enter Try.func15, Try.ntmps15
      go_upto_region 1 with (fail)
      rw [HW.out, HW1.out]
      have cP := HS.out.p
      have cM := HS.out.m
      have cMod := HS.out.mod
      have cK := HS.out.k
      have cPts := HS.out.pts
      have cMul := HS.out.mults
      go_wp2_with (first
        | (go_at_call 36; refine (HHO.out _ HBr.out).out.mono ?_; rintro e w2 ⟨rfl, hB⟩; have HB2 := Aside0.mk hB; have hS2 := HS.out.below (hB.mono (by have := HZ.out; omega)); have cP2 := hS2.p; have cM2 := hS2.m; have cMod2 := hS2.mod; clear hB hS2)
        | (go_at_call 37; refine (HHN.out _ HB2.out).out.mono ?_; rintro e w3 ⟨g, rfl, hg, -, hB⟩; have HB3 := Aside0.mk (below_later HB2.out HB2.out.size hB); have HG3 := Aside0.mk hg; have hS3 := HS.out.below (HB3.out.mono (by have := HZ.out; omega)); have cPts3 := hS3.pts; clear hB hS3 hg)
        | (go_at_call 38; refine (HHW.out _ HB3.out g HG3.out).out.mono ?_; rintro e w4 ⟨rfl, hB⟩; have HG4 := Aside0.mk (HG3.out.below hB); have HB4 := Aside0.mk (below_later HB3.out HB3.out.size hB); have hS4 := HS.out.below (HB4.out.mono (by have := HZ.out; omega)); have cP4 := hS4.p; have cM4 := hS4.m; have cMod4 := hS4.mod; have cK4 := hS4.k; have cPts4 := hS4.pts; have cMul4 := hS4.mults; clear hB hS4))
      go_cut [13, 14] (fun v13 v14 wc => v14 = .int .i64 e2 ∧ Aside0 (ErrOr wc w1.heap.size v13 (cw, e2)) ∧ Aside0 (Below w1.heap.size w1 wc))
      case first =>
        go_region_held3 (fun w' => w'.cell? ⟨w.heap.size, 0, none⟩ = some (.int .i64 s.P) ∧ w'.cell? ⟨w.heap.size, 1, none⟩ = some (.int .i64 s.M) ∧ w'.cell? ⟨w.heap.size, 2, none⟩ = some (.slice A1 s.Mod.length c1) ∧ w'.cell? ⟨w.heap.size, 3, none⟩ = some (.int .i64 s.K) ∧ w'.cell? ⟨w.heap.size, 4, none⟩ = some (.slice A2 s.pts.length c2) ∧ w'.cell? ⟨w.heap.size, 5, none⟩ = some (.slice A3 s.mults.length c3)) (first | exact ⟨‹_›, ‹_›, ‹_›, ‹_›, ‹_›, ‹_›⟩ | go_keep)
          (first
            | (go_at_call 40; (first | refine (HHM.out _ HB4.out).out.mono ?_ | refine (HHM.out _ (below_drew HB4.out)).out.mono ?_); rintro e w5 ⟨v5, rfl, hO, hB⟩; obtain ⟨A5, c5, rfl, hc5, hC5⟩ := hO.slice; (first | have HG5 := Aside0.mk (HG4.out.below hB) | have HG5 := Aside0.mk ((HG4.out.below (below_drew (Below.refl _ _))).below hB)); (first | have HB5 := Aside0.mk (below_later HB4.out HB4.out.size hB) | have HB5 := Aside0.mk (below_later (below_drew HB4.out) (below_drew HB4.out).size hB)); have HC5 := Aside0.mk hC5; have hS5 := HS.out.below (HB5.out.mono (by have := HZ.out; omega)); have cP5 := hS5.p; have cM5 := hS5.m; have cMod5 := hS5.mod; have cK5 := hS5.k; have cPts5 := hS5.pts; have cMul5 := hS5.mults; clear hO hB hC5 hS5)
            | (go_at_call 39; refine (HHC.out _ HB5.out g HG5.out _ _ HC5.out).out.mono ?_; rintro e w6 ⟨v6, rfl, hr, hB⟩; have HR6 := Aside0.mk hr; have hB6 := below_later HB5.out HB5.out.size hB; have HB6 := Aside0.mk hB6; have hS6 := HS.out.below (hB6.mono (by have := HZ.out; omega)); have cP6 := hS6.p; have cM6 := hS6.m; have cMod6 := hS6.mod; have cK6 := hS6.k; have cPts6 := hS6.pts; have cMul6 := hS6.mults; clear hr hB hB6 hS6))
        all_goals go_wp2
        all_goals go_meet
        all_goals
          refine ⟨rfl, ⟨?_⟩, HB6⟩
          rcases HR6.out with ⟨q1, q2⟩ | ⟨q1, q2⟩
          · exact .inl ⟨q1, q2⟩
          · exact .inr ⟨q1, q2.lower HB5.out.size⟩
      case rest =>
        obtain ⟨rfl, HR6, HB6⟩ := hcut
        by_cases he2 : e2 ≠ 0
        · have hT := HT.out
          rw [if_pos he2] at hT
          subst hT
          have hob : (e2 == 0) = false := by simp [he2]
          have hob2 : (e2 != 0) = true := by simp [he2]
          have hR2 := HR.out.below (HB6.out.mono (by have := HZ.out; omega))
          have HR2 := Aside0.mk hR2
          have r0 := hR2.r0
          have r1 := hR2.r1
          have f0 := hR2.f0
          have f1 := hR2.f1
          clear HT he2 hR2
          go_wp2
          obtain ⟨q0, q1⟩ := HR2.out.last (.slice none 0 0) (.slice none 0 0)
          refine results34 rfl rfl q0 q1 rfl ?_
          exact ⟨_, rfl, ⟨_, _, rfl, Rd.nil _, Rd.nil _⟩, Below.trans (Below.trans HB1.out (HB6.out.mono (by have := HZ.out; omega))) (R2.last0 _ _ _ (by omega))⟩
        · have he0 : e2 = 0 := Classical.not_not.1 he2
          subst he0
          have hT := HT.out
          rw [if_neg (by simp)] at hT
          have hO6 := HR6.out.resolve_left (fun h => h.1 rfl)
          have hO6 := hO6.2
          dsimp only at hO6
          obtain ⟨A6, c6, rfl, hc6, hC6⟩ := hO6.slice
          have HC6 := Aside0.mk hC6
          have hcl := HCl.out rfl
          have hlc : l.length = cw.length := by rw [hcl]; exact HLl.out
          have hmc : Mk.length = cw.length := by rw [hcl]; exact HMl.out
          obtain ⟨t, ht⟩ : ∃ t, radiusZ ((s.pts.length : Int) - s.K + 1) er.length = t := ⟨_, rfl⟩
          rw [ht] at hT
          have HRz := fun (w2 : World) => Aside0.mk (radius_any ((s.pts.length : Int) - s.K + 1) (er.length : Int) w2)
          rw [radiusW_eq _ _ (by have := HF9.out; have := HF10.out; omega) (by have := HF9.out; have := HF10.out; omega) (by omega) (by omega), ht] at HRz
          have hs1 : IntKind.i64.wrap ((s.pts.length : Int) - s.K) = (s.pts.length : Int) - s.K := w64 _ (by have := HF9.out; have := HF10.out; omega) (by have := HF9.out; have := HF10.out; omega)
          have hs2 : IntKind.i64.wrap ((s.pts.length : Int) - s.K + 1) = (s.pts.length : Int) - s.K + 1 := w64 _ (by have := HF9.out; have := HF10.out; omega) (by have := HF9.out; have := HF10.out; omega)
          have HRs := fun (w2 : World) (hb : Below w1.heap.size w1 w2) (E' : Option Addr) (e' : Nat) (hc' : Kd.C (Kd.int .i64) w2 A6 cw.length cw) (he' : Kd.bool.C w2 E' Mk.length Mk) => Aside0.mk (result_any (dd := dd) (ee := e') t hc' hc6 (Kd.C_below HL.out hb) he' hlc hmc (by have := HLl.out; omega))
          simp only [hT] at HRs
          have HHR := Aside0.mk HRs
          have HHZ := Aside0.mk HRz
          have hR2 := HR.out.below (HB6.out.mono (by have := HZ.out; omega))
          have hS6 := HS.out.below (HB6.out.mono (by have := HZ.out; omega))
          have cK := hS6.k
          have r0 := hR2.r0
          have r1 := hR2.r1
          have f0 := hR2.f0
          have f1 := hR2.f1
          clear HT he2 hR2 hS6 hT hO6 hC6 hcl hlc hmc ht HRz HRs
          go_wp2
          go_region_held3 (fun w' => w'.cell? ⟨w.heap.size, 3, none⟩ = some (.int .i64 s.K)) (first | exact ‹_› | go_keep)
            (first
              | (go_at_call 40; (first | refine (HHM.out _ HB6.out).out.mono ?_ | refine (HHM.out _ (below_drew HB6.out)).out.mono ?_); rintro e w7 ⟨v7, rfl, hO, hB⟩; obtain ⟨A7, c7, rfl, hc7, hC7⟩ := hO.slice; (first | have HB7 := Aside0.mk (below_later HB6.out HB6.out.size hB) | have HB7 := Aside0.mk (below_later (below_drew HB6.out) (below_drew HB6.out).size hB)); (first | have HC67 := Aside0.mk (Kd.C_below HC6.out hB) | have HC67 := Aside0.mk (Kd.C_below (Kd.C_drew HC6.out) hB)); have HC7 := Aside0.mk hC7; have hS7 := HS.out.below (HB7.out.mono (by have := HZ.out; omega)); have hR7 := HR.out.below (HB7.out.mono (by have := HZ.out; omega)); have cK7 := hS7.k; have r07 := hR7.r0; have r17 := hR7.r1; have f07 := hR7.f0; have f17 := hR7.f1; clear hO hB hC7 hS7 hR7)
              | (go_at_call 12; refine (HHZ.out _).out.mono ?_; rintro e w8 ⟨rfl, hd⟩; have HB8 := Aside0.mk (HB7.out.below'' hd); have HC8 := Aside0.mk (Kd.C_below HC67.out hd.below); have HC78 := Aside0.mk (Kd.C_below HC7.out hd.below); have hS8 := HS.out.below (HB8.out.mono (by have := HZ.out; omega)); have hR8 := HR.out.below (HB8.out.mono (by have := HZ.out; omega)); have cK8 := hS8.k; have r08 := hR8.r0; have r18 := hR8.r1; have f08 := hR8.f0; have f18 := hR8.f1; clear hd hS8 hR8)
              | (go_at_call 41; refine (HHR.out _ HB8.out _ _ HC8.out HC78.out).out.mono ?_; rintro e w9 ⟨v9, rfl, ⟨p0, p1, rfl, hp0, hp1⟩, hB⟩; obtain ⟨B0, d0, rfl, -, -⟩ := hp0.out; obtain ⟨B1, d1, rfl, -, -⟩ := hp1.out; have HP0 := Aside0.mk hp0; have HP1 := Aside0.mk hp1; have HB9 := Aside0.mk (below_later HB8.out HB8.out.size hB); have hS9 := HS.out.below (HB9.out.mono (by have := HZ.out; omega)); have hR9 := HR.out.below (HB9.out.mono (by have := HZ.out; omega)); have HR9 := Aside0.mk hR9; have cK9 := hS9.k; have r09 := hR9.r0; have r19 := hR9.r1; have f09 := hR9.f0; have f19 := hR9.f1; clear hp0 hp1 hB hS9 hR9))
          all_goals go_wp2
          all_goals
            obtain ⟨q0, q1⟩ := HR9.out.last (.slice B0 T.fst.length d0) (.slice B1 T.snd.fst.length d1)
            refine results34 rfl rfl q0 q1 rfl ?_
            exact ⟨_, rfl, ⟨_, _, rfl, HP0.out.last HR9.out _ _, HP1.out.last HR9.out _ _⟩, Below.trans (Below.trans HB1.out (HB9.out.mono (by have := HZ.out; omega))) (R2.last0 _ _ _ (by omega))⟩
end Go.Proofs.Yticgblagimmlfaa
