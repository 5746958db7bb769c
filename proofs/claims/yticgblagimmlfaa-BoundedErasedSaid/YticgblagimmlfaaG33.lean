/- The law BoundedErased. -/
import Derived.Test.YticgblagimmlfaaMR
import Derived.Test.YticgblagimmlfaaPE
namespace Go.Proofs.Yticgblagimmlfaa
open Go.RowKit Go.Proofs.YticgblagimmlfaaW.PrintWords Go.Proofs.YticgblagimmlfaaW.PrintLast Go.Proofs.YticgblagimmlfaaW.PrintMore
set_option linter.unusedVariables false
set_option linter.unusedSimpArgs false

/-- A word and erased positions, boxed at block b. -/
structure VAt (w : World) (b : Nat) (B : Option Addr) (n dd : Nat) (E : Option Addr) (m ee : Nat) : Prop where
  word : w.cell? ⟨b, 0, none⟩ = some (.slice B n dd)
  er : w.cell? ⟨b, 1, none⟩ = some (.slice E m ee)
theorem VAt.below {w w1 : World} {b : Nat} {B : Option Addr} {n dd : Nat} {E : Option Addr} {m ee : Nat} (h : VAt w b B n dd E m ee) (hb : Below w.heap.size w w1) : VAt w1 b B n dd E m ee :=
  ⟨pw_cell_below hb h.word, pw_cell_below hb h.er⟩
theorem VAt.new (w : World) (B : Option Addr) (n dd : Nat) (E : Option Addr) (m ee : Nat) : VAt (w.alloc (.cells #[.slice B n dd, .slice E m ee] 31)) w.heap.size B n dd E m ee :=
  ⟨cell_alloc2_0 _ _ _ _, cell_alloc2_1 _ _ _ _⟩

theorem checkR_zero (s : GD) (h : checkR s = 0) : fcheckR s.P s.M s.Mod = 0 ∧ 1 ≤ s.pts.length ∧ s.pts.length ≤ 64 ∧ s.mults.length = s.pts.length ∧ tailR s = 0 := by
  unfold checkR at h
  by_cases h1 : fcheckR s.P s.M s.Mod ≠ 0
  · rw [if_pos h1] at h; cases h
  rw [if_neg h1] at h
  by_cases h2 : s.pts.length < 1 ∨ 64 < s.pts.length
  · rw [if_pos h2] at h; cases h
  rw [if_neg h2] at h
  by_cases h3 : s.mults.length ≠ s.pts.length
  · rw [if_pos h3] at h; cases h
  rw [if_neg h3] at h
  exact ⟨Classical.not_not.1 h1, by omega, by omega, Classical.not_not.1 h3, h⟩

set_option maxHeartbeats 8000000 in
set_option maxRecDepth 100000 in
theorem lawErased_no {w : World} {v : Value} {s : GD} (h : GArg w v s) {B E O : Option Addr} {dd ee oo : Nat} {l er other : List Int} (hl : Kd.C (Kd.int .i64) w B l.length l) (he : Kd.C (Kd.int .i64) w E er.length er) (hle : er.length ≤ ee) (hll : l.length ≤ dd)
    (ho : Kd.C (Kd.int .i64) w O other.length other) (hno : decide (s.pts.length ≤ 20 ∧ er.length ≤ 30) = false ∨ checkR s ≠ 0 ∨ recvZ (isR s.P s.M) l s.pts.length er ≠ 0 ∨ elemsZ (isR s.P s.M) other s.pts.length 4 ≠ 0) :
    Calls Try.prog 7 #[v, .agg #[.slice B l.length dd, .slice E er.length ee], .slice O other.length oo] w fun e w' => e = .returned (.bool true) ∧ Below w.heap.size w w' := by
  obtain ⟨A1, c1, A2, c2, A3, c3, rfl, g1, l1, g2, l2, g3, l3⟩ := h.out
  have hmx := Kd.C_max g2
  have hmx3 := Kd.C_max g3
  have hme := Kd.C_max he
  have hml := Kd.C_max hl
  have hmo := Kd.C_max ho
  have hS0 := SAt.new w s A1 c1 A2 c2 A3 c3
  obtain ⟨w0, hw0⟩ : ∃ w0, w.alloc (.cells #[.int .i64 s.P, .int .i64 s.M, .slice A1 s.Mod.length c1, .int .i64 s.K, .slice A2 s.pts.length c2, .slice A3 s.mults.length c3] 29) = w0 := ⟨_, rfl⟩
  have hB0 : Below w.heap.size w w0 := by rw [← hw0]; exact below_alloc (Below.refl _ _) _
  have hz0 : w0.heap.size = w.heap.size + 1 := by rw [← hw0]; simp
  rw [hw0] at hS0
  have hV0 := VAt.new w0 B l.length dd E er.length ee
  obtain ⟨w1, hw1⟩ : ∃ w1, w0.alloc (.cells #[.slice B l.length dd, .slice E er.length ee] 31) = w1 := ⟨_, rfl⟩
  have hB1 : Below w0.heap.size w0 w1 := by rw [← hw1]; exact below_alloc (Below.refl _ _) _
  rw [hw1, hz0] at hV0
  have HB1 := Aside0.mk (below_later hB0 hB0.size hB1)
  have HS := Aside0.mk (hS0.below hB1)
  have HV := Aside0.mk hV0
  have HG := Aside0.mk (h.below HB1.out)
  have HL := Aside0.mk (Kd.C_below hl HB1.out)
  have HE := Aside0.mk (Kd.C_below he HB1.out)
  have HO := Aside0.mk (Kd.C_below ho HB1.out)
  have HW0 := Aside0.mk hw0
  have HW1 := Aside0.mk hw1
  have HFew := Aside0.mk (fun (w2 : World) => few_any (w := w2) (A := A2) (B := E) (c := c2) (d := ee) hmx hme)
  have HChk := Aside0.mk (fun (w2 : World) (hb : Below w1.heap.size w1 w2) => refCheck_any (HG.out.below hb))
  have HRec := Aside0.mk (fun (w2 : World) (hb : Below w1.heap.size w1 w2) => refReceived_any (A := A1) (n := s.Mod.length) (c := c1) (d := dd) (ee := ee) s.P s.M (Kd.C_below HL.out hb) (Kd.C_below HE.out hb) s.pts.length hmx)
  have HEl := Aside0.mk (fun (w2 : World) (hb : Below w1.heap.size w1 w2) => refElements_any (A := A1) (n := s.Mod.length) (c := c1) (d := oo) s.P s.M (Kd.C_below HO.out hb) s.pts.length hmx 4)
  clear g1 g2 g3 hl he ho hS0 hB0 hw0 hz0 hV0 hw1 hB1
  obtain ⟨b1, hb1⟩ : ∃ b1, decide (s.pts.length ≤ 20 ∧ er.length ≤ 30) = b1 := ⟨_, rfl⟩
  obtain ⟨ck, hck⟩ : ∃ ck, checkR s = ck := ⟨_, rfl⟩
  obtain ⟨rc, hrc⟩ : ∃ rc, recvZ (isR s.P s.M) l s.pts.length er = rc := ⟨_, rfl⟩
  obtain ⟨el, hel⟩ : ∃ el, elemsZ (isR s.P s.M) other s.pts.length 4 = el := ⟨_, rfl⟩
  rw [hb1, hck, hrc, hel] at hno
  rw [hb1] at HFew
  rw [hck] at HChk
  rw [hrc] at HRec
  rw [hel] at HEl
  clear h hb1 hck hrc hel
  cases b1 with
  | false =>
    clear hno
    go_enter Try.func7, Try.ntmps7
    go_upto_region 1 with (fail)
    rw [HW0.out, HW1.out]
    go_wp2_with (first
      | (go_at_call 11; refine (alive_any _).mono ?_; rintro e w2 ⟨rfl, hB⟩; have HBw2 := Aside0.mk (hB); obtain ⟨cPw2, cMw2, cModw2, cKw2, cPtsw2, cMulw2⟩ := HS.out.below HBw2.out; obtain ⟨cWw2, cEw2⟩ := HV.out.below HBw2.out; clear hB)
      | (go_at_call 14; refine (HFew.out _).mono ?_; rintro e _ ⟨rfl, rfl⟩))
    go_ret
    exact ⟨rfl, below_later HB1.out HB1.out.size HBw2.out⟩
  | true =>
    by_cases h1 : ck = 0
    · subst h1
      by_cases h2 : rc = 0
      · subst h2
        have h3 : el ≠ 0 := by
          rcases hno with h | h | h | h
          · cases h
          · exact absurd rfl h
          · exact absurd rfl h
          · exact h
        have hb : (el != 0) = true := by simp [h3]
        clear hno h3
        go_enter Try.func7, Try.ntmps7
        go_upto_region 1 with (fail)
        rw [HW0.out, HW1.out]
        go_wp2_with (first
          | (go_at_call 11; refine (alive_any _).mono ?_; rintro e w2 ⟨rfl, hB⟩; have HBw2 := Aside0.mk (hB); obtain ⟨cPw2, cMw2, cModw2, cKw2, cPtsw2, cMulw2⟩ := HS.out.below HBw2.out; obtain ⟨cWw2, cEw2⟩ := HV.out.below HBw2.out; clear hB)
          | (go_at_call 14; refine (HFew.out _).mono ?_; rintro e _ ⟨rfl, rfl⟩)
          | (go_at_call 16; refine (HChk.out _ HBw2.out).mono ?_; rintro e w3 ⟨rfl, hB⟩; have HBw3 := Aside0.mk (below_later HBw2.out HBw2.out.size hB); obtain ⟨cPw3, cMw3, cModw3, cKw3, cPtsw3, cMulw3⟩ := HS.out.below HBw3.out; obtain ⟨cWw3, cEw3⟩ := HV.out.below HBw3.out; clear hB)
          | (go_at_call 17; refine (HRec.out _ HBw3.out).mono ?_; rintro e w4 ⟨rfl, hB⟩; have HBw4 := Aside0.mk (below_later HBw3.out HBw3.out.size hB); obtain ⟨cPw4, cMw4, cModw4, cKw4, cPtsw4, cMulw4⟩ := HS.out.below HBw4.out; obtain ⟨cWw4, cEw4⟩ := HV.out.below HBw4.out; clear hB)
          | (go_at_call 19; refine (HEl.out _ HBw4.out).mono ?_; rintro e w5 ⟨rfl, hB⟩; have HBw5 := Aside0.mk (below_later HBw4.out HBw4.out.size hB); obtain ⟨cPw5, cMw5, cModw5, cKw5, cPtsw5, cMulw5⟩ := HS.out.below HBw5.out; obtain ⟨cWw5, cEw5⟩ := HV.out.below HBw5.out; clear hB))
        go_ret
        exact ⟨rfl, below_later HB1.out HB1.out.size HBw5.out⟩
      · have hb : (rc != 0) = true := by simp [h2]
        clear hno h2
        go_enter Try.func7, Try.ntmps7
        go_upto_region 1 with (fail)
        rw [HW0.out, HW1.out]
        go_wp2_with (first
          | (go_at_call 11; refine (alive_any _).mono ?_; rintro e w2 ⟨rfl, hB⟩; have HBw2 := Aside0.mk (hB); obtain ⟨cPw2, cMw2, cModw2, cKw2, cPtsw2, cMulw2⟩ := HS.out.below HBw2.out; obtain ⟨cWw2, cEw2⟩ := HV.out.below HBw2.out; clear hB)
          | (go_at_call 14; refine (HFew.out _).mono ?_; rintro e _ ⟨rfl, rfl⟩)
          | (go_at_call 16; refine (HChk.out _ HBw2.out).mono ?_; rintro e w3 ⟨rfl, hB⟩; have HBw3 := Aside0.mk (below_later HBw2.out HBw2.out.size hB); obtain ⟨cPw3, cMw3, cModw3, cKw3, cPtsw3, cMulw3⟩ := HS.out.below HBw3.out; obtain ⟨cWw3, cEw3⟩ := HV.out.below HBw3.out; clear hB)
          | (go_at_call 17; refine (HRec.out _ HBw3.out).mono ?_; rintro e w4 ⟨rfl, hB⟩; have HBw4 := Aside0.mk (below_later HBw3.out HBw3.out.size hB); obtain ⟨cPw4, cMw4, cModw4, cKw4, cPtsw4, cMulw4⟩ := HS.out.below HBw4.out; obtain ⟨cWw4, cEw4⟩ := HV.out.below HBw4.out; clear hB))
        go_ret
        exact ⟨rfl, below_later HB1.out HB1.out.size HBw4.out⟩
    · have hb : (ck != 0) = true := by simp [h1]
      clear hno h1
      go_enter Try.func7, Try.ntmps7
      go_upto_region 1 with (fail)
      rw [HW0.out, HW1.out]
      go_wp2_with (first
        | (go_at_call 11; refine (alive_any _).mono ?_; rintro e w2 ⟨rfl, hB⟩; have HBw2 := Aside0.mk (hB); obtain ⟨cPw2, cMw2, cModw2, cKw2, cPtsw2, cMulw2⟩ := HS.out.below HBw2.out; obtain ⟨cWw2, cEw2⟩ := HV.out.below HBw2.out; clear hB)
        | (go_at_call 14; refine (HFew.out _).mono ?_; rintro e _ ⟨rfl, rfl⟩)
        | (go_at_call 16; refine (HChk.out _ HBw2.out).mono ?_; rintro e w3 ⟨rfl, hB⟩; have HBw3 := Aside0.mk (below_later HBw2.out HBw2.out.size hB); obtain ⟨cPw3, cMw3, cModw3, cKw3, cPtsw3, cMulw3⟩ := HS.out.below HBw3.out; obtain ⟨cWw3, cEw3⟩ := HV.out.below HBw3.out; clear hB))
      go_ret
      exact ⟨rfl, below_later HB1.out HB1.out.size HBw3.out⟩

set_option maxHeartbeats 8000000 in
set_option maxRecDepth 100000 in
theorem lawErased_yes {w : World} {v : Value} {s : GD} (h : GArg w v s) {B E O : Option Addr} {dd ee oo : Nat} {l er other : List Int} (hl : Kd.C (Kd.int .i64) w B l.length l) (he : Kd.C (Kd.int .i64) w E er.length er) (hle : er.length ≤ ee) (hll : l.length ≤ dd)
    (ho : Kd.C (Kd.int .i64) w O other.length other) (hb1 : decide (s.pts.length ≤ 20 ∧ er.length ≤ 30) = true) (hck : checkR s = 0) (hrc : recvZ (isR s.P s.M) l s.pts.length er = 0) (hel : elemsZ (isR s.P s.M) other s.pts.length 4 = 0) :
    Calls Try.prog 7 #[v, .agg #[.slice B l.length dd, .slice E er.length ee], .slice O other.length oo] w fun e w' => e = .returned (.bool true) ∧ Below w.heap.size w w' := by
  obtain ⟨A1, c1, A2, c2, A3, c3, rfl, g1, l1, g2, l2, g3, l3⟩ := h.out
  have hmx := Kd.C_max g2
  have hmx3 := Kd.C_max g3
  have hme := Kd.C_max he
  have hml := Kd.C_max hl
  have hmo := Kd.C_max ho
  have hS0 := SAt.new w s A1 c1 A2 c2 A3 c3
  obtain ⟨w0, hw0⟩ : ∃ w0, w.alloc (.cells #[.int .i64 s.P, .int .i64 s.M, .slice A1 s.Mod.length c1, .int .i64 s.K, .slice A2 s.pts.length c2, .slice A3 s.mults.length c3] 29) = w0 := ⟨_, rfl⟩
  have hB0 : Below w.heap.size w w0 := by rw [← hw0]; exact below_alloc (Below.refl _ _) _
  have hz0 : w0.heap.size = w.heap.size + 1 := by rw [← hw0]; simp
  rw [hw0] at hS0
  have hV0 := VAt.new w0 B l.length dd E er.length ee
  obtain ⟨w1, hw1⟩ : ∃ w1, w0.alloc (.cells #[.slice B l.length dd, .slice E er.length ee] 31) = w1 := ⟨_, rfl⟩
  have hB1 : Below w0.heap.size w0 w1 := by rw [← hw1]; exact below_alloc (Below.refl _ _) _
  rw [hw1, hz0] at hV0
  have HB1 := Aside0.mk (below_later hB0 hB0.size hB1)
  have HS := Aside0.mk (hS0.below hB1)
  have HV := Aside0.mk hV0
  have HG := Aside0.mk (h.below HB1.out)
  have HL := Aside0.mk (Kd.C_below hl HB1.out)
  have HE := Aside0.mk (Kd.C_below he HB1.out)
  have HO := Aside0.mk (Kd.C_below ho HB1.out)
  have HW0 := Aside0.mk hw0
  have HW1 := Aside0.mk hw1
  have HFew := Aside0.mk (fun (w2 : World) => few_any (w := w2) (A := A2) (B := E) (c := c2) (d := ee) hmx hme)
  have HChk := Aside0.mk (fun (w2 : World) (hb : Below w1.heap.size w1 w2) => refCheck_any (HG.out.below hb))
  have HRec := Aside0.mk (fun (w2 : World) (hb : Below w1.heap.size w1 w2) => refReceived_any (A := A1) (n := s.Mod.length) (c := c1) (d := dd) (ee := ee) s.P s.M (Kd.C_below HL.out hb) (Kd.C_below HE.out hb) s.pts.length hmx)
  have HEl := Aside0.mk (fun (w2 : World) (hb : Below w1.heap.size w1 w2) => refElements_any (A := A1) (n := s.Mod.length) (c := c1) (d := oo) s.P s.M (Kd.C_below HO.out hb) s.pts.length hmx 4)
  clear g1 g2 g3 hl he ho hS0 hB0 hw0 hz0 hV0 hw1 hB1
  obtain ⟨-, n1, n2, -, -⟩ := checkR_zero s hck
  obtain ⟨r1, r2, r3, r4⟩ := recvZ_zero _ _ _ _ hrc
  obtain ⟨e1, e2⟩ := elemsZ_zero _ _ _ 4 (by omega) hel
  have hdec := decode_erased s l er other hrc hel
  have hl20 : er.length ≤ 30 := (of_decide_eq_true hb1).2
  have hln : l.length ≤ 64 := by omega
  have hEnds : ∀ l2 : List Int, s.open = 0 → wordZ s.D l2 s.pts.length er = 0 → s.ends l2 (marksZ s.pts.length er) := fun l2 h0 _ => GD.ends_ok s h0 (GD.D_ok s h0) (open_facts s h0).1 n2 _ _
  obtain ⟨T, hT⟩ : ∃ T, s.decode l er = T := ⟨_, rfl⟩
  rw [hT] at hdec
  have HGr1 := Aside0.mk (fun (w2 : World) (hb : Below w1.heap.size w1 w2) => GRS_any (dd := dd) (ee := ee) (HG.out.below hb) (Kd.C_below HL.out hb) (Kd.C_below HE.out hb) (hEnds l))
  have HGr2 := Aside0.mk (fun (w2 : World) (hb : Below w1.heap.size w1 w2) (A : Option Addr) (c : Nat) (hc : Kd.C (Kd.int .i64) w2 A (updE other l er).length (updE other l er)) => GRS_any (dd := c) (ee := ee) (HG.out.below hb) hc (Kd.C_below HE.out hb) (hEnds _))
  have HUl : Aside0 (∀ k, (updE other l (er.take k)).length = l.length) := ⟨fun k => updE_length _ _ _⟩
  have HUl2 := updE_length other er l
  simp only [hT, hdec, HUl2] at HGr1 HGr2
  obtain ⟨tc, td, te⟩ := T
  simp only at HGr1 HGr2
  have HPo := Aside0.mk r3
  have HRl := Aside0.mk r1
  have HOl := Aside0.mk e1
  rw [hb1] at HFew
  rw [hck] at HChk
  rw [hrc] at HRec
  rw [hel] at HEl
  clear h hb1 hck hrc hel hdec hT hEnds r1 r2 r3 r4 e1 e2 HUl2
  go_enter Try.func7, Try.ntmps7
  go_upto_region 1 with (fail)
  rw [HW0.out, HW1.out]
  go_wp2_with (first
    | (go_at_call 11; refine (alive_any _).mono ?_; rintro e w2 ⟨rfl, hB⟩; have HBw2 := Aside0.mk (hB); obtain ⟨cPw2, cMw2, cModw2, cKw2, cPtsw2, cMulw2⟩ := HS.out.below HBw2.out; obtain ⟨cWw2, cEw2⟩ := HV.out.below HBw2.out; clear hB)
    | (go_at_call 14; refine (HFew.out _).mono ?_; rintro e _ ⟨rfl, rfl⟩)
    | (go_at_call 16; refine (HChk.out _ HBw2.out).mono ?_; rintro e w3 ⟨rfl, hB⟩; have HBw3 := Aside0.mk (below_later HBw2.out HBw2.out.size hB); obtain ⟨cPw3, cMw3, cModw3, cKw3, cPtsw3, cMulw3⟩ := HS.out.below HBw3.out; obtain ⟨cWw3, cEw3⟩ := HV.out.below HBw3.out; clear hB)
    | (go_at_call 17; refine (HRec.out _ HBw3.out).mono ?_; rintro e w4 ⟨rfl, hB⟩; have HBw4 := Aside0.mk (below_later HBw3.out HBw3.out.size hB); obtain ⟨cPw4, cMw4, cModw4, cKw4, cPtsw4, cMulw4⟩ := HS.out.below HBw4.out; obtain ⟨cWw4, cEw4⟩ := HV.out.below HBw4.out; clear hB)
    | (go_at_call 19; refine (HEl.out _ HBw4.out).mono ?_; rintro e w5 ⟨rfl, hB⟩; have HBw5 := Aside0.mk (below_later HBw4.out HBw4.out.size hB); obtain ⟨cPw5, cMw5, cModw5, cKw5, cPtsw5, cMulw5⟩ := HS.out.below HBw5.out; obtain ⟨cWw5, cEw5⟩ := HV.out.below HBw5.out; clear hB; have hba := below_alloc (Below.refl w5.heap.size w5) (.cells #[] 3); have cWa := pw_cell_below hba cWw5; have cEa := pw_cell_below hba cEw5; have HLit := Aside0.mk (own_lit0 w5); have HBa := Aside0.mk hba; clear hba)
    | ((with_reducible refine gate_builtin (b := .append) (xs := #[.tmp 50, .tmp 52]) rfl ?_); at_builtin; refine append_list (w0 := w5) (base := w5.heap.size) rfl (.tmp 50) (.tmp 52) rfl rfl rfl HLit.out HBa.out.size (Kd.C_below HL.out (HBw5.out.trans (HBa.out.mono HBw5.out.size))) HBa.out (by simp; omega) ?_; intro v6 w6 h6 hb6; rw [List.nil_append] at h6; obtain ⟨A6, c6, rfl, -, -⟩ := h6.slice; have HO6 := Aside0.mk h6; have HB6 := Aside0.mk (below_later HBw5.out HBw5.out.size hb6); obtain ⟨cP6, cM6, cMod6, cK6, cPts6, cMul6⟩ := HS.out.below HB6.out; obtain ⟨cW6, cE6⟩ := HV.out.below HB6.out; clear h6 hb6))
  clear cPw2 cMw2 cModw2 cKw2 cPtsw2 cMulw2 cWw2 cEw2 cPw3 cMw3 cModw3 cKw3 cPtsw3 cMulw3 cWw3 cEw3 cPw4 cMw4 cModw4 cKw4 cPtsw4 cMulw4 cWw4 cEw4 cPw5 cMw5 cModw5 cKw5 cPtsw5 cMulw5 cWw5 cEw5 cWa cEa HLit HBa
  have H0 : Aside0 (Own w6 w5.heap.size (.slice A6 l.length c6) (updE other l (er.take 0))) := ⟨HO6.out⟩
  clear HO6
  go_wp2
  go_loopw [57] (fun v57 w' => ∃ k : Nat, v57 = .int .i64 k ∧ k ≤ er.length ∧ Aside0 (Own w' w5.heap.size (.slice A6 l.length c6) (updE other l (er.take k))) ∧ Aside0 (Below w1.heap.size w1 w')) (fun v57 _ => er.length - (intOf v57).toNat)
  case atStart => exact ⟨0, rfl, by omega, H0, HB6⟩
  case round =>
    clear H0
    obtain ⟨k, rfl, hk, HOw, HBr⟩ := hrel
    by_cases hlk : k < er.length
    · obtain ⟨ad, e, hx⟩ := C_nat (Kd.C_below HE.out HBr.out) k hlk
      cases e
      obtain ⟨x, hx'⟩ : ∃ x, er.getD k 0 = x := ⟨_, rfl⟩
      rw [hx'] at hx
      have hxm : x ∈ er := by rw [← hx']; exact mem_getD er k hlk
      have hxp : 0 ≤ x ∧ x < s.pts.length := of_decide_eq_true (List.all_eq_true.1 HPo.out x hxm)
      obtain ⟨xn, rfl⟩ := Int.eq_ofNat_of_zero_le hxp.1
      have hxn : xn < s.pts.length := by omega
      have hxo : xn < other.length := by rw [HOl.out]; exact hxn
      have hxl : xn < l.length := by rw [HRl.out]; exact hxn
      obtain ⟨ad2, e, hy⟩ := C_nat (Kd.C_below HO.out HBr.out) xn hxo
      cases e
      obtain ⟨y, hy'⟩ : ∃ y, other.getD xn 0 = y := ⟨_, rfl⟩
      rw [hy'] at hy
      have hstep := updE_snoc other l (er.take k) (xn : Int)
      rw [← hx', ← take_succ_rd er k hlk, hx', Int.toNat_natCast, hy'] at hstep
      obtain ⟨gb, cap, eg, hg1, hg2⟩ := HOw.out.form (by rw [HUl.out]; omega)
      rw [HUl.out] at eg
      cases eg
      have HO2 := Aside0.mk (HOw.out.set (HUl.out k).symm xn y)
      rw [← hstep] at HO2
      obtain ⟨hcl, hfz⟩ := HOw.out.cell' (HUl.out k).symm xn hxl
      have i0 : (0 : Int) ≤ (xn : Int) := by omega
      have i1 : (xn : Int) < other.length := by omega
      have i2 : (xn : Int) < l.length := by omega
      clear hx' hy' hstep hxm hxp HOw
      go_wp2
      go_roundw
      case rel => exact ⟨k + 1, by go_num, by omega, HO2, ⟨HBr.out.setCell (p := ⟨gb, xn, none⟩) (by have := HBw5.out.size; show w1.heap.size ≤ gb; omega) _⟩⟩
      case measure => simp [intOf]; omega
    · obtain rfl : k = er.length := by omega
      rw [List.take_length] at HOw
      obtain ⟨A7, c7, e7, hc7, hC7⟩ := HOw.out.slice
      rw [updE_length] at e7 hC7
      cases e7
      have HC7 := Aside0.mk hC7
      obtain ⟨cPr, cMr, cModr, cKr, cPtsr, cMulr⟩ := HS.out.below HBr.out
      obtain ⟨cWr, cEr⟩ := HV.out.below HBr.out
      clear hC7
      go_wp2_with (first
        | (go_at_call 15; (with_reducible refine Calls.mono (HGr1.out _ HBr.out) ?_); rintro e w8 ⟨v8, rfl, hD, hB⟩; obtain ⟨v81, v82, rfl, hr1, hr2⟩ := hD; obtain ⟨B1, d1, rfl, -, hC1⟩ := hr1.out; obtain ⟨B2, d2, rfl, -, hC2⟩ := hr2.out; have HC1 := Aside0.mk hC1; have HC2 := Aside0.mk hC2; have HB8 := Aside0.mk (below_later HBr.out HBr.out.size hB); have HC8 := Aside0.mk (Kd.C_below HC7.out hB); have hba := below_alloc (Below.refl w8.heap.size w8) (.cells #[.slice B1 tc.length d1, .slice B2 td.length d2] 34); have HB9 := Aside0.mk (below_later HB8.out HB8.out.size hba); have HC9 := Aside0.mk (Kd.C_below HC8.out hba); obtain ⟨cP9, cM9, cMod9, cK9, cPts9, cMul9⟩ := HS.out.below HB9.out; obtain ⟨cW9, cE9⟩ := HV.out.below HB9.out; clear hr1 hr2 hC1 hC2 hB hba)
        | (go_at_call 15; (with_reducible refine Calls.mono (HGr2.out _ HB9.out _ _ HC9.out) ?_); rintro e w10 ⟨v10, rfl, hD, hB⟩; obtain ⟨v11, v12, rfl, hr1, hr2⟩ := hD; obtain ⟨B3, d3, rfl, -, hC3⟩ := hr1.out; obtain ⟨B4, d4, rfl, -, hC4⟩ := hr2.out; have HB10 := Aside0.mk (below_later HB9.out HB9.out.size hB); have hba := below_alloc (Below.refl w10.heap.size w10) (.cells #[.slice B3 tc.length d3, .slice B4 td.length d4] 34); have hb8 := (below_alloc (Below.refl w8.heap.size w8) (.cells #[.slice B1 tc.length d1, .slice B2 td.length d2] 34)).trans (hB.mono (by simp)); have hb11 := hb8.trans (hba.mono hb8.size); have HB11 := Aside0.mk (below_later HB10.out HB10.out.size hba); have HD1 := Aside0.mk (Kd.C_below HC1.out hb11); have HD2 := Aside0.mk (Kd.C_below HC2.out hb11); have HD3 := Aside0.mk (Kd.C_below hC3 hba); have HD4 := Aside0.mk (Kd.C_below hC4 hba); have cA := pw_cell_below hba (pw_cell_below hB (cell_alloc2_0 w8 (.slice B1 tc.length d1) (.slice B2 td.length d2) 34)); have cB := pw_cell_below hba (pw_cell_below hB (cell_alloc2_1 w8 (.slice B1 tc.length d1) (.slice B2 td.length d2) 34)); have cC := cell_alloc2_0 w10 (.slice B3 tc.length d3) (.slice B4 td.length d4) 34; have cD := cell_alloc2_1 w10 (.slice B3 tc.length d3) (.slice B4 td.length d4) 34; clear hr1 hr2 hB hba hb8 hb11 hC3 hC4)
        | (go_at_call 23; (with_reducible refine Calls.mono (same_n HD1.out HD3.out true (decide_eq_true rfl)) ?_); rintro e w12 ⟨rfl, hd⟩; have HB12 := Aside0.mk (HB11.out.below'' hd); have HE2 := Aside0.mk (Kd.C_below HD2.out hd.below); have HE4 := Aside0.mk (Kd.C_below HD4.out hd.below); have cB2 := pw_cell_below hd.below cB; have cD2 := pw_cell_below hd.below cD; clear hd)
        | (go_at_call 23; (with_reducible refine Calls.mono (same_n HE2.out HE4.out true (decide_eq_true rfl)) ?_); rintro e w13 ⟨rfl, hd⟩; have HB13 := Aside0.mk (HB12.out.below'' hd); clear hd))
      go_ret
      exact ⟨rfl, below_later HB1.out HB1.out.size HB13.out⟩

theorem lawErased_any {w : World} {v : Value} {s : GD} (h : GArg w v s) {B E O : Option Addr} {dd ee oo : Nat} {l er other : List Int} (hl : Kd.C (Kd.int .i64) w B l.length l) (he : Kd.C (Kd.int .i64) w E er.length er) (hle : er.length ≤ ee) (hll : l.length ≤ dd)
    (ho : Kd.C (Kd.int .i64) w O other.length other) :
    Calls Try.prog 7 #[v, .agg #[.slice B l.length dd, .slice E er.length ee], .slice O other.length oo] w fun e w' => e = .returned (.bool true) ∧ Below w.heap.size w w' := by
  by_cases hno : decide (s.pts.length ≤ 20 ∧ er.length ≤ 30) = false ∨ checkR s ≠ 0 ∨ recvZ (isR s.P s.M) l s.pts.length er ≠ 0 ∨ elemsZ (isR s.P s.M) other s.pts.length 4 ≠ 0
  · exact lawErased_no h hl he hle hll ho hno
  · have h1 : decide (s.pts.length ≤ 20 ∧ er.length ≤ 30) = true := by
      cases hb : decide (s.pts.length ≤ 20 ∧ er.length ≤ 30) with
      | true => rfl
      | false => exact absurd (.inl hb) hno
    exact lawErased_yes h hl he hle hll ho h1 (Classical.not_not.1 fun hn => hno (.inr (.inl hn))) (Classical.not_not.1 fun hn => hno (.inr (.inr (.inl hn)))) (Classical.not_not.1 fun hn => hno (.inr (.inr (.inr hn))))
end Go.Proofs.Yticgblagimmlfaa
