/- The law BoundedHonest. -/
import Derived.Test.YticgblagimmlfaaX417
import Derived.Test.YticgblagimmlfaaX415
namespace Go.Proofs.Yticgblagimmlfaa
open Go.RowKit Go.Proofs.YticgblagimmlfaaW.PrintWords Go.Proofs.YticgblagimmlfaaW.PrintLast Go.Proofs.YticgblagimmlfaaW.PrintMore
set_option linter.unusedVariables false
set_option linter.unusedSimpArgs false

set_option maxHeartbeats 8000000 in
set_option maxRecDepth 100000 in
theorem lawHonest_no {w : World} {v : Value} {s : GD} (h : GArg w v s) {B E : Option Addr} {dd ee : Nat} {l er : List Int} (hl : Kd.C (Kd.int .i64) w B l.length l) (he : Kd.C (Kd.int .i64) w E er.length er) (hle : er.length ≤ ee) (hll : l.length ≤ dd) (hno : decide (s.pts.length ≤ 20 ∧ er.length ≤ 30) = false) :
    Calls Try.prog 4 #[v, .agg #[.slice B l.length dd, .slice E er.length ee]] w fun e w' => e = .returned (.bool true) ∧ Below w.heap.size w w' := by
  obtain ⟨A1, c1, A2, c2, A3, c3, rfl, g1, l1, g2, l2, g3, l3⟩ := h.out
  have hmx := Kd.C_max g2
  have hmx3 := Kd.C_max g3
  have hme := Kd.C_max he
  have hml := Kd.C_max hl
  have hS0 := SAt.new w s A1 c1 A2 c2 A3 c3
  obtain ⟨w0, hw0⟩ : ∃ w0, w.alloc (.cells #[.int .i64 s.P, .int .i64 s.M, .slice A1 s.Mod.length c1, .int .i64 s.K, .slice A2 s.pts.length c2, .slice A3 s.mults.length c3] 29) = w0 := ⟨_, rfl⟩
  have hB0 : Below w.heap.size w w0 := by rw [← hw0]; exact below_alloc (Below.refl _ _) _
  have hz0 : w0.heap.size = w.heap.size + 1 := by rw [← hw0]; simp
  rw [hw0] at hS0
  have hV0 := VAt.new w0 B l.length dd E er.length ee
  obtain ⟨w1, hw1⟩ : ∃ w1, w0.alloc (.cells #[.slice B l.length dd, .slice E er.length ee] 31) = w1 := ⟨_, rfl⟩
  have hB1 : Below w0.heap.size w0 w1 := by rw [← hw1]; exact below_alloc (Below.refl _ _) _
  rw [hw1, hz0] at hV0
  have HB1 := Aside0.mk (below_later hB0 hB0.size hB1)
  have HS := Aside0.mk (hS0.below hB1)
  have HV := Aside0.mk hV0
  have HG := Aside0.mk (h.below HB1.out)
  have HL := Aside0.mk (Kd.C_below hl HB1.out)
  have HE := Aside0.mk (Kd.C_below he HB1.out)
  have HW0 := Aside0.mk hw0
  have HW1 := Aside0.mk hw1
  have HFew := Aside0.mk (fun (w2 : World) => few_any (w := w2) (A := A2) (B := E) (c := c2) (d := ee) hmx hme)
  have HChk := Aside0.mk (fun (w2 : World) (hb : Below w1.heap.size w1 w2) => refCheck_any (HG.out.below hb))
  have HRec := Aside0.mk (fun (w2 : World) (hb : Below w1.heap.size w1 w2) => refReceived_any (A := A1) (n := s.Mod.length) (c := c1) (d := dd) (ee := ee) s.P s.M (Kd.C_below HL.out hb) (Kd.C_below HE.out hb) s.pts.length hmx)
  clear g1 g2 g3 hl he hS0 hB0 hw0 hz0 hV0 hw1 hB1
  rw [hno] at HFew
  clear h hno
  go_enter Try.func4, Try.ntmps4
  go_upto_region 1 with (fail)
  rw [HW0.out, HW1.out]
  go_wp2_with (first
    | (go_at_call 11; refine (alive_any _).mono ?_; rintro e w2 ⟨rfl, hB⟩; have HBw2 := Aside0.mk (hB); obtain ⟨cPw2, cMw2, cModw2, cKw2, cPtsw2, cMulw2⟩ := HS.out.below HBw2.out; obtain ⟨cWw2, cEw2⟩ := HV.out.below HBw2.out; clear hB)
    | (go_at_call 14; refine (HFew.out _).mono ?_; rintro e _ ⟨rfl, rfl⟩))
  go_ret
  exact ⟨rfl, below_later HB1.out HB1.out.size HBw2.out⟩

set_option maxHeartbeats 8000000 in
set_option maxRecDepth 100000 in
theorem lawHonest_bad1 {w : World} {v : Value} {s : GD} (h : GArg w v s) {B E : Option Addr} {dd ee : Nat} {l er : List Int} (hl : Kd.C (Kd.int .i64) w B l.length l) (he : Kd.C (Kd.int .i64) w E er.length er) (hle : er.length ≤ ee) (hll : l.length ≤ dd) (hb1 : decide (s.pts.length ≤ 20 ∧ er.length ≤ 30) = true) (hck : checkR s ≠ 0) :
    Calls Try.prog 4 #[v, .agg #[.slice B l.length dd, .slice E er.length ee]] w fun e w' => e = .returned (.bool true) ∧ Below w.heap.size w w' := by
  obtain ⟨A1, c1, A2, c2, A3, c3, rfl, g1, l1, g2, l2, g3, l3⟩ := h.out
  have hmx := Kd.C_max g2
  have hmx3 := Kd.C_max g3
  have hme := Kd.C_max he
  have hml := Kd.C_max hl
  have hS0 := SAt.new w s A1 c1 A2 c2 A3 c3
  obtain ⟨w0, hw0⟩ : ∃ w0, w.alloc (.cells #[.int .i64 s.P, .int .i64 s.M, .slice A1 s.Mod.length c1, .int .i64 s.K, .slice A2 s.pts.length c2, .slice A3 s.mults.length c3] 29) = w0 := ⟨_, rfl⟩
  have hB0 : Below w.heap.size w w0 := by rw [← hw0]; exact below_alloc (Below.refl _ _) _
  have hz0 : w0.heap.size = w.heap.size + 1 := by rw [← hw0]; simp
  rw [hw0] at hS0
  have hV0 := VAt.new w0 B l.length dd E er.length ee
  obtain ⟨w1, hw1⟩ : ∃ w1, w0.alloc (.cells #[.slice B l.length dd, .slice E er.length ee] 31) = w1 := ⟨_, rfl⟩
  have hB1 : Below w0.heap.size w0 w1 := by rw [← hw1]; exact below_alloc (Below.refl _ _) _
  rw [hw1, hz0] at hV0
  have HB1 := Aside0.mk (below_later hB0 hB0.size hB1)
  have HS := Aside0.mk (hS0.below hB1)
  have HV := Aside0.mk hV0
  have HG := Aside0.mk (h.below HB1.out)
  have HL := Aside0.mk (Kd.C_below hl HB1.out)
  have HE := Aside0.mk (Kd.C_below he HB1.out)
  have HW0 := Aside0.mk hw0
  have HW1 := Aside0.mk hw1
  have HFew := Aside0.mk (fun (w2 : World) => few_any (w := w2) (A := A2) (B := E) (c := c2) (d := ee) hmx hme)
  have HChk := Aside0.mk (fun (w2 : World) (hb : Below w1.heap.size w1 w2) => refCheck_any (HG.out.below hb))
  have HRec := Aside0.mk (fun (w2 : World) (hb : Below w1.heap.size w1 w2) => refReceived_any (A := A1) (n := s.Mod.length) (c := c1) (d := dd) (ee := ee) s.P s.M (Kd.C_below HL.out hb) (Kd.C_below HE.out hb) s.pts.length hmx)
  clear g1 g2 g3 hl he hS0 hB0 hw0 hz0 hV0 hw1 hB1
  have hEnds : s.open = 0 → wordZ s.D l s.pts.length er = 0 → s.ends l (marksZ s.pts.length er) := fun h0 _ => by
    obtain ⟨f1, n1, n2, -⟩ := open_factsP s h0
    exact GD.ends_ok s h0 (GD.D_ok s h0) f1 n2 _ _
  have HGr := Aside0.mk (fun (w2 : World) (hb : Below w1.heap.size w1 w2) => GRS_any (dd := dd) (ee := ee) (HG.out.below hb) (Kd.C_below HL.out hb) (Kd.C_below HE.out hb) hEnds)
  obtain ⟨t1, t2, t3⟩ := decode_bad s l er (checkR s) (by rw [if_neg hck]) (.inl hck)
  have t4 : (s.decode l er).2.2 = checkR s := t3.resolve_right fun h => hck h.1
  obtain ⟨T, hT⟩ : ∃ T, s.decode l er = T := ⟨_, rfl⟩
  simp only [hT] at HGr t1 t2 t4
  obtain ⟨tc, td, te⟩ := T
  simp only at HGr t1 t2 t4
  subst t4
  have hx1 : ((tc.length : Int) == 0) = true := by rw [t1]; rfl
  have hx2 : ((td.length : Int) == 0) = true := by rw [t2]; rfl
  clear t1 t2
  rw [hb1] at HFew
  obtain ⟨ck, hk2⟩ : ∃ ck, checkR s = ck := ⟨_, rfl⟩
  rw [hk2] at HGr HChk hck
  have hcb : (ck != 0) = true := by simp [hck]
  have hcb2 : (ck == 0) = false := by simp [hck]
  clear h hb1 hEnds hT hk2 t3 hck
  go_enter Try.func4, Try.ntmps4
  go_upto_region 1 with (fail)
  rw [HW0.out, HW1.out]
  go_wp2_with (first
    | (go_at_call 11; refine (alive_any _).mono ?_; rintro e w2 ⟨rfl, hB⟩; have HBw2 := Aside0.mk (hB); obtain ⟨cPw2, cMw2, cModw2, cKw2, cPtsw2, cMulw2⟩ := HS.out.below HBw2.out; obtain ⟨cWw2, cEw2⟩ := HV.out.below HBw2.out; clear hB)
    | (go_at_call 14; refine (HFew.out _).mono ?_; rintro e _ ⟨rfl, rfl⟩)
    | (go_at_call 15; (with_reducible refine Calls.mono (HGr.out _ HBw2.out) ?_); rintro e w3 ⟨v3, rfl, hD, hB⟩; obtain ⟨v31, v32, rfl, hr1, hr2⟩ := hD; obtain ⟨B1, d1, rfl, -, hC1⟩ := hr1.out; obtain ⟨B2, d2, rfl, -, hC2⟩ := hr2.out; have HB3 := Aside0.mk (below_later HBw2.out HBw2.out.size hB); have hba := below_alloc (Below.refl w3.heap.size w3) (.cells #[.slice B1 tc.length d1, .slice B2 td.length d2] 34); have HBw4 := Aside0.mk (below_later HB3.out HB3.out.size hba); have HC1 := Aside0.mk (Kd.C_below hC1 hba); have HC2 := Aside0.mk (Kd.C_below hC2 hba); have cX := cell_alloc2_0 w3 (.slice B1 tc.length d1) (.slice B2 td.length d2) 34; have cY := cell_alloc2_1 w3 (.slice B1 tc.length d1) (.slice B2 td.length d2) 34; obtain ⟨cPw4, cMw4, cModw4, cKw4, cPtsw4, cMulw4⟩ := HS.out.below HBw4.out; obtain ⟨cWw4, cEw4⟩ := HV.out.below HBw4.out; clear hr1 hr2 hB hba hC1 hC2)
    | (go_at_call 16; refine (HChk.out _ HBw4.out).mono ?_; rintro e w5 ⟨rfl, hB⟩; have HBw5 := Aside0.mk (below_later HBw4.out HBw4.out.size hB); obtain ⟨cPw5, cMw5, cModw5, cKw5, cPtsw5, cMulw5⟩ := HS.out.below HBw5.out; obtain ⟨cWw5, cEw5⟩ := HV.out.below HBw5.out; have cX5 := pw_cell_below hB cX; have cY5 := pw_cell_below hB cY; clear hB))
  go_ret
  exact ⟨rfl, below_later HB1.out HB1.out.size HBw5.out⟩
set_option maxHeartbeats 8000000 in
set_option maxRecDepth 100000 in
theorem lawHonest_bad2 {w : World} {v : Value} {s : GD} (h : GArg w v s) {B E : Option Addr} {dd ee : Nat} {l er : List Int} (hl : Kd.C (Kd.int .i64) w B l.length l) (he : Kd.C (Kd.int .i64) w E er.length er) (hle : er.length ≤ ee) (hll : l.length ≤ dd) (hb1 : decide (s.pts.length ≤ 20 ∧ er.length ≤ 30) = true) (hck : checkR s = 0) (hrc : recvZ (isR s.P s.M) l s.pts.length er ≠ 0) :
    Calls Try.prog 4 #[v, .agg #[.slice B l.length dd, .slice E er.length ee]] w fun e w' => e = .returned (.bool true) ∧ Below w.heap.size w w' := by
  obtain ⟨A1, c1, A2, c2, A3, c3, rfl, g1, l1, g2, l2, g3, l3⟩ := h.out
  have hmx := Kd.C_max g2
  have hmx3 := Kd.C_max g3
  have hme := Kd.C_max he
  have hml := Kd.C_max hl
  have hS0 := SAt.new w s A1 c1 A2 c2 A3 c3
  obtain ⟨w0, hw0⟩ : ∃ w0, w.alloc (.cells #[.int .i64 s.P, .int .i64 s.M, .slice A1 s.Mod.length c1, .int .i64 s.K, .slice A2 s.pts.length c2, .slice A3 s.mults.length c3] 29) = w0 := ⟨_, rfl⟩
  have hB0 : Below w.heap.size w w0 := by rw [← hw0]; exact below_alloc (Below.refl _ _) _
  have hz0 : w0.heap.size = w.heap.size + 1 := by rw [← hw0]; simp
  rw [hw0] at hS0
  have hV0 := VAt.new w0 B l.length dd E er.length ee
  obtain ⟨w1, hw1⟩ : ∃ w1, w0.alloc (.cells #[.slice B l.length dd, .slice E er.length ee] 31) = w1 := ⟨_, rfl⟩
  have hB1 : Below w0.heap.size w0 w1 := by rw [← hw1]; exact below_alloc (Below.refl _ _) _
  rw [hw1, hz0] at hV0
  have HB1 := Aside0.mk (below_later hB0 hB0.size hB1)
  have HS := Aside0.mk (hS0.below hB1)
  have HV := Aside0.mk hV0
  have HG := Aside0.mk (h.below HB1.out)
  have HL := Aside0.mk (Kd.C_below hl HB1.out)
  have HE := Aside0.mk (Kd.C_below he HB1.out)
  have HW0 := Aside0.mk hw0
  have HW1 := Aside0.mk hw1
  have HFew := Aside0.mk (fun (w2 : World) => few_any (w := w2) (A := A2) (B := E) (c := c2) (d := ee) hmx hme)
  have HChk := Aside0.mk (fun (w2 : World) (hb : Below w1.heap.size w1 w2) => refCheck_any (HG.out.below hb))
  have HRec := Aside0.mk (fun (w2 : World) (hb : Below w1.heap.size w1 w2) => refReceived_any (A := A1) (n := s.Mod.length) (c := c1) (d := dd) (ee := ee) s.P s.M (Kd.C_below HL.out hb) (Kd.C_below HE.out hb) s.pts.length hmx)
  clear g1 g2 g3 hl he hS0 hB0 hw0 hz0 hV0 hw1 hB1
  have hEnds : s.open = 0 → wordZ s.D l s.pts.length er = 0 → s.ends l (marksZ s.pts.length er) := fun h0 _ => by
    obtain ⟨f1, n1, n2, -⟩ := open_factsP s h0
    exact GD.ends_ok s h0 (GD.D_ok s h0) f1 n2 _ _
  have HGr := Aside0.mk (fun (w2 : World) (hb : Below w1.heap.size w1 w2) => GRS_any (dd := dd) (ee := ee) (HG.out.below hb) (Kd.C_below HL.out hb) (Kd.C_below HE.out hb) hEnds)
  obtain ⟨t1, t2, t3⟩ := decode_bad s l er (recvZ (isR s.P s.M) l s.pts.length er) (by rw [if_pos hck]) (.inl hrc)
  have t4 : (s.decode l er).2.2 = recvZ (isR s.P s.M) l s.pts.length er := t3.resolve_right fun h => hrc h.1
  obtain ⟨rc, hk2⟩ : ∃ rc, recvZ (isR s.P s.M) l s.pts.length er = rc := ⟨_, rfl⟩
  rw [hk2] at HRec hrc t4
  obtain ⟨T, hT⟩ : ∃ T, s.decode l er = T := ⟨_, rfl⟩
  simp only [hT] at HGr t1 t2 t4
  obtain ⟨tc, td, te⟩ := T
  simp only at HGr t1 t2 t4
  subst t4
  have hx1 : ((tc.length : Int) == 0) = true := by rw [t1]; rfl
  have hx2 : ((td.length : Int) == 0) = true := by rw [t2]; rfl
  clear t1 t2
  rw [hb1] at HFew
  rw [hck] at HChk
  have hcb : (te != 0) = true := by simp [hrc]
  have hcb2 : (te == 0) = false := by simp [hrc]
  clear h hb1 hEnds hT hk2 t3 hck
  go_enter Try.func4, Try.ntmps4
  go_upto_region 1 with (fail)
  rw [HW0.out, HW1.out]
  go_wp2_with (first
    | (go_at_call 11; refine (alive_any _).mono ?_; rintro e w2 ⟨rfl, hB⟩; have HBw2 := Aside0.mk (hB); obtain ⟨cPw2, cMw2, cModw2, cKw2, cPtsw2, cMulw2⟩ := HS.out.below HBw2.out; obtain ⟨cWw2, cEw2⟩ := HV.out.below HBw2.out; clear hB)
    | (go_at_call 14; refine (HFew.out _).mono ?_; rintro e _ ⟨rfl, rfl⟩)
    | (go_at_call 15; (with_reducible refine Calls.mono (HGr.out _ HBw2.out) ?_); rintro e w3 ⟨v3, rfl, hD, hB⟩; obtain ⟨v31, v32, rfl, hr1, hr2⟩ := hD; obtain ⟨B1, d1, rfl, -, hC1⟩ := hr1.out; obtain ⟨B2, d2, rfl, -, hC2⟩ := hr2.out; have HB3 := Aside0.mk (below_later HBw2.out HBw2.out.size hB); have hba := below_alloc (Below.refl w3.heap.size w3) (.cells #[.slice B1 tc.length d1, .slice B2 td.length d2] 34); have HBw4 := Aside0.mk (below_later HB3.out HB3.out.size hba); have HC1 := Aside0.mk (Kd.C_below hC1 hba); have HC2 := Aside0.mk (Kd.C_below hC2 hba); have cX := cell_alloc2_0 w3 (.slice B1 tc.length d1) (.slice B2 td.length d2) 34; have cY := cell_alloc2_1 w3 (.slice B1 tc.length d1) (.slice B2 td.length d2) 34; obtain ⟨cPw4, cMw4, cModw4, cKw4, cPtsw4, cMulw4⟩ := HS.out.below HBw4.out; obtain ⟨cWw4, cEw4⟩ := HV.out.below HBw4.out; clear hr1 hr2 hB hba hC1 hC2)
    | (go_at_call 16; refine (HChk.out _ HBw4.out).mono ?_; rintro e w5 ⟨rfl, hB⟩; have HBw5 := Aside0.mk (below_later HBw4.out HBw4.out.size hB); obtain ⟨cPw5, cMw5, cModw5, cKw5, cPtsw5, cMulw5⟩ := HS.out.below HBw5.out; obtain ⟨cWw5, cEw5⟩ := HV.out.below HBw5.out; have cX5 := pw_cell_below hB cX; have cY5 := pw_cell_below hB cY; clear hB)
    | (go_at_call 17; refine (HRec.out _ HBw5.out).mono ?_; rintro e w6 ⟨rfl, hB⟩; have HBw6 := Aside0.mk (below_later HBw5.out HBw5.out.size hB); obtain ⟨cPw6, cMw6, cModw6, cKw6, cPtsw6, cMulw6⟩ := HS.out.below HBw6.out; obtain ⟨cWw6, cEw6⟩ := HV.out.below HBw6.out; have cX6 := pw_cell_below hB cX5; have cY6 := pw_cell_below hB cY5; clear hB))
  go_ret
  exact ⟨rfl, below_later HB1.out HB1.out.size HBw6.out⟩

set_option maxHeartbeats 8000000 in
set_option maxRecDepth 100000 in
theorem lawHonest_bad3 {w : World} {v : Value} {s : GD} (h : GArg w v s) {B E : Option Addr} {dd ee : Nat} {l er : List Int} (hl : Kd.C (Kd.int .i64) w B l.length l) (he : Kd.C (Kd.int .i64) w E er.length er) (hle : er.length ≤ ee) (hll : l.length ≤ dd) (hb1 : decide (s.pts.length ≤ 20 ∧ er.length ≤ 30) = true) (hck : checkR s = 0) (hrc : recvZ (isR s.P s.M) l s.pts.length er = 0) (hte : (s.decode l er).2.2 ≠ 0) :
    Calls Try.prog 4 #[v, .agg #[.slice B l.length dd, .slice E er.length ee]] w fun e w' => e = .returned (.bool true) ∧ Below w.heap.size w w' := by
  obtain ⟨A1, c1, A2, c2, A3, c3, rfl, g1, l1, g2, l2, g3, l3⟩ := h.out
  have hmx := Kd.C_max g2
  have hmx3 := Kd.C_max g3
  have hme := Kd.C_max he
  have hml := Kd.C_max hl
  have hS0 := SAt.new w s A1 c1 A2 c2 A3 c3
  obtain ⟨w0, hw0⟩ : ∃ w0, w.alloc (.cells #[.int .i64 s.P, .int .i64 s.M, .slice A1 s.Mod.length c1, .int .i64 s.K, .slice A2 s.pts.length c2, .slice A3 s.mults.length c3] 29) = w0 := ⟨_, rfl⟩
  have hB0 : Below w.heap.size w w0 := by rw [← hw0]; exact below_alloc (Below.refl _ _) _
  have hz0 : w0.heap.size = w.heap.size + 1 := by rw [← hw0]; simp
  rw [hw0] at hS0
  have hV0 := VAt.new w0 B l.length dd E er.length ee
  obtain ⟨w1, hw1⟩ : ∃ w1, w0.alloc (.cells #[.slice B l.length dd, .slice E er.length ee] 31) = w1 := ⟨_, rfl⟩
  have hB1 : Below w0.heap.size w0 w1 := by rw [← hw1]; exact below_alloc (Below.refl _ _) _
  rw [hw1, hz0] at hV0
  have HB1 := Aside0.mk (below_later hB0 hB0.size hB1)
  have HS := Aside0.mk (hS0.below hB1)
  have HV := Aside0.mk hV0
  have HG := Aside0.mk (h.below HB1.out)
  have HL := Aside0.mk (Kd.C_below hl HB1.out)
  have HE := Aside0.mk (Kd.C_below he HB1.out)
  have HW0 := Aside0.mk hw0
  have HW1 := Aside0.mk hw1
  have HFew := Aside0.mk (fun (w2 : World) => few_any (w := w2) (A := A2) (B := E) (c := c2) (d := ee) hmx hme)
  have HChk := Aside0.mk (fun (w2 : World) (hb : Below w1.heap.size w1 w2) => refCheck_any (HG.out.below hb))
  have HRec := Aside0.mk (fun (w2 : World) (hb : Below w1.heap.size w1 w2) => refReceived_any (A := A1) (n := s.Mod.length) (c := c1) (d := dd) (ee := ee) s.P s.M (Kd.C_below HL.out hb) (Kd.C_below HE.out hb) s.pts.length hmx)
  clear g1 g2 g3 hl he hS0 hB0 hw0 hz0 hV0 hw1 hB1
  have hEnds : s.open = 0 → wordZ s.D l s.pts.length er = 0 → s.ends l (marksZ s.pts.length er) := fun h0 _ => by
    obtain ⟨f1, n1, n2, -⟩ := open_factsP s h0
    exact GD.ends_ok s h0 (GD.D_ok s h0) f1 n2 _ _
  have HGr := Aside0.mk (fun (w2 : World) (hb : Below w1.heap.size w1 w2) => GRS_any (dd := dd) (ee := ee) (HG.out.below hb) (Kd.C_below HL.out hb) (Kd.C_below HE.out hb) hEnds)
  obtain ⟨t1, t2, t3⟩ := decode_bad s l er 0 (by rw [if_pos hck, hrc]) (.inr hte)
  have t4 : (s.decode l er).2.2 = 12 := (t3.resolve_left hte).2
  obtain ⟨T, hT⟩ : ∃ T, s.decode l er = T := ⟨_, rfl⟩
  simp only [hT] at HGr t1 t2 t4
  obtain ⟨tc, td, te⟩ := T
  simp only at HGr t1 t2 t4
  subst t4
  have hx1 : ((tc.length : Int) == 0) = true := by rw [t1]; rfl
  have hx2 : ((td.length : Int) == 0) = true := by rw [t2]; rfl
  clear t1 t2
  rw [hb1] at HFew
  rw [hck] at HChk
  rw [hrc] at HRec
  clear h hb1 hEnds hT t3 hck hrc hte
  go_enter Try.func4, Try.ntmps4
  go_upto_region 1 with (fail)
  rw [HW0.out, HW1.out]
  go_wp2_with (first
    | (go_at_call 11; refine (alive_any _).mono ?_; rintro e w2 ⟨rfl, hB⟩; have HBw2 := Aside0.mk (hB); obtain ⟨cPw2, cMw2, cModw2, cKw2, cPtsw2, cMulw2⟩ := HS.out.below HBw2.out; obtain ⟨cWw2, cEw2⟩ := HV.out.below HBw2.out; clear hB)
    | (go_at_call 14; refine (HFew.out _).mono ?_; rintro e _ ⟨rfl, rfl⟩)
    | (go_at_call 15; (with_reducible refine Calls.mono (HGr.out _ HBw2.out) ?_); rintro e w3 ⟨v3, rfl, hD, hB⟩; obtain ⟨v31, v32, rfl, hr1, hr2⟩ := hD; obtain ⟨B1, d1, rfl, -, hC1⟩ := hr1.out; obtain ⟨B2, d2, rfl, -, hC2⟩ := hr2.out; have HB3 := Aside0.mk (below_later HBw2.out HBw2.out.size hB); have hba := below_alloc (Below.refl w3.heap.size w3) (.cells #[.slice B1 tc.length d1, .slice B2 td.length d2] 34); have HBw4 := Aside0.mk (below_later HB3.out HB3.out.size hba); have HC1 := Aside0.mk (Kd.C_below hC1 hba); have HC2 := Aside0.mk (Kd.C_below hC2 hba); have cX := cell_alloc2_0 w3 (.slice B1 tc.length d1) (.slice B2 td.length d2) 34; have cY := cell_alloc2_1 w3 (.slice B1 tc.length d1) (.slice B2 td.length d2) 34; obtain ⟨cPw4, cMw4, cModw4, cKw4, cPtsw4, cMulw4⟩ := HS.out.below HBw4.out; obtain ⟨cWw4, cEw4⟩ := HV.out.below HBw4.out; clear hr1 hr2 hB hba hC1 hC2)
    | (go_at_call 16; refine (HChk.out _ HBw4.out).mono ?_; rintro e w5 ⟨rfl, hB⟩; have HBw5 := Aside0.mk (below_later HBw4.out HBw4.out.size hB); obtain ⟨cPw5, cMw5, cModw5, cKw5, cPtsw5, cMulw5⟩ := HS.out.below HBw5.out; obtain ⟨cWw5, cEw5⟩ := HV.out.below HBw5.out; have cX5 := pw_cell_below hB cX; have cY5 := pw_cell_below hB cY; clear hB)
    | (go_at_call 17; refine (HRec.out _ HBw5.out).mono ?_; rintro e w6 ⟨rfl, hB⟩; have HBw6 := Aside0.mk (below_later HBw5.out HBw5.out.size hB); obtain ⟨cPw6, cMw6, cModw6, cKw6, cPtsw6, cMulw6⟩ := HS.out.below HBw6.out; obtain ⟨cWw6, cEw6⟩ := HV.out.below HBw6.out; have cX6 := pw_cell_below hB cX5; have cY6 := pw_cell_below hB cY5; clear hB))
  go_ret
  exact ⟨rfl, below_later HB1.out HB1.out.size HBw6.out⟩

set_option maxHeartbeats 8000000 in
set_option maxRecDepth 100000 in
theorem lawHonest_good {w : World} {v : Value} {s : GD} (h : GArg w v s) {B E : Option Addr} {dd ee : Nat} {l er : List Int} (hl : Kd.C (Kd.int .i64) w B l.length l) (he : Kd.C (Kd.int .i64) w E er.length er) (hle : er.length ≤ ee) (hll : l.length ≤ dd) (kn : Nat) (hk : s.K = kn) (hkn : kn ≤ s.pts.length) (hb1 : decide (s.pts.length ≤ 20 ∧ er.length ≤ 30) = true) (hck : checkR s = 0) (hrc : recvZ (isR s.P s.M) l s.pts.length er = 0) (hte : (s.decode l er).2.2 = 0) :
    Calls Try.prog 4 #[v, .agg #[.slice B l.length dd, .slice E er.length ee]] w fun e w' => e = .returned (.bool true) ∧ Below w.heap.size w w' := by
  obtain ⟨A1, c1, A2, c2, A3, c3, rfl, g1, l1, g2, l2, g3, l3⟩ := h.out
  have hmx := Kd.C_max g2
  have hmx3 := Kd.C_max g3
  have hme := Kd.C_max he
  have hml := Kd.C_max hl
  have hS0 := SAt.new w s A1 c1 A2 c2 A3 c3
  obtain ⟨w0, hw0⟩ : ∃ w0, w.alloc (.cells #[.int .i64 s.P, .int .i64 s.M, .slice A1 s.Mod.length c1, .int .i64 s.K, .slice A2 s.pts.length c2, .slice A3 s.mults.length c3] 29) = w0 := ⟨_, rfl⟩
  have hB0 : Below w.heap.size w w0 := by rw [← hw0]; exact below_alloc (Below.refl _ _) _
  have hz0 : w0.heap.size = w.heap.size + 1 := by rw [← hw0]; simp
  rw [hw0] at hS0
  have hV0 := VAt.new w0 B l.length dd E er.length ee
  obtain ⟨w1, hw1⟩ : ∃ w1, w0.alloc (.cells #[.slice B l.length dd, .slice E er.length ee] 31) = w1 := ⟨_, rfl⟩
  have hB1 : Below w0.heap.size w0 w1 := by rw [← hw1]; exact below_alloc (Below.refl _ _) _
  rw [hw1, hz0] at hV0
  have HB1 := Aside0.mk (below_later hB0 hB0.size hB1)
  have HS := Aside0.mk (hS0.below hB1)
  have HV := Aside0.mk hV0
  have HG := Aside0.mk (h.below HB1.out)
  have HL := Aside0.mk (Kd.C_below hl HB1.out)
  have HE := Aside0.mk (Kd.C_below he HB1.out)
  have HW0 := Aside0.mk hw0
  have HW1 := Aside0.mk hw1
  have HFew := Aside0.mk (fun (w2 : World) => few_any (w := w2) (A := A2) (B := E) (c := c2) (d := ee) hmx hme)
  have HChk := Aside0.mk (fun (w2 : World) (hb : Below w1.heap.size w1 w2) => refCheck_any (HG.out.below hb))
  have HRec := Aside0.mk (fun (w2 : World) (hb : Below w1.heap.size w1 w2) => refReceived_any (A := A1) (n := s.Mod.length) (c := c1) (d := dd) (ee := ee) s.P s.M (Kd.C_below HL.out hb) (Kd.C_below HE.out hb) s.pts.length hmx)
  clear g1 g2 g3 hl he hS0 hB0 hw0 hz0 hV0 hw1 hB1
  have hEnds : s.open = 0 → wordZ s.D l s.pts.length er = 0 → s.ends l (marksZ s.pts.length er) := fun h0 _ => by
    obtain ⟨f1, n1, n2, -⟩ := open_factsP s h0
    exact GD.ends_ok s h0 (GD.D_ok s h0) f1 n2 _ _
  have HGr := Aside0.mk (fun (w2 : World) (hb : Below w1.heap.size w1 w2) => GRS_any (dd := dd) (ee := ee) (HG.out.below hb) (Kd.C_below HL.out hb) (Kd.C_below HE.out hb) hEnds)
  have hopen : s.open = 0 := by rw [← checkR_open]; exact hck
  obtain ⟨f1, n1, n2, f4, -⟩ := open_factsP s hopen
  obtain ⟨K, q1, q2, q3, q4⟩ := exists_K s f1
  obtain ⟨-, -, m, hm, hma, t1, t2, t3⟩ := decode_some s l er hte
  obtain ⟨hl1, -⟩ := recvZ_zero' _ _ _ _ hrc
  obtain ⟨hb20, hb30⟩ := of_decide_eq_true hb1
  obtain ⟨T, hT⟩ : ∃ T, s.decode l er = T := ⟨_, rfl⟩
  simp only [hT] at HGr t1 t2 t3 hte
  obtain ⟨tc, td, te⟩ := T
  simp only at HGr t1 t2 t3 hte
  subst hte
  have hcl : tc.length = s.pts.length := by rw [t1]; exact encZ_len _ _ _ _ f4
  have hds : diffZ tc l (marksZ tc.length er) tc.length = td := by rw [hcl, t2, t1]
  have hel : elemsZ (isR s.P s.M) tc s.pts.length 4 = 0 := by
    unfold elemsZ
    rw [if_neg (by rw [hcl]; exact fun h => h rfl), isR_D s hopen, q4, if_neg (by rw [t1, q4, K.encZ_all]; exact Bool.noConfusion)]
  have hcode : ∃ m : List Int, m.length = kn ∧ m.all K.D.is = true ∧ encZ K.D s.pts s.mults m = tc := ⟨m, by omega, by rw [← q4]; exact hma, by rw [← q4]; exact t1.symm⟩
  have htca : ∀ j, K.D.is (tc.getD j 0) = true := by rw [t1, q4]; exact fun j => K.is_encZ _ _ _ j
  have hrad : radiusW ((s.pts.length : Int) - s.K + 1) er.length = radiusZ ((s.pts.length : Int) - s.K + 1) er.length := radiusW_eq _ _ (by omega) (by omega) (by omega) (by omega)
  obtain ⟨t, ht⟩ : ∃ t, radiusZ ((s.pts.length : Int) - s.K + 1) er.length = t := ⟨_, rfl⟩
  rw [ht] at t3 hrad
  have HRa : Aside0 (∀ w2 : World, Calls Try.prog 13 #[.int .i64 ((s.pts.length : Int) - s.K + 1), .int .i64 er.length] w2 fun e w' => e = .returned (.int .i64 t) ∧ Below w2.heap.size w2 w') :=
    ⟨fun w2 => (refRadius_any ((s.pts.length : Int) - s.K + 1) er.length w2).mono fun e w' hh => ⟨by rw [hh.1, hrad], hh.2.below⟩⟩
  have HRi := Aside0.mk (fun (w2 : World) (hb : Below w1.heap.size w1 w2) (A D : Option Addr) (ca cd : Nat) (h1 : Kd.C (Kd.int .i64) w2 A tc.length tc) (h2 : Kd.C (Kd.int .i64) w2 D td.length td) => lawRight (ca := ca) (cd := cd) (cb := dd) (ce := ee) h1 h2 (Kd.C_below HL.out hb) (Kd.C_below HE.out hb) (by omega) (by omega) hds t t3)
  have HEl : Aside0 (∀ (w2 : World) (A : Option Addr) (ca : Nat) (h1 : Kd.C (Kd.int .i64) w2 A tc.length tc), Calls Try.prog 19 #[.agg #[.int .i64 s.P, .int .i64 s.M, .slice A1 s.Mod.length c1], .slice A tc.length ca, .int .i64 (s.pts.length : Int), .int .i64 4] w2 fun e w' => e = .returned (.int .i64 0) ∧ Below w2.heap.size w2 w') :=
    ⟨fun w2 A ca h1 => by have q := refElements_any (A := A1) (n := s.Mod.length) (c := c1) (d := ca) s.P s.M h1 s.pts.length (by omega) 4; rwa [hel] at q⟩
  have HHs := Aside0.mk (fun (w2 : World) (hb : Below w1.heap.size w1 w2) (A : Option Addr) (ca : Nat) (h1 : Kd.C (Kd.int .i64) w2 A tc.length tc) => rHas (cv := ca) (HG.out.below hb) K ⟨q1, q2, q3⟩ f4 n1 n2 kn hk (by omega) h1 hcl htca true ⟨fun _ => hcode, fun _ => rfl⟩)
  have hK0 : 0 ≤ s.K := by omega
  have hK1 : s.K ≤ s.pts.length := by omega
  rw [hb1] at HFew
  rw [hck] at HChk
  rw [hrc] at HRec
  clear h hb1 hEnds hT hck hrc hopen f1 n1 f4 q1 q2 q3 q4 hm hma t1 t2 t3 hl1 hcl hds hel hcode htca hrad ht hk hkn
  go_enter Try.func4, Try.ntmps4
  go_upto_region 1 with (fail)
  rw [HW0.out, HW1.out]
  go_wp2_with (first
    | (go_at_call 11; refine (alive_any _).mono ?_; rintro e w2 ⟨rfl, hB⟩; have HBw2 := Aside0.mk (hB); obtain ⟨cPw2, cMw2, cModw2, cKw2, cPtsw2, cMulw2⟩ := HS.out.below HBw2.out; obtain ⟨cWw2, cEw2⟩ := HV.out.below HBw2.out; clear hB)
    | (go_at_call 14; refine (HFew.out _).mono ?_; rintro e _ ⟨rfl, rfl⟩)
    | (go_at_call 15; (with_reducible refine Calls.mono (HGr.out _ HBw2.out) ?_); rintro e w3 ⟨v3, rfl, hD, hB⟩; obtain ⟨v31, v32, rfl, hr1, hr2⟩ := hD; obtain ⟨B1, d1, rfl, -, hC1⟩ := hr1.out; obtain ⟨B2, d2, rfl, -, hC2⟩ := hr2.out; have HB3 := Aside0.mk (below_later HBw2.out HBw2.out.size hB); have hba := below_alloc (Below.refl w3.heap.size w3) (.cells #[.slice B1 tc.length d1, .slice B2 td.length d2] 34); have HBw4 := Aside0.mk (below_later HB3.out HB3.out.size hba); have HC1 := Aside0.mk (Kd.C_below hC1 hba); have HC2 := Aside0.mk (Kd.C_below hC2 hba); have cX := cell_alloc2_0 w3 (.slice B1 tc.length d1) (.slice B2 td.length d2) 34; have cY := cell_alloc2_1 w3 (.slice B1 tc.length d1) (.slice B2 td.length d2) 34; obtain ⟨cPw4, cMw4, cModw4, cKw4, cPtsw4, cMulw4⟩ := HS.out.below HBw4.out; obtain ⟨cWw4, cEw4⟩ := HV.out.below HBw4.out; clear hr1 hr2 hB hba hC1 hC2)
    | (go_at_call 16; refine (HChk.out _ HBw4.out).mono ?_; rintro e w5 ⟨rfl, hB⟩; have HBw5 := Aside0.mk (below_later HBw4.out HBw4.out.size hB); obtain ⟨cPw5, cMw5, cModw5, cKw5, cPtsw5, cMulw5⟩ := HS.out.below HBw5.out; obtain ⟨cWw5, cEw5⟩ := HV.out.below HBw5.out; have cX5 := pw_cell_below hB cX; have cY5 := pw_cell_below hB cY; have HC15 := Aside0.mk (Kd.C_below HC1.out hB); have HC25 := Aside0.mk (Kd.C_below HC2.out hB); clear hB)
    | (go_at_call 17; refine (HRec.out _ HBw5.out).mono ?_; rintro e w6 ⟨rfl, hB⟩; have HBw6 := Aside0.mk (below_later HBw5.out HBw5.out.size hB); obtain ⟨cPw6, cMw6, cModw6, cKw6, cPtsw6, cMulw6⟩ := HS.out.below HBw6.out; obtain ⟨cWw6, cEw6⟩ := HV.out.below HBw6.out; have cX6 := pw_cell_below hB cX5; have cY6 := pw_cell_below hB cY5; have HC16 := Aside0.mk (Kd.C_below HC15.out hB); have HC26 := Aside0.mk (Kd.C_below HC25.out hB); clear hB))
  have hcX : ∀ j : Ext w6, j.wd.cell? ⟨w3.heap.size, 0, none⟩ = some (.slice B1 tc.length d1) := fun j => j.cell cX6
  have hcY : ∀ j : Ext w6, j.wd.cell? ⟨w3.heap.size, 1, none⟩ = some (.slice B2 td.length d2) := fun j => j.cell cY6
  have hP : ∀ j : Ext w6, j.wd.cell? ⟨w.heap.size, 0, none⟩ = some (.int .i64 s.P) := fun j => j.cell cPw6
  have hM : ∀ j : Ext w6, j.wd.cell? ⟨w.heap.size, 1, none⟩ = some (.int .i64 s.M) := fun j => j.cell cMw6
  have hMod : ∀ j : Ext w6, j.wd.cell? ⟨w.heap.size, 2, none⟩ = some (.slice A1 s.Mod.length c1) := fun j => j.cell cModw6
  have hKc : ∀ j : Ext w6, j.wd.cell? ⟨w.heap.size, 3, none⟩ = some (.int .i64 s.K) := fun j => j.cell cKw6
  have hPts : ∀ j : Ext w6, j.wd.cell? ⟨w.heap.size, 4, none⟩ = some (.slice A2 s.pts.length c2) := fun j => j.cell cPtsw6
  have hMul : ∀ j : Ext w6, j.wd.cell? ⟨w.heap.size, 5, none⟩ = some (.slice A3 s.mults.length c3) := fun j => j.cell cMulw6
  have hWd : ∀ j : Ext w6, j.wd.cell? ⟨w.heap.size + 1, 0, none⟩ = some (.slice B l.length dd) := fun j => j.cell cWw6
  have hEr : ∀ j : Ext w6, j.wd.cell? ⟨w.heap.size + 1, 1, none⟩ = some (.slice E er.length ee) := fun j => j.cell cEw6
  have HBj : Aside0 (∀ j : Ext w6, Below w1.heap.size w1 j.wd) := ⟨fun j => below_later HBw6.out HBw6.out.size j.below⟩
  have HCj1 : Aside0 (∀ j : Ext w6, Kd.C (Kd.int .i64) j.wd B1 tc.length tc) := ⟨fun j => Kd.C_below HC16.out j.below⟩
  have HCj2 : Aside0 (∀ j : Ext w6, Kd.C (Kd.int .i64) j.wd B2 td.length td) := ⟨fun j => Kd.C_below HC26.out j.below⟩
  clear cPw2 cMw2 cModw2 cKw2 cPtsw2 cMulw2 cWw2 cEw2 cPw4 cMw4 cModw4 cKw4 cPtsw4 cMulw4 cWw4 cEw4 cPw5 cMw5 cModw5 cKw5 cPtsw5 cMulw5 cWw5 cEw5 cPw6 cMw6 cModw6 cKw6 cPtsw6 cMulw6 cWw6 cEw6 cX cY cX5 cY5 cX6 cY6
  refine wp_region_ext (by kernel_rfl) (by kernel_rfl) ?_
  repeat (go_big_quiet_step (first
    | (go_at_call 13; with_reducible exact Ext.call _ (HRa.out _))
    | (go_at_call 18; with_reducible exact Ext.call _ (HRi.out _ (HBj.out _) _ _ _ _ (HCj1.out _) (HCj2.out _)))
    | (go_at_call 19; with_reducible exact Ext.call _ (HEl.out _ _ _ (HCj1.out _)))
    | (go_at_call 20; with_reducible exact Ext.call _ (HHs.out _ (HBj.out _) _ _ (HCj1.out _)))))
  refine wpQuiet_nil ?_
  intro w7 hB7
  have HB7 := Aside0.mk (below_later HBw6.out HBw6.out.size hB7)
  clear hB7 hcX hcY hP hM hMod hKc hPts hMul hWd hEr
  go_wp2
  go_ret
  exact ⟨rfl, below_later HB1.out HB1.out.size HB7.out⟩

theorem lawHonest_any {w : World} {v : Value} {s : GD} (h : GArg w v s) {B E : Option Addr} {dd ee : Nat} {l er : List Int} (hl : Kd.C (Kd.int .i64) w B l.length l) (he : Kd.C (Kd.int .i64) w E er.length er) (hle : er.length ≤ ee) (hll : l.length ≤ dd) :
    Calls Try.prog 4 #[v, .agg #[.slice B l.length dd, .slice E er.length ee]] w fun e w' => e = .returned (.bool true) ∧ Below w.heap.size w w' := by
  cases hb : decide (s.pts.length ≤ 20 ∧ er.length ≤ 30) with
  | false => exact lawHonest_no h hl he hle hll hb
  | true =>
    by_cases hck : checkR s = 0
    · by_cases hrc : recvZ (isR s.P s.M) l s.pts.length er = 0
      · by_cases hte : (s.decode l er).2.2 = 0
        · obtain ⟨-, -, -, -, -, -, -, -, f9, f10⟩ := open_factsP s (by rw [← checkR_open]; exact hck)
          obtain ⟨kn, hk⟩ := Int.eq_ofNat_of_zero_le f9
          exact lawHonest_good h hl he hle hll kn hk (by omega) hb hck hrc hte
        · exact lawHonest_bad3 h hl he hle hll hb hck hrc hte
      · exact lawHonest_bad2 h hl he hle hll hb hck hrc
    · exact lawHonest_bad1 h hl he hle hll hb hck
theorem lawHonest_row {w : World} {v : Value} {s : GD} (h : GArg w v s) {B E : Option Addr} {dd ee : Nat} {l er : List Int} (hl : Kd.C (Kd.int .i64) w B l.length l) (he : Kd.C (Kd.int .i64) w E er.length er) (hle : er.length ≤ ee) (hll : l.length ≤ dd) :
    Calls Try.prog 4 #[v, .agg #[.slice B l.length dd, .slice E er.length ee]] w fun e w' => e = .returned (.bool true) ∧ Below w.heap.size w w' := lawHonest_any h hl he hle hll

end Go.Proofs.Yticgblagimmlfaa
