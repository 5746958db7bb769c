/- The law BoundedShifts. -/
import Derived.Test.YticgblagimmlfaaR3
import Derived.Test.YticgblagimmlfaaA12
import Derived.Test.YticgblagimmlfaaVA
import Derived.Deep.RegionHeld3
import Derived.Deep.DeepCutAuto
namespace Go.Proofs.Yticgblagimmlfaa
open Go.RowKit Go.Proofs.YticgblagimmlfaaW.PrintWords Go.Proofs.YticgblagimmlfaaW.PrintLast Go.Proofs.YticgblagimmlfaaW.PrintMore
set_option linter.unusedVariables false
set_option linter.unusedSimpArgs false

set_option maxHeartbeats 8000000 in
set_option maxRecDepth 100000 in
theorem lawShifts_noA {w : World} {v : Value} {s : GD} (h : GArg w v s) {B E O : Option Addr} {dd ee oo : Nat} {l er msg : List Int} (hl : Kd.C (Kd.int .i64) w B l.length l) (he : Kd.C (Kd.int .i64) w E er.length er) (hle : er.length ≤ ee) (hll : l.length ≤ dd)
    (ho : Kd.C (Kd.int .i64) w O msg.length msg) (hno : decide (s.pts.length ≤ 20 ∧ er.length ≤ 30) = false ∨ checkR s ≠ 0) :
    Calls Try.prog 6 #[v, .slice O msg.length oo, .agg #[.slice B l.length dd, .slice E er.length ee]] w fun e w' => e = .returned (.bool true) ∧ Below w.heap.size w w' := by
  obtain ⟨A1, c1, A2, c2, A3, c3, rfl, g1, l1, g2, l2, g3, l3⟩ := h.out
  have hmx := Kd.C_max g2
  have hmx3 := Kd.C_max g3
  have hme := Kd.C_max he
  have hml := Kd.C_max hl
  have hmo := Kd.C_max ho
  have hS0 := SAt.new w s A1 c1 A2 c2 A3 c3
  obtain ⟨w0, hw0⟩ : ∃ w0, w.alloc (.cells #[.int .i64 s.P, .int .i64 s.M, .slice A1 s.Mod.length c1, .int .i64 s.K, .slice A2 s.pts.length c2, .slice A3 s.mults.length c3] 29) = w0 := ⟨_, rfl⟩
  have hB0 : Below w.heap.size w w0 := by rw [← hw0]; exact below_alloc (Below.refl _ _) _
  have hz0 : w0.heap.size = w.heap.size + 1 := by rw [← hw0]; simp
  rw [hw0] at hS0
  have hV0 := VAt.new w0 B l.length dd E er.length ee
  obtain ⟨w1, hw1⟩ : ∃ w1, w0.alloc (.cells #[.slice B l.length dd, .slice E er.length ee] 31) = w1 := ⟨_, rfl⟩
  have hB1 : Below w0.heap.size w0 w1 := by rw [← hw1]; exact below_alloc (Below.refl _ _) _
  rw [hw1, hz0] at hV0
  have HB1 := Aside0.mk (below_later hB0 hB0.size hB1)
  have HS := Aside0.mk (hS0.below hB1)
  have HV := Aside0.mk hV0
  have HG := Aside0.mk (h.below HB1.out)
  have HL := Aside0.mk (Kd.C_below hl HB1.out)
  have HE := Aside0.mk (Kd.C_below he HB1.out)
  have HO := Aside0.mk (Kd.C_below ho HB1.out)
  have HW0 := Aside0.mk hw0
  have HW1 := Aside0.mk hw1
  have HFew := Aside0.mk (fun (w2 : World) => few_any (w := w2) (A := A2) (B := E) (c := c2) (d := ee) hmx hme)
  have HChk := Aside0.mk (fun (w2 : World) (hb : Below w1.heap.size w1 w2) => refCheck_any (HG.out.below hb))
  have HRec := Aside0.mk (fun (w2 : World) (hb : Below w1.heap.size w1 w2) => refReceived_any (A := A1) (n := s.Mod.length) (c := c1) (d := dd) (ee := ee) s.P s.M (Kd.C_below HL.out hb) (Kd.C_below HE.out hb) s.pts.length hmx)
  clear g1 g2 g3 hl he ho hS0 hB0 hw0 hz0 hV0 hw1 hB1
  obtain ⟨b1, hb1⟩ : ∃ b1, decide (s.pts.length ≤ 20 ∧ er.length ≤ 30) = b1 := ⟨_, rfl⟩
  obtain ⟨ck, hck⟩ : ∃ ck, checkR s = ck := ⟨_, rfl⟩
  rw [hb1, hck] at hno
  rw [hb1] at HFew
  rw [hck] at HChk
  clear h hb1 hck
  cases b1 with
  | false =>
    clear hno
    go_enter Try.func6, Try.ntmps6
    go_upto_region 1 with (fail)
    rw [HW0.out, HW1.out]
    go_wp2_with (first
      | (go_at_call 11; refine (alive_any _).mono ?_; rintro e w2 ⟨rfl, hB⟩; have HBw2 := Aside0.mk (hB); obtain ⟨cPw2, cMw2, cModw2, cKw2, cPtsw2, cMulw2⟩ := HS.out.below HBw2.out; obtain ⟨cWw2, cEw2⟩ := HV.out.below HBw2.out; clear hB)
      | (go_at_call 14; refine (HFew.out _).mono ?_; rintro e _ ⟨rfl, rfl⟩))
    go_ret
    exact ⟨rfl, below_later HB1.out HB1.out.size HBw2.out⟩
  | true =>
    have h1 : ck ≠ 0 := by
      rcases hno with h | h
      · cases h
      · exact h
    have hb : (ck != 0) = true := by simp [h1]
    clear hno h1
    go_enter Try.func6, Try.ntmps6
    go_upto_region 1 with (fail)
    rw [HW0.out, HW1.out]
    go_wp2_with (first
      | (go_at_call 11; refine (alive_any _).mono ?_; rintro e w2 ⟨rfl, hB⟩; have HBw2 := Aside0.mk (hB); obtain ⟨cPw2, cMw2, cModw2, cKw2, cPtsw2, cMulw2⟩ := HS.out.below HBw2.out; obtain ⟨cWw2, cEw2⟩ := HV.out.below HBw2.out; clear hB)
      | (go_at_call 14; refine (HFew.out _).mono ?_; rintro e _ ⟨rfl, rfl⟩)
      | (go_at_call 16; refine (HChk.out _ HBw2.out).mono ?_; rintro e w3 ⟨rfl, hB⟩; have HBw3 := Aside0.mk (below_later HBw2.out HBw2.out.size hB); obtain ⟨cPw3, cMw3, cModw3, cKw3, cPtsw3, cMulw3⟩ := HS.out.below HBw3.out; obtain ⟨cWw3, cEw3⟩ := HV.out.below HBw3.out; clear hB))
    go_ret
    exact ⟨rfl, below_later HB1.out HB1.out.size HBw3.out⟩

set_option maxHeartbeats 8000000 in
set_option maxRecDepth 100000 in
theorem lawShifts_noB {w : World} {v : Value} {s : GD} (h : GArg w v s) {B E O : Option Addr} {dd ee oo : Nat} {l er msg : List Int} (hl : Kd.C (Kd.int .i64) w B l.length l) (he : Kd.C (Kd.int .i64) w E er.length er) (hle : er.length ≤ ee) (hll : l.length ≤ dd)
    (ho : Kd.C (Kd.int .i64) w O msg.length msg) (kn : Nat) (hk : s.K = kn) (hkn : kn ≤ s.pts.length) (hb1 : decide (s.pts.length ≤ 20 ∧ er.length ≤ 30) = true) (hck : checkR s = 0) (hno : elemsZ (isR s.P s.M) msg kn 3 ≠ 0 ∨ recvZ (isR s.P s.M) l s.pts.length er ≠ 0) :
    Calls Try.prog 6 #[v, .slice O msg.length oo, .agg #[.slice B l.length dd, .slice E er.length ee]] w fun e w' => e = .returned (.bool true) ∧ Below w.heap.size w w' := by
  obtain ⟨A1, c1, A2, c2, A3, c3, rfl, g1, l1, g2, l2, g3, l3⟩ := h.out
  have hmx := Kd.C_max g2
  have hmx3 := Kd.C_max g3
  have hme := Kd.C_max he
  have hml := Kd.C_max hl
  have hmo := Kd.C_max ho
  have hS0 := SAt.new w s A1 c1 A2 c2 A3 c3
  obtain ⟨w0, hw0⟩ : ∃ w0, w.alloc (.cells #[.int .i64 s.P, .int .i64 s.M, .slice A1 s.Mod.length c1, .int .i64 s.K, .slice A2 s.pts.length c2, .slice A3 s.mults.length c3] 29) = w0 := ⟨_, rfl⟩
  have hB0 : Below w.heap.size w w0 := by rw [← hw0]; exact below_alloc (Below.refl _ _) _
  have hz0 : w0.heap.size = w.heap.size + 1 := by rw [← hw0]; simp
  rw [hw0] at hS0
  have hV0 := VAt.new w0 B l.length dd E er.length ee
  obtain ⟨w1, hw1⟩ : ∃ w1, w0.alloc (.cells #[.slice B l.length dd, .slice E er.length ee] 31) = w1 := ⟨_, rfl⟩
  have hB1 : Below w0.heap.size w0 w1 := by rw [← hw1]; exact below_alloc (Below.refl _ _) _
  rw [hw1, hz0] at hV0
  have HB1 := Aside0.mk (below_later hB0 hB0.size hB1)
  have HS := Aside0.mk (hS0.below hB1)
  have HV := Aside0.mk hV0
  have HG := Aside0.mk (h.below HB1.out)
  have HL := Aside0.mk (Kd.C_below hl HB1.out)
  have HE := Aside0.mk (Kd.C_below he HB1.out)
  have HO := Aside0.mk (Kd.C_below ho HB1.out)
  have HW0 := Aside0.mk hw0
  have HW1 := Aside0.mk hw1
  have HFew := Aside0.mk (fun (w2 : World) => few_any (w := w2) (A := A2) (B := E) (c := c2) (d := ee) hmx hme)
  have HChk := Aside0.mk (fun (w2 : World) (hb : Below w1.heap.size w1 w2) => refCheck_any (HG.out.below hb))
  have HRec := Aside0.mk (fun (w2 : World) (hb : Below w1.heap.size w1 w2) => refReceived_any (A := A1) (n := s.Mod.length) (c := c1) (d := dd) (ee := ee) s.P s.M (Kd.C_below HL.out hb) (Kd.C_below HE.out hb) s.pts.length hmx)
  have hkb : kn ≤ 9223372036854775807 := by omega
  have HEl := Aside0.mk (fun (w2 : World) (hb : Below w1.heap.size w1 w2) => refElements_any (A := A1) (n := s.Mod.length) (c := c1) (d := oo) s.P s.M (Kd.C_below HO.out hb) kn hkb 3)
  rw [← hk] at HEl
  clear g1 g2 g3 hl he ho hS0 hB0 hw0 hz0 hV0 hw1 hB1
  obtain ⟨rc, hrc⟩ : ∃ rc, recvZ (isR s.P s.M) l s.pts.length er = rc := ⟨_, rfl⟩
  obtain ⟨el, hel⟩ : ∃ el, elemsZ (isR s.P s.M) msg kn 3 = el := ⟨_, rfl⟩
  rw [hrc, hel] at hno
  rw [hb1] at HFew
  rw [hck] at HChk
  rw [hrc] at HRec
  rw [hel] at HEl
  clear h hb1 hck hrc hel hk
  by_cases h1 : el = 0
  · subst h1
    have h3 : rc ≠ 0 := by
      rcases hno with h | h
      · exact absurd rfl h
      · exact h
    have hb : (rc != 0) = true := by simp [h3]
    clear hno h3
    go_enter Try.func6, Try.ntmps6
    go_upto_region 1 with (fail)
    rw [HW0.out, HW1.out]
    go_wp2_with (first
      | (go_at_call 11; refine (alive_any _).mono ?_; rintro e w2 ⟨rfl, hB⟩; have HBw2 := Aside0.mk (hB); obtain ⟨cPw2, cMw2, cModw2, cKw2, cPtsw2, cMulw2⟩ := HS.out.below HBw2.out; obtain ⟨cWw2, cEw2⟩ := HV.out.below HBw2.out; clear hB)
      | (go_at_call 14; refine (HFew.out _).mono ?_; rintro e _ ⟨rfl, rfl⟩)
      | (go_at_call 16; refine (HChk.out _ HBw2.out).mono ?_; rintro e w3 ⟨rfl, hB⟩; have HBw3 := Aside0.mk (below_later HBw2.out HBw2.out.size hB); obtain ⟨cPw3, cMw3, cModw3, cKw3, cPtsw3, cMulw3⟩ := HS.out.below HBw3.out; obtain ⟨cWw3, cEw3⟩ := HV.out.below HBw3.out; clear hB)
      | (go_at_call 19; refine (HEl.out _ HBw3.out).mono ?_; rintro e w4 ⟨rfl, hB⟩; have HBw4 := Aside0.mk (below_later HBw3.out HBw3.out.size hB); obtain ⟨cPw4, cMw4, cModw4, cKw4, cPtsw4, cMulw4⟩ := HS.out.below HBw4.out; obtain ⟨cWw4, cEw4⟩ := HV.out.below HBw4.out; clear hB)
      | (go_at_call 17; refine (HRec.out _ HBw4.out).mono ?_; rintro e w5 ⟨rfl, hB⟩; have HBw5 := Aside0.mk (below_later HBw4.out HBw4.out.size hB); obtain ⟨cPw5, cMw5, cModw5, cKw5, cPtsw5, cMulw5⟩ := HS.out.below HBw5.out; obtain ⟨cWw5, cEw5⟩ := HV.out.below HBw5.out; clear hB))
    go_ret
    exact ⟨rfl, below_later HB1.out HB1.out.size HBw5.out⟩
  · have hb : (el != 0) = true := by simp [h1]
    clear hno h1
    go_enter Try.func6, Try.ntmps6
    go_upto_region 1 with (fail)
    rw [HW0.out, HW1.out]
    go_wp2_with (first
      | (go_at_call 11; refine (alive_any _).mono ?_; rintro e w2 ⟨rfl, hB⟩; have HBw2 := Aside0.mk (hB); obtain ⟨cPw2, cMw2, cModw2, cKw2, cPtsw2, cMulw2⟩ := HS.out.below HBw2.out; obtain ⟨cWw2, cEw2⟩ := HV.out.below HBw2.out; clear hB)
      | (go_at_call 14; refine (HFew.out _).mono ?_; rintro e _ ⟨rfl, rfl⟩)
      | (go_at_call 16; refine (HChk.out _ HBw2.out).mono ?_; rintro e w3 ⟨rfl, hB⟩; have HBw3 := Aside0.mk (below_later HBw2.out HBw2.out.size hB); obtain ⟨cPw3, cMw3, cModw3, cKw3, cPtsw3, cMulw3⟩ := HS.out.below HBw3.out; obtain ⟨cWw3, cEw3⟩ := HV.out.below HBw3.out; clear hB)
      | (go_at_call 19; refine (HEl.out _ HBw3.out).mono ?_; rintro e w4 ⟨rfl, hB⟩; have HBw4 := Aside0.mk (below_later HBw3.out HBw3.out.size hB); obtain ⟨cPw4, cMw4, cModw4, cKw4, cPtsw4, cMulw4⟩ := HS.out.below HBw4.out; obtain ⟨cWw4, cEw4⟩ := HV.out.below HBw4.out; clear hB))
    go_ret
    exact ⟨rfl, below_later HB1.out HB1.out.size HBw4.out⟩

/-- The boxed result. -/
structure DAt (w : World) (g : Nat) (B : Option Addr) (n d : Nat) (c : List Int) (E : Option Addr) (m e : Nat) (ds : List Int) : Prop where
  c0 : w.cell? ⟨g, 0, none⟩ = some (.slice B n d)
  c1 : w.cell? ⟨g, 1, none⟩ = some (.slice E m e)
  rc : Kd.C (Kd.int .i64) w B n c
  rd : Kd.C (Kd.int .i64) w E m ds
theorem DAt.below {w w1 : World} {g : Nat} {B : Option Addr} {n d : Nat} {c : List Int} {E : Option Addr} {m e : Nat} {ds : List Int} (h : DAt w g B n d c E m e ds) (hb : Below w.heap.size w w1) : DAt w1 g B n d c E m e ds :=
  ⟨pw_cell_below hb h.c0, pw_cell_below hb h.c1, Kd.C_below h.rc hb, Kd.C_below h.rd hb⟩
theorem DAt.put {w : World} {g : Nat} {B : Option Addr} {d : Nat} {c : List Int} {E : Option Addr} {e : Nat} {ds : List Int} (hr : R2 w g) (hc : Kd.C (Kd.int .i64) w B c.length c) (hd : Kd.C (Kd.int .i64) w E ds.length ds) :
    DAt ((w.setCell ⟨g, 0, none⟩ (.slice B c.length d)).setCell ⟨g, 1, none⟩ (.slice E ds.length e)) g B c.length d c E ds.length e ds := by
  obtain ⟨A1, c1, e1, -, h1⟩ := ((Rd.mk ⟨B, c.length, rfl, Nat.le_refl _, hc⟩ : Rd w (.slice B c.length c.length) c).last hr (.slice B c.length d) (.slice E ds.length e)).out
  obtain ⟨A2, c2, e2, -, h2⟩ := ((Rd.mk ⟨E, ds.length, rfl, Nat.le_refl _, hd⟩ : Rd w (.slice E ds.length ds.length) ds).last hr (.slice B c.length d) (.slice E ds.length e)).out
  cases e1
  cases e2
  refine ⟨?_, ?_, h1, h2⟩
  · rw [World.cell?_setCell_other _ _ _ _ (by simp)]
    exact World.cell?_setCell_same _ _ _ hr.r0
  · refine World.cell?_setCell_same _ _ _ (u := .slice none 0 0) ?_
    rw [World.cell?_setCell_other _ _ _ _ (by simp)]
    exact hr.r1

set_option maxHeartbeats 8000000 in
set_option maxRecDepth 100000 in
theorem lawShifts_yes {w : World} {v : Value} {s : GD} (h : GArg w v s) {B E O : Option Addr} {dd ee oo : Nat} {l er msg : List Int} (hl : Kd.C (Kd.int .i64) w B l.length l) (he : Kd.C (Kd.int .i64) w E er.length er) (hle : er.length ≤ ee) (hll : l.length ≤ dd)
    (ho : Kd.C (Kd.int .i64) w O msg.length msg) (kn : Nat) (hk : s.K = kn) (hkn : kn ≤ s.pts.length) (hb1 : decide (s.pts.length ≤ 20 ∧ er.length ≤ 30) = true) (hck : checkR s = 0) (hel : elemsZ (isR s.P s.M) msg kn 3 = 0) (hrc : recvZ (isR s.P s.M) l s.pts.length er = 0) :
    Calls Try.prog 6 #[v, .slice O msg.length oo, .agg #[.slice B l.length dd, .slice E er.length ee]] w fun e w' => e = .returned (.bool true) ∧ Below w.heap.size w w' := by
  obtain ⟨A1, c1, A2, c2, A3, c3, rfl, g1, l1, g2, l2, g3, l3⟩ := h.out
  have hmx := Kd.C_max g2
  have hmx3 := Kd.C_max g3
  have hme := Kd.C_max he
  have hml := Kd.C_max hl
  have hmo := Kd.C_max ho
  have hS0 := SAt.new w s A1 c1 A2 c2 A3 c3
  obtain ⟨w0, hw0⟩ : ∃ w0, w.alloc (.cells #[.int .i64 s.P, .int .i64 s.M, .slice A1 s.Mod.length c1, .int .i64 s.K, .slice A2 s.pts.length c2, .slice A3 s.mults.length c3] 29) = w0 := ⟨_, rfl⟩
  have hB0 : Below w.heap.size w w0 := by rw [← hw0]; exact below_alloc (Below.refl _ _) _
  have hz0 : w0.heap.size = w.heap.size + 1 := by rw [← hw0]; simp
  rw [hw0] at hS0
  have hV0 := VAt.new w0 B l.length dd E er.length ee
  obtain ⟨w1, hw1⟩ : ∃ w1, w0.alloc (.cells #[.slice B l.length dd, .slice E er.length ee] 31) = w1 := ⟨_, rfl⟩
  have hB1 : Below w0.heap.size w0 w1 := by rw [← hw1]; exact below_alloc (Below.refl _ _) _
  rw [hw1, hz0] at hV0
  have HB1 := Aside0.mk (below_later hB0 hB0.size hB1)
  have HS := Aside0.mk (hS0.below hB1)
  have HV := Aside0.mk hV0
  have HG := Aside0.mk (h.below HB1.out)
  have HL := Aside0.mk (Kd.C_below hl HB1.out)
  have HE := Aside0.mk (Kd.C_below he HB1.out)
  have HO := Aside0.mk (Kd.C_below ho HB1.out)
  have HW0 := Aside0.mk hw0
  have HW1 := Aside0.mk hw1
  have HFew := Aside0.mk (fun (w2 : World) => few_any (w := w2) (A := A2) (B := E) (c := c2) (d := ee) hmx hme)
  have HChk := Aside0.mk (fun (w2 : World) (hb : Below w1.heap.size w1 w2) => refCheck_any (HG.out.below hb))
  have HRec := Aside0.mk (fun (w2 : World) (hb : Below w1.heap.size w1 w2) => refReceived_any (A := A1) (n := s.Mod.length) (c := c1) (d := dd) (ee := ee) s.P s.M (Kd.C_below HL.out hb) (Kd.C_below HE.out hb) s.pts.length hmx)
  have hkb : kn ≤ 9223372036854775807 := by omega
  have HEl := Aside0.mk (fun (w2 : World) (hb : Below w1.heap.size w1 w2) => refElements_any (A := A1) (n := s.Mod.length) (c := c1) (d := oo) s.P s.M (Kd.C_below HO.out hb) kn hkb 3)
  rw [← hk] at HEl
  clear g1 g2 g3 hl he ho hS0 hB0 hw0 hz0 hV0 hw1 hB1
  have hopen : s.open = 0 := by rw [← checkR_open]; exact hck
  obtain ⟨f1, n1, n2, f4, -⟩ := open_factsP s hopen
  obtain ⟨K, q1, q2, q3, q4⟩ := exists_K s f1
  obtain ⟨r1, r2, r3, r4⟩ := recvZ_zero _ _ _ _ hrc
  have hb2 := of_decide_eq_true hb1
  have hEnds : ∀ l2 : List Int, s.open = 0 → wordZ s.D l2 s.pts.length er = 0 → s.ends l2 (marksZ s.pts.length er) := fun l2 h0 _ => GD.ends_ok s h0 (GD.D_ok s h0) f1 n2 _ _
  obtain ⟨c, hc⟩ : ∃ c, encZ K.D s.pts s.mults msg = c := ⟨_, rfl⟩
  have hc' : encZ s.D s.pts s.mults msg = c := by rw [q4]; exact hc
  have hcl : c.length = s.pts.length := by rw [← hc]; exact encZ_len _ _ _ _ f4
  have hsh := shifts s msg l er kn hk hck hel hrc c hc'
  have HWo := Aside0.mk (fun (w2 : World) (hb : Below w1.heap.size w1 w2) => rWord (d := oo) (HG.out.below hb) K ⟨q1, q2, q3⟩ f4 (by omega) (Kd.C_below HO.out hb))
  rw [hc] at HWo
  have hll' : (plusZ K.D l c).length = l.length := plusZ_length _ _ _
  have HPl := Aside0.mk (fun (w2 : World) (hb : Below w1.heap.size w1 w2) (A : Option Addr) (ca : Nat) (hcc : Kd.C (Kd.int .i64) w2 A c.length c) => rPlus (A := A1) (n := s.Mod.length) (c := c1) (d := dd) (ee := ca) K (Kd.C_below HL.out hb) hcc (by omega) (by omega))
  rw [q1, q2] at HPl
  have HPl2 := Aside0.mk (fun (w2 : World) (A : Option Addr) (ca : Nat) (hcc : Kd.C (Kd.int .i64) w2 A c.length c) (Bx : Option Addr) (cb : Nat) (x : List Int) (hx : Kd.C (Kd.int .i64) w2 Bx x.length x) (hxl : x.length = c.length) => rPlus (A := A1) (n := s.Mod.length) (c := c1) (d := cb) (ee := ca) K hx hcc (by omega) (by omega))
  rw [q1, q2] at HPl2
  have HGr1 := Aside0.mk (fun (w2 : World) (hb : Below w1.heap.size w1 w2) => GRS_any (dd := dd) (ee := ee) (HG.out.below hb) (Kd.C_below HL.out hb) (Kd.C_below HE.out hb) (hEnds l))
  have HGr2 := Aside0.mk (fun (w2 : World) (hb : Below w1.heap.size w1 w2) (A : Option Addr) (ca : Nat) (hcc : Kd.C (Kd.int .i64) w2 A (plusZ K.D l c).length (plusZ K.D l c)) => GRS_any (dd := ca) (ee := ee) (HG.out.below hb) hcc (Kd.C_below HE.out hb) (hEnds _))
  rw [q4] at hsh
  obtain ⟨p, hp⟩ : ∃ p, plusZ K.D l c = p := ⟨_, rfl⟩
  rw [hp] at HPl HGr2 hsh hll'
  obtain ⟨T1, hT1⟩ : ∃ T, s.decode l er = T := ⟨_, rfl⟩
  obtain ⟨T2, hT2⟩ : ∃ T, s.decode p er = T := ⟨_, rfl⟩
  simp only [hT1] at HGr1 hsh
  simp only [hT2] at HGr2 hsh
  obtain ⟨tc, td, te⟩ := T1
  obtain ⟨uc, ud, ue⟩ := T2
  simp only at HGr1 HGr2 hsh
  obtain ⟨hs1, hs2⟩ := hsh
  rw [hb1] at HFew
  rw [hck] at HChk
  rw [hrc] at HRec
  rw [hel] at HEl
  obtain ⟨hb20, hb30⟩ := hb2
  have Hcl := Aside0.mk hcl
  have HlP := Aside0.mk hll'
  have hpl : Aside0 (p.length = s.pts.length) := ⟨by omega⟩
  clear h hb1 hck hrc hel hEnds r1 r2 r3 r4 hc hc' hcl q1 q2 q3 q4 hopen f1 f4 hk hT1 hT2 hp hll'
  go_enter Try.func6, Try.ntmps6
  go_upto_region 1 with (fail)
  rw [HW0.out, HW1.out]
  go_wp2_with (first
    | (go_at_call 11; refine (alive_any _).mono ?_; rintro e w2 ⟨rfl, hB⟩; have HBw2 := Aside0.mk (hB); obtain ⟨cPw2, cMw2, cModw2, cKw2, cPtsw2, cMulw2⟩ := HS.out.below HBw2.out; obtain ⟨cWw2, cEw2⟩ := HV.out.below HBw2.out; clear hB)
    | (go_at_call 14; refine (HFew.out _).mono ?_; rintro e _ ⟨rfl, rfl⟩)
    | (go_at_call 16; refine (HChk.out _ HBw2.out).mono ?_; rintro e w3 ⟨rfl, hB⟩; have HBw3 := Aside0.mk (below_later HBw2.out HBw2.out.size hB); obtain ⟨cPw3, cMw3, cModw3, cKw3, cPtsw3, cMulw3⟩ := HS.out.below HBw3.out; obtain ⟨cWw3, cEw3⟩ := HV.out.below HBw3.out; clear hB)
    | (go_at_call 19; refine (HEl.out _ HBw3.out).mono ?_; rintro e w4 ⟨rfl, hB⟩; have HBw4 := Aside0.mk (below_later HBw3.out HBw3.out.size hB); obtain ⟨cPw4, cMw4, cModw4, cKw4, cPtsw4, cMulw4⟩ := HS.out.below HBw4.out; obtain ⟨cWw4, cEw4⟩ := HV.out.below HBw4.out; clear hB)
    | (go_at_call 17; refine (HRec.out _ HBw4.out).mono ?_; rintro e w5 ⟨rfl, hB⟩; have HBw5 := Aside0.mk (below_later HBw4.out HBw4.out.size hB); obtain ⟨cPw5, cMw5, cModw5, cKw5, cPtsw5, cMulw5⟩ := HS.out.below HBw5.out; obtain ⟨cWw5, cEw5⟩ := HV.out.below HBw5.out; clear hB)
    | (go_at_call 21; (with_reducible refine Calls.mono (HWo.out _ HBw5.out) ?_); rintro e w6 ⟨v6, rfl, hO, hB⟩; obtain ⟨A6, c6, e6, -, hC6⟩ := hO.slice; subst e6; have HC6 := Aside0.mk hC6; have HBw6 := Aside0.mk (below_later HBw5.out HBw5.out.size hB); obtain ⟨cPw6, cMw6, cModw6, cKw6, cPtsw6, cMulw6⟩ := HS.out.below HBw6.out; obtain ⟨cWw6, cEw6⟩ := HV.out.below HBw6.out; clear hO hB hC6)
    | (go_at_call 15; (with_reducible refine Calls.mono (HGr1.out _ HBw6.out) ?_); rintro e w8 ⟨v8, rfl, hD, hB⟩; obtain ⟨v81, v82, rfl, hr1, hr2⟩ := hD; obtain ⟨B1, d1, rfl, -, hC1⟩ := hr1.out; obtain ⟨B2, d2, rfl, -, hC2⟩ := hr2.out; have HB8 := Aside0.mk (below_later HBw6.out HBw6.out.size hB); have hba := below_alloc (Below.refl w8.heap.size w8) (.cells #[.slice B1 tc.length d1, .slice B2 td.length d2] 34); have HB9 := Aside0.mk (below_later HB8.out HB8.out.size hba); have HDA : Aside0 (DAt (w8.alloc (.cells #[.slice B1 tc.length d1, .slice B2 td.length d2] 34)) w8.heap.size B1 tc.length d1 tc B2 td.length d2 td) := ⟨⟨cell_alloc2_0 w8 _ _ 34, cell_alloc2_1 w8 _ _ 34, Kd.C_below hC1 hba, Kd.C_below hC2 hba⟩⟩; have HC9 := Aside0.mk (Kd.C_below (Kd.C_below HC6.out hB) hba); clear hr1 hr2 hB hba hC1 hC2))
  obtain ⟨w9, hw9⟩ : ∃ w9, w8.alloc (.cells #[.slice B1 tc.length d1, .slice B2 td.length d2] 34) = w9 := ⟨_, rfl⟩
  rw [hw9] at HB9 HDA HC9
  obtain ⟨cP, cM, cMod, cK, cPts, cMul⟩ := HS.out.below HB9.out
  obtain ⟨cW, cE⟩ := HV.out.below HB9.out
  have HW9 := Aside0.mk hw9
  clear hw9
  clear cPw2 cMw2 cModw2 cKw2 cPtsw2 cMulw2 cWw2 cEw2 cPw3 cMw3 cModw3 cKw3 cPtsw3 cMulw3 cWw3 cEw3 cPw4 cMw4 cModw4 cKw4 cPtsw4 cMulw4 cWw4 cEw4 cPw5 cMw5 cModw5 cKw5 cPtsw5 cMulw5 cWw5 cEw5 cPw6 cMw6 cModw6 cKw6 cPtsw6 cMulw6 cWw6 cEw6
  rw [HW9.out]
  clear HGr1 HWo HChk HRec HEl HFew
  go_cut [10, 11] (fun v10 v11 wc => ∃ (g : Nat) (B3 : Option Addr) (d3 : Nat) (B4 : Option Addr) (d4 : Nat), v10 = .pointer (some ⟨g, 0, none⟩) ∧ v11 = .int .i64 ue ∧ Aside0 (DAt wc g B3 uc.length d3 uc B4 ud.length d4 ud) ∧ Aside0 (Below w9.heap.size w9 wc))
  case first =>
    have HZ1 : Aside0 (w.heap.size + 2 ≤ w1.heap.size) := ⟨by rw [← HW1.out, ← HW0.out]; simp⟩
    have n90 : w9.heap.size ≠ w.heap.size := by have := HB9.out.size; have := HZ1.out; omega
    have n91 : w9.heap.size ≠ w.heap.size + 1 := by have := HB9.out.size; have := HZ1.out; omega
    go_region_held3 (fun w' => w'.cell? ⟨w.heap.size, 0, none⟩ = some (.int .i64 s.P) ∧ w'.cell? ⟨w.heap.size, 1, none⟩ = some (.int .i64 s.M) ∧ w'.cell? ⟨w.heap.size, 2, none⟩ = some (.slice A1 s.Mod.length c1) ∧ w'.cell? ⟨w.heap.size, 3, none⟩ = some (.int .i64 s.K) ∧ w'.cell? ⟨w.heap.size, 4, none⟩ = some (.slice A2 s.pts.length c2) ∧ w'.cell? ⟨w.heap.size, 5, none⟩ = some (.slice A3 s.mults.length c3) ∧ w'.cell? ⟨w.heap.size + 1, 0, none⟩ = some (.slice B l.length dd) ∧ w'.cell? ⟨w.heap.size + 1, 1, none⟩ = some (.slice E er.length ee)) (first | exact ⟨‹_›, ‹_›, ‹_›, ‹_›, ‹_›, ‹_›, ‹_›, ‹_›⟩ | go_keep)
      (first
        | (go_at_call 24; (with_reducible refine Calls.mono (HPl.out _ (by repeat (first | exact HB9.out | apply below_alloc | apply below_drew1)) A6 c6 (by refine Kd.C_below HC9.out ?_; repeat (first | exact Below.refl _ _ | apply below_alloc | apply below_drew1))) ?_); rintro e w10 ⟨v10, rfl, hO, hB⟩; obtain ⟨A7, c7, rfl, -, hC7⟩ := hO.slice; have HC7 := Aside0.mk hC7; have HB10 : Aside0 (Below w9.heap.size w9 w10) := ⟨below_step (by repeat (first | exact Below.refl _ _ | apply below_alloc | apply below_drew1)) hB⟩; have HB10a := Aside0.mk (below_later HB9.out HB9.out.size HB10.out); have n100 : w10.heap.size ≠ w.heap.size := (by have := HB10a.out.size; have := HZ1.out; omega); have n101 : w10.heap.size ≠ w.heap.size + 1 := (by have := HB10a.out.size; have := HZ1.out; omega); obtain ⟨cPw10, cMw10, cModw10, cKw10, cPtsw10, cMulw10⟩ := HS.out.below HB10a.out; obtain ⟨cWw10, cEw10⟩ := HV.out.below HB10a.out; (try ((first | have hz := blk_below (blk_new _ _) hB | have hz := blk_below (blk_drew (blk_new _ _)) hB); (try simp only [World.drew] at hz); have hz0 := blk_cell hz 0; have hz1 := blk_cell hz 1; have hzf := blk_frozen hz 0; have hzf1 := blk_frozen hz 1; simp at hz0 hz1)); clear hO hB hC7)
        | (go_at_call 15; (with_reducible refine Calls.mono (HGr2.out _ (by repeat (first | exact HB10a.out | apply below_alloc | apply below_drew1)) _ _ (by refine Kd.C_below HC7.out ?_; repeat (first | exact Below.refl _ _ | apply below_alloc | apply below_drew1))) ?_); rintro e w11 ⟨v11, rfl, hD, hB⟩; obtain ⟨v12, v13, rfl, hr1, hr2⟩ := hD; dsimp only at hr1 hr2; obtain ⟨B3, d3, rfl, -, hC3⟩ := hr1.out; obtain ⟨B4, d4, rfl, -, hC4⟩ := hr2.out; have HB11 : Aside0 (Below w9.heap.size w9 w11) := ⟨below_step (by repeat (first | exact HB10.out | apply below_alloc | apply below_drew1)) hB⟩; have HB11a := Aside0.mk (below_later HB9.out HB9.out.size HB11.out); have HC3 := Aside0.mk hC3; have HC4 := Aside0.mk hC4; have n110 : w11.heap.size ≠ w.heap.size := (by have := HB11a.out.size; have := HZ1.out; omega); have n111 : w11.heap.size ≠ w.heap.size + 1 := (by have := HB11a.out.size; have := HZ1.out; omega); obtain ⟨cPw11, cMw11, cModw11, cKw11, cPtsw11, cMulw11⟩ := HS.out.below HB11a.out; obtain ⟨cWw11, cEw11⟩ := HV.out.below HB11a.out; (try (first | (have hz' := blk_below hz hB; clear hz hz0 hz1 hzf hzf1; have hz := hz'; clear hz') | (have hz := blk_below (blk_new _ _) hB)); have hz0 := blk_cell hz 0; have hz1 := blk_cell hz 1; have hzf := blk_frozen hz 0; have hzf1 := blk_frozen hz 1; simp at hz0 hz1); clear hr1 hr2 hB hC3 hC4))
    all_goals
      go_wp2_with (fail)
      go_meet
      first
        | exact ⟨_, B3, d3, B4, d4, rfl, rfl, ⟨DAt.put ⟨hz0, hz1, hzf, hzf1⟩ HC3.out HC4.out⟩, ⟨below_set (below_set HB11.out (by have := HB11.out.size; have := HB10.out.size; omega)) (by have := HB11.out.size; have := HB10.out.size; omega)⟩⟩
        | exact ⟨_, B3, d3, B4, d4, rfl, rfl, ⟨⟨cell_alloc2_0 w11 _ _ 34, cell_alloc2_1 w11 _ _ 34, Kd.C_alloc HC3.out _, Kd.C_alloc HC4.out _⟩⟩, ⟨below_alloc HB11.out _⟩⟩
  case rest =>
    obtain ⟨g, B3, d3, B4, d4, rfl, rfl, HDU, HBc⟩ := hcut
    have HZ1 : Aside0 (w.heap.size + 2 ≤ w1.heap.size) := ⟨by rw [← HW1.out, ← HW0.out]; simp⟩
    have HBca := Aside0.mk (below_later HB9.out HB9.out.size HBc.out)
    have HDA2 := Aside0.mk (HDA.out.below HBc.out)
    have hUF := Aside0.mk hs2
    clear hs2
    by_cases hte : te = 0
    · clear hs1
      subst hte
      obtain ⟨rfl, hl, hu, rfl⟩ := hUF.out rfl
      have HPt := Aside0.mk (fun (w2 : World) (A : Option Addr) (ca : Nat) (hcc : Kd.C (Kd.int .i64) w2 A c.length c) (Bx : Option Addr) (cb : Nat) (hx : Kd.C (Kd.int .i64) w2 Bx tc.length tc) => HPl2.out w2 A ca hcc Bx cb tc hx hl)
      rw [hl] at HPt HDA2
      rw [← hu] at HPt
      have HUU := Aside0.mk hu
      have HTL := Aside0.mk hl
      clear hu hl hUF HPl2
      obtain ⟨cPr, cMr, cModr, cKr, cPtsr, cMulr⟩ := HS.out.below HBca.out
      have cA0 := HDA2.out.c0
      have cA1 := HDA2.out.c1
      have cU0 := HDU.out.c0
      have cU1 := HDU.out.c1
      go_upto_region 10 with (fail)
      have hdl : decide ((c.length : Int) = c.length) = true := by simp
      go_region_held3 (fun w' => w'.cell? ⟨w.heap.size, 0, none⟩ = some (.int .i64 s.P) ∧ w'.cell? ⟨w.heap.size, 1, none⟩ = some (.int .i64 s.M) ∧ w'.cell? ⟨w.heap.size, 2, none⟩ = some (.slice A1 s.Mod.length c1) ∧ w'.cell? ⟨w8.heap.size, 0, none⟩ = some (.slice B1 c.length d1) ∧ w'.cell? ⟨w8.heap.size, 1, none⟩ = some (.slice B2 td.length d2) ∧ w'.cell? ⟨g, 0, none⟩ = some (.slice B3 uc.length d3) ∧ w'.cell? ⟨g, 1, none⟩ = some (.slice B4 td.length d4)) (first | exact ⟨‹_›, ‹_›, ‹_›, ‹_›, ‹_›, ‹_›, ‹_›⟩ | go_keep) (first
        | (go_at_call 24; (with_reducible refine Calls.mono (HPt.out _ A6 c6 (by refine Kd.C_below HC9.out ?_; repeat (first | exact HBc.out | apply below_drew1)) B1 d1 (Kd.C_below HDA2.out.rc (below_drew1 (Below.refl _ _)))) ?_); rintro e w12 ⟨v12, rfl, hO, hB⟩; obtain ⟨A8, c8, rfl, -, hC8⟩ := hO.slice; have HC8 := Aside0.mk hC8; have HB12 : Aside0 (Below wc.heap.size wc w12) := ⟨below_step (below_drew1 (Below.refl _ _)) hB⟩; have HB12a := Aside0.mk (below_later HBca.out HBca.out.size HB12.out); obtain ⟨cPw12, cMw12, cModw12, cKw12, cPtsw12, cMulw12⟩ := HS.out.below HB12a.out; have cA012 := pw_cell_below HB12.out cA0; have cA112 := pw_cell_below HB12.out cA1; have cU012 := pw_cell_below HB12.out cU0; have cU112 := pw_cell_below HB12.out cU1; clear hO hB hC8)
        | (go_at_call 23; (with_reducible refine Calls.mono (same_n (Kd.C_below HDU.out.rc HB12.out) HC8.out true (decide_eq_true rfl)) ?_); rintro e w13 ⟨rfl, hd⟩; have HB13 : Aside0 (Below wc.heap.size wc w13) := ⟨HB12.out.below'' hd⟩; have HB13a := Aside0.mk (below_later HBca.out HBca.out.size HB13.out); obtain ⟨cPw13, cMw13, cModw13, cKw13, cPtsw13, cMulw13⟩ := HS.out.below HB13a.out; have cA013 := pw_cell_below HB13.out cA0; have cA113 := pw_cell_below HB13.out cA1; have cU013 := pw_cell_below HB13.out cU0; have cU113 := pw_cell_below HB13.out cU1; clear hd)
        | (go_at_call 23; (with_reducible refine Calls.mono (same_n (Kd.C_below HDA2.out.rd HB13.out) (Kd.C_below HDU.out.rd HB13.out) true (decide_eq_true rfl)) ?_); rintro e w14 ⟨rfl, hd⟩; have HB14 : Aside0 (Below wc.heap.size wc w14) := ⟨HB13.out.below'' hd⟩; have HB14a := Aside0.mk (below_later HBca.out HBca.out.size HB14.out); obtain ⟨cPw14, cMw14, cModw14, cKw14, cPtsw14, cMulw14⟩ := HS.out.below HB14a.out; have cA014 := pw_cell_below HB14.out cA0; have cA114 := pw_cell_below HB14.out cA1; have cU014 := pw_cell_below HB14.out cU0; have cU114 := pw_cell_below HB14.out cU1; clear hd))
      go_wp2_with (fail)
      go_ret
      exact ⟨rfl, below_later HB1.out HB1.out.size HB14a.out⟩
    · have hue := hs1 hte
      clear hs1 hUF
      subst hue
      have hbn : (ue != 0) = true := by simp [hte]
      go_wp2_with (fail)
      go_ret
      exact ⟨rfl, below_later HB1.out HB1.out.size HBca.out⟩

theorem lawShifts_any {w : World} {v : Value} {s : GD} (h : GArg w v s) {B E O : Option Addr} {dd ee oo : Nat} {l er msg : List Int} (hl : Kd.C (Kd.int .i64) w B l.length l) (he : Kd.C (Kd.int .i64) w E er.length er) (hle : er.length ≤ ee) (hll : l.length ≤ dd)
    (ho : Kd.C (Kd.int .i64) w O msg.length msg) :
    Calls Try.prog 6 #[v, .slice O msg.length oo, .agg #[.slice B l.length dd, .slice E er.length ee]] w fun e w' => e = .returned (.bool true) ∧ Below w.heap.size w w' := by
  by_cases hno : decide (s.pts.length ≤ 20 ∧ er.length ≤ 30) = false ∨ checkR s ≠ 0
  · exact lawShifts_noA h hl he hle hll ho hno
  · have h1 : decide (s.pts.length ≤ 20 ∧ er.length ≤ 30) = true := by
      cases hb : decide (s.pts.length ≤ 20 ∧ er.length ≤ 30) with
      | true => rfl
      | false => exact absurd (.inl hb) hno
    have h2 : checkR s = 0 := Classical.not_not.1 fun hn => hno (.inr hn)
    obtain ⟨-, -, -, -, -, -, -, -, f9, f10⟩ := open_factsP s (by rw [← checkR_open]; exact h2)
    obtain ⟨kn, hk⟩ := Int.eq_ofNat_of_zero_le f9
    by_cases hno2 : elemsZ (isR s.P s.M) msg kn 3 ≠ 0 ∨ recvZ (isR s.P s.M) l s.pts.length er ≠ 0
    · exact lawShifts_noB h hl he hle hll ho kn hk (by omega) h1 h2 hno2
    · exact lawShifts_yes h hl he hle hll ho kn hk (by omega) h1 h2 (Classical.not_not.1 fun hn => hno2 (.inl hn)) (Classical.not_not.1 fun hn => hno2 (.inr hn))
theorem lawShifts_row {w : World} {v : Value} {s : GD} (h : GArg w v s) {B E O : Option Addr} {dd ee oo : Nat} {l er msg : List Int} (ho : Kd.C (Kd.int .i64) w O msg.length msg) (hl : Kd.C (Kd.int .i64) w B l.length l) (he : Kd.C (Kd.int .i64) w E er.length er) (hle : er.length ≤ ee) (hll : l.length ≤ dd) :
    Calls Try.prog 6 #[v, .slice O msg.length oo, .agg #[.slice B l.length dd, .slice E er.length ee]] w fun e w' => e = .returned (.bool true) ∧ Below w.heap.size w w' := lawShifts_any h hl he hle hll ho
end Go.Proofs.Yticgblagimmlfaa
