/- The law BoundedCorrects. -/
import Derived.Test.YticgblagimmlfaaR3
import Derived.Test.YticgblagimmlfaaA11
import Derived.Test.YticgblagimmlfaaVA
namespace Go.Proofs.Yticgblagimmlfaa
open Go.RowKit Go.Proofs.YticgblagimmlfaaW.PrintWords Go.Proofs.YticgblagimmlfaaW.PrintLast Go.Proofs.YticgblagimmlfaaW.PrintMore
set_option linter.unusedVariables false
set_option linter.unusedSimpArgs false

set_option maxHeartbeats 8000000 in
set_option maxRecDepth 100000 in
theorem lawCorrects_noA {w : World} {v : Value} {s : GD} (h : GArg w v s) {B E O : Option Addr} {dd ee oo : Nat} {l er msg : List Int} (hl : Kd.C (Kd.int .i64) w B l.length l) (he : Kd.C (Kd.int .i64) w E er.length er) (hle : er.length ≤ ee) (hll : l.length ≤ dd)
    (ho : Kd.C (Kd.int .i64) w O msg.length msg) (hno : decide (s.pts.length ≤ 20 ∧ er.length ≤ 30) = false ∨ checkR s ≠ 0) :
    Calls Try.prog 5 #[v, .slice O msg.length oo, .agg #[.slice B l.length dd, .slice E er.length ee]] w fun e w' => e = .returned (.bool true) ∧ Below w.heap.size w w' := by
  obtain ⟨A1, c1, A2, c2, A3, c3, rfl, g1, l1, g2, l2, g3, l3⟩ := h.out
  have hmx := Kd.C_max g2
  have hmx3 := Kd.C_max g3
  have hme := Kd.C_max he
  have hml := Kd.C_max hl
  have hmo := Kd.C_max ho
  have hS0 := SAt.new w s A1 c1 A2 c2 A3 c3
  obtain ⟨w0, hw0⟩ : ∃ w0, w.alloc (.cells #[.int .i64 s.P, .int .i64 s.M, .slice A1 s.Mod.length c1, .int .i64 s.K, .slice A2 s.pts.length c2, .slice A3 s.mults.length c3] 29) = w0 := ⟨_, rfl⟩
  have hB0 : Below w.heap.size w w0 := by rw [← hw0]; exact below_alloc (Below.refl _ _) _
  have hz0 : w0.heap.size = w.heap.size + 1 := by rw [← hw0]; simp
  rw [hw0] at hS0
  have hV0 := VAt.new w0 B l.length dd E er.length ee
  obtain ⟨w1, hw1⟩ : ∃ w1, w0.alloc (.cells #[.slice B l.length dd, .slice E er.length ee] 31) = w1 := ⟨_, rfl⟩
  have hB1 : Below w0.heap.size w0 w1 := by rw [← hw1]; exact below_alloc (Below.refl _ _) _
  rw [hw1, hz0] at hV0
  have HB1 := Aside0.mk (below_later hB0 hB0.size hB1)
  have HS := Aside0.mk (hS0.below hB1)
  have HV := Aside0.mk hV0
  have HG := Aside0.mk (h.below HB1.out)
  have HL := Aside0.mk (Kd.C_below hl HB1.out)
  have HE := Aside0.mk (Kd.C_below he HB1.out)
  have HO := Aside0.mk (Kd.C_below ho HB1.out)
  have HW0 := Aside0.mk hw0
  have HW1 := Aside0.mk hw1
  have HFew := Aside0.mk (fun (w2 : World) => few_any (w := w2) (A := A2) (B := E) (c := c2) (d := ee) hmx hme)
  have HChk := Aside0.mk (fun (w2 : World) (hb : Below w1.heap.size w1 w2) => refCheck_any (HG.out.below hb))
  have HRec := Aside0.mk (fun (w2 : World) (hb : Below w1.heap.size w1 w2) => refReceived_any (A := A1) (n := s.Mod.length) (c := c1) (d := dd) (ee := ee) s.P s.M (Kd.C_below HL.out hb) (Kd.C_below HE.out hb) s.pts.length hmx)
  clear g1 g2 g3 hl he ho hS0 hB0 hw0 hz0 hV0 hw1 hB1
  obtain ⟨b1, hb1⟩ : ∃ b1, decide (s.pts.length ≤ 20 ∧ er.length ≤ 30) = b1 := ⟨_, rfl⟩
  obtain ⟨ck, hck⟩ : ∃ ck, checkR s = ck := ⟨_, rfl⟩
  rw [hb1, hck] at hno
  rw [hb1] at HFew
  rw [hck] at HChk
  clear h hb1 hck
  cases b1 with
  | false =>
    clear hno
    go_enter Try.func5, Try.ntmps5
    go_upto_region 1 with (fail)
    rw [HW0.out, HW1.out]
    go_wp2_with (first
      | (go_at_call 11; refine (alive_any _).mono ?_; rintro e w2 ⟨rfl, hB⟩; have HBw2 := Aside0.mk (hB); obtain ⟨cPw2, cMw2, cModw2, cKw2, cPtsw2, cMulw2⟩ := HS.out.below HBw2.out; obtain ⟨cWw2, cEw2⟩ := HV.out.below HBw2.out; clear hB)
      | (go_at_call 14; refine (HFew.out _).mono ?_; rintro e _ ⟨rfl, rfl⟩))
    go_ret
    exact ⟨rfl, below_later HB1.out HB1.out.size HBw2.out⟩
  | true =>
    have h1 : ck ≠ 0 := by
      rcases hno with h | h
      · cases h
      · exact h
    have hb : (ck != 0) = true := by simp [h1]
    clear hno h1
    go_enter Try.func5, Try.ntmps5
    go_upto_region 1 with (fail)
    rw [HW0.out, HW1.out]
    go_wp2_with (first
      | (go_at_call 11; refine (alive_any _).mono ?_; rintro e w2 ⟨rfl, hB⟩; have HBw2 := Aside0.mk (hB); obtain ⟨cPw2, cMw2, cModw2, cKw2, cPtsw2, cMulw2⟩ := HS.out.below HBw2.out; obtain ⟨cWw2, cEw2⟩ := HV.out.below HBw2.out; clear hB)
      | (go_at_call 14; refine (HFew.out _).mono ?_; rintro e _ ⟨rfl, rfl⟩)
      | (go_at_call 16; refine (HChk.out _ HBw2.out).mono ?_; rintro e w3 ⟨rfl, hB⟩; have HBw3 := Aside0.mk (below_later HBw2.out HBw2.out.size hB); obtain ⟨cPw3, cMw3, cModw3, cKw3, cPtsw3, cMulw3⟩ := HS.out.below HBw3.out; obtain ⟨cWw3, cEw3⟩ := HV.out.below HBw3.out; clear hB))
    go_ret
    exact ⟨rfl, below_later HB1.out HB1.out.size HBw3.out⟩

set_option maxHeartbeats 8000000 in
set_option maxRecDepth 100000 in
theorem lawCorrects_noB {w : World} {v : Value} {s : GD} (h : GArg w v s) {B E O : Option Addr} {dd ee oo : Nat} {l er msg : List Int} (hl : Kd.C (Kd.int .i64) w B l.length l) (he : Kd.C (Kd.int .i64) w E er.length er) (hle : er.length ≤ ee) (hll : l.length ≤ dd)
    (ho : Kd.C (Kd.int .i64) w O msg.length msg) (kn : Nat) (hk : s.K = kn) (hkn : kn ≤ s.pts.length) (hb1 : decide (s.pts.length ≤ 20 ∧ er.length ≤ 30) = true) (hck : checkR s = 0) (hno : elemsZ (isR s.P s.M) msg kn 3 ≠ 0 ∨ recvZ (isR s.P s.M) l s.pts.length er ≠ 0) :
    Calls Try.prog 5 #[v, .slice O msg.length oo, .agg #[.slice B l.length dd, .slice E er.length ee]] w fun e w' => e = .returned (.bool true) ∧ Below w.heap.size w w' := by
  obtain ⟨A1, c1, A2, c2, A3, c3, rfl, g1, l1, g2, l2, g3, l3⟩ := h.out
  have hmx := Kd.C_max g2
  have hmx3 := Kd.C_max g3
  have hme := Kd.C_max he
  have hml := Kd.C_max hl
  have hmo := Kd.C_max ho
  have hS0 := SAt.new w s A1 c1 A2 c2 A3 c3
  obtain ⟨w0, hw0⟩ : ∃ w0, w.alloc (.cells #[.int .i64 s.P, .int .i64 s.M, .slice A1 s.Mod.length c1, .int .i64 s.K, .slice A2 s.pts.length c2, .slice A3 s.mults.length c3] 29) = w0 := ⟨_, rfl⟩
  have hB0 : Below w.heap.size w w0 := by rw [← hw0]; exact below_alloc (Below.refl _ _) _
  have hz0 : w0.heap.size = w.heap.size + 1 := by rw [← hw0]; simp
  rw [hw0] at hS0
  have hV0 := VAt.new w0 B l.length dd E er.length ee
  obtain ⟨w1, hw1⟩ : ∃ w1, w0.alloc (.cells #[.slice B l.length dd, .slice E er.length ee] 31) = w1 := ⟨_, rfl⟩
  have hB1 : Below w0.heap.size w0 w1 := by rw [← hw1]; exact below_alloc (Below.refl _ _) _
  rw [hw1, hz0] at hV0
  have HB1 := Aside0.mk (below_later hB0 hB0.size hB1)
  have HS := Aside0.mk (hS0.below hB1)
  have HV := Aside0.mk hV0
  have HG := Aside0.mk (h.below HB1.out)
  have HL := Aside0.mk (Kd.C_below hl HB1.out)
  have HE := Aside0.mk (Kd.C_below he HB1.out)
  have HO := Aside0.mk (Kd.C_below ho HB1.out)
  have HW0 := Aside0.mk hw0
  have HW1 := Aside0.mk hw1
  have HFew := Aside0.mk (fun (w2 : World) => few_any (w := w2) (A := A2) (B := E) (c := c2) (d := ee) hmx hme)
  have HChk := Aside0.mk (fun (w2 : World) (hb : Below w1.heap.size w1 w2) => refCheck_any (HG.out.below hb))
  have HRec := Aside0.mk (fun (w2 : World) (hb : Below w1.heap.size w1 w2) => refReceived_any (A := A1) (n := s.Mod.length) (c := c1) (d := dd) (ee := ee) s.P s.M (Kd.C_below HL.out hb) (Kd.C_below HE.out hb) s.pts.length hmx)
  have hkb : kn ≤ 9223372036854775807 := by omega
  have HEl := Aside0.mk (fun (w2 : World) (hb : Below w1.heap.size w1 w2) => refElements_any (A := A1) (n := s.Mod.length) (c := c1) (d := oo) s.P s.M (Kd.C_below HO.out hb) kn hkb 3)
  rw [← hk] at HEl
  clear g1 g2 g3 hl he ho hS0 hB0 hw0 hz0 hV0 hw1 hB1
  obtain ⟨rc, hrc⟩ : ∃ rc, recvZ (isR s.P s.M) l s.pts.length er = rc := ⟨_, rfl⟩
  obtain ⟨el, hel⟩ : ∃ el, elemsZ (isR s.P s.M) msg kn 3 = el := ⟨_, rfl⟩
  rw [hrc, hel] at hno
  rw [hb1] at HFew
  rw [hck] at HChk
  rw [hrc] at HRec
  rw [hel] at HEl
  clear h hb1 hck hrc hel hk
  by_cases h1 : el = 0
  · subst h1
    have h3 : rc ≠ 0 := by
      rcases hno with h | h
      · exact absurd rfl h
      · exact h
    have hb : (rc != 0) = true := by simp [h3]
    clear hno h3
    go_enter Try.func5, Try.ntmps5
    go_upto_region 1 with (fail)
    rw [HW0.out, HW1.out]
    go_wp2_with (first
      | (go_at_call 11; refine (alive_any _).mono ?_; rintro e w2 ⟨rfl, hB⟩; have HBw2 := Aside0.mk (hB); obtain ⟨cPw2, cMw2, cModw2, cKw2, cPtsw2, cMulw2⟩ := HS.out.below HBw2.out; obtain ⟨cWw2, cEw2⟩ := HV.out.below HBw2.out; clear hB)
      | (go_at_call 14; refine (HFew.out _).mono ?_; rintro e _ ⟨rfl, rfl⟩)
      | (go_at_call 16; refine (HChk.out _ HBw2.out).mono ?_; rintro e w3 ⟨rfl, hB⟩; have HBw3 := Aside0.mk (below_later HBw2.out HBw2.out.size hB); obtain ⟨cPw3, cMw3, cModw3, cKw3, cPtsw3, cMulw3⟩ := HS.out.below HBw3.out; obtain ⟨cWw3, cEw3⟩ := HV.out.below HBw3.out; clear hB)
      | (go_at_call 19; refine (HEl.out _ HBw3.out).mono ?_; rintro e w4 ⟨rfl, hB⟩; have HBw4 := Aside0.mk (below_later HBw3.out HBw3.out.size hB); obtain ⟨cPw4, cMw4, cModw4, cKw4, cPtsw4, cMulw4⟩ := HS.out.below HBw4.out; obtain ⟨cWw4, cEw4⟩ := HV.out.below HBw4.out; clear hB)
      | (go_at_call 17; refine (HRec.out _ HBw4.out).mono ?_; rintro e w5 ⟨rfl, hB⟩; have HBw5 := Aside0.mk (below_later HBw4.out HBw4.out.size hB); obtain ⟨cPw5, cMw5, cModw5, cKw5, cPtsw5, cMulw5⟩ := HS.out.below HBw5.out; obtain ⟨cWw5, cEw5⟩ := HV.out.below HBw5.out; clear hB))
    go_ret
    exact ⟨rfl, below_later HB1.out HB1.out.size HBw5.out⟩
  · have hb : (el != 0) = true := by simp [h1]
    clear hno h1
    go_enter Try.func5, Try.ntmps5
    go_upto_region 1 with (fail)
    rw [HW0.out, HW1.out]
    go_wp2_with (first
      | (go_at_call 11; refine (alive_any _).mono ?_; rintro e w2 ⟨rfl, hB⟩; have HBw2 := Aside0.mk (hB); obtain ⟨cPw2, cMw2, cModw2, cKw2, cPtsw2, cMulw2⟩ := HS.out.below HBw2.out; obtain ⟨cWw2, cEw2⟩ := HV.out.below HBw2.out; clear hB)
      | (go_at_call 14; refine (HFew.out _).mono ?_; rintro e _ ⟨rfl, rfl⟩)
      | (go_at_call 16; refine (HChk.out _ HBw2.out).mono ?_; rintro e w3 ⟨rfl, hB⟩; have HBw3 := Aside0.mk (below_later HBw2.out HBw2.out.size hB); obtain ⟨cPw3, cMw3, cModw3, cKw3, cPtsw3, cMulw3⟩ := HS.out.below HBw3.out; obtain ⟨cWw3, cEw3⟩ := HV.out.below HBw3.out; clear hB)
      | (go_at_call 19; refine (HEl.out _ HBw3.out).mono ?_; rintro e w4 ⟨rfl, hB⟩; have HBw4 := Aside0.mk (below_later HBw3.out HBw3.out.size hB); obtain ⟨cPw4, cMw4, cModw4, cKw4, cPtsw4, cMulw4⟩ := HS.out.below HBw4.out; obtain ⟨cWw4, cEw4⟩ := HV.out.below HBw4.out; clear hB))
    go_ret
    exact ⟨rfl, below_later HB1.out HB1.out.size HBw4.out⟩

set_option maxHeartbeats 8000000 in
set_option maxRecDepth 100000 in
theorem lawCorrects_yes {w : World} {v : Value} {s : GD} (h : GArg w v s) {B E O : Option Addr} {dd ee oo : Nat} {l er msg : List Int} (hl : Kd.C (Kd.int .i64) w B l.length l) (he : Kd.C (Kd.int .i64) w E er.length er) (hle : er.length ≤ ee) (hll : l.length ≤ dd)
    (ho : Kd.C (Kd.int .i64) w O msg.length msg) (kn : Nat) (hk : s.K = kn) (hkn : kn ≤ s.pts.length) (hb1 : decide (s.pts.length ≤ 20 ∧ er.length ≤ 30) = true) (hck : checkR s = 0) (hel : elemsZ (isR s.P s.M) msg kn 3 = 0) (hrc : recvZ (isR s.P s.M) l s.pts.length er = 0) :
    Calls Try.prog 5 #[v, .slice O msg.length oo, .agg #[.slice B l.length dd, .slice E er.length ee]] w fun e w' => e = .returned (.bool true) ∧ Below w.heap.size w w' := by
  obtain ⟨A1, c1, A2, c2, A3, c3, rfl, g1, l1, g2, l2, g3, l3⟩ := h.out
  have hmx := Kd.C_max g2
  have hmx3 := Kd.C_max g3
  have hme := Kd.C_max he
  have hml := Kd.C_max hl
  have hmo := Kd.C_max ho
  have hS0 := SAt.new w s A1 c1 A2 c2 A3 c3
  obtain ⟨w0, hw0⟩ : ∃ w0, w.alloc (.cells #[.int .i64 s.P, .int .i64 s.M, .slice A1 s.Mod.length c1, .int .i64 s.K, .slice A2 s.pts.length c2, .slice A3 s.mults.length c3] 29) = w0 := ⟨_, rfl⟩
  have hB0 : Below w.heap.size w w0 := by rw [← hw0]; exact below_alloc (Below.refl _ _) _
  have hz0 : w0.heap.size = w.heap.size + 1 := by rw [← hw0]; simp
  rw [hw0] at hS0
  have hV0 := VAt.new w0 B l.length dd E er.length ee
  obtain ⟨w1, hw1⟩ : ∃ w1, w0.alloc (.cells #[.slice B l.length dd, .slice E er.length ee] 31) = w1 := ⟨_, rfl⟩
  have hB1 : Below w0.heap.size w0 w1 := by rw [← hw1]; exact below_alloc (Below.refl _ _) _
  rw [hw1, hz0] at hV0
  have HB1 := Aside0.mk (below_later hB0 hB0.size hB1)
  have HS := Aside0.mk (hS0.below hB1)
  have HV := Aside0.mk hV0
  have HG := Aside0.mk (h.below HB1.out)
  have HL := Aside0.mk (Kd.C_below hl HB1.out)
  have HE := Aside0.mk (Kd.C_below he HB1.out)
  have HO := Aside0.mk (Kd.C_below ho HB1.out)
  have HW0 := Aside0.mk hw0
  have HW1 := Aside0.mk hw1
  have HFew := Aside0.mk (fun (w2 : World) => few_any (w := w2) (A := A2) (B := E) (c := c2) (d := ee) hmx hme)
  have HChk := Aside0.mk (fun (w2 : World) (hb : Below w1.heap.size w1 w2) => refCheck_any (HG.out.below hb))
  have HRec := Aside0.mk (fun (w2 : World) (hb : Below w1.heap.size w1 w2) => refReceived_any (A := A1) (n := s.Mod.length) (c := c1) (d := dd) (ee := ee) s.P s.M (Kd.C_below HL.out hb) (Kd.C_below HE.out hb) s.pts.length hmx)
  have hkb : kn ≤ 9223372036854775807 := by omega
  have HEl := Aside0.mk (fun (w2 : World) (hb : Below w1.heap.size w1 w2) => refElements_any (A := A1) (n := s.Mod.length) (c := c1) (d := oo) s.P s.M (Kd.C_below HO.out hb) kn hkb 3)
  rw [← hk] at HEl
  clear g1 g2 g3 hl he ho hS0 hB0 hw0 hz0 hV0 hw1 hB1
  have hopen : s.open = 0 := by rw [← checkR_open]; exact hck
  obtain ⟨f1, n1, n2, f4, -⟩ := open_factsP s hopen
  obtain ⟨K, q1, q2, q3, q4⟩ := exists_K s f1
  obtain ⟨r1, r2, r3, r4⟩ := recvZ_zero _ _ _ _ hrc
  have hb2 := of_decide_eq_true hb1
  have hEnds : s.open = 0 → wordZ s.D l s.pts.length er = 0 → s.ends l (marksZ s.pts.length er) := fun h0 _ => GD.ends_ok s h0 (GD.D_ok s h0) f1 n2 _ _
  obtain ⟨c, hc⟩ : ∃ c, encZ K.D s.pts s.mults msg = c := ⟨_, rfl⟩
  have hc' : encZ s.D s.pts s.mults msg = c := by rw [q4]; exact hc
  have hcl : c.length = s.pts.length := by rw [← hc]; exact encZ_len _ _ _ _ f4
  have HWo := Aside0.mk (fun (w2 : World) (hb : Below w1.heap.size w1 w2) => rWord (d := oo) (HG.out.below hb) K ⟨q1, q2, q3⟩ f4 (by omega) (Kd.C_below HO.out hb))
  rw [hc] at HWo
  obtain ⟨ds, hds⟩ : ∃ ds, diffZ c l (marksZ c.length er) c.length = ds := ⟨_, rfl⟩
  have HDi := Aside0.mk (fun (w2 : World) (hb : Below w1.heap.size w1 w2) (A : Option Addr) (ca : Nat) (hcc : Kd.C (Kd.int .i64) w2 A c.length c) => rDiffer (ca := ca) (cb := dd) (ce := ee) hcc (Kd.C_below HL.out hb) (Kd.C_below HE.out hb) (by omega) (by omega))
  rw [hds] at HDi
  have hdl : ds.length ≤ 20 := by rw [← hds]; have := diffZ_length c l (marksZ c.length er) c.length; omega
  have HGr := Aside0.mk (fun (w2 : World) (hb : Below w1.heap.size w1 w2) => GRS_any (dd := dd) (ee := ee) (HG.out.below hb) (Kd.C_below HL.out hb) (Kd.C_below HE.out hb) hEnds)
  have HCor := Aside0.mk (fun (hn : ¬ 2 * (ds.length : Int) + er.length > s.pts.length - s.K) => corrects s msg l er kn hk hck hel hrc c ds hc' hds hn)
  have hK0 : 0 ≤ s.K := by omega
  have hK1 : s.K ≤ s.pts.length := by omega
  rw [hb1] at HFew
  rw [hck] at HChk
  rw [hrc] at HRec
  rw [hel] at HEl
  obtain ⟨hb20, hb30⟩ := hb2
  clear h hb1 hck hrc hel hEnds r1 r2 r3 r4 hc hc' hds q1 q2 q3 q4 hopen f1 f4 hk
  by_cases hgt : 2 * (ds.length : Int) + er.length > s.pts.length - s.K
  · have Hcl := Aside0.mk hcl
    clear hcl HCor
    go_enter Try.func5, Try.ntmps5
    go_upto_region 1 with (fail)
    rw [HW0.out, HW1.out]
    go_wp2_with (first
      | (go_at_call 11; refine (alive_any _).mono ?_; rintro e w2 ⟨rfl, hB⟩; have HBw2 := Aside0.mk (hB); obtain ⟨cPw2, cMw2, cModw2, cKw2, cPtsw2, cMulw2⟩ := HS.out.below HBw2.out; obtain ⟨cWw2, cEw2⟩ := HV.out.below HBw2.out; clear hB)
      | (go_at_call 14; refine (HFew.out _).mono ?_; rintro e _ ⟨rfl, rfl⟩)
      | (go_at_call 16; refine (HChk.out _ HBw2.out).mono ?_; rintro e w3 ⟨rfl, hB⟩; have HBw3 := Aside0.mk (below_later HBw2.out HBw2.out.size hB); obtain ⟨cPw3, cMw3, cModw3, cKw3, cPtsw3, cMulw3⟩ := HS.out.below HBw3.out; obtain ⟨cWw3, cEw3⟩ := HV.out.below HBw3.out; clear hB)
      | (go_at_call 19; refine (HEl.out _ HBw3.out).mono ?_; rintro e w4 ⟨rfl, hB⟩; have HBw4 := Aside0.mk (below_later HBw3.out HBw3.out.size hB); obtain ⟨cPw4, cMw4, cModw4, cKw4, cPtsw4, cMulw4⟩ := HS.out.below HBw4.out; obtain ⟨cWw4, cEw4⟩ := HV.out.below HBw4.out; clear hB)
      | (go_at_call 17; refine (HRec.out _ HBw4.out).mono ?_; rintro e w5 ⟨rfl, hB⟩; have HBw5 := Aside0.mk (below_later HBw4.out HBw4.out.size hB); obtain ⟨cPw5, cMw5, cModw5, cKw5, cPtsw5, cMulw5⟩ := HS.out.below HBw5.out; obtain ⟨cWw5, cEw5⟩ := HV.out.below HBw5.out; clear hB)
      | (go_at_call 21; (with_reducible refine Calls.mono (HWo.out _ HBw5.out) ?_); rintro e w6 ⟨v6, rfl, hO, hB⟩; obtain ⟨A6, c6, e6, -, hC6⟩ := hO.slice; rw [Hcl.out] at e6 hC6; subst e6; have HC6 := Aside0.mk hC6; have HBw6 := Aside0.mk (below_later HBw5.out HBw5.out.size hB); obtain ⟨cPw6, cMw6, cModw6, cKw6, cPtsw6, cMulw6⟩ := HS.out.below HBw6.out; obtain ⟨cWw6, cEw6⟩ := HV.out.below HBw6.out; have HDi6 := HDi.out _ HBw6.out A6 c6 (by rw [Hcl.out]; exact HC6.out); rw [Hcl.out] at HDi6; have HDi6 := Aside0.mk HDi6; clear hO hB hC6)
      | (go_at_call 22; (with_reducible refine Calls.mono HDi6.out ?_); rintro e w7 ⟨v7, rfl, hO, hB⟩; obtain ⟨A7, c7, rfl, -, hC7⟩ := hO.slice; have HC7 := Aside0.mk hC7; have HC6b := Aside0.mk (Kd.C_below HC6.out hB); have HBw7 := Aside0.mk (below_later HBw6.out HBw6.out.size hB); obtain ⟨cPw7, cMw7, cModw7, cKw7, cPtsw7, cMulw7⟩ := HS.out.below HBw7.out; obtain ⟨cWw7, cEw7⟩ := HV.out.below HBw7.out; clear hO hB hC7))
    go_ret
    exact ⟨rfl, below_later HB1.out HB1.out.size HBw7.out⟩
  · have hT := HCor.out hgt
    have Hcl := Aside0.mk hcl
    simp only [hT] at HGr
    clear hcl HCor hT
    go_enter Try.func5, Try.ntmps5
    go_upto_region 1 with (fail)
    rw [HW0.out, HW1.out]
    go_wp2_with (first
      | (go_at_call 11; refine (alive_any _).mono ?_; rintro e w2 ⟨rfl, hB⟩; have HBw2 := Aside0.mk (hB); obtain ⟨cPw2, cMw2, cModw2, cKw2, cPtsw2, cMulw2⟩ := HS.out.below HBw2.out; obtain ⟨cWw2, cEw2⟩ := HV.out.below HBw2.out; clear hB)
      | (go_at_call 14; refine (HFew.out _).mono ?_; rintro e _ ⟨rfl, rfl⟩)
      | (go_at_call 16; refine (HChk.out _ HBw2.out).mono ?_; rintro e w3 ⟨rfl, hB⟩; have HBw3 := Aside0.mk (below_later HBw2.out HBw2.out.size hB); obtain ⟨cPw3, cMw3, cModw3, cKw3, cPtsw3, cMulw3⟩ := HS.out.below HBw3.out; obtain ⟨cWw3, cEw3⟩ := HV.out.below HBw3.out; clear hB)
      | (go_at_call 19; refine (HEl.out _ HBw3.out).mono ?_; rintro e w4 ⟨rfl, hB⟩; have HBw4 := Aside0.mk (below_later HBw3.out HBw3.out.size hB); obtain ⟨cPw4, cMw4, cModw4, cKw4, cPtsw4, cMulw4⟩ := HS.out.below HBw4.out; obtain ⟨cWw4, cEw4⟩ := HV.out.below HBw4.out; clear hB)
      | (go_at_call 17; refine (HRec.out _ HBw4.out).mono ?_; rintro e w5 ⟨rfl, hB⟩; have HBw5 := Aside0.mk (below_later HBw4.out HBw4.out.size hB); obtain ⟨cPw5, cMw5, cModw5, cKw5, cPtsw5, cMulw5⟩ := HS.out.below HBw5.out; obtain ⟨cWw5, cEw5⟩ := HV.out.below HBw5.out; clear hB)
      | (go_at_call 21; (with_reducible refine Calls.mono (HWo.out _ HBw5.out) ?_); rintro e w6 ⟨v6, rfl, hO, hB⟩; obtain ⟨A6, c6, e6, -, hC6⟩ := hO.slice; rw [Hcl.out] at e6 hC6; subst e6; have HC6 := Aside0.mk hC6; have HBw6 := Aside0.mk (below_later HBw5.out HBw5.out.size hB); obtain ⟨cPw6, cMw6, cModw6, cKw6, cPtsw6, cMulw6⟩ := HS.out.below HBw6.out; obtain ⟨cWw6, cEw6⟩ := HV.out.below HBw6.out; have HDi6 := HDi.out _ HBw6.out A6 c6 (by rw [Hcl.out]; exact HC6.out); rw [Hcl.out] at HDi6; have HDi6 := Aside0.mk HDi6; clear hO hB hC6)
      | (go_at_call 22; (with_reducible refine Calls.mono HDi6.out ?_); rintro e w7 ⟨v7, rfl, hO, hB⟩; obtain ⟨A7, c7, rfl, -, hC7⟩ := hO.slice; have HC7 := Aside0.mk hC7; have HC6b := Aside0.mk (Kd.C_below HC6.out hB); have HBw7 := Aside0.mk (below_later HBw6.out HBw6.out.size hB); obtain ⟨cPw7, cMw7, cModw7, cKw7, cPtsw7, cMulw7⟩ := HS.out.below HBw7.out; obtain ⟨cWw7, cEw7⟩ := HV.out.below HBw7.out; clear hO hB hC7)
      | (go_at_call 15; (with_reducible refine Calls.mono (HGr.out _ HBw7.out) ?_); rintro e w8 ⟨v8, rfl, hD, hB⟩; obtain ⟨v81, v82, rfl, hr1, hr2⟩ := hD; obtain ⟨B1, d1, e81, -, hC1⟩ := hr1.out; obtain ⟨B2, d2, rfl, -, hC2⟩ := hr2.out; simp only [Hcl.out] at e81 hC1; subst e81; have HB8 := Aside0.mk (below_later HBw7.out HBw7.out.size hB); have hba := below_alloc (Below.refl w8.heap.size w8) (.cells #[.slice B1 s.pts.length d1, .slice B2 ds.length d2] 34); have HB9 := Aside0.mk (below_later HB8.out HB8.out.size hba); have HD1 := Aside0.mk (Kd.C_below hC1 hba); have HD2 := Aside0.mk (Kd.C_below hC2 hba); have HD6 := Aside0.mk (Kd.C_below (Kd.C_below HC6b.out hB) hba); have HD7 := Aside0.mk (Kd.C_below (Kd.C_below HC7.out hB) hba); have cA := cell_alloc2_0 w8 (.slice B1 s.pts.length d1) (.slice B2 ds.length d2) 34; have cB := cell_alloc2_1 w8 (.slice B1 s.pts.length d1) (.slice B2 ds.length d2) 34; clear hr1 hr2 hB hba hC1 hC2)
      | (go_at_call 23; (with_reducible refine Calls.mono (same_n HD1.out HD6.out true (decide_eq_true rfl)) ?_); rintro e w10 ⟨rfl, hd⟩; have HB10 := Aside0.mk (HB9.out.below'' hd); have HE2 := Aside0.mk (Kd.C_below HD2.out hd.below); have HE7 := Aside0.mk (Kd.C_below HD7.out hd.below); have cB2 := pw_cell_below hd.below cB; clear hd)
      | (go_at_call 23; (with_reducible refine Calls.mono (same_n HE2.out HE7.out true (decide_eq_true rfl)) ?_); rintro e w11 ⟨rfl, hd⟩; have HB11 := Aside0.mk (HB10.out.below'' hd); clear hd))
    go_ret
    exact ⟨rfl, below_later HB1.out HB1.out.size HB11.out⟩

theorem lawCorrects_any {w : World} {v : Value} {s : GD} (h : GArg w v s) {B E O : Option Addr} {dd ee oo : Nat} {l er msg : List Int} (hl : Kd.C (Kd.int .i64) w B l.length l) (he : Kd.C (Kd.int .i64) w E er.length er) (hle : er.length ≤ ee) (hll : l.length ≤ dd)
    (ho : Kd.C (Kd.int .i64) w O msg.length msg) :
    Calls Try.prog 5 #[v, .slice O msg.length oo, .agg #[.slice B l.length dd, .slice E er.length ee]] w fun e w' => e = .returned (.bool true) ∧ Below w.heap.size w w' := by
  by_cases hno : decide (s.pts.length ≤ 20 ∧ er.length ≤ 30) = false ∨ checkR s ≠ 0
  · exact lawCorrects_noA h hl he hle hll ho hno
  · have h1 : decide (s.pts.length ≤ 20 ∧ er.length ≤ 30) = true := by
      cases hb : decide (s.pts.length ≤ 20 ∧ er.length ≤ 30) with
      | true => rfl
      | false => exact absurd (.inl hb) hno
    have h2 : checkR s = 0 := Classical.not_not.1 fun hn => hno (.inr hn)
    obtain ⟨-, -, -, -, -, -, -, -, f9, f10⟩ := open_factsP s (by rw [← checkR_open]; exact h2)
    obtain ⟨kn, hk⟩ := Int.eq_ofNat_of_zero_le f9
    by_cases hno2 : elemsZ (isR s.P s.M) msg kn 3 ≠ 0 ∨ recvZ (isR s.P s.M) l s.pts.length er ≠ 0
    · exact lawCorrects_noB h hl he hle hll ho kn hk (by omega) h1 h2 hno2
    · exact lawCorrects_yes h hl he hle hll ho kn hk (by omega) h1 h2 (Classical.not_not.1 fun hn => hno2 (.inl hn)) (Classical.not_not.1 fun hn => hno2 (.inr hn))
theorem lawCorrects_row {w : World} {v : Value} {s : GD} (h : GArg w v s) {B E O : Option Addr} {dd ee oo : Nat} {l er msg : List Int} (ho : Kd.C (Kd.int .i64) w O msg.length msg) (hl : Kd.C (Kd.int .i64) w B l.length l) (he : Kd.C (Kd.int .i64) w E er.length er) (hle : er.length ≤ ee) (hll : l.length ≤ dd) :
    Calls Try.prog 5 #[v, .slice O msg.length oo, .agg #[.slice B l.length dd, .slice E er.length ee]] w fun e w' => e = .returned (.bool true) ∧ Below w.heap.size w w' := lawCorrects_any h hl he hle hll ho
end Go.Proofs.Yticgblagimmlfaa
