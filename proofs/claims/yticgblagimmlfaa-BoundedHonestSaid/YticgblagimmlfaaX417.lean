/- Parts of the proof: R16, E4, R17, R18, R19, R20, A13, VA. -/
import Derived.Test.YticgblagimmlfaaX416
import Derived.Test.YticgblagimmlfaaX415
import Derived.Test.YticgblagimmlfaaX408
section
/- The reference: Make. -/
namespace Go.Proofs.Yticgblagimmlfaa
open Go.RowKit Go.Proofs.YticgblagimmlfaaW.PrintWords Go.Proofs.YticgblagimmlfaaW.PrintLast Go.Proofs.YticgblagimmlfaaW.PrintMore
set_option linter.unusedVariables false
set_option linter.unusedSimpArgs false

/-- A store into an older block. -/
theorem OA.older {w : World} {base b k : Nat} {A : Option Addr} {ls : List (List Int)} (h : OA w base A ls) (hb : b < base) (u : Value) : OA (w.setCell ⟨b, k, none⟩ u) base A ls := by
  have hgb : ∀ g, base ≤ g → (w.setCell ⟨b, k, none⟩ u).heap[g]? = w.heap[g]? := fun g hg => Below.heap_setCell w ⟨b, k, none⟩ u g (by show g ≠ b; omega)
  have hcell : ∀ g i, base ≤ g → (w.setCell ⟨b, k, none⟩ u).cell? ⟨g, i, none⟩ = w.cell? ⟨g, i, none⟩ := fun g i hg => by unfold World.cell?; rw [hgb g hg]
  refine ⟨fun i hi => ?_, fun i hi g v k' e hc h0 hk => ?_, fun g e hp => ?_⟩
  · obtain ⟨g, v, e, hbg, hc, hf, hr⟩ := h.out i hi
    refine ⟨g, v, e, hbg, by rw [hcell g i hbg]; exact hc, by rw [World.frozen?_setCell]; exact hf, ?_⟩
    by_cases h0 : 0 < (ls.getD i []).length
    · exact hr.keepBlk fun k' hk _ => hgb k' (h.inb i hi g v k' e hc h0 hk)
    · obtain ⟨B, d, rfl, hl, hC⟩ := hr.out
      exact ⟨B, d, rfl, hl, ⟨rfl, hC.2.1, fun hn => absurd hn h0⟩⟩
  · obtain ⟨g', v', e', hbg, hc', -, -⟩ := h.out i hi
    rw [e] at e'
    cases e'
    rw [hcell g i hbg] at hc
    exact h.inb i hi g v k' e hc h0 hk
  · obtain ⟨g', v', e', hbg, -⟩ := h.out 0 hp
    rw [e] at e'
    cases e'
    obtain ⟨cs, hcs⟩ := h.blk g e hp
    exact ⟨cs, (hgb g hbg).trans hcs⟩
/-- What Make returns. -/
structure MakeOut (K : FD) (rows : List (List Int)) (n : Nat) (w' : World) (base : Nat) (e : Ending) : Prop where mk ::
  out : ∃ (A0 : Option Addr) (c0 : Nat) (A1 : Option Addr) (c1 : Nat) (l : List (List Int)) (pv : List Int) (t cc : Nat), e = .returned (.agg #[.int .i64 K.P, .int .i64 (K.m : Int), .slice A0 K.Mod.length c0, .int .i64 n, .slice A1 t c1]) ∧ Own w' base (.slice A0 K.Mod.length c0) K.Mod ∧ OA w' base A1 (l.take t) ∧ (l.take t).length = t ∧ t ≤ c1 ∧ t ≤ rows.length ∧ Reach K.D rows cc t l pv ∧ cc ≤ n ∧ (cc = n ∨ t = rows.length)
theorem rField {w : World} {A : Option Addr} {c : Nat} (K : FD) (hC : Kd.C (Kd.int .i64) w A K.Mod.length K.Mod) (hc : K.Mod.length ≤ c) :
    Calls Try.prog 115 #[.agg #[.int .i64 K.P, .int .i64 (K.m : Int), .slice A K.Mod.length c]] w fun e w' => ∃ v, e = .returned (.agg #[.int .i64 K.P, .int .i64 (K.m : Int), v]) ∧ Own w' w.heap.size v K.Mod ∧ Below w.heap.size w w' := by
  refine (codewrightref12_Field.calls K.P (K.m : Int) A c K.Mod K.P (K.m : Int) K.Mod w hC hc ?_).mono ?_
  · unfold codewrightref12_Field.f
    have hml : K.Mod.length ≤ 8 := by
      by_cases h : K.m = 1
      · rw [K.one h]; exact Nat.zero_le _
      · rw [K.len (by have := K.m1; omega)]; exact K.m8
    show (if ([] : List Int).length + K.Mod.length < 17592186044416 then some (K.P, (K.m : Int), [] ++ K.Mod) else none) = _
    rw [if_pos (by rw [List.length_nil]; omega)]
    rfl
  · rintro e w' ⟨v, rfl, h1, h2⟩
    exact ⟨v, rfl, ⟨h1⟩, h2⟩

set_option maxHeartbeats 8000000 in
set_option maxRecDepth 100000 in
theorem rMake {w : World} {A B : Option Addr} {c d n : Nat} (K : FD) (hC : Kd.C (Kd.int .i64) w A K.Mod.length K.Mod) (hc : K.Mod.length ≤ c) {ls : List (List Int)} (hl : Kd.C (Kd.slice 3 (Kd.int .i64)) w B ls.length ls) (h1 : ls.length ≤ 1000) (hn : n ≤ 1000) (hs : Shp K.D n ls) :
    Calls Try.prog 75 #[.agg #[.int .i64 K.P, .int .i64 (K.m : Int), .slice A K.Mod.length c], .slice B ls.length d, .int .i64 n] w fun e w' => MakeOut K ls n w' w.heap.size e ∧ Below w.heap.size w w' := by
  have hF0 := FAt.new w K.P (K.m : Int) A K.Mod.length c
  obtain ⟨w0, hw0⟩ : ∃ w0, w.alloc (.cells #[.int .i64 K.P, .int .i64 (K.m : Int), .slice A K.Mod.length c] 27) = w0 := ⟨_, rfl⟩
  have hB0 : Below w.heap.size w w0 := by rw [← hw0]; exact below_alloc (Below.refl _ _) _
  rw [hw0] at hF0
  obtain ⟨w1, hw1⟩ : ∃ w1, w0.alloc (.cells #[.int .i64 0, .int .i64 0, .slice none 0 0, .int .i64 0, .slice none 0 0] 63) = w1 := ⟨_, rfl⟩
  have hB1 : Below w0.heap.size w0 w1 := by rw [← hw1]; exact below_alloc (Below.refl _ _) _
  have hz0 : w0.heap.size = w.heap.size + 1 := by rw [← hw0]; simp
  have hz : w1.heap[w0.heap.size]? = some (.cells #[.int .i64 0, .int .i64 0, .slice none 0 0, .int .i64 0, .slice none 0 0] 63 (0, 0)) := by rw [← hw1]; exact blk_new _ _
  rw [hz0] at hz
  have HB1 := Aside0.mk (below_later hB0 hB0.size hB1)
  have HF := Aside0.mk (hF0.below hB1)
  have HZ := Aside0.mk hz
  have HW0 := Aside0.mk hw0
  have HW1 := Aside0.mk hw1
  have HZs := Aside0.mk hB0.size
  have HMod := Aside0.mk (Kd.C_below hC HB1.out)
  have HCa := Aside0.mk (rCanon (c := c) (d := d) K HMod.out (Kd.C_below hl HB1.out) h1 hn hs)
  have HFi := Aside0.mk (fun (w2 : World) (hb : Below w1.heap.size w1 w2) => rField (c := c) K (Kd.C_below HMod.out hb) hc)
  have HMk := Aside0.mk (fun (w' : World) (base : Nat) (e : Ending) (h : _) => (MakeOut.mk h : MakeOut K ls n w' base e))
  obtain ⟨cP, cM, cD⟩ := HF.out
  clear hF0 hB0 hw0 hw1 hB1 hz hz0 hC hl hs
  go_enter Try.func75, Try.ntmps75
  go_upto_region 1 with (fail)
  rw [HW0.out, HW1.out]
  go_wp2_with (first
    | (go_at_call 114; (with_reducible refine Calls.mono HCa.out ?_); rintro e w2 ⟨hO, hB⟩; obtain ⟨A1, c1, l, v2, pv, t, cc, rfl, ho, hlt, hc1, htN, hr, hcn, hend⟩ := hO.out; have HO2 := Aside0.mk ho; have HR := Aside0.mk hr; have HEnd := Aside0.mk hend; have Hlt := Aside0.mk hlt; have HB2 := Aside0.mk hB; obtain ⟨cP2, cM2, cD2⟩ := HF.out.below hB; have HZ2 := Aside0.mk (blk_below HZ.out hB); clear hO hB ho hr hend hlt)
    | (go_at_call 115; (with_reducible refine Calls.mono (HFi.out _ HB2.out) ?_); rintro e w3 ⟨v3, rfl, hO, hB⟩; obtain ⟨A0, c0, rfl, -, hC0⟩ := hO.slice; have HOw := Aside0.mk hO; have HO3 := Aside0.mk (HO2.out.below hB); have HB3 := Aside0.mk (below_later HB2.out HB2.out.size hB); have HZ3 := Aside0.mk (blk_below HZ2.out hB); have z0 := blk_cell HZ3.out 0; have z1 := blk_cell HZ3.out 1; have z2 := blk_cell HZ3.out 2; have z3 := blk_cell HZ3.out 3; have z4 := blk_cell HZ3.out 4; have f0 := blk_frozen HZ3.out 0; have f1 := blk_frozen HZ3.out 1; have f2 := blk_frozen HZ3.out 2; have f3 := blk_frozen HZ3.out 3; have f4 := blk_frozen HZ3.out 4; simp at z0 z1 z2 z3 z4; clear hO hB hC0))
  have hb := blk_set (blk_set (blk_set (blk_set (blk_set HZ3.out 0 (.int .i64 K.P)) 1 (.int .i64 (K.m : Int))) 2 (.slice A0 K.Mod.length c0)) 3 (.int .i64 n)) 4 (.slice A1 t c1)
  refine bodyPost_ret (results_cell_row rfl _ _ _ _ _ _ _ rfl hb Try.underlying63 rfl (by kernel_rfl)) rfl ?_
  have hlt : w.heap.size + 1 < w1.heap.size := blk_lt HZ.out
  have hlt2 : w.heap.size + 1 < w2.heap.size := by have := HB2.out.size; omega
  have hOw := ((((HOw.out.far (p := ⟨w.heap.size + 1, 0, none⟩) hlt2 (.int .i64 K.P)).far (p := ⟨w.heap.size + 1, 1, none⟩) hlt2 (.int .i64 (K.m : Int))).far (p := ⟨w.heap.size + 1, 2, none⟩) hlt2 (.slice A0 K.Mod.length c0)).far (p := ⟨w.heap.size + 1, 3, none⟩) hlt2 (.int .i64 n)).far (p := ⟨w.heap.size + 1, 4, none⟩) hlt2 (.slice A1 t c1)
  have hOA := ((((HO3.out.older (k := 0) hlt (.int .i64 K.P)).older (k := 1) hlt (.int .i64 (K.m : Int))).older (k := 2) hlt (.slice A0 K.Mod.length c0)).older (k := 3) hlt (.int .i64 n)).older (k := 4) hlt (.slice A1 t c1)
  have hle : w.heap.size ≤ w.heap.size + 1 := Nat.le_succ _
  have hBe := (((((below_later HB1.out HB1.out.size HB3.out).setCell (p := ⟨w.heap.size + 1, 0, none⟩) hle (.int .i64 K.P)).setCell (p := ⟨w.heap.size + 1, 1, none⟩) hle (.int .i64 (K.m : Int))).setCell (p := ⟨w.heap.size + 1, 2, none⟩) hle (.slice A0 K.Mod.length c0)).setCell (p := ⟨w.heap.size + 1, 3, none⟩) hle (.int .i64 n)).setCell (p := ⟨w.heap.size + 1, 4, none⟩) hle (.slice A1 t c1)
  exact ⟨⟨A0, c0, A1, c1, l, pv, t, cc, rfl, hOw.lower (by omega), hOA.lower HB1.out.size, Hlt.out, hc1, htN, HR.out, hcn, HEnd.out⟩, hBe⟩
end Go.Proofs.Yticgblagimmlfaa
end
section
/- The rows of a Reed-Solomon code and its words. -/
namespace Go.Proofs.Yticgblagimmlfaa
open CW CW.PS RE
set_option linter.unusedVariables false
set_option linter.unusedSimpArgs false

def rowsZ (D : GFD) (pts mults : List Int) (k : Nat) : List (List Int) := (List.range k).map fun i => encZ D pts mults (powZ i)
theorem rowsZ_length (D : GFD) (pts mults : List Int) (k : Nat) : (rowsZ D pts mults k).length = k := by simp [rowsZ]
theorem rowsZ_getD (D : GFD) (pts mults : List Int) (k i : Nat) (h : i < k) : (rowsZ D pts mults k).getD i [] = encZ D pts mults (powZ i) := by
  unfold rowsZ
  rw [List.getD_eq_getElem?_getD, List.getElem?_map, List.getElem?_range h]
  rfl
namespace FD
variable (K : FD)
theorem shp_rows (pts mults : List Int) (k : Nat) (h : mults.length = pts.length) : Shp K.D pts.length (rowsZ K.D pts mults k) := by
  intro r hr
  obtain ⟨i, _, rfl⟩ := List.mem_map.1 hr
  exact ⟨encZ_len K.D pts mults _ h, fun j => K.is_encZ _ _ _ _⟩
theorem toP_powZ (i : Nat) : K.toP (powZ i) = C (K.el 1) * mon i := by
  unfold powZ
  rw [K.toP_set _ _ _ (by simp) (by rw [List.getD_eq_getElem?_getD, List.getElem?_replicate, if_pos (by omega)]; rfl), K.toP_replicate, zero_add]
theorem vec_encZ (pts mults m : List Int) (h : mults.length = pts.length) (j : Nat) : K.vec (encZ K.D pts mults m) j = if j < pts.length then K.el (mults.getD j 0) * pv (K.toP m) (K.el (pts.getD j 0)) else 0 := by
  split
  · rename_i hj
    exact K.el_encZ _ _ _ _ hj (by omega)
  · rename_i hj
    show K.el _ = 0
    rw [getD_ge (by rw [encZ_len K.D pts mults m h]; omega), K.el_zero]
/-- A word lies in the row space just if it is a codeword. -/
theorem rows_span (pts mults w : List Int) (k : Nat) (h : mults.length = pts.length) (hw : w.length = pts.length ∧ ∀ j, K.D.is (w.getD j 0) = true) :
    (∀ P, K.Lin P → K.AllP P (rowsZ K.D pts mults k) → P (K.vec w)) ↔ ∃ m : List Int, m.length = k ∧ m.all K.D.is = true ∧ encZ K.D pts mults m = w := by
  constructor
  · intro hP
    have hlin : K.Lin (fun x => ∃ q : PS K.E, Dg q k ∧ ∀ j, x j = if j < pts.length then K.el (mults.getD j 0) * pv q (K.el (pts.getD j 0)) else 0) := by
      refine ⟨⟨0, Dg.zero k, fun j => ?_⟩, ?_⟩
      · split
        · rw [pv_zero, mul_zero]
        · rfl
      · rintro v u a ⟨q1, d1, e1⟩ ⟨q2, d2, e2⟩
        refine ⟨q1 + C a * q2, d1.add (d2.C_mul a), fun j => ?_⟩
        show v j + a * u j = _
        rw [e1, e2]
        split
        · rw [pv_add d1 (d2.C_mul a), pv_C_mul d2]
          exact ring_id [K.el (mults.getD j 0), pv q1 (K.el (pts.getD j 0)), a, pv q2 (K.el (pts.getD j 0))] (x0 * x1 + x2 * (x0 * x3)) (x0 * (x1 + x2 * x3)) rfl
        · rw [mul_zero, add_zero]
    obtain ⟨q, dq, hq⟩ := hP _ hlin (fun i hi => by
      rw [rowsZ_length] at hi
      rw [rowsZ_getD _ _ _ _ _ hi]
      exact ⟨K.toP (powZ i), by rw [K.toP_powZ]; exact ((Dg.mon i).C_mul _).mono (by omega), fun j => K.vec_encZ _ _ _ h j⟩)
    refine ⟨(List.range k).map fun i => (q i).1, by simp, ?_, ?_⟩
    · rw [List.all_eq_true]
      intro x hx
      obtain ⟨i, _, rfl⟩ := List.mem_map.1 hx
      exact K.is_val _
    · have htp : K.toP ((List.range k).map fun i => (q i).1) = q := by
        funext i
        show K.el _ = _
        rw [List.getD_eq_getElem?_getD, List.getElem?_map]
        by_cases hi : i < k
        · rw [List.getElem?_range hi]
          exact K.el_val (q i)
        · rw [List.getElem?_eq_none (by simp; omega), dq i (by omega)]
          exact K.el_zero
      refine List.ext_getElem (by rw [encZ_len K.D _ _ _ h, hw.1]) fun j h1 h2 => ?_
      have e1 : (encZ K.D pts mults ((List.range k).map fun i => (q i).1))[j] = (encZ K.D pts mults ((List.range k).map fun i => (q i).1)).getD j 0 := by rw [List.getD_eq_getElem?_getD, List.getElem?_eq_getElem h1]; rfl
      have e2 : w[j] = w.getD j 0 := by rw [List.getD_eq_getElem?_getD, List.getElem?_eq_getElem h2]; rfl
      rw [e1, e2]
      refine K.el_inj (K.is_encZ _ _ _ _) (hw.2 j) ?_
      have := K.vec_encZ pts mults ((List.range k).map fun i => (q i).1) h j
      rw [htp, ← hq j] at this
      exact this
  · rintro ⟨m, hm, hma, rfl⟩ P hP hA
    have key : ∀ i, i ≤ m.length → P (fun j => if j < pts.length then K.el (mults.getD j 0) * pv (K.toP (m.take i)) (K.el (pts.getD j 0)) else 0) := by
      intro i
      induction i with
      | zero =>
        intro _
        have := hP.zero
        rwa [show (fun j : Nat => if j < pts.length then K.el (mults.getD j 0) * pv (K.toP (m.take 0)) (K.el (pts.getD j 0)) else 0) = (fun _ => (0 : K.E)) from by
          funext j
          split
          · rw [List.take_zero, K.toP_nil, pv_zero, mul_zero]
          · rfl]
      | succ i ih =>
        intro hi
        have hr := hA i (by rw [rowsZ_length]; omega)
        rw [rowsZ_getD _ _ _ _ _ (by omega)] at hr
        have := hP.add _ _ (K.el (m.getD i 0)) (ih (by omega)) hr
        rwa [show (fun j => (if j < pts.length then K.el (mults.getD j 0) * pv (K.toP (m.take i)) (K.el (pts.getD j 0)) else 0) + K.el (m.getD i 0) * K.vec (encZ K.D pts mults (powZ i)) j) = (fun j : Nat => if j < pts.length then K.el (mults.getD j 0) * pv (K.toP (m.take (i + 1))) (K.el (pts.getD j 0)) else 0) from by
          funext j
          rw [K.vec_encZ _ _ _ h]
          split
          · rw [K.toP_take_succ, K.toP_powZ, pv_add (K.Dg_toP _) ((Dg.mon i).C_mul _), pv_C_mul (Dg.mon i), pv_C_mul (Dg.mon i), K.el_one]
            exact ring_id [K.el (mults.getD j 0), pv (K.toP (m.take i)) (K.el (pts.getD j 0)), K.el (m.getD i 0), pv (mon i) (K.el (pts.getD j 0))] (x0 * x1 + x2 * (x0 * (1 * x3))) (x0 * (x1 + x2 * x3)) rfl
          · rw [mul_zero, add_zero]] at this
    have h1 := key m.length (Nat.le_refl _)
    rw [List.take_length] at h1
    rwa [show K.vec (encZ K.D pts mults m) = (fun j : Nat => if j < pts.length then K.el (mults.getD j 0) * pv (K.toP m) (K.el (pts.getD j 0)) else 0) from by funext j; exact K.vec_encZ _ _ _ h j]
/-- What Has answers. -/
theorem has_iff (pts mults w : List Int) (k : Nat) (h : mults.length = pts.length) (hw : w.length = pts.length ∧ ∀ j, K.D.is (w.getD j 0) = true) {c t : Nat} {l : List (List Int)} {pv : List Int} (hr : Reach K.D (rowsZ K.D pts mults k) c t l pv) {p : Nat → Nat} (hG : K.RRE pts.length (l.take t) p) (hlt : (l.take t).length = t)
    (hz : ∀ j, t ≤ j → j < l.length → ∀ q, (l.getD j []).getD q 0 = 0) : inZ K.D (l.take t) p w = true ↔ ∃ m : List Int, m.length = k ∧ m.all K.D.is = true ∧ encZ K.D pts mults m = w := by
  rw [K.inZ_span hG hw, ← K.rows_span pts mults w k h hw]
  have hs := K.shp_rows pts mults k h
  have hf := Reach.facts hs hr
  have hgd : ∀ i, i < t → (l.take t).getD i [] = l.getD i [] := fun i hi => by rw [List.getD_eq_getElem?_getD, List.getElem?_take_of_lt hi, ← List.getD_eq_getElem?_getD]
  constructor
  · intro h1 P hP hA
    refine h1 P hP fun i hi => ?_
    rw [hlt] at hi
    rw [hgd i hi]
    exact Reach.fwd K hP hs hA hr i (by omega)
  · intro h1 P hP hA
    refine h1 P hP (Reach.bwd K hP hs hr fun i hi => ?_)
    by_cases hit : i < t
    · have := hA i (by omega)
      rwa [hgd i hit] at this
    · have := hP.zero
      rwa [show K.vec (l.getD i []) = fun _ => 0 from by
        funext j
        show K.el _ = 0
        rw [hz i (by omega) hi j, K.el_zero]]
end FD
end Go.Proofs.Yticgblagimmlfaa
end
section
/- The reference: Rows. -/
namespace Go.Proofs.Yticgblagimmlfaa
open Go.RowKit Go.Proofs.YticgblagimmlfaaW.PrintWords Go.Proofs.YticgblagimmlfaaW.PrintLast Go.Proofs.YticgblagimmlfaaW.PrintMore
set_option linter.unusedVariables false
set_option linter.unusedSimpArgs false

set_option maxHeartbeats 8000000 in
set_option maxRecDepth 100000 in
theorem rRows {w : World} {v : Value} {s : GD} (h : GArg w v s) (K : FD) (hK : s.over K) (hml : s.mults.length = s.pts.length) (hpl : s.pts.length ≤ 1000) (kn : Nat) (hk : s.K = kn) (hkn : kn ≤ 1000) :
    Calls Try.prog 26 #[v] w fun e w' => ∃ u, e = .returned u ∧ NR w' w.heap.size u (rowsZ K.D s.pts s.mults kn) ∧ Below w.heap.size w w' := by
  obtain ⟨A1, c1, A2, c2, A3, c3, rfl, g1, l1, g2, l2, g3, l3⟩ := h.out
  have hS0 := SAt.new w s A1 c1 A2 c2 A3 c3
  obtain ⟨w0, hw0⟩ : ∃ w0, w.alloc (.cells #[.int .i64 s.P, .int .i64 s.M, .slice A1 s.Mod.length c1, .int .i64 s.K, .slice A2 s.pts.length c2, .slice A3 s.mults.length c3] 29) = w0 := ⟨_, rfl⟩
  have hB0 : Below w.heap.size w w0 := by rw [← hw0]; exact below_alloc (Below.refl _ _) _
  rw [hw0] at hS0
  have HB0 := Aside0.mk hB0
  have HW := Aside0.mk hw0
  have HS := Aside0.mk hS0
  have HG := Aside0.mk (h.below hB0)
  have HPo := Aside0.mk (fun (w2 : World) (k : Nat) (hk : k ≤ 1000) => rPower (w := w2) k hk)
  have HWo := Aside0.mk (fun (w2 : World) (hb : Below w0.heap.size w0 w2) (B : Option Addr) (d : Nat) (m : List Int) (hm : Kd.C (Kd.int .i64) w2 B m.length m) => rWord (d := d) (HG.out.below hb) K hK hml hpl hm)
  obtain ⟨f, hf⟩ : ∃ f, rowsZ K.D s.pts s.mults = f := ⟨_, rfl⟩
  have HF : Aside0 (∀ k, f (k + 1) = f k ++ [encZ K.D s.pts s.mults (powZ k)]) := ⟨fun k => by rw [← hf]; simp [rowsZ, List.range_succ]⟩
  have HFl : Aside0 (∀ k, (f k).length = k) := ⟨fun k => by rw [← hf]; exact rowsZ_length _ _ _ _⟩
  have H0 : Aside0 (NR w0 w0.heap.size (.slice none 0 0) (f 0)) := ⟨by rw [← hf]; exact NR.nil _ _⟩
  have HBz := Aside0.mk (Below.refl w0.heap.size w0)
  rw [hf]
  have HK := Aside0.mk hk
  simp only [hk] at HWo
  clear h g1 g2 g3 hS0 hB0 hw0 hf hK hk hml hpl
  go_enter Try.func26, Try.ntmps26
  go_upto_region 1 with (fail)
  rw [HW.out]
  go_wp2
  go_loopw [3, 4] (fun v3 v4 w' => ∃ k : Nat, v4 = .int .i64 k ∧ k ≤ kn ∧ Aside0 (NR w' w0.heap.size v3 (f k)) ∧ Aside0 (Below w0.heap.size w0 w')) (fun _ v4 _ => kn - (intOf v4).toNat)
  case atStart => exact ⟨0, rfl, by omega, H0, HBz⟩
  case round =>
    clear H0 HBz
    obtain ⟨k, rfl, hkk, HO, HB⟩ := hrel
    obtain ⟨cP, cM, cMod, cK, cPts, cMul⟩ := HS.out.below HB.out
    rw [HK.out] at cK
    obtain ⟨A3', c3', e3, -, -⟩ := HO.out.slice
    rw [HFl.out] at e3
    subst e3
    by_cases hlk : k < kn
    · have ik : (k : Int) < (kn : Int) := by omega
      have HFk := Aside0.mk (HF.out k)
      have hkl := HPo.out
      have HPk := Aside0.mk (fun (w2 : World) => HPo.out w2 k (by omega))
      clear hkl
      go_upto_region 5 with (fail)
      go_region_held3 (fun w' => w'.cell? ⟨w.heap.size, 0, none⟩ = some (.int .i64 s.P) ∧ w'.cell? ⟨w.heap.size, 1, none⟩ = some (.int .i64 s.M) ∧ w'.cell? ⟨w.heap.size, 2, none⟩ = some (.slice A1 s.Mod.length c1) ∧ w'.cell? ⟨w.heap.size, 3, none⟩ = some (.int .i64 kn) ∧ w'.cell? ⟨w.heap.size, 4, none⟩ = some (.slice A2 s.pts.length c2) ∧ w'.cell? ⟨w.heap.size, 5, none⟩ = some (.slice A3 s.mults.length c3)) (first | exact ⟨‹_›, ‹_›, ‹_›, ‹_›, ‹_›, ‹_›⟩ | go_keep) (first
        | (go_at_call 52; refine Calls.mono (HPk.out _) ?_; rintro e w4 ⟨v4, rfl, hO, hB⟩; obtain ⟨Ap, cp, rfl, -, hCp⟩ := hO.slice; have HCp := Aside0.mk hCp; have HB4 : Aside0 (Below wr.heap.size wr w4) := ⟨below_step (below_drew1 (Below.refl _ _)) hB⟩; obtain ⟨cP4, cM4, cMod4, cK4, cPts4, cMul4⟩ := HS.out.below (below_later HB.out HB.out.size HB4.out); rw [HK.out] at cK4; clear hO hB hCp)
        | (go_at_call 21; (with_reducible refine Calls.mono (HWo.out _ (below_later HB.out HB.out.size HB4.out) _ _ _ HCp.out) ?_); rintro e w5 ⟨v5, rfl, hO, hB⟩; obtain ⟨Aw, cw, rfl, -, -⟩ := hO.slice; have HO5 := Aside0.mk hO; have HB4s := Aside0.mk HB4.out.size; have HB5 : Aside0 (Below wr.heap.size wr w5) := ⟨below_later HB4.out HB4.out.size hB⟩; obtain ⟨cP5, cM5, cMod5, cK5, cPts5, cMul5⟩ := HS.out.below (below_later HB.out HB.out.size HB5.out); rw [HK.out] at cK5; clear hO hB)
        | (refine append_row_step (w0 := w0) (W := w5) (base := w0.heap.size) (by rfl) (.tmp 11) (.tmp 16) rfl rfl rfl (HO.out.below HB5.out) HO5.out (Nat.le_trans HB.out.size HB4s.out) (Nat.le_trans HB.out.size HB5.out.size) (below_later HB.out HB.out.size HB5.out) (by rw [HFl.out]; omega) ?_; intro v6 w6 h6 hb6; rw [← HFk.out] at h6; have HO6 := Aside0.mk h6; have HB6 := Aside0.mk hb6; obtain ⟨cP6, cM6, cMod6, cK6, cPts6, cMul6⟩ := HS.out.below hb6; rw [HK.out] at cK6; clear h6 hb6))
      go_wp2_with (fail)
      go_roundw
      case rel => exact ⟨k + 1, by go_num, by omega, HO6, HB6⟩
      case measure => simp [intOf]; omega
    · obtain rfl : k = kn := by omega
      go_wp2
      go_ret
      exact ⟨_, rfl, HO.out.lower HB0.out.size, below_later HB0.out HB0.out.size HB.out⟩
end Go.Proofs.Yticgblagimmlfaa
end
section
/- The reference: Code. -/
namespace Go.Proofs.Yticgblagimmlfaa
open Go.RowKit Go.Proofs.YticgblagimmlfaaW.PrintWords Go.Proofs.YticgblagimmlfaaW.PrintLast Go.Proofs.YticgblagimmlfaaW.PrintMore
set_option linter.unusedVariables false
set_option linter.unusedSimpArgs false

set_option maxHeartbeats 8000000 in
set_option maxRecDepth 100000 in
theorem rCode {w : World} {v : Value} {s : GD} (h : GArg w v s) (K : FD) (hK : s.over K) (hml : s.mults.length = s.pts.length) (hpl : s.pts.length ≤ 1000) (kn : Nat) (hk : s.K = kn) (hkn : kn ≤ 1000) :
    Calls Try.prog 45 #[v] w fun e w' => MakeOut K (rowsZ K.D s.pts s.mults kn) s.pts.length w' w.heap.size e ∧ Below w.heap.size w w' := by
  obtain ⟨A1, c1, A2, c2, A3, c3, rfl, g1, l1, g2, l2, g3, l3⟩ := h.out
  have hS0 := SAt.new w s A1 c1 A2 c2 A3 c3
  obtain ⟨w0, hw0⟩ : ∃ w0, w.alloc (.cells #[.int .i64 s.P, .int .i64 s.M, .slice A1 s.Mod.length c1, .int .i64 s.K, .slice A2 s.pts.length c2, .slice A3 s.mults.length c3] 29) = w0 := ⟨_, rfl⟩
  have hB0 : Below w.heap.size w w0 := by rw [← hw0]; exact below_alloc (Below.refl _ _) _
  rw [hw0] at hS0
  obtain ⟨w1, hw1⟩ : ∃ w1, w0.alloc (.cells #[.int .i64 0, .int .i64 0, .slice none 0 0, .int .i64 0, .slice none 0 0] 63) = w1 := ⟨_, rfl⟩
  have hB1 : Below w0.heap.size w0 w1 := by rw [← hw1]; exact below_alloc (Below.refl _ _) _
  have hz0 : w0.heap.size = w.heap.size + 1 := by rw [← hw0]; simp
  have hz : w1.heap[w0.heap.size]? = some (.cells #[.int .i64 0, .int .i64 0, .slice none 0 0, .int .i64 0, .slice none 0 0] 63 (0, 0)) := by rw [← hw1]; exact blk_new _ _
  rw [hz0] at hz
  have HB1 := Aside0.mk (below_later hB0 hB0.size hB1)
  have HS := Aside0.mk (hS0.below hB1)
  have HZ := Aside0.mk hz
  have HW0 := Aside0.mk hw0
  have HW1 := Aside0.mk hw1
  have HRo := Aside0.mk (fun (w2 : World) (hb : Below w1.heap.size w1 w2) => rRows ((h.below HB1.out).below hb) K hK hml hpl kn hk hkn)
  have HMod := Aside0.mk (Kd.C_below g1 HB1.out)
  obtain ⟨hP, hM, hMo⟩ := hK
  have hsh := K.shp_rows s.pts s.mults kn hml
  have hrl := rowsZ_length K.D s.pts s.mults kn
  obtain ⟨rows, hrows⟩ : ∃ r, rowsZ K.D s.pts s.mults kn = r := ⟨_, rfl⟩
  rw [hrows] at HRo hsh hrl ⊢
  have HMa : Aside0 (∀ (w2 : World) (B : Option Addr) (d : Nat), Below w1.heap.size w1 w2 → Kd.C (Kd.slice 3 (Kd.int .i64)) w2 B rows.length rows → Calls Try.prog 75 #[.agg #[.int .i64 s.P, .int .i64 s.M, .slice A1 s.Mod.length c1], .slice B rows.length d, .int .i64 s.pts.length] w2 fun e w' => MakeOut K rows s.pts.length w' w2.heap.size e ∧ Below w2.heap.size w2 w') := ⟨fun w2 B d hb hC => by
    rw [← hP, ← hM, ← hMo]
    exact rMake (c := c1) (d := d) K (by rw [hMo]; exact Kd.C_below HMod.out hb) (by rw [hMo]; exact l1) hC (by omega) hpl hsh⟩
  have hcells := HS.out
  obtain ⟨cP, cM, cMod, cK, cPts, cMul⟩ := hcells
  clear h g1 g2 g3 hS0 hB0 hB1 hw0 hw1 hz hz0 hk hml hpl hP hM hMo hsh hrl hrows
  go_enter Try.func45, Try.ntmps45
  go_upto_region 1 with (fail)
  rw [HW0.out, HW1.out]
  have n1 : w.heap.size + 1 ≠ w.heap.size := by omega
  refine wp_region_last (S := fun w' => w'.cell? ⟨w.heap.size, 0, none⟩ = some (.int .i64 s.P) ∧ w'.cell? ⟨w.heap.size, 1, none⟩ = some (.int .i64 s.M) ∧ w'.cell? ⟨w.heap.size, 2, none⟩ = some (.slice A1 s.Mod.length c1) ∧ w'.cell? ⟨w.heap.size, 3, none⟩ = some (.int .i64 s.K) ∧ w'.cell? ⟨w.heap.size, 4, none⟩ = some (.slice A2 s.pts.length c2) ∧ w'.cell? ⟨w.heap.size, 5, none⟩ = some (.slice A3 s.mults.length c3)) (L := 8) (by kernel_rfl) ⟨cP, cM, cMod, cK, cPts, cMul⟩ (fun hHeld => ?_)
  refine wpAnyZ_pure 0 (v := ?_) rfl (by kernel_rfl) (by kernel_rfl) (by kernel_rfl) (by decide) (fun _ _ _ h => h) (by rfl) ?_ (fun _ => by assumption) ?_
  rotate_left
  focus (intro wq; go_simp; try (with_reducible rfl))
  try simp only [Act.put, List.setIfInBounds_toArray, List.set_cons_zero, List.set_cons_succ]
  refine wpAnyZ_load 1 (v := ?_) rfl (by kernel_rfl) (by kernel_rfl) (by kernel_rfl) (by kernel_rfl) (by kernel_rfl) (fun _ _ _ h => h) (by rfl) ?_ (by assumption) ?_
  rotate_left
  focus (intro wq hq; (try dsimp only at hq); go_split_ands; go_simp; try (with_reducible rfl))
  try simp only [Act.put, List.setIfInBounds_toArray, List.set_cons_zero, List.set_cons_succ]
  refine wpAnyZ_load 2 (v := ?_) rfl (by kernel_rfl) (by kernel_rfl) (by kernel_rfl) (by kernel_rfl) (by kernel_rfl) (fun _ _ _ h => h) (by rfl) ?_ (by assumption) ?_
  rotate_left
  focus (intro wq hq; (try dsimp only at hq); go_split_ands; go_simp; try (with_reducible rfl))
  try simp only [Act.put, List.setIfInBounds_toArray, List.set_cons_zero, List.set_cons_succ]
  refine wpAnyZ_pure 4 (v := ?_) rfl (by kernel_rfl) (by kernel_rfl) (by kernel_rfl) (by decide) (fun _ _ _ h => h) (by rfl) ?_ (fun _ => by assumption) ?_
  rotate_left
  focus (intro wq; go_simp; try (with_reducible rfl))
  try simp only [Act.put, List.setIfInBounds_toArray, List.set_cons_zero, List.set_cons_succ]
  refine wpAnyZ_load 5 (v := ?_) rfl (by kernel_rfl) (by kernel_rfl) (by kernel_rfl) (by kernel_rfl) (by kernel_rfl) (fun _ _ _ h => h) (by rfl) ?_ (by assumption) ?_
  rotate_left
  focus (intro wq hq; (try dsimp only at hq); go_split_ands; go_simp; try (with_reducible rfl))
  try simp only [Act.put, List.setIfInBounds_toArray, List.set_cons_zero, List.set_cons_succ]
  refine wpAnyZ_pure 6 (v := ?_) rfl (by kernel_rfl) (by kernel_rfl) (by kernel_rfl) (by decide) (fun _ _ _ h => h) (by rfl) ?_ (fun _ => by assumption) ?_
  rotate_left
  focus (intro wq; go_simp; try (with_reducible rfl))
  try simp only [Act.put, List.setIfInBounds_toArray, List.set_cons_zero, List.set_cons_succ]
  refine wpAnyZ_one 3 rfl (by kernel_rfl) (fun K' hK => ?_)
  go_simp
  go_at_call 26; refine Calls.mono (HRo.out _ (below_drew1 (Below.refl _ _))) ?_; rintro e w4 ⟨u, rfl, hO, hB⟩; obtain ⟨AR, cR, rfl, -, hCR⟩ := hO.slice; have HCR := Aside0.mk hCR; have HB4 : Aside0 (Below w1.heap.size w1 w4) := ⟨below_step (below_drew1 (Below.refl _ _)) hB⟩; have cP4 := pw_cell_below HB4.out cP; have cM4 := pw_cell_below HB4.out cM; have cMod4 := pw_cell_below HB4.out cMod; have cK4 := pw_cell_below HB4.out cK; have cPts4 := pw_cell_below HB4.out cPts; have cMul4 := pw_cell_below HB4.out cMul; clear hO hB hCR
  refine hK.out _ _ (fun _ => ⟨cP4, cM4, cMod4, cK4, cPts4, cMul4⟩) ?_
  clear hK K'
  try simp only [Act.put, List.setIfInBounds_toArray, List.set_cons_zero, List.set_cons_succ]
  refine wpAnyZ_one 7 rfl (by kernel_rfl) (fun K' hK => ?_)
  go_simp
  go_at_call 75; (with_reducible refine Calls.mono (HMa.out _ _ _ HB4.out HCR.out) ?_); rintro e w5 ⟨hO, hB⟩; obtain ⟨A0, c0, AG, cG, l, pv, t, cc, rfl, ho0, ho1, ho2, ho3, ho4, ho5, ho6, ho7⟩ := hO.out; have HB4s := Aside0.mk HB4.out.size; have HB5 : Aside0 (Below w1.heap.size w1 w5) := ⟨below_later HB4.out HB4.out.size hB⟩; have HQ0 := Aside0.mk ho0; have HQ1 := Aside0.mk ho1; have HQ2 := Aside0.mk ho2; have HQ5 := Aside0.mk ho5; have HQ7 := Aside0.mk ho7; have cP5 := pw_cell_below HB5.out cP; have cM5 := pw_cell_below HB5.out cM; have cMod5 := pw_cell_below HB5.out cMod; have cK5 := pw_cell_below HB5.out cK; have cPts5 := pw_cell_below HB5.out cPts; have cMul5 := pw_cell_below HB5.out cMul; have HZ5 := Aside0.mk (blk_below HZ.out HB5.out); have z0 := blk_cell HZ5.out 0; have z1 := blk_cell HZ5.out 1; have z2 := blk_cell HZ5.out 2; have z3 := blk_cell HZ5.out 3; have z4 := blk_cell HZ5.out 4; have f0 := blk_frozen HZ5.out 0; have f1 := blk_frozen HZ5.out 1; have f2 := blk_frozen HZ5.out 2; have f3 := blk_frozen HZ5.out 3; have f4 := blk_frozen HZ5.out 4; simp at z0 z1 z2 z3 z4; clear hO hB ho0 ho1 ho2 ho5 ho7
  refine hK.out _ _ (fun _ => ⟨cP5, cM5, cMod5, cK5, cPts5, cMul5⟩) ?_
  clear hK K'
  try simp only [Act.put, List.setIfInBounds_toArray, List.set_cons_zero, List.set_cons_succ]
  refine wpAnyZ_one 8 rfl (by kernel_rfl) (fun K' hK => ?_)
  go_simp
  refine hK.out _ _ (unlistedZ (by kernel_rfl)) ?_
  clear hK K'
  try simp only [Act.put, List.setIfInBounds_toArray, List.set_cons_zero, List.set_cons_succ]
  refine wpAnyZ_done (by kernel_rfl) ?_ _
  go_wp2_with (fail)
  have hlt : w.heap.size + 1 < w1.heap.size := blk_lt HZ.out
  have hlt4 : w.heap.size + 1 < w4.heap.size := by have := HB4.out.size; omega
  have hb := blk_set (blk_set (blk_set (blk_set (blk_set HZ5.out 0 (.int .i64 K.P)) 1 (.int .i64 (K.m : Int))) 2 (.slice A0 K.Mod.length c0)) 3 (.int .i64 s.pts.length)) 4 (.slice AG t cG)
  refine bodyPost_ret (results_cell_row rfl _ _ _ _ _ _ _ rfl hb Try.underlying63 rfl (by kernel_rfl)) rfl ?_
  have hOw := ((((HQ0.out.far (p := ⟨w.heap.size + 1, 0, none⟩) hlt4 (.int .i64 K.P)).far (p := ⟨w.heap.size + 1, 1, none⟩) hlt4 (.int .i64 (K.m : Int))).far (p := ⟨w.heap.size + 1, 2, none⟩) hlt4 (.slice A0 K.Mod.length c0)).far (p := ⟨w.heap.size + 1, 3, none⟩) hlt4 (.int .i64 s.pts.length)).far (p := ⟨w.heap.size + 1, 4, none⟩) hlt4 (.slice AG t cG)
  have hOA := ((((HQ1.out.older (k := 0) hlt4 (.int .i64 K.P)).older (k := 1) hlt4 (.int .i64 (K.m : Int))).older (k := 2) hlt4 (.slice A0 K.Mod.length c0)).older (k := 3) hlt4 (.int .i64 s.pts.length)).older (k := 4) hlt4 (.slice AG t cG)
  have hle : w.heap.size ≤ w.heap.size + 1 := Nat.le_succ _
  have hBe := (((((below_later HB1.out HB1.out.size HB5.out).setCell (p := ⟨w.heap.size + 1, 0, none⟩) hle (.int .i64 K.P)).setCell (p := ⟨w.heap.size + 1, 1, none⟩) hle (.int .i64 (K.m : Int))).setCell (p := ⟨w.heap.size + 1, 2, none⟩) hle (.slice A0 K.Mod.length c0)).setCell (p := ⟨w.heap.size + 1, 3, none⟩) hle (.int .i64 s.pts.length)).setCell (p := ⟨w.heap.size + 1, 4, none⟩) hle (.slice AG t cG)
  exact ⟨⟨A0, c0, AG, cG, l, pv, t, cc, rfl, hOw.lower (by omega), hOA.lower (by omega), HQ2.out, ho3, ho4, HQ5.out, ho6, HQ7.out⟩, hBe⟩
end Go.Proofs.Yticgblagimmlfaa
end
section
/- The reference: Has. -/
namespace Go.Proofs.Yticgblagimmlfaa
open Go.RowKit Go.Proofs.YticgblagimmlfaaW.PrintWords Go.Proofs.YticgblagimmlfaaW.PrintLast Go.Proofs.YticgblagimmlfaaW.PrintMore
set_option linter.unusedVariables false
set_option linter.unusedSimpArgs false

set_option maxHeartbeats 8000000 in
set_option maxRecDepth 100000 in
theorem rHas {w : World} {v : Value} {s : GD} (h : GArg w v s) (K : FD) (hK : s.over K) (hml : s.mults.length = s.pts.length) (hn1 : 1 ≤ s.pts.length) (hpl : s.pts.length ≤ 64) (kn : Nat) (hk : s.K = kn) (hkn : kn ≤ 64) {V : Option Addr} {cv : Nat} {u : List Int} (hu : Kd.C (Kd.int .i64) w V u.length u) (hul : u.length = s.pts.length) (hua : ∀ j, K.D.is (u.getD j 0) = true) (b : Bool) (hb : b = true ↔ ∃ m : List Int, m.length = kn ∧ m.all K.D.is = true ∧ encZ K.D s.pts s.mults m = u) :
    Calls Try.prog 20 #[v, .slice V u.length cv] w fun e w' => e = .returned (.bool b) ∧ Below w.heap.size w w' := by
  obtain ⟨A1, c1, A2, c2, A3, c3, rfl, g1, l1, g2, l2, g3, l3⟩ := h.out
  have hS0 := SAt.new w s A1 c1 A2 c2 A3 c3
  obtain ⟨w0, hw0⟩ : ∃ w0, w.alloc (.cells #[.int .i64 s.P, .int .i64 s.M, .slice A1 s.Mod.length c1, .int .i64 s.K, .slice A2 s.pts.length c2, .slice A3 s.mults.length c3] 29) = w0 := ⟨_, rfl⟩
  have hB0 : Below w.heap.size w w0 := by rw [← hw0]; exact below_alloc (Below.refl _ _) _
  rw [hw0] at hS0
  have HB0 := Aside0.mk hB0
  have HW := Aside0.mk hw0
  have HU := Aside0.mk (Kd.C_below hu hB0)
  have HCo := Aside0.mk (rCode (h.below hB0) K hK hml (by omega) kn hk (by omega))
  have hsh := K.shp_rows s.pts s.mults kn hml
  have hrl := rowsZ_length K.D s.pts s.mults kn
  have HCh : Aside0 (∀ (w2 : World) (A B : Option Addr) (c d t cc : Nat) (l : List (List Int)) (pv : List Int), Below w0.heap.size w0 w2 → Own w2 w0.heap.size (.slice A K.Mod.length c) K.Mod → OA w2 w0.heap.size B (l.take t) → (l.take t).length = t → t ≤ (rowsZ K.D s.pts s.mults kn).length → Reach K.D (rowsZ K.D s.pts s.mults kn) cc t l pv → cc ≤ s.pts.length → (cc = s.pts.length ∨ t = (rowsZ K.D s.pts s.mults kn).length) →
      Calls Try.prog 44 #[.agg #[.int .i64 K.P, .int .i64 (K.m : Int), .slice A K.Mod.length c, .int .i64 s.pts.length, .slice B t d], .slice V u.length cv] w2 fun e w' => e = .returned (.tuple #[.bool b, .int .i64 0]) ∧ Below w2.heap.size w2 w') := ⟨fun w2 A B c d t cc l pv hb2 hO hOA hlt htl hr hcc hend => by
    obtain ⟨p, hG, -, -, hz⟩ := FD.Reach.rre K hsh hr hcc hend
    have hi := K.has_iff s.pts s.mults u kn hml ⟨hul, hua⟩ hr hG hlt hz
    have hbe : inZ K.D (l.take t) p u = b := by
      cases hx : inZ K.D (l.take t) p u with
      | true => exact (hb.2 (hi.1 hx)).symm
      | false =>
        cases b with
        | false => rfl
        | true => have := hi.2 (hb.1 rfl); rw [hx] at this; cases this
    have q := rCHas (c := c) (d := d) (cv := cv) K hO.reads.2.2 hG (hOA.C (by omega)) (by omega) hn1 hpl (Kd.C_below HU.out hb2) hul hua
    rw [hbe, hlt] at q
    exact q⟩
  obtain ⟨rows, hrows⟩ : ∃ r, rowsZ K.D s.pts s.mults kn = r := ⟨_, rfl⟩
  rw [hrows] at HCo HCh
  obtain ⟨cP, cM, cMod, cK, cPts, cMul⟩ := hS0
  clear h g1 g2 g3 hB0 hw0 hk hml hpl hn1 hK hsh hrl hrows hu hul hua hb
  go_enter Try.func20, Try.ntmps20
  go_upto_region 1 with (fail)
  rw [HW.out]
  go_wp2_with (first
    | (go_at_call 45; (with_reducible refine Calls.mono HCo.out ?_); rintro e w2 ⟨hO, hB⟩; obtain ⟨A0, c0, AG, cG, l, pv, t, cc, rfl, ho0, ho1, ho2, ho3, ho4, ho5, ho6, ho7⟩ := hO.out; have HCh2 := Aside0.mk (HCh.out w2 A0 AG c0 cG t cc l pv hB ho0 ho1 ho2 ho4 ho5 ho6 ho7); have HB2 := Aside0.mk hB; clear hO hB ho0 ho1 ho2 ho5 ho7)
    | (go_at_call 44; (with_reducible refine Calls.mono HCh2.out ?_); rintro e w3 ⟨rfl, hB⟩; have HB3 := Aside0.mk (below_later HB2.out HB2.out.size hB); clear hB))
  go_ret
  exact ⟨rfl, below_later HB0.out HB0.out.size HB3.out⟩
end Go.Proofs.Yticgblagimmlfaa
end
section
/- The law's right. -/
namespace Go.Proofs.Yticgblagimmlfaa
open Go.RowKit Go.Proofs.YticgblagimmlfaaW.PrintWords Go.Proofs.YticgblagimmlfaaW.PrintLast Go.Proofs.YticgblagimmlfaaW.PrintMore
set_option linter.unusedVariables false
set_option linter.unusedSimpArgs false

set_option maxHeartbeats 8000000 in
set_option maxRecDepth 100000 in
theorem lawRight {w : World} {A D B E : Option Addr} {ca cd cb ce : Nat} {c ds l er : List Int} (hc : Kd.C (Kd.int .i64) w A c.length c) (hd : Kd.C (Kd.int .i64) w D ds.length ds) (hl : Kd.C (Kd.int .i64) w B l.length l) (he : Kd.C (Kd.int .i64) w E er.length er)
    (hcl : c.length = l.length) (hc1 : c.length ≤ 1000) (hds : diffZ c l (marksZ c.length er) c.length = ds) (t : Int) (ht : (ds.length : Int) ≤ t) :
    Calls Try.prog 18 #[.agg #[.slice A c.length ca, .slice D ds.length cd], .agg #[.slice B l.length cb, .slice E er.length ce], .int .i64 t] w fun e w' => e = .returned (.bool true) ∧ Below w.heap.size w w' := by
  obtain ⟨w0, hw0⟩ : ∃ w0, w.alloc (.cells #[.slice A c.length ca, .slice D ds.length cd] 34) = w0 := ⟨_, rfl⟩
  have hB0 : Below w.heap.size w w0 := by rw [← hw0]; exact below_alloc (Below.refl _ _) _
  have hz0 : w0.heap.size = w.heap.size + 1 := by rw [← hw0]; simp
  have a0 : w0.cell? ⟨w.heap.size, 0, none⟩ = some (.slice A c.length ca) := by rw [← hw0]; exact cell_alloc2_0 _ _ _ _
  have a1 : w0.cell? ⟨w.heap.size, 1, none⟩ = some (.slice D ds.length cd) := by rw [← hw0]; exact cell_alloc2_1 _ _ _ _
  obtain ⟨w1, hw1⟩ : ∃ w1, w0.alloc (.cells #[.slice B l.length cb, .slice E er.length ce] 31) = w1 := ⟨_, rfl⟩
  have hB1 : Below w0.heap.size w0 w1 := by rw [← hw1]; exact below_alloc (Below.refl _ _) _
  have b0 : w1.cell? ⟨w.heap.size + 1, 0, none⟩ = some (.slice B l.length cb) := by rw [← hw1, ← hz0]; exact cell_alloc2_0 _ _ _ _
  have b1 : w1.cell? ⟨w.heap.size + 1, 1, none⟩ = some (.slice E er.length ce) := by rw [← hw1, ← hz0]; exact cell_alloc2_1 _ _ _ _
  have hm := Kd.C_max hc
  have hmd := Kd.C_max hd
  have hml := Kd.C_max hl
  have hme := Kd.C_max he
  have hB : Below w.heap.size w w1 := below_later hB0 hB0.size hB1
  have a01 := pw_cell_below hB1 a0
  have a11 := pw_cell_below hB1 a1
  have HB := Aside0.mk hB
  have HW0 := Aside0.mk hw0
  have HW1 := Aside0.mk hw1
  have HD := Aside0.mk (Kd.C_below hd hB)
  have HDi := Aside0.mk (fun (w2 : World) (hb : Below w1.heap.size w1 w2) => rDiffer (ca := ca) (cb := cb) (ce := ce) (Kd.C_below (Kd.C_below hc hB) hb) (Kd.C_below (Kd.C_below hl hB) hb) (Kd.C_below (Kd.C_below he hB) hb) (by omega) hc1)
  rw [hds] at HDi
  have i1 : ((c.length : Int) == (l.length : Int)) = true := by simp [hcl]
  have i2 : decide ((ds.length : Int) ≤ t) = true := decide_eq_true ht
  clear a0 a1 hw0 hw1 hB0 hB1 hz0 hc hd hl he hB hds hcl
  go_enter Try.func18, Try.ntmps18
  go_upto_region 1 with (fail)
  rw [HW0.out, HW1.out]
  go_region_held3 (fun w' => w'.cell? ⟨w.heap.size, 0, none⟩ = some (.slice A c.length ca) ∧ w'.cell? ⟨w.heap.size, 1, none⟩ = some (.slice D ds.length cd) ∧ w'.cell? ⟨w.heap.size + 1, 0, none⟩ = some (.slice B l.length cb) ∧ w'.cell? ⟨w.heap.size + 1, 1, none⟩ = some (.slice E er.length ce)) (first | exact ⟨‹_›, ‹_›, ‹_›, ‹_›⟩ | go_keep) (first
    | (go_at_call 22; refine Calls.mono (HDi.out _ (below_drew1 (Below.refl _ _))) ?_; rintro e w4 ⟨u, rfl, hO, hB⟩; obtain ⟨AR, cR, rfl, -, hCR⟩ := hO.slice; have HCR := Aside0.mk hCR; have HB4 : Aside0 (Below w1.heap.size w1 w4) := ⟨below_step (below_drew1 (Below.refl _ _)) hB⟩; have a04 := pw_cell_below HB4.out a01; have a14 := pw_cell_below HB4.out a11; have b04 := pw_cell_below HB4.out b0; have b14 := pw_cell_below HB4.out b1; clear hO hB hCR)
    | (go_at_call 23; (with_reducible refine Calls.mono (same_n (Kd.C_below HD.out HB4.out) HCR.out true (decide_eq_true rfl)) ?_); rintro e w5 ⟨rfl, hd⟩; have HB5 : Aside0 (Below w1.heap.size w1 w5) := ⟨HB4.out.below'' hd⟩; have a05 := pw_cell_below HB5.out a01; have a15 := pw_cell_below HB5.out a11; have b05 := pw_cell_below HB5.out b0; have b15 := pw_cell_below HB5.out b1; clear hd))
  go_wp2_with (fail)
  go_ret
  exact ⟨rfl, below_later HB.out HB.out.size HB5.out⟩
end Go.Proofs.Yticgblagimmlfaa
end
section
/- What a decoding that fails gives. -/
namespace Go.Proofs.Yticgblagimmlfaa
set_option linter.unusedVariables false
set_option linter.unusedSimpArgs false

theorem isR_D (s : GD) (h : s.open = 0) : isR s.P s.M = s.D.is := by
  obtain ⟨f1, -⟩ := open_factsP s h
  obtain ⟨K, e1, e2, e3, e4⟩ := exists_K s f1
  funext x
  rw [e4, ← K.isR_eq, e1, e2]
theorem decode_bad (s : GD) (l er : List Int) (want : Int) (hw : want = if checkR s = 0 then recvZ (isR s.P s.M) l s.pts.length er else checkR s) (h : want ≠ 0 ∨ (s.decode l er).2.2 ≠ 0) :
    (s.decode l er).1 = [] ∧ (s.decode l er).2.1 = [] ∧ ((s.decode l er).2.2 = want ∨ want = 0 ∧ (s.decode l er).2.2 = 12) := by
  rw [checkR_open] at hw
  unfold GD.decode at h ⊢
  by_cases ho : s.open = 0
  · rw [if_pos ho, isR_D s ho] at hw
    have hwz : recvZ s.D.is l s.pts.length er = wordZ s.D l s.pts.length er := rfl
    rw [hwz] at hw
    rw [if_neg (by simp [ho])] at h ⊢
    by_cases hz : wordZ s.D l s.pts.length er = 0
    · rw [if_neg (by simp [hz])] at h ⊢
      rw [hz] at hw
      subst hw
      split
      · exact ⟨rfl, rfl, .inr ⟨rfl, rfl⟩⟩
      · rename_i hc
        rw [if_neg hc] at h
        unfold resultZ at h ⊢
        split
        · exact ⟨rfl, rfl, .inr ⟨rfl, rfl⟩⟩
        · rename_i hr
          rw [if_neg hr] at h
          simp at h
    · rw [if_pos hz]
      exact ⟨rfl, rfl, .inl hw.symm⟩
  · rw [if_neg ho] at hw
    rw [if_pos ho]
    exact ⟨rfl, rfl, .inl hw.symm⟩
end Go.Proofs.Yticgblagimmlfaa
end
section
/- A word and erased positions in memory. -/
namespace Go.Proofs.Yticgblagimmlfaa
open Go.RowKit Go.Proofs.YticgblagimmlfaaW.PrintWords Go.Proofs.YticgblagimmlfaaW.PrintLast Go.Proofs.YticgblagimmlfaaW.PrintMore
set_option linter.unusedVariables false
set_option linter.unusedSimpArgs false

/-- A word and erased positions, boxed at block b. -/
structure VAt (w : World) (b : Nat) (B : Option Addr) (n dd : Nat) (E : Option Addr) (m ee : Nat) : Prop where
  word : w.cell? ⟨b, 0, none⟩ = some (.slice B n dd)
  er : w.cell? ⟨b, 1, none⟩ = some (.slice E m ee)
theorem VAt.below {w w1 : World} {b : Nat} {B : Option Addr} {n dd : Nat} {E : Option Addr} {m ee : Nat} (h : VAt w b B n dd E m ee) (hb : Below w.heap.size w w1) : VAt w1 b B n dd E m ee :=
  ⟨pw_cell_below hb h.word, pw_cell_below hb h.er⟩
theorem VAt.new (w : World) (B : Option Addr) (n dd : Nat) (E : Option Addr) (m ee : Nat) : VAt (w.alloc (.cells #[.slice B n dd, .slice E m ee] 31)) w.heap.size B n dd E m ee :=
  ⟨cell_alloc2_0 _ _ _ _, cell_alloc2_1 _ _ _ _⟩

end Go.Proofs.Yticgblagimmlfaa
end
